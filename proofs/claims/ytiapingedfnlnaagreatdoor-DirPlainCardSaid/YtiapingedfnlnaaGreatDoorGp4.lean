/-
  TEXTS FOR dirPlain_card: SpcC SpG AvA BmA BmY BmF BmI InT FiA BmR BmU FiC FiD FiE DiM BmZ BnA FiP DiN FiQ FiR InN.
-/
import Derived.Shelf.Spec.BuilderWrite
import Derived.Ground.NamesProg
import Derived.Test.YtiapingedfnlnaaGreatDoorGp3
namespace Go.Proofs.YtiapingedfnlnaaGreatDoor.Spc
open Go Go.Proofs Wx Hp W Ad Tm Bt Rg
def FreeAt (T:TM) (g:G) (m:Nat):Prop:=bitAt (T.read (g.at_ m)).1 (m % 4096)=false∧g.data≤m∧m<g.blocks
instance (T : TM) (g:G) (m:Nat):Decidable (FreeAt T g m):=by unfold FreeAt; exact inferInstance
theorem isF_iff {T:TM} {g:G} {k t:Nat} (hk:g.bitmap≤k) (ht:t<4096):isF g (4096*(k - g.bitmap)) (T.read k).1 t↔FreeAt T g (4096*(k - g.bitmap)+t):=by
 unfold isF FreeAt
 have e1:g.at_ (4096*(k - g.bitmap)+t)=(k:Int):=by
  unfold G.at_
  have:(4096*(k - g.bitmap)+t) / 4096=k - g.bitmap:=by omega
  rw [this]; omega
 have e2:(4096*(k - g.bitmap)+t) % 4096=t:=by omega
 rw [e1,e2]
theorem tm_eta {T:TM} {p:List (Int×Txt)} {u:List (Int×Option Txt)} (h1:p=T.put) (h2:u=T.undo):{ T with put:=p,undo:=u }=T:=by subst h1; subst h2; rfl
theorem back_id (T:TM):(T.back T.undo.length).1=T:=by
 unfold TM.back
 split
 ·rfl
 ·split
  ·rfl
  ·refine tm_eta ?_ ?_
   ·rw [show ((T.undo.length:Nat):Int).toNat=T.undo.length from rfl,List.drop_length]; rfl
   ·rw [show ((T.undo.length:Nat):Int).toNat=T.undo.length from rfl,List.take_length]
theorem back_write {T:TM} {i:Int} {bs:Txt} (e:(T.write i bs).2=0):((T.write i bs).1.back T.undo.length).1=T:=by
 obtain ⟨h1,h2,h3,h4,h5,ew⟩:=TM.write_ok e
 rw [ew]
 unfold TM.back
 show (if T.over=true then _ else if ((T.undo.length:Nat):Int)<0∨((T.undo.length:Nat):Int)>((T.undo++[(i,aget T.put i)]).length:Nat) then _ else _:TM×Int).1=T
 rw [if_neg (by rw [h1]; simp),if_neg (by rw [List.length_append]; simp only [List.length_singleton]; omega)]
 refine tm_eta (T:=T) ?_ ?_
 ·show undoAll (aput T.put i bs) ((T.undo++[(i,aget T.put i)]).drop T.undo.length)=T.put
  rw [List.drop_left]
  show undo1 (aput T.put i bs) (i,aget T.put i)=_
  unfold undo1
  cases ea:aget T.put i with
  | none=>exact adel_aput ea
  | some b=>exact aput_aput ea
 ·show (T.undo++[(i,aget T.put i)]).take T.undo.length=T.undo
  exact List.take_left
theorem rep_one (v:Value):∀ n,repCells [v] n=List.replicate n v
 | 0=>rfl
 | n+1=>by
  show [v]++repCells [v] n=_
  rw [rep_one v n]; rfl
theorem setBit_bad {T:TM} {g:G} {m:Nat} {on:Bool} (e:(setBit T g m on).2≠0):(setBit T g m on).1=T:=by
 unfold setBit at e ⊢
 split
 ·rfl
 ·rename_i h; rw [if_neg h] at e; exact TM.write_bad e
theorem setBit_good {T:TM} {g:G} {m:Nat} {on:Bool} (e:(setBit T g m on).2=0):(T.read (g.at_ m)).2=0∧setBit T g m on=T.write (g.at_ m) (putBit (T.read (g.at_ m)).1 (m % 4096) on):=by
 unfold setBit at e ⊢
 by_cases h:(T.read (g.at_ m)).2≠0
 ·rw [if_pos h] at e; exact absurd e h
 ·rw [if_neg h]; exact ⟨by omega,rfl⟩
theorem setBit_back {T:TM} {g:G} {m:Nat} {on:Bool} (e:(setBit T g m on).2=0):((setBit T g m on).1.back T.undo.length).1=T:=by
 obtain ⟨h1,h2⟩:=setBit_good e
 rw [h2] at e ⊢
 exact back_write e
theorem setBit_undo (T:TM) (g:G) (m:Nat) (on:Bool):(setBit T g m on).1.undo.length≤T.undo.length+1:=by
 by_cases e:(setBit T g m on).2=0
 ·obtain ⟨h1,h2⟩:=setBit_good e
  rw [h2] at e ⊢
  obtain ⟨_,_,_,_,_,ew⟩:=TM.write_ok e
  rw [ew]
  show (T.undo++[_]).length≤_
  rw [List.length_append]; exact Nat.le_refl _
 ·rw [setBit_bad e]; omega
theorem rep_zeros : repCells [.int .u8 0] (Int.toNat 512)=(List.replicate 512 (0:UInt8)).map bv:=by
 rw [List.map_replicate]
 show repCells [.int .u8 0] 512=List.replicate 512 (.int .u8 0)
 exact rep_one _ 512
def zeros512 : Txt:=List.replicate 512 0
def takeAt (T:TM) (g:G) (m:Nat):TM×Int×Int :=
 if (setBit T g m true).2≠0 then (T,0,(setBit T g m true).2) else
 if ((setBit T g m true).1.write m zeros512).2≠0 then (T,0,((setBit T g m true).1.write m zeros512).2) else
  (((setBit T g m true).1.write m zeros512).1,m,0)
structure Tk (n:Nat) (h:Heap) (t:Option Addr) (g:G) (x:Int) (hh:Heap):Prop where
 f:Fr No h hh
 e:n=h.size
 size:n+4≤hh.size
 r1:rd hh n=[.pointer t]
 r2:rd hh (n+1)=g.v
 o3:Own hh (n+2)
 r3:rd hh (n+2)=[.int .i64 0]
 o4:Own hh (n+3)
 r4:rd hh (n+3)=[.int .i64 x]
theorem Tk.step {n:Nat} {h hh hh':Heap} {t:Option Addr} {g:G} {x:Int} {F:Nat→Prop} (a:Tk n h t g x hh) (f:Fr F hh hh') (hF:∀ b,F b→n+4≤b):Tk n h t g x hh':=by
 have z:=f.size
 have s:=a.size
 have e:=a.e
 have k:∀ b,b<n+4→¬ F b:=fun b hb y=>by have:=hF b y; omega
 exact ⟨a.f.trans f fun b hb y=>(k b (by omega) y).elim,e,by omega,(f.rd (by omega) (k _ (by omega))).trans a.r1,(f.rd (by omega) (k _ (by omega))).trans a.r2,
  f.own a.o3.lt (k _ (by omega)) a.o3,(f.rd (by omega) (k _ (by omega))).trans a.r3,f.own a.o4.lt (k _ (by omega)) a.o4,(f.rd (by omega) (k _ (by omega))).trans a.r4⟩
theorem Tk.put {n:Nat} {h hh hh':Heap} {t:Option Addr} {g:G} {x y:Int} (a:Tk n h t g x hh) (d:Did (n+3) hh hh' ((rd hh (n+3)).set 0 (.int .i64 y))):Tk n h t g y hh':=by
 have s:=a.size
 have e:=a.e
 exact ⟨a.f.did d fun hb=>by omega,e,by rw [d.size]; exact s,(d.at_ (by omega) (by omega)).trans a.r1,(d.at_ (by omega) (by omega)).trans a.r2,d.ow a.o3,(d.at_ (by omega) (by omega)).trans a.r3,d.own,by rw [d.rd,a.r4]; rfl⟩
structure Tq (n q:Nat) (t:Option Addr) (g:G) (x mk:Int) (hh:Heap):Prop where
 lt:n+4≤q∧q<hh.size
 r1:rd hh n=[.pointer t]
 r2:rd hh (n+1)=g.v
 o3:Own hh (n+2)
 l3:(rd hh (n+2)).length=1
 r4:rd hh (n+3)=[.int .i64 x]
 r5:rd hh q=[.int .i64 mk]
theorem Tq.step {n q:Nat} {hh hh':Heap} {t:Option Addr} {g:G} {x mk:Int} {F:Nat→Prop} (a:Tq n q t g x mk hh) (f:Fr F hh hh') (hF:∀ b,F b→n≤b→b≤q→False):Tq n q t g x mk hh':=by
 have z:=f.size
 have s:=a.lt
 have k:∀ b,n≤b→b≤q→¬ F b:=fun b h1 h2 y=>hF b y h1 h2
 exact ⟨by omega,(f.rd (by omega) (k _ (by omega) (by omega))).trans a.r1,(f.rd (by omega) (k _ (by omega) (by omega))).trans a.r2,f.own a.o3.lt (k _ (by omega) (by omega)) a.o3,by rw [f.rd (by omega) (k _ (by omega) (by omega))]; exact a.l3,
  (f.rd (by omega) (k _ (by omega) (by omega))).trans a.r4,(f.rd (by omega) (k _ (by omega) (by omega))).trans a.r5⟩
theorem Tq.put {n q:Nat} {hh hh':Heap} {t:Option Addr} {g:G} {x mk:Int} {v:Value} (a:Tq n q t g x mk hh) (d:Did (n+2) hh hh' ((rd hh (n+2)).set 0 v)):Tq n q t g x mk hh'∧rd hh' (n+2)=[v]:=by
 have s:=a.lt
 have l3:=a.l3
 have e:rd hh' (n+2)=[v]:=by
  rw [d.rd]
  match rd hh (n+2),l3 with
  | [_],_=>rfl
 exact ⟨⟨by rw [d.size]; exact s,(d.at_ (by omega) (by omega)).trans a.r1,(d.at_ (by omega) (by omega)).trans a.r2,d.own,by rw [e]; rfl,(d.at_ (by omega) (by omega)).trans a.r4,(d.at_ (by omega) (by omega)).trans a.r5⟩,e⟩
theorem Take_spec {h:Heap} {F:Nat→Prop} {t d:Option Addr} {T:TM} {g:G} {K:Value→Heap→Prop} (x:Tx h F t d T) (ok:g.ok) (hbi:g.bitmap≤g.inodes) (hd0:0<g.data) (hu:T.undo.length<900000000)
  (hbad:∀ k:Nat,g.bitmap≤k→k<g.inodes→(∀ m,m<4096*(k - g.bitmap)→¬ FreeAt T g m)→(T.read k).2≠0→∀ h',Fr No h h'→K (.tuple #[.int .i64 0,.int .i64 (T.read k).2]) h')
  (hfull:(∀ m,m<4096*(g.inodes - g.bitmap)→¬ FreeAt T g m)→∀ h',Fr No h h'→K (.tuple #[.int .i64 0,.int .i64 90]) h')
  (hgot:∀ m,m<4096*(g.inodes - g.bitmap)→FreeAt T g m→(∀ m',m'<m→¬ FreeAt T g m')→(T.read (g.at_ m)).2=0→∀ h' F',Fr F h h'→Gw h F h' F'→Tx h' F' t d (takeAt T g m).1 →
   K (.tuple #[.int .i64 (takeAt T g m).2.1,.int .i64 (takeAt T g m).2.2]) h'):C.space_Take t g.v h K:=by
 refine space_Take.ok (New.intro fun h2 n2=>New.intro fun h3 n3=>New.intro fun h4 n4=>New.intro fun h5 n5=>?_)
 have z2:=n2.size
 have z3:=n3.size
 have z4:=n4.size
 have z5:=n5.size
 have e2:h2.size=h.size+1:=z2
 have e3:h3.size=h.size+2:=by omega
 have e4:h4.size=h.size+3:=by omega
 have b2:=ok.m
 have b3:=ok.i
 refine Put.intro n5.own (by rw [n5.rd]; exact Nat.one_pos) fun h6 d6=>?_
 have z6:=d6.size
 have k6:Tk h.size h t g 0 h6:=by
  have r4:=d6.rd
  have o4:=d6.own
  rw [n5.rd] at r4
  rw [e4] at r4 o4
  have r3:=n4.rd
  have o3:=n4.own
  rw [e3] at r3 o3
  have r2:=n3.rd
  rw [e2] at r2
  refine ⟨(((n2.fr.new n3).new n4).new n5).did d6 fun hb=>by omega,rfl,by omega,?_,?_,d6.ow (n5.ow o3),?_,o4,r4⟩
  ·exact (d6.at_ (by omega) (by omega)).trans ((n5.at_ (by omega)).trans ((n4.at_ (by omega)).trans ((n3.at_ (by omega)).trans n2.rd)))
  ·exact (d6.at_ (by omega) (by omega)).trans ((n5.at_ (by omega)).trans ((n4.at_ (by omega)).trans r2))
  ·exact (d6.at_ (by omega) (by omega)).trans ((n5.at_ (by omega)).trans r3)
 rw [e2,e3,e4]
 refine ⟨_,rdc k6.r1 rfl,g.v,rfl,cellsAll k6.r2,?_⟩
 -- e is put
 have pe:∀ {hh:Heap} {y v:Int} {k:Heap→Prop},Tk h.size h t g y hh→(∀ h8,h8.size=hh.size→Fr No h h8→rd h8 (h.size+2)=[.int .i64 v]→Own h8 (h.size+2)→rd h8 h.size=[.pointer t]→rd h8 (h.size+1)=g.v→rd h8 (h.size+3)=[.int .i64 y]→k h8)→Put ⟨h.size+2,0,none⟩ (.int .i64 v) hh k:=by
  intro hh y v k a H
  have s:=a.size
  refine Put.intro a.o3 (by rw [a.r3]; exact Nat.one_pos) fun h8 d8=>?_
  exact H h8 d8.size (a.f.did d8 fun hb=>by omega) (by rw [d8.rd,a.r3]; rfl) d8.own ((d8.at_ (by omega) (by omega)).trans a.r1) ((d8.at_ (by omega) (by omega)).trans a.r2) ((d8.at_ (by omega) (by omega)).trans a.r4)
 refine each_spec (T:=T) (F:=F) (d:=d) ok hbi (fun k hh=>Tk h.size h t g 0 hh∧∀ m,m<4096*(k - g.bitmap)→¬ FreeAt T g m)
  (fun hh=>∃ m:Nat,Tk h.size h t g m hh∧m<4096*(g.inodes - g.bitmap)∧FreeAt T g m∧(∀ m',m'<m→¬ FreeAt T g m')∧(T.read (g.at_ m)).2=0)
  (fun k hh j=>x.no j.1.f) (fun k hh hh' j f=>⟨j.1.step f fun b hb=>by have hb:h6.size≤b:=hb; omega,j.2⟩) (fun k hh A l c j hk0 hk1 he B=>?_) ⟨k6,fun m hm=>by omega⟩ (fun hh j=>?_) (fun hh j=>?_) fun k hh j hk0 hk1 he=>?_
 ·have hlen:=Tx.readLen x he
  have hl:l=512:=by rw [← B.1]; exact hlen
  subst hl
  obtain ⟨j,jn⟩:=j
  have sz:=j.size
  show C.space_Take_c1 _ A 512 c (some ⟨h.size+1,0,none⟩) (some ⟨h.size+3,0,none⟩) hh _
  refine space_Take_c1.ok (os ⟨g.v,rfl,cellsAll j.r2,?_⟩)
  refine rows_spec B (by omega) (by omega) ok (by omega) rfl (fun i hx=>Tk h.size h t g 0 hx∧Fr (fun b=>b=h.size+3) hh hx∧∀ m,m<4096*(k - g.bitmap)+i→¬ FreeAt T g m)
   (fun hx=>∃ m:Nat,Tk h.size h t g m hx∧Fr (fun b=>b=h.size+3) hh hx∧m<4096*(k - g.bitmap)+4096∧4096*(k - g.bitmap)≤m∧FreeAt T g m∧∀ m',m'<m→¬ FreeAt T g m')
   (fun i hx hx' q f=>⟨q.1.step f fun b hb=>by have hb:hh.size≤b:=hb; omega,q.2.1.trans f fun b hb y=>by have y:hh.size≤b:=y; omega,q.2.2⟩)
   (fun hx hx' q f=>?_) (fun i j' hx q h1 h2 h3=>⟨q.1,q.2.1,fun m hm z=>?_⟩) (fun i j' a b hx q h1 h2 h3 h4 h5 h7=>?_) ⟨j,Fr.refl _ _,fun m hm=>jn m (by omega)⟩ fun hx q=>⟨rfl,os ?_⟩
  ·obtain ⟨m,q1,q2,q3⟩:=q
   exact ⟨m,q1.step f fun b hb=>by have hb:hh.size≤b:=hb; omega,q2.trans f fun b hb y=>by have y:hh.size≤b:=y; omega,q3⟩
  ·rcases Nat.lt_or_ge m (4096*(k - g.bitmap)+i) with hm2|hm2
   ·exact q.2.2 m hm2 z
   ·refine h3 (m - 4096*(k - g.bitmap)) (by omega) (by omega) ((isF_iff hk0 (by omega)).mpr ?_)
    rw [show 4096*(k - g.bitmap)+(m - 4096*(k - g.bitmap))=m by omega]; exact z
  ·show C.space_Take_c1_c1 _ _ (some ⟨h.size+3,0,none⟩) hx _
   have fr:∀ m,4096*(k - g.bitmap)+i≤m→m<4096*(k - g.bitmap)+j'→(FreeAt T g m↔a≤m∧m<b):=fun m x y=>by
    have:=h7 (m - 4096*(k - g.bitmap)) (by omega) (by omega)
    rw [isF_iff hk0 (by omega),show 4096*(k - g.bitmap)+(m - 4096*(k - g.bitmap))=m by omega] at this
    exact this
   refine space_Take_c1_c1.ok (os (Put.intro q.1.o4 (by rw [q.1.r4]; exact Nat.one_pos) fun h8 d8=>⟨false,rfl,d8.fr.mono fun b _ e=>by show b<hh.size; omega,fun e=>(by cases e),fun _=>⟨a,q.1.put d8,q.2.1.trans d8.fr fun _ _ e=>e,by omega,by omega,(fr a (by omega) (by omega)).mpr ⟨Nat.le_refl _,by omega⟩,fun m' hm' z=>?_⟩⟩))
   rcases Nat.lt_or_ge m' (4096*(k - g.bitmap)+i) with hm2|hm2
   ·exact q.2.2 m' hm2 z
   ·have:=(fr m' hm2 (by omega)).mp z; omega
  ·rcases q with q|⟨m,q1,q2,q3,q4,q5,q6⟩
   ·refine ⟨_,rdc q.1.r4 rfl,true,rfl,q.2.1.mono fun b _ e=>by show b<h6.size; omega,fun _=>⟨q.1,fun m hm=>q.2.2 m (by omega)⟩,fun e=>by cases e⟩
   ·have hm0:0<m:=by have:=q5.2.1; omega
    refine ⟨_,rdc q1.r4 rfl,false,?_,q2.mono fun b _ e=>by show b<h6.size; omega,fun e=>(by cases e),fun _=>⟨m,q1,by omega,q5,q6,?_⟩⟩
    ·have:((m:Int) == 0)=false:=beq_eq_false_iff_ne.mpr (by omega)
     rw [this]
    ·have e:g.at_ m=(k:Int):=by
      unfold G.at_
      have:m / 4096=k - g.bitmap:=by omega
      rw [this]; omega
     rw [e]; exact he
 ·-- all are taken
  obtain ⟨j,jn⟩:=j
  refine ⟨_,rfl,pe j fun h8 z8 f8 r3 o3 r1 r2 r4=>⟨_,rdc r3 rfl,cf rfl ⟨_,rdc r4 rfl,ct rfl ?_⟩⟩⟩
  refine Put.intro o3 (by rw [r3]; exact Nat.one_pos) fun h9 d9=>⟨90,rdc (xs:=[.int .i64 90]) (by rw [d9.rd,r3]; rfl) rfl,hfull jn h9 (f8.did d9 fun hb=>by omega)⟩
 ·-- m is the lowest
  obtain ⟨m,j,jm,jf,jl,jr⟩:=j
  have hm0:0<m:=by have:=jf.2.1; omega
  have sz:=j.size
  have live:=TM.read_ok_over jr
  have emark:T.mark=((T.undo.length:Int),0):=by unfold TM.mark; rw [live,if_neg (by simp)]
  refine ⟨_,rfl,pe j fun h8 z8 f8 r3 o3 r1 r2 r4=>⟨_,rdc r3 rfl,cf rfl ⟨_,rdc r4 rfl,cf (beq_eq_false_iff_ne.mpr (by omega)) ⟨_,rdc r1 rfl,Mark_spec (x.no f8) ⟨_,_,rfl,?_⟩⟩⟩⟩⟩
  rw [emark]
  refine New.intro fun h12 n12=>?_
  have z12:=n12.size
  refine Put.intro n12.own (by rw [n12.rd]; exact Nat.one_pos) fun h13 d13=>?_
  have z13:=d13.size
  have q13:Tq h.size h8.size t g m T.undo.length h13:=by
   refine ⟨by omega,(d13.at_ (by omega) (by omega)).trans ((n12.at_ (by omega)).trans r1),(d13.at_ (by omega) (by omega)).trans ((n12.at_ (by omega)).trans r2),d13.ow (n12.ow o3),?_,(d13.at_ (by omega) (by omega)).trans ((n12.at_ (by omega)).trans r4),by rw [d13.rd,n12.rd]; rfl⟩
   rw [d13.at_ (by omega) (by omega),n12.at_ (by omega),r3]; rfl
  have f13:Fr No h h13:=(f8.new n12).did d13 fun hb=>by omega
  refine Put.intro q13.o3 (by rw [q13.l3]; exact Nat.one_pos) fun h14 d14=>?_
  obtain ⟨q14,r14⟩:=q13.put d14
  have z14:=d14.size
  have f14:Fr No h h14:=f13.did d14 fun hb=>by omega
  refine ⟨0,rdc r14 rfl,cf rfl ⟨_,rdc q14.r1 rfl,g.v,rfl,cellsAll q14.r2,_,rdc q14.r4 rfl,?_⟩⟩
  have mb:=jf.2.2
  -- refused: it goes back
  have refuse:∀ (hs:Heap) (Fs:Nat→Prop) (Ts:TM) (e:Int) (k':Heap→Prop),e≠0→Fr F h hs→Gw h F hs Fs→Tx hs Fs t d Ts→Ts.undo.length<1000000000→(Ts.back T.undo.length).1=T→(∀ b,h.size≤b→b≤h8.size→¬ Fs b)→Tq h.size h8.size t g m T.undo.length hs→rd hs (h.size+2)=[.int .i64 e] →
    (∀ h19 F',Fr F h h19→Gw h F h19 F'→Tx h19 F' t d T→rd h19 (h.size+2)=[.int .i64 e]→k' h19)→D.space_Take_c2 (some ⟨h.size,0,none⟩) (some ⟨h8.size,0,none⟩) (some ⟨h.size+2,0,none⟩) hs k':=by
   intro hs Fs Ts e k' he fs gs xs us eb nq qs rs H
   refine space_Take_c2.okD (os ⟨_,rdc qs.r1 rfl,os ⟨_,rdc qs.r5 rfl,space_back.ok (os ⟨_,rdc rs rfl,cn (fun _=>?_) fun e0=>absurd e0 he⟩)⟩⟩)
   refine Back_spec xs us fun h19 f19 x19=>⟨_,rfl,rfl,?_⟩
   rw [eb] at x19
   have lq:=qs.lt
   have nF:¬ Fs (h.size+2):=nq _ (by omega) (by omega)
   exact H h19 Fs (fs.trans f19 fun b hb y=>(gs.old b hb).mp y) ⟨gs.old,fun b hb=>Nat.lt_of_lt_of_le (gs.lt b hb) f19.size⟩ x19 ((f19.rd (by omega) nF).trans rs)
  refine set_spec (x.no f14) ok (by omega) (by omega) (by omega) fun h16 F6 f6 g6 x6=>⟨_,rfl,?_⟩
  have x6:Tx h16 F6 t d (setBit T g m true).1:=x6
  have em:((m:Nat):Int).toNat=m:=rfl
  rw [em]
  have z16:=f6.size
  have nq6:∀ b,h.size≤b→b≤h8.size→¬ F6 b:=fun b h1 h2 y=>by
   have:=x.lt ((g6.old b (by omega)).mp y)
   omega
  have nF6:∀ b,F b→h.size≤b→b≤h8.size→False:=fun b y h1 h2=>by have:=x.lt y; omega
  have q16:Tq h.size h8.size t g m T.undo.length h16:=q14.step f6 nF6
  have g16:Gw h F h16 F6:=(Gw.refl f14.size fun b hb=>x.lt hb).trans g6 f14.size
  have f16:Fr F h h16:=(f14.mono fun _ _ y=>y.elim).trans f6 fun _ _ y=>y
  refine Put.intro q16.o3 (by rw [q16.l3]; exact Nat.one_pos) fun h17 d17=>?_
  obtain ⟨q17,r17⟩:=q16.put d17
  have z17:=d17.size
  have x17:Tx h17 F6 t d (setBit T g m true).1:=x6.fr d17.fr fun b hb e=>nq6 b (by omega) (by omega) hb
  have f17:Fr F h h17:=f16.did d17 fun hb=>by omega
  have g17:Gw h F h17 F6:=⟨g16.old,fun b hb=>by rw [z17]; exact g16.lt b hb⟩
  have u17:(setBit T g m true).1.undo.length≤T.undo.length+1:=setBit_undo T g m true
  refine ⟨_,rdc r17 rfl,cn (fun he=>?_) fun he=>?_⟩
  ·refine ⟨_,rdc r17 rfl,Put.intro q17.o3 (by rw [q17.l3]; exact Nat.one_pos) fun h18 d18=>?_⟩
   obtain ⟨q18,r18⟩:=q17.put d18
   have z18:=d18.size
   have et:takeAt T g m=(T,0,(setBit T g m true).2):=by unfold takeAt; rw [if_pos he]
   have hgot:=hgot m jm jf jl jr
   rw [et] at hgot
   refine refuse h18 F6 (setBit T g m true).1 _ _ he (f17.did d18 fun hb=>by omega) ⟨g17.old,fun b hb=>by rw [z18]; exact g17.lt b hb⟩ (x17.fr d18.fr fun b hb e=>nq6 b (by omega) (by omega) hb) (by omega) (by rw [setBit_bad he]; exact back_id T) nq6 q18 r18 fun h19 F' f19 g19 x19 r19=>⟨_,rdc r19 rfl,hgot h19 F' f19 g19 x19⟩
  ·refine ⟨_,rdc q17.r1 rfl,_,rdc q17.r4 rfl,by decide,New.intro fun h20 n20=>⟨rdc ((n20.at_ (by omega)).trans q17.r1) rfl,rdc ((n20.at_ (by omega)).trans q17.r4) rfl,?_⟩⟩
   have z20:=n20.size
   have B20:StrAt h20 (some ⟨h17.size,0,none⟩) 512 zeros512:=strAll (by rw [n20.rd]; exact rep_zeros) List.length_replicate
   have ua:(setBit T g m true).1.undo.length<1000000000:=by omega
   refine Tm.Write_spec (x17.no n20.fr) B20 (by decide) (fun p ep y=>?_) ua fun h21 F7 f21 g21 x21=>⟨_,rfl,?_⟩
   ·cases ep
    have:=x17.lt y
    have y:F6 h17.size:=y
    have:=g17.lt _ y
    omega
   have z21:=f21.size
   have q20:Tq h.size h8.size t g m T.undo.length h20:=q17.step n20.fr fun _ y=>y.elim
   have q21:Tq h.size h8.size t g m T.undo.length h21:=q20.step f21 fun b y h1 h2=>nq6 b h1 h2 y
   have f20:Fr F h h20:=f17.new n20
   have f21':Fr F h h21:=f20.trans f21 fun b hb y=>(g17.old b hb).mp y
   have g20:Gw h F h20 F6:=⟨g17.old,fun b hb=>by have:=g17.lt b hb; omega⟩
   have g21':Gw h F h21 F7:=g20.trans g21 f20.size
   have nq7:∀ b,h.size≤b→b≤h8.size→¬ F7 b:=fun b h1 h2 y=>nq6 b h1 h2 ((g21.old b (by omega)).mp y)
   refine Put.intro q21.o3 (by rw [q21.l3]; exact Nat.one_pos) fun h22 d22=>?_
   obtain ⟨q22,r22⟩:=q21.put d22
   have z22:=d22.size
   have x22:Tx h22 F7 t d ((setBit T g m true).1.write m zeros512).1:=x21.fr d22.fr fun b hb e=>nq7 b (by omega) (by omega) hb
   have f22:Fr F h h22:=f21'.did d22 fun hb=>by omega
   have g22:Gw h F h22 F7:=⟨g21'.old,fun b hb=>by rw [z22]; exact g21'.lt b hb⟩
   have hgot:=hgot m jm jf jl jr
   refine ⟨_,rdc r22 rfl,cn (fun hw=>?_) fun hw=>?_⟩
   ·refine ⟨_,rdc r22 rfl,Put.intro q22.o3 (by rw [q22.l3]; exact Nat.one_pos) fun h23 d23=>?_⟩
    obtain ⟨q23,r23⟩:=q22.put d23
    have z23:=d23.size
    have et:takeAt T g m=(T,0,((setBit T g m true).1.write m zeros512).2):=by unfold takeAt; rw [if_neg (by rw [he]; simp),if_pos hw]
    rw [et] at hgot
    have x23:=x22.fr d23.fr fun b hb e=>nq7 b (by omega) (by omega) hb
    rw [TM.write_bad hw] at x23
    refine refuse h23 F7 (setBit T g m true).1 _ _ hw (f22.did d23 fun hb=>by omega) ⟨g22.old,fun b hb=>by rw [z23]; exact g22.lt b hb⟩ x23 ua (setBit_back he) nq7 q23 r23 fun h24 F' f24 g24 x24 r24=>⟨_,rdc r24 rfl,hgot h24 F' f24 g24 x24⟩
   ·have et:takeAt T g m=(((setBit T g m true).1.write m zeros512).1,(m:Int),0):=by unfold takeAt; rw [if_neg (by rw [he]; simp),if_neg (by rw [hw]; simp)]
    rw [et] at hgot
    refine ⟨_,rdc q22.r4 rfl,Put.intro q22.o3 (by rw [q22.l3]; exact Nat.one_pos) fun h25 d25=>?_⟩
    obtain ⟨q25,r25⟩:=q22.put d25
    have z25:=d25.size
    have x25:=x22.fr d25.fr fun b hb e=>nq7 b (by omega) (by omega) hb
    refine space_Take_c2.okD (os ⟨_,rdc q25.r1 rfl,os ⟨_,rdc q25.r5 rfl,space_back.ok (os ⟨_,rdc r25 rfl,cf rfl ⟨rfl,0,rdc r25 rfl,?_⟩⟩)⟩⟩)
    exact hgot h25 F7 (f22.did d25 fun hb=>by omega) ⟨g22.old,fun b hb=>by rw [z25]; exact g22.lt b hb⟩ x25
 ·obtain ⟨j,jn⟩:=j
  refine ⟨_,rfl,pe j fun h8 z8 f8 r3 o3 r1 r2 r4=>⟨_,rdc r3 rfl,cn (fun _=>⟨_,rdc r3 rfl,?_⟩) fun e=>absurd e he⟩⟩
  refine Put.intro o3 (by rw [r3]; exact Nat.one_pos) fun h9 d9=>⟨_,rdc (xs:=[.int .i64 (T.read k).2]) (by rw [d9.rd,r3]; rfl) rfl,hbad k hk0 hk1 jn he h9 (f8.did d9 fun hb=>by omega)⟩
end Go.Proofs.YtiapingedfnlnaaGreatDoor.Spc
namespace Go.Proofs.YtiapingedfnlnaaGreatDoor.Spc
open Go Go.Proofs Wx Hp W Ad Tm Bt Rg
def geoN (n:Nat):G:=⟨n,98,98+(n+4095) / 4096,98+(n+4095) / 4096+n / 64,8*(n / 64)⟩
theorem geoN_ok {n:Nat} (h:n≤16384):(geoN n).ok:=by
 refine ⟨?_,?_,?_,?_⟩
 ·show n≤_; omega
 ·show 98≤_; omega
 ·show 98+(n+4095) / 4096≤_; omega
 ·show 98+(n+4095) / 4096+n / 64≤_; omega
theorem G.one (g:G):∀ v ∈ g.v,v.oneCell'=true:=by
 intro v hv
 simp only [G.v,List.mem_cons,List.not_mem_nil,or_false] at hv
 rcases hv with rfl|rfl|rfl|rfl|rfl <;> rfl
theorem Geo_spec {n:Nat} {h:Heap} {K:Value→Heap→Prop} (hn:n≤1099511627776) (hK:∀ h',Fr No h h'→K (.agg ⟨(geoN n).v⟩) h'):C.boleref09_Geo n h K:=by
 refine boleref09_Geo.ok ?_
 unfold boleref09_Geo
 have e1:Int.tdiv ((n:Int)+4096 - 1) 4096=(((n+4095) / 4096:Nat):Int):=by
  rw [show (n:Int)+4096 - 1=((n+4095:Nat):Int) by omega]; rfl
 have e2:Int.tdiv (n:Int) 64=((n / 64:Nat):Int):=rfl
 rw [wrap_i64 (n:=(n:Int)+4096) (by omega) (by omega),wrap_i64 (n:=(n:Int)+4096 - 1) (by omega) (by omega),e1,e2,wrap_i64 (n:=(((n+4095) / 4096:Nat):Int)) (by omega) (by omega),
  wrap_i64 (n:=98+(((n+4095) / 4096:Nat):Int)) (by omega) (by omega),wrap_i64 (n:=((n / 64:Nat):Int)) (by omega) (by omega),wrap_i64 (n:=98+(((n+4095) / 4096:Nat):Int)+((n / 64:Nat):Int)) (by omega) (by omega),wrap_i64 (n:=8*((n / 64:Nat):Int)) (by omega) (by omega)]
 rw [show (98:Int)+(((n+4095) / 4096:Nat):Int)=((98+(n+4095) / 4096:Nat):Int) by omega,show ((98+(n+4095) / 4096:Nat):Int)+((n / 64:Nat):Int)=((98+(n+4095) / 4096+n / 64:Nat):Int) by omega,show 8*((n / 64:Nat):Int)=((8*(n / 64):Nat):Int) by omega]
 exact NewRow.intro (cs:=(geoN n).v) rfl (G.one _) rfl fun h3 n3=>⟨(geoN n).v,rfl,cellsAll n3.rd,hK h3 n3.fr⟩
structure Ext (T T':TM):Prop where
 disk:T'.disk=T.disk
 over:T'.over=T.over
 undo:∃ us,T'.undo=T.undo++us∧undoAll T'.put us=T.put
theorem Ext.refl (T:TM):Ext T T:=⟨rfl,rfl,[],(List.append_nil _).symm,rfl⟩
theorem Ext.write {T T':TM} (e:Ext T T') (i:Int) (bs:Txt):Ext T (T'.write i bs).1:=by
 by_cases h:(T'.write i bs).2=0
 ·obtain ⟨h1,h2,h3,h4,h5,ew⟩:=TM.write_ok h
  obtain ⟨us,e1,e2⟩:=e.undo
  rw [ew]
  refine ⟨e.disk,e.over,us++[(i,aget T'.put i)],?_,?_⟩
  ·show T'.undo++[_]=_
   rw [e1,List.append_assoc]
  ·show undoAll (aput T'.put i bs) (us++[(i,aget T'.put i)])=T.put
   unfold undoAll
   rw [List.foldr_append]
   have:List.foldr (fun u m=>undo1 m u) (aput T'.put i bs) [(i,aget T'.put i)]=T'.put:=by
    show undo1 (aput T'.put i bs) (i,aget T'.put i)=_
    unfold undo1
    cases ea:aget T'.put i with
    | none=>exact adel_aput ea
    | some b=>exact aput_aput ea
   rw [this]; exact e2
 ·rw [TM.write_bad h]; exact e
theorem Ext.back {T T':TM} (e:Ext T T') (h:T.over=false):T'.back T.undo.length=(T,0):=by
 obtain ⟨us,e1,e2⟩:=e.undo
 have ho:T'.over=false:=e.over.trans h
 unfold TM.back
 rw [if_neg (by rw [ho]; simp),if_neg (by rw [e1,List.length_append]; omega)]
 have et:((T.undo.length:Nat):Int).toNat=T.undo.length:=rfl
 rw [et,e1,List.drop_left,List.take_left,e2]
 have hd:=e.disk
 have hv:=e.over
 cases T; cases T'; simp_all
theorem setBit_ext {T T':TM} (e:Ext T T') (g:G) (i:Nat) (on:Bool):Ext T (setBit T' g i on).1:=by
 unfold setBit
 split
 ·exact e
 ·exact e.write _ _
theorem takeAt_ext {T T':TM} (e:Ext T T') (g:G) (m:Nat):Ext T (takeAt T' g m).1:=by
 unfold takeAt
 split
 ·exact e
 ·split
  ·exact e
  ·exact (setBit_ext e g m true).write _ _
end Go.Proofs.YtiapingedfnlnaaGreatDoor.Spc
namespace Go.Proofs.YtiapingedfnlnaaGreatDoor.Av
open Go Go.Proofs Wx Hp W Ad Tm Bt Spc
def up {α:Type} (Z:Nat→α) (i:Nat) (b:α):Nat→α:=fun j=>if j=i then b else Z j
theorem up_at {α:Type} (Z:Nat→α) (i:Nat) (b:α):up Z i b i=b:=if_pos rfl
theorem up_ne {α:Type} (Z:Nat→α) {i j:Nat} (b:α) (h:j≠i):up Z i b j=Z j:=if_neg h
def ks (T:TM):List Int:=T.put.map (·.1)
structure Av (n:Nat) (Z:Nat→Txt) (T:TM):Prop where
 live:T.over=false
 N:T.N=n
 z:∀ k:Nat,k<n→T.read k=(Z k,0)
 len:∀ k:Nat,k<n→(Z k).length=512
 keys:(ks T).Nodup
 rng:∀ x ∈ ks T,98≤x∧x<n
theorem Av.write_full {n:Nat} {Z:Nat→Txt} {T:TM} (a:Av n Z T) {i:Nat} {bs:Txt} (h1:98≤i) (h2:i<n) (h3:bs.length=512):(T.write i bs).2=0∨(T.write i bs=(T,60)∧96≤(ks T).length∧(i:Int) ∉ ks T):=by
 by_cases h:aget T.put i=none∧T.put.length≥96
 ·right
  refine ⟨?_,by unfold ks; rw [List.length_map]; exact h.2,fun hm=>?_⟩
  ·unfold TM.write
   rw [if_neg (by rw [a.live]; simp),if_neg (by rw [a.N]; omega),if_neg (fun y=>y h3),if_pos h]
  ·obtain ⟨p,hp,e⟩:=List.mem_map.mp hm
   exact aget_none.mp h.1 p hp e
 ·left
  rw [TM.write_get a.live (by omega) (by rw [a.N]; omega) h3 h]
theorem write_keys {T:TM} {i:Int} {bs:Txt} (e:(T.write i bs).2=0) (x:Int):x ∈ ks (T.write i bs).1↔x ∈ ks T∨x=i:=by
 obtain ⟨_,_,_,_,_,ew⟩:=TM.write_ok e
 have ek:ks (T.write i bs).1=if aget T.put i=none then ks T++[i] else ks T:=by rw [ew]; exact aput_keys ..
 rw [ek]
 split
 ·rw [List.mem_append,List.mem_singleton]
 ·rename_i hno
  refine ⟨.inl,fun h=>?_⟩
  rcases h with h|rfl
  ·exact h
  ·cases eg:aget T.put x with
   | none=>exact absurd eg hno
   | some b=>exact List.mem_map.mpr ⟨_,aget_mem eg,rfl⟩
theorem write_len {T:TM} {i:Int} {bs:Txt} (e:(T.write i bs).2=0):(ks (T.write i bs).1).length≤(ks T).length+1∧((ks (T.write i bs).1).length≤96∨(ks (T.write i bs).1).length≤(ks T).length):=by
 obtain ⟨_,_,_,_,h5,ew⟩:=TM.write_ok e
 have ek:ks (T.write i bs).1=if aget T.put i=none then ks T++[i] else ks T:=by rw [ew]; exact aput_keys ..
 rw [ek]
 have el:(ks T).length=T.put.length:=List.length_map ..
 split
 ·rename_i hno
  rw [List.length_append,List.length_singleton]
  refine ⟨Nat.le_refl _,.inl ?_⟩
  rw [el]
  rcases Nat.lt_or_ge T.put.length 96 with h|h
  ·omega
  ·exact absurd ⟨hno,h⟩ h5
 ·exact ⟨Nat.le_add_right _ _,.inr (Nat.le_refl _)⟩
theorem write_nodup {T:TM} {i:Int} {bs:Txt} (e:(T.write i bs).2=0) (h:(ks T).Nodup):(ks (T.write i bs).1).Nodup:=by
 obtain ⟨_,_,_,_,_,ew⟩:=TM.write_ok e
 have ek:ks (T.write i bs).1=if aget T.put i=none then ks T++[i] else ks T:=by rw [ew]; exact aput_keys ..
 rw [ek]
 split
 ·rename_i hno
  rw [List.nodup_append]
  refine ⟨h,by simp,fun x hx y hy e=>?_⟩
  rw [List.mem_singleton.mp hy] at e
  subst e
  obtain ⟨p,hp,e⟩:=List.mem_map.mp hx
  exact aget_none.mp hno p hp e
 ·exact h
theorem Av.write {n:Nat} {Z:Nat→Txt} {T:TM} (a:Av n Z T) {i:Nat} {bs:Txt} (h1:98≤i) (h2:i<n) (h3:bs.length=512) (e:(T.write i bs).2=0):Av n (up Z i bs) (T.write i bs).1:=by
 have hr:=TM.read_write e
 have hk:=write_keys e
 have hd:=write_nodup e a.keys
 obtain ⟨_,_,_,_,_,ew⟩:=TM.write_ok e
 refine ⟨by rw [ew]; exact a.live,by rw [ew]; exact a.N,fun k hkn=>?_,fun k hkn=>?_,hd,fun x hx=>?_⟩
 ·rw [hr]
  by_cases hki:k=i
  ·rw [if_pos (by omega),hki,up_at]
  ·rw [if_neg (by omega),up_ne _ _ hki]; exact a.z k hkn
 ·by_cases hki:k=i
  ·rw [hki,up_at]; exact h3
  ·rw [up_ne _ _ hki]; exact a.len k hkn
 ·rcases (hk x).mp hx with hx|rfl
  ·exact a.rng x hx
  ·omega
structure Dim (n:Nat):Prop where
 lo:128≤n
 hi:n≤16384
theorem Dim.data {n:Nat} (d:Dim n):(geoN n).data=98+(n+4095) / 4096+n / 64∧(geoN n).data<n∧(geoN n).data<4096∧101≤(geoN n).data:=by
 have:=d.lo
 have:=d.hi
 have e:(geoN n).data=98+(n+4095) / 4096+n / 64:=rfl
 omega
theorem Dim.map {n:Nat} (d:Dim n) {i:Nat} (hi:i<n):98≤98+i / 4096∧98+i / 4096<(geoN n).inodes∧(geoN n).inodes≤(geoN n).data∧98+i / 4096<n:=by
 have:=d.lo
 have:=d.hi
 have e:(geoN n).data=98+(n+4095) / 4096+n / 64:=rfl
 have e:(geoN n).inodes=98+(n+4095) / 4096:=rfl
 omega
theorem at_eq (n i:Nat):(geoN n).at_ i=((98+i / 4096:Nat):Int):=rfl
def bit (Z:Nat→Txt) (j:Nat):Bool:=bitAt (Z (98+j / 4096)) (j % 4096)
def setZ (Z:Nat→Txt) (i:Nat) (on:Bool):Nat→Txt:=up Z (98+i / 4096) (putBit (Z (98+i / 4096)) (i % 4096) on)
theorem bit_setZ {Z:Nat→Txt} {i:Nat} (h:(Z (98+i / 4096)).length=512) (on:Bool) (j:Nat):bit (setZ Z i on) j=if j=i then on else bit Z j:=by
 unfold bit setZ
 by_cases hb:j / 4096=i / 4096
 ·rw [hb,up_at,bitAt_putBit _ _ _ _ (by rw [h]; omega)]
  by_cases hji:j=i
  ·rw [if_pos hji,if_pos (by rw [hji])]
  ·rw [if_neg hji,if_neg (by omega)]
 ·rw [up_ne _ _ (by omega),if_neg (by rintro rfl; exact hb rfl)]
theorem bit_up {Z:Nat→Txt} {i:Nat} {b:Txt} {j:Nat} (h:i≠98+j / 4096):bit (up Z i b) j=bit Z j:=by
 unfold bit; rw [up_ne _ _ (fun e=>h e.symm)]
theorem setZ_ne {Z:Nat→Txt} {i k:Nat} {on:Bool} (h:k≠98+i / 4096):setZ Z i on k=Z k:=up_ne _ _ h
theorem Av.setBit {n:Nat} {Z:Nat→Txt} {T:TM} (a:Av n Z T) (d:Dim n) {i:Nat} (hi:i<n) (on:Bool) :
  ((Spc.setBit T (geoN n) i on).2=0∧Av n (setZ Z i on) (Spc.setBit T (geoN n) i on).1∧Spc.setBit T (geoN n) i on=T.write ((98+i / 4096:Nat):Int) (putBit (Z (98+i / 4096)) (i % 4096) on))∨(Spc.setBit T (geoN n) i on=(T,60)∧96≤(ks T).length∧((98+i / 4096:Nat):Int) ∉ ks T):=by
 obtain ⟨m1,m2,m3,m4⟩:=d.map hi
 have hr:=a.z _ m4
 have es:Spc.setBit T (geoN n) i on=T.write ((98+i / 4096:Nat):Int) (putBit (Z (98+i / 4096)) (i % 4096) on):=by
  unfold Spc.setBit
  rw [at_eq,hr,if_neg (fun y=>y rfl)]
 have hl:(putBit (Z (98+i / 4096)) (i % 4096) on).length=512:=(putBit_length ..).trans (a.len _ m4)
 rw [es]
 rcases a.write_full m1 m4 hl with h|h
 ·exact .inl ⟨h,a.write m1 m4 hl h,rfl⟩
 ·exact .inr h
def isFree (n:Nat) (Z:Nat→Txt) (m:Nat):Bool:=decide ((geoN n).data≤m) && (decide (m<n) && !bit Z m)
theorem isFree_iff {n:Nat} {Z:Nat→Txt} {m:Nat}:isFree n Z m=true↔(geoN n).data≤m∧m<n∧bit Z m=false:=by
 unfold isFree
 rw [Bool.and_eq_true,Bool.and_eq_true,decide_eq_true_eq,decide_eq_true_eq,Bool.not_eq_true']
theorem Av.free {n:Nat} {Z:Nat→Txt} {T:TM} (a:Av n Z T) (d:Dim n) (m:Nat):FreeAt T (geoN n) m↔isFree n Z m=true:=by
 rw [isFree_iff]
 unfold FreeAt
 have e:(geoN n).blocks=n:=rfl
 rw [e]
 constructor
 ·rintro ⟨h1,h2,h3⟩
  rw [at_eq,a.z _ (d.map h3).2.2.2] at h1
  exact ⟨h2,h3,h1⟩
 ·rintro ⟨h2,h3,h1⟩
  refine ⟨?_,h2,h3⟩
  rw [at_eq,a.z _ (d.map h3).2.2.2]
  exact h1
def zeros : Txt:=List.replicate 512 0
def takeZ (Z:Nat→Txt) (m:Nat):Nat→Txt:=up (setZ Z m true) m zeros
theorem Av.take {n:Nat} {Z:Nat→Txt} {T:TM} (a:Av n Z T) (d:Dim n) {m:Nat} (h1:(geoN n).data≤m) (h2:m<n) :
  (takeAt T (geoN n) m).2=((m:Int),0)∧Av n (takeZ Z m) (takeAt T (geoN n) m).1∧(∀ x,x ∈ ks (takeAt T (geoN n) m).1↔x ∈ ks T∨x=((98+m / 4096:Nat):Int)∨x=m)∨(takeAt T (geoN n) m=(T,0,60)∧95≤(ks T).length):=by
 have hd:=d.data
 unfold takeAt
 rcases a.setBit d h2 true with ⟨e,a',es⟩|⟨e,h3,_⟩
 ·rw [if_neg (fun y=>y e)]
  rcases a'.write_full (i:=m) (bs:=zeros) (by omega) h2 List.length_replicate with h|⟨h,h3,_⟩
  ·have h':((Spc.setBit T (geoN n) m true).1.write m zeros512).2=0:=h
   rw [if_neg (fun y=>y h')]
   refine .inl ⟨rfl,a'.write (by omega) h2 List.length_replicate h,fun x=>?_⟩
   rw [es] at h' ⊢ e
   rw [write_keys h',write_keys e,or_assoc]
  ·have h':(Spc.setBit T (geoN n) m true).1.write m zeros512=((Spc.setBit T (geoN n) m true).1,60):=h
   rw [h',if_pos (show (60:Int)≠0 by decide)]
   refine .inr ⟨rfl,?_⟩
   rw [es] at e h3
   have:=(write_len e).1
   omega
 ·rw [e,if_pos (show (60:Int)≠0 by decide)]
  exact .inr ⟨rfl,by omega⟩
theorem bitAt_nil (i:Nat):bitAt [] i=false:=by
 unfold bitAt
 rw [List.getD_nil]
 exact Nat.zero_testBit _
def takeM (T:TM) (g:G):TM×Int×Int :=
 match (List.range g.blocks).find? (fun m=>decide (FreeAt T g m)) with
 | some m=>takeAt T g m
 | none=>(T,0,90)
theorem find_low {p:Nat→Bool} {n m:Nat} (h:m<n) (hp:p m=true) (hl:∀ k,k<m→p k=false):(List.range n).find? p=some m:=by
 rw [List.find?_eq_some_iff_getElem]
 refine ⟨hp,m,by rw [List.length_range]; exact h,List.getElem_range _,fun j hj=>?_⟩
 rw [List.getElem_range,hl j hj]; rfl
theorem find_none {p:Nat→Bool} {n:Nat} (h:∀ k,k<n→p k=false):(List.range n).find? p=none:=by
 rw [List.find?_eq_none]
 intro x hx
 rw [h x (List.mem_range.mp hx)]; simp
theorem takeM_low {T:TM} {g:G} {m:Nat} (h:FreeAt T g m) (hl:∀ k,k<m→¬ FreeAt T g k):takeM T g=takeAt T g m:=by
 unfold takeM
 rw [find_low h.2.2 (decide_eq_true h) fun k hk=>decide_eq_false (hl k hk)]
theorem takeM_none {T:TM} {g:G} (h:∀ k,¬ FreeAt T g k):takeM T g=(T,0,90):=by
 unfold takeM
 rw [find_none fun k _=>decide_eq_false (h k)]
theorem read_fail {T:TM} {i:Int} (h:(T.read i).2≠0):(T.read i).1=[]:=by
 unfold TM.read at h ⊢
 split
 ·rfl
 ·rename_i h1
  rw [if_neg h1] at h
  split
  ·rfl
  ·rename_i h2
   rw [if_neg h2] at h
   unfold TM.get at h ⊢
   split
   ·rename_i e
    rw [e] at h; exact absurd rfl h
   ·rename_i e
    rw [e] at h
    simp only at h
    split
    ·rfl
    ·rename_i h3
     rw [if_neg h3] at h; exact absurd rfl h
theorem Take_any {h:Heap} {F:Nat→Prop} {t d:Option Addr} {T:TM} {n:Nat} {K:Value→Heap→Prop} (x:Tx h F t d T) (dm:Dim n) (hu:T.undo.length<900000000)
  (hK:∀ h' F',Fr F h h'→Gw h F h' F'→Tx h' F' t d (takeM T (geoN n)).1→K (.tuple #[.int .i64 (takeM T (geoN n)).2.1,.int .i64 (takeM T (geoN n)).2.2]) h'):C.space_Take t (geoN n).v h K:=by
 have hd:=dm.data
 have hlo:=dm.lo
 have hhi:=dm.hi
 have hino:(geoN n).inodes=98+(n+4095) / 4096:=rfl
 have hbm:(geoN n).bitmap=98:=rfl
 have hbl:(geoN n).blocks=n:=rfl
 have same:∀ e h',Fr No h h'→takeM T (geoN n)=(T,0,e)→K (.tuple #[.int .i64 0,.int .i64 e]) h':=fun e h' f e0=>by
  rw [e0] at hK
  exact hK h' F (f.mono fun _ _ y=>y.elim) (Gw.refl f.size fun b hb=>x.lt hb) (x.no f)
 refine Take_spec x (geoN_ok hhi) (by omega) (by omega) hu (fun k h1 h2 hno he h' f=>same _ h' f ?_) (fun hno h' f=>same _ h' f (takeM_none fun k hk=>?_)) (fun m hm hfree hlow hr h' F' f g x'=>?_)
 ·rw [hbm] at h1 hno
  -- the first data block of this bitmap block reads as free
  have ex:∃ m,FreeAt T (geoN n) m∧m / 4096=k - 98:=by
   refine ⟨max (4096*(k - 98)) (geoN n).data,⟨?_,Nat.le_max_right _ _,by omega⟩,by omega⟩
   have:(geoN n).at_ (max (4096*(k - 98)) (geoN n).data)=(k:Int):=by rw [at_eq]; omega
   rw [this,read_fail he]
   exact bitAt_nil _
  obtain ⟨m0,hm0,hk0⟩:=ex
  obtain ⟨m,hm,hl⟩:∃ m,FreeAt T (geoN n) m∧∀ k,k<m→¬ FreeAt T (geoN n) k:=by
   clear hk0
   induction m0 using Nat.strongRecOn with
   | ind m0 ih =>
    by_cases h:∃ k,k<m0∧FreeAt T (geoN n) k
    ·obtain ⟨k,h1,h2⟩:=h
     exact ih k h1 h2
    ·exact ⟨m0,hm0,fun k h1 h2=>h ⟨k,h1,h2⟩⟩
  have hle:m≤m0:=by
   rcases Nat.lt_or_ge m0 m with h|h
   ·exact absurd hm0 (hl _ h)
   ·exact h
  have hge:4096*(k - 98)≤m:=by
   rcases Nat.lt_or_ge m (4096*(k - 98)) with h|h
   ·exact absurd hm (hno m h)
   ·exact h
  have ea:(geoN n).at_ m=(k:Int):=by rw [at_eq]; omega
  rw [takeM_low hm hl]
  unfold takeAt Spc.setBit
  rw [ea,if_pos he,if_pos he]
 ·have h3:=hk.2.2
  exact hno k (by omega) hk
 ·rw [takeM_low hfree hlow] at hK
  exact hK h' F' f g x'
theorem Av.taken {n:Nat} {Z:Nat→Txt} {T:TM} (a:Av n Z T) (d:Dim n) :
  (∃ m,isFree n Z m=true∧(∀ k,k<m→isFree n Z k=false)∧takeM T (geoN n)=takeAt T (geoN n) m)∨((∀ k,isFree n Z k=false)∧takeM T (geoN n)=(T,0,90)):=by
 by_cases h:∃ m,isFree n Z m=true
 ·left
  obtain ⟨m0,hm0⟩:=h
  obtain ⟨m,hm,hl⟩:∃ m,isFree n Z m=true∧∀ k,k<m→isFree n Z k=false:=by
   induction m0 using Nat.strongRecOn with
   | ind m0 ih =>
    by_cases h:∃ k,k<m0∧isFree n Z k=true
    ·obtain ⟨k,h1,h2⟩:=h
     exact ih k h1 h2
    ·exact ⟨m0,hm0,fun k h1=>by
      cases e:isFree n Z k with
      | false=>rfl
      | true=>exact absurd ⟨k,h1,e⟩ h⟩
  exact ⟨m,hm,hl,takeM_low ((a.free d m).mpr hm) fun k hk y=>absurd ((hl k hk).symm.trans ((a.free d k).mp y)) (by simp)⟩
 ·right
  have hn:∀ k,isFree n Z k=false:=fun k=>by
   cases e:isFree n Z k with
   | false=>rfl
   | true=>exact absurd ⟨k,e⟩ h
  exact ⟨hn,takeM_none fun k y=>absurd ((hn k).symm.trans ((a.free d k).mp y)) (by simp)⟩
def cnt (p:Nat→Bool):Nat→Nat
 | 0=>0
 | m+1=>cnt p m+if p m=true then 1 else 0
theorem cnt_upd {p q:Nat→Bool} {i:Nat} (h:∀ j,j≠i→p j=q j) (hp:p i=false) (hq:q i=true):∀ m,cnt q m=cnt p m+if i<m then 1 else 0
 | 0=>by rw [if_neg (by omega)]; rfl
 | m+1=>by
  show cnt q m+(if q m=true then 1 else 0)=cnt p m+(if p m=true then 1 else 0)+_
  rw [cnt_upd h hp hq m]
  by_cases e:m=i
  ·subst e
   rw [if_pos hq,if_neg (show ¬ p m=true by rw [hp]; simp),if_neg (show ¬ m<m by omega),if_pos (show m<m+1 by omega)]
  ·rw [h m e]
   by_cases e2:i<m
   ·rw [if_pos e2,if_pos (show i<m+1 by omega)]; omega
   ·rw [if_neg e2,if_neg (show ¬ i<m+1 by omega)]; omega
theorem cnt_congr {p q:Nat→Bool}:∀ {m:Nat},(∀ j,j<m→p j=q j)→cnt p m=cnt q m
 | 0,_=>rfl
 | m+1,h=>by
  show cnt p m+(if p m=true then 1 else 0)=cnt q m+(if q m=true then 1 else 0)
  rw [h m (by omega),cnt_congr fun j hj=>h j (by omega)]
theorem cnt_zero {p:Nat→Bool}:∀ {m:Nat},(∀ j,j<m→p j=false)→cnt p m=0
 | 0,_=>rfl
 | m+1,h=>by
  show cnt p m+(if p m=true then 1 else 0)=0
  rw [h m (by omega),cnt_zero fun j hj=>h j (by omega),if_neg (by simp)]
def frees (n:Nat) (Z:Nat→Txt):Nat:=cnt (isFree n Z) n
end Go.Proofs.YtiapingedfnlnaaGreatDoor.Av
namespace Go.Proofs.YtiapingedfnlnaaGreatDoor.Bm
open Go Go.Proofs Wx Hp W Ad Tm Bt Spc Re Av
theorem leN_leB (v:Nat):∀ n,leN (leBs n v)=v % 256 ^ n
 | 0=>by show 0=v % 1; omega
 | n+1=>by
  have e:leBs (n+1) v=leBs n v++[UInt8.ofNat (v / 256 ^ n)]:=by unfold leBs; rw [List.range_succ,List.map_append]; rfl
  rw [e,leN_snoc,leB_length,leN_leB v n,Nat.mod_pow_succ]
  have:(UInt8.ofNat (v / 256 ^ n)).toNat=v / 256 ^ n % 256:=by simp
  rw [this,Nat.mul_comm]
def num4 (b:Txt) (p:Nat):Nat:=leN ((b.drop (4*p)).take 4)
def set4 (b:Txt) (p v:Nat):Txt:=putU b (4*p) (leBs 4 v)
theorem num4_lt (b:Txt) (p:Nat):num4 b p<4294967296:=by
 have h:=leN_lt ((b.drop (4*p)).take 4)
 have hl:((b.drop (4*p)).take 4).length≤4:=by rw [List.length_take]; omega
 exact Nat.lt_of_lt_of_le h (Nat.le_trans (Nat.pow_le_pow_right (by decide) hl) (by decide))
theorem set4_length {b:Txt} {p v:Nat} (hb:b.length=512) (hp:p<128):(set4 b p v).length=512:=by
 unfold set4
 rw [putU_length (by rw [leB_length]; omega),hb]
theorem part_put {b z:Txt} {o q:Nat} (hz:z.length=4) (hb:b.length=512) (ho:4*o+4≤512) (hq:4*q+4≤512):((putU b (4*o) z).drop (4*q)).take 4=if q=o then z else (b.drop (4*q)).take 4:=by
 unfold putU
 have l1:(b.take (4*o)).length=4*o:=by rw [List.length_take]; omega
 by_cases h:q=o
 ·rw [if_pos h,h,List.append_assoc,List.drop_append_of_le_length (by omega),List.drop_of_length_le (by omega),List.nil_append,List.take_append_of_le_length (by omega),List.take_of_length_le (by omega)]
 ·rw [if_neg h]
  rcases Nat.lt_or_ge q o with h1|h1
  ·rw [List.append_assoc,List.drop_append_of_le_length (by omega),List.take_append_of_le_length (by rw [List.length_drop]; omega),List.drop_take,List.take_take,Nat.min_eq_left (by omega)]
  ·have l2:(b.take (4*o)++z).length=4*o+4:=by rw [List.length_append]; omega
   rw [List.drop_append,List.drop_of_length_le (by omega),List.nil_append,List.drop_drop,l2,hz,show 4*o+4+(4*q - (4*o+4))=4*q by omega]
theorem num4_set {b:Txt} {o q v:Nat} (hb:b.length=512) (ho:o<128) (hq:q<128) (hv:v<4294967296):num4 (set4 b o v) q=if q=o then v else num4 b q:=by
 unfold num4 set4
 rw [part_put (leB_length 4 v) hb (by omega) (by omega)]
 split
 ·rw [leN_leB]; exact Nat.mod_eq_of_lt hv
 ·rfl
theorem num4_zeros (p:Nat):num4 zeros p=0:=by
 unfold num4 zeros
 rw [List.drop_replicate,List.take_replicate]
 generalize min 4 (512 - 4*p)=k
 induction k with
 | zero=>rfl
 | succ k ih=>rw [List.replicate_succ]; show (0:UInt8).toNat+256*leN (List.replicate k 0)=0; rw [ih]; rfl
def nS : Nat:=16652
def par (s:Nat):Option (Nat×Nat) :=
 if s<10 then none else if s<138 then some (16522,s - 10) else if s<16522 then some (16524+(s - 138) / 128,(s - 138) % 128) else if s<16524 then none else some (16523,s - 16524)
def root (R:List Int) (s:Nat):Int:=if s<10 then R.getD (3+s) 0 else if s=16522 then R.getD 13 0 else R.getD 14 0
def sub (Z:Nat→Txt) (b p:Nat):Nat:=if b=0 then 0 else num4 (Z b) p
def num0 (R:List Int) (s:Nat):Nat:=(root R s).toNat
def num1 (Z:Nat→Txt) (R:List Int) (s:Nat):Nat:=match par s with
 | none=>num0 R s
 | some (q,p)=>sub Z (num0 R q) p
def num (Z:Nat→Txt) (R:List Int) (s:Nat):Nat:=match par s with
 | none=>num0 R s
 | some (q,p)=>sub Z (num1 Z R q) p
theorem par_up {s q p:Nat} (h:par s=some (q,p)) (hs:s<nS):p<128∧((q=16522∧s=10+p)∨(q=16523∧s=16524+p)∨(16524≤q∧q<nS∧s=138+(q - 16524)*128+p)):=by
 unfold par at h
 unfold nS at *
 split at h
 ·cases h
 ·split at h
  ·cases h; omega
  ·split at h
   ·cases h; omega
   ·split at h
    ·cases h
    ·cases h; omega
theorem par_none {s:Nat} (h:par s=none):s<10∨s=16522∨s=16523:=by
 unfold par at h
 split at h
 ·omega
 ·split at h
  ·cases h
  ·split at h
   ·cases h
   ·split at h
    ·omega
    ·cases h
theorem par_table {p:Nat} (_:p<128):par (16524+p)=some (16523,p):=by
 unfold par
 rw [if_neg (by omega),if_neg (by omega),if_neg (by omega),if_neg (by omega),Nat.add_sub_cancel_left]
theorem par_inj {s s' q p:Nat} (h:par s=some (q,p)) (h':par s'=some (q,p)) (hs:s<nS) (hs':s'<nS):s=s':=by
 have a:=par_up h hs
 have b:=par_up h' hs'
 omega
theorem par_ne {s q p:Nat} (h:par s=some (q,p)) (hs:s<nS):q≠s∧q<nS∧16522≤q:=by
 have a:=par_up h hs
 unfold nS at *
 omega
theorem num_none {Z:Nat→Txt} {R:List Int} {s:Nat} (h:par s=none):num Z R s=(root R s).toNat:=by unfold num; rw [h]; rfl
theorem num1_num {Z:Nat→Txt} {R:List Int} {q:Nat} (hq:16522≤q) (hn:q<nS):num1 Z R q=num Z R q:=by
 unfold num1 num
 rcases Nat.lt_or_ge q 16524 with h|h
 ·have:par q=none:=by unfold par; rw [if_neg (by omega),if_neg (by omega),if_neg (by omega),if_pos h]
  rw [this]
 ·have e:par q=some (16523,q - 16524):=by
   have:=par_table (p:=q - 16524) (by unfold nS at hn; omega)
   rw [show 16524+(q - 16524)=q by omega] at this
   exact this
  rw [e]
  show sub Z (num0 R 16523) _=sub Z (num1 Z R 16523) _
  rfl
theorem num_some {Z:Nat→Txt} {R:List Int} {s q p:Nat} (h:par s=some (q,p)) (hs:s<nS):num Z R s=sub Z (num Z R q) p:=by
 have a:=par_ne h hs
 unfold num
 rw [h]
 show sub Z (num1 Z R q) p=sub Z (num Z R q) p
 rw [num1_num a.2.2 a.2.1]
theorem slots {P:Nat→Prop} (h0:∀ s,s<nS→par s=none→P s) (h1:∀ s q p,s<nS→par s=some (q,p)→P q→P s):∀ s,s<nS→P s:=by
 have two:P 16523:=h0 _ (by decide) (by decide)
 have tab:∀ q,16522≤q→q<nS→P q:=fun q hq hn=>by
  cases e:par q with
  | none=>exact h0 q hn e
  | some x =>
   obtain ⟨q',p⟩:=x
   have:=par_up e hn
   have:q'=16523:=by unfold nS at *; omega
   subst this
   exact h1 q _ p hn e two
 intro s hs
 cases e:par s with
 | none=>exact h0 s hs e
 | some x =>
  obtain ⟨q,p⟩:=x
  have:=par_ne e hs
  exact h1 s q p hs e (tab q this.2.2 this.2.1)
structure Wf (n:Nat) (Z:Nat→Txt) (R:List Int):Prop where
 rl:R.length=15
 rr:∀ i,3≤i→i<15→0≤R.getD i 0
 rng:∀ s,s<nS→num Z R s≠0→(geoN n).data≤num Z R s∧num Z R s<n∧bit Z (num Z R s)=true
 inj:∀ s s',s<nS→s'<nS→num Z R s≠0→num Z R s=num Z R s'→s=s'
theorem num_congr {Z Z':Nat→Txt} {R R':List Int} (hr:∀ s,s<nS→par s=none→root R' s=root R s) (hz:∀ q,16522≤q→q<nS→num Z R q≠0→∀ p,p<128→num4 (Z' (num Z R q)) p=num4 (Z (num Z R q)) p):∀ s,s<nS→num Z' R' s=num Z R s:=by
 refine slots (fun s hs e=>?_) fun s q p hs e ih=>?_
 ·rw [num_none e,num_none e,hr s hs e]
 ·have a:=par_ne e hs
  rw [num_some e hs,num_some e hs,ih]
  unfold sub
  split
  ·rfl
  ·rename_i h
   exact hz q a.2.2 a.2.1 h p (par_up e hs).1
def setRoot (R:List Int) (s:Nat) (v:Int):List Int:=if s<10 then R.set (3+s) v else if s=16522 then R.set 13 v else R.set 14 v
theorem getD_set {α:Type} (l:List α) (i j:Nat) (b d:α) (h:i<l.length):(l.set i b).getD j d=if j=i then b else l.getD j d:=by
 rw [List.getD_eq_getElem?_getD,List.getD_eq_getElem?_getD]
 by_cases e:j=i
 ·rw [if_pos e,e,List.getElem?_set_self h]; rfl
 ·rw [if_neg e,List.getElem?_set_ne (fun x=>e x.symm)]
theorem root_set {R:List Int} {s s':Nat} {v:Int} (hl:R.length=15) (h:par s=none) (h':par s'=none):root (setRoot R s v) s'=if s'=s then v else root R s':=by
 have a:=par_none h
 have b:=par_none h'
 unfold root setRoot
 by_cases e:s<10
 ·rw [if_pos e]
  simp only [getD_set R (3+s) _ _ _ (show 3+s<R.length by omega)]
  by_cases e':s'<10
  ·rw [if_pos e',if_pos e']
   by_cases e2:s'=s
   ·rw [if_pos e2,if_pos (by omega)]
   ·rw [if_neg e2,if_neg (by omega)]
  ·rw [if_neg e',if_neg e',if_neg (show ¬ s'=s by omega),if_neg (show ¬ 13=3+s by omega),if_neg (show ¬ 14=3+s by omega)]
 ·rw [if_neg e]
  by_cases e1:s=16522
  ·rw [if_pos e1]
   simp only [getD_set R 13 _ _ _ (show 13<R.length by omega)]
   by_cases e':s'<10
   ·rw [if_pos e',if_pos e',if_neg (show ¬ s'=s by omega),if_neg (show ¬ 3+s'=13 by omega)]
   ·rw [if_neg e',if_neg e']
    by_cases e2:s'=16522
    ·rw [if_pos e2,if_pos e2,if_pos trivial,if_pos (by omega)]
    ·rw [if_neg e2,if_neg e2,if_neg (show ¬ s'=s by omega),if_neg (show ¬ 14=13 by omega)]
  ·rw [if_neg e1]
   simp only [getD_set R 14 _ _ _ (show 14<R.length by omega)]
   by_cases e':s'<10
   ·rw [if_pos e',if_pos e',if_neg (show ¬ s'=s by omega),if_neg (show ¬ 3+s'=14 by omega)]
   ·rw [if_neg e',if_neg e']
    by_cases e2:s'=16522
    ·rw [if_pos e2,if_pos e2,if_neg (show ¬ s'=s by omega),if_neg (show ¬ 13=14 by omega)]
    ·rw [if_neg e2,if_neg e2,if_pos trivial,if_pos (by omega)]
def fillR (R:List Int) (s m:Nat):List Int:=match par s with
 | none=>setRoot R s m
 | some _=>R
def fillZ (Z:Nat→Txt) (R:List Int) (s m:Nat):Nat→Txt:=match par s with
 | none=>takeZ Z m
 | some (q,p)=>up (takeZ Z m) (num Z R q) (set4 (Z (num Z R q)) p m)
theorem takeZ_at {n m:Nat} {Z:Nat→Txt} (d:Dim n) (hl:∀ k,k<n→(Z k).length=512) (f1:(geoN n).data≤m) (f2:m<n) :
  (∀ j,j<n→bit (takeZ Z m) j=if j=m then true else bit Z j)∧takeZ Z m m=zeros∧∀ b,(geoN n).inodes≤b→b≠m→takeZ Z m b=Z b:=by
 obtain ⟨m1,m2,m3,m4⟩:=d.map f2
 refine ⟨fun j hj=>?_,up_at _ _ _,fun b hb hm=>?_⟩
 ·unfold takeZ
  rw [bit_up (by have:=(d.map hj).2; omega),bit_setZ (hl _ m4)]
 ·unfold takeZ
  rw [up_ne _ _ hm,setZ_ne (by omega)]
theorem fillZ_at {n m s:Nat} {Z:Nat→Txt} {R:List Int} (d:Dim n) (hl:∀ k,k<n→(Z k).length=512) (w:Wf n Z R) (hs:s<nS) (hp:∀ q p,par s=some (q,p)→num Z R q≠0) (hf:isFree n Z m=true) :
  (∀ j,j<n→bit (fillZ Z R s m) j=if j=m then true else bit Z j)∧fillZ Z R s m m=zeros ∧
   ∀ b,(geoN n).inodes≤b→b≠m→(∀ q p,par s=some (q,p)→b≠num Z R q)→fillZ Z R s m b=Z b:=by
 obtain ⟨f1,f2,f3⟩:=isFree_iff.mp hf
 have t:=takeZ_at d hl f1 f2
 cases e:par s with
 | none =>
  simp only [fillZ,e]
  exact ⟨t.1,t.2.1,fun b h1 h2 _=>t.2.2 b h1 h2⟩
 | some x =>
  obtain ⟨q,p⟩:=x
  have hq:=hp q p e
  have a:=par_ne e hs
  obtain ⟨r1,r2,r3⟩:=w.rng q a.2.1 hq
  have hqm:num Z R q≠m:=fun y=>by rw [y,f3] at r3; cases r3
  simp only [fillZ,e]
  refine ⟨fun j hj=>?_,?_,fun b h1 h2 h3=>?_⟩
  ·rw [bit_up (by have:=(d.map hj).2; omega)]; exact t.1 j hj
  ·rw [up_ne _ _ (fun y=>hqm y.symm)]; exact t.2.1
  ·rw [up_ne _ _ (h3 q p rfl)]; exact t.2.2 b h1 h2
theorem setRoot_rr {R:List Int} {s:Nat} {v:Int} (hl:R.length=15) (h:∀ i,3≤i→i<15→0≤R.getD i 0) (hv:0≤v):(setRoot R s v).length=15∧∀ i,3≤i→i<15→0≤(setRoot R s v).getD i 0:=by
 unfold setRoot
 refine ⟨?_,fun i h1 h2=>?_⟩
 ·split
  ·rw [List.length_set]; exact hl
  ·split
   ·rw [List.length_set]; exact hl
   ·rw [List.length_set]; exact hl
 split
 ·rw [getD_set _ _ _ _ _ (by omega)]; split
  ·exact hv
  ·exact h i h1 h2
 ·split
  ·rw [getD_set _ _ _ _ _ (by omega)]; split
   ·exact hv
   ·exact h i h1 h2
  ·rw [getD_set _ _ _ _ _ (by omega)]; split
   ·exact hv
   ·exact h i h1 h2
theorem Wf.fill {n m s:Nat} {Z:Nat→Txt} {R:List Int} (d:Dim n) (hl:∀ k,k<n→(Z k).length=512) (w:Wf n Z R) (hs:s<nS) (h0:num Z R s=0) (hp:∀ q p,par s=some (q,p)→num Z R q≠0) (hf:isFree n Z m=true) :
  (∀ s',s'<nS→num (fillZ Z R s m) (fillR R s m) s'=if s'=s then m else num Z R s')∧Wf n (fillZ Z R s m) (fillR R s m):=by
 obtain ⟨f1,f2,f3⟩:=isFree_iff.mp hf
 obtain ⟨b1,b2,b3⟩:=fillZ_at d hl w hs hp hf
 have hd:=d.data
 have hi:=(d.map f2).2.2.1
 have hhi:=d.hi
 have ne:∀ s',s'<nS→num Z R s'≠0→num Z R s'≠m:=fun s' h1 h2 y=>by
  have:=(w.rng s' h1 h2).2.2
  rw [y,f3] at this; cases this
 have numb:∀ s',s'<nS→num (fillZ Z R s m) (fillR R s m) s'=if s'=s then m else num Z R s':=by
  refine slots (fun s' h1 e'=>?_) fun s' q' p' h1 e' ih=>?_
  ·rw [num_none e',num_none e']
   cases e:par s with
   | none =>
    simp only [fillR,e]
    rw [root_set w.rl e e']
    by_cases h:s'=s
    ·rw [if_pos h,if_pos h]; rfl
    ·rw [if_neg h,if_neg h]
   | some x =>
    simp only [fillR,e]
    rw [if_neg (by rintro rfl; rw [e'] at e; cases e)]
  ·have a':=par_ne e' h1
   have p128:=(par_up e' h1).1
   rw [num_some e' h1,num_some e' h1,ih]
   by_cases hq:q'=s
   ·rw [if_pos hq,if_neg (by omega),hq,h0]
    unfold sub
    rw [if_neg (by omega),if_pos rfl,b2,num4_zeros]
   ·rw [if_neg hq]
    by_cases h:num Z R q'=0
    ·rw [if_neg (by rintro rfl; exact hp _ _ e' h)]
     unfold sub
     rw [if_pos h,if_pos h]
    ·unfold sub
     rw [if_neg h,if_neg h]
     by_cases hqq:∃ p,par s=some (q',p)
     ·obtain ⟨p,e⟩:=hqq
      have pp:=(par_up e hs).1
      have ez:fillZ Z R s m (num Z R q')=set4 (Z (num Z R q')) p m:=by
       simp only [fillZ,e]; exact up_at _ _ _
      rw [ez,num4_set (hl _ (w.rng q' a'.2.1 h).2.1) pp p128 (by omega)]
      by_cases hpp:p'=p
      ·rw [if_pos hpp,if_pos]
       subst hpp
       exact par_inj e' e h1 hs
      ·rw [if_neg hpp,if_neg (by rintro rfl; rw [e'] at e; cases e; exact hpp rfl)]
     ·rw [if_neg (by rintro rfl; exact hqq ⟨_,e'⟩)]
      rw [b3 _ (by have:=(w.rng q' a'.2.1 h).1; omega) (ne q' a'.2.1 h) fun q p e y=>hqq ⟨p,by rw [e,w.inj q' q a'.2.1 (par_ne e hs).2.1 h y]⟩]
 refine ⟨numb,?_,?_,fun s' h1 h2=>?_,fun s1 s2 h1 h2 h3 h4=>?_⟩
 ·cases e:par s with
  | none=>simp only [fillR,e]; exact (setRoot_rr w.rl w.rr (by omega)).1
  | some x=>simp only [fillR,e]; exact w.rl
 ·cases e:par s with
  | none=>simp only [fillR,e]; exact (setRoot_rr w.rl w.rr (by omega)).2
  | some x=>simp only [fillR,e]; exact w.rr
 ·rw [numb s' h1] at h2 ⊢
  by_cases h:s'=s
  ·rw [if_pos h,b1 m f2,if_pos rfl]; exact ⟨f1,f2,rfl⟩
  ·rw [if_neg h] at h2 ⊢
   have r:=w.rng s' h1 h2
   rw [b1 _ r.2.1,if_neg (ne s' h1 h2)]; exact r
 ·rw [numb s1 h1] at h3 h4
  rw [numb s2 h2] at h4
  by_cases e1:s1=s
  ·by_cases e2:s2=s
   ·rw [e1,e2]
   ·rw [if_pos e1,if_neg e2] at h4
    exact absurd h4.symm (ne s2 h2 (by rw [← h4]; omega))
  ·rw [if_neg e1] at h3 h4
   by_cases e2:s2=s
   ·rw [if_pos e2] at h4
    exact absurd h4 (ne s1 h1 h3)
   ·rw [if_neg e2] at h4
    exact w.inj s1 s2 h1 h2 h3 h4
def many (Z:Nat→Txt) (R:List Int):Nat:=cnt (fun s=>decide (num Z R s≠0)) nS
theorem many_fill {m s:Nat} {Z:Nat→Txt} {R:List Int} (hm:m≠0) (hs:s<nS) (h0:num Z R s=0) {Z':Nat→Txt} {R':List Int} (h:∀ s',s'<nS→num Z' R' s'=if s'=s then m else num Z R s'):many Z' R'=many Z R+1:=by
 have e:many Z' R'=cnt (fun s'=>decide ((if s'=s then m else num Z R s')≠0)) nS:=cnt_congr fun j hj=>by rw [h j hj]
 rw [e]
 have:=cnt_upd (p:=fun s'=>decide (num Z R s'≠0)) (q:=fun s'=>decide ((if s'=s then m else num Z R s')≠0)) (i:=s) (fun j hj=>by simp only [if_neg hj]) (by simp only [h0]; rfl) (by simp only [if_pos]; exact decide_eq_true hm) nS
 rw [if_pos hs] at this
 exact this
theorem frees_bits {n m:Nat} {Z Z':Nat→Txt} (h1:(geoN n).data≤m) (h2:m<n) (hz:bit Z m=false) (h:∀ j,j<n→bit Z' j=if j=m then true else bit Z j):frees n Z=frees n Z'+1:=by
 have:=cnt_upd (p:=isFree n Z') (q:=isFree n Z) (i:=m) (fun j hj=>by
   unfold isFree
   by_cases hjn:j<n
   ·rw [h j hjn,if_neg hj]
   ·rw [decide_eq_false hjn]; simp) (by
   unfold isFree
   rw [h m h2,if_pos rfl]; simp) (isFree_iff.mpr ⟨h1,h2,hz⟩) n
 rw [if_pos h2] at this
 exact this
end Go.Proofs.YtiapingedfnlnaaGreatDoor.Bm
namespace Go.Proofs.YtiapingedfnlnaaGreatDoor.Bm
open Go Go.Proofs Wx Hp W Ad Tm Bt Spc Re Av
def numM (T:TM) (R:List Int) (s:Nat×Nat) (at_:Int):Int×Txt×Int :=
 if s.1=0 then (R.getD (3+s.2) 0,[],0) else if s.1=1 then (R.getD 13 0,[],0) else if s.1=2 then (R.getD 14 0,[],0) else
  if (T.read at_).2≠0 then (0,[],(T.read at_).2) else ((num4 (T.read at_).1 s.2:Nat),(T.read at_).1,0)
def lookM (g:G) (v:Int):Int:=if v<g.data∨v≥g.blocks then 100 else 0
def setM (T:TM) (R:List Int) (s:Nat×Nat) (at_:Int) (b:Txt) (v:Int):(TM×List Int)×Int :=
 if s.1=0 then ((T,R.set (3+s.2) v),0) else if s.1=1 then ((T,R.set 13 v),0) else if s.1=2 then ((T,R.set 14 v),0) else
  (((T.write at_ (set4 b s.2 v.toNat)).1,R),(T.write at_ (set4 b s.2 v.toNat)).2)
def walkF (T:TM) (g:G) (R:List Int):List (Nat×Nat)→Int→Int×Int
 | [],a=>(a,0)
 | s::r,a=>if (numM T R s a).2.2≠0 then (0,(numM T R s a).2.2) else if (numM T R s a).1=0 then (0,0) else
   if lookM g (numM T R s a).1≠0 then (0,lookM g (numM T R s a).1) else walkF T g R r (numM T R s a).1
def walkA (g:G):List (Nat×Nat)→TM→List Int→Int→(TM×List Int)×Int×Int
 | [],T,R,a=>((T,R),a,0)
 | s::r,T,R,a=>if (numM T R s a).2.2≠0 then ((T,R),0,(numM T R s a).2.2) else if (numM T R s a).1≠0 then
   if lookM g (numM T R s a).1≠0 then ((T,R),0,lookM g (numM T R s a).1) else walkA g r T R (numM T R s a).1
  else if (takeM T g).2.2≠0 then (((takeM T g).1,R),0,(takeM T g).2.2) else
   if (setM (takeM T g).1 R s a (numM T R s a).2.1 (takeM T g).2.1).2≠0 then ((setM (takeM T g).1 R s a (numM T R s a).2.1 (takeM T g).2.1).1,0,(setM (takeM T g).1 R s a (numM T R s a).2.1 (takeM T g).2.1).2) else
   if (takeM T g).2.1=0 then ((setM (takeM T g).1 R s a (numM T R s a).2.1 (takeM T g).2.1).1,0,0) else
   if lookM g (takeM T g).2.1≠0 then ((setM (takeM T g).1 R s a (numM T R s a).2.1 (takeM T g).2.1).1,0,lookM g (takeM T g).2.1) else
    walkA g r (setM (takeM T g).1 R s a (numM T R s a).2.1 (takeM T g).2.1).1.1 (setM (takeM T g).1 R s a (numM T R s a).2.1 (takeM T g).2.1).1.2 (takeM T g).2.1
def wayM (k:Nat):List (Nat×Nat):=if k<10 then [(0,k)] else if k<138 then [(1,0),(3,k - 10)] else [(2,0),(3,(k - 138) / 128),(3,(k - 138) % 128)]
def z15 : List Int:=List.replicate 15 0
def findM (T:TM) (g:G) (R:List Int) (k:Int):Int×Int:=if k<0∨k≥16522 then (0,101) else walkF T g R (wayM k.toNat) 0
def addM (T:TM) (g:G) (R:List Int) (k:Int):TM×List Int×Int×Int :=
 if k<0∨k≥16522 then (T,z15,0,101) else
  if (walkA g (wayM k.toNat) T R 0).2.2≠0 then (((walkA g (wayM k.toNat) T R 0).1.1.back T.undo.length).1,z15,0,(walkA g (wayM k.toNat) T R 0).2.2)
   else ((walkA g (wayM k.toNat) T R 0).1.1,(walkA g (wayM k.toNat) T R 0).1.2,(walkA g (wayM k.toNat) T R 0).2.1,0)
def stepOf (s:Nat):Nat×Nat:=if s<10 then (0,s) else if s=16522 then (1,0) else if s=16523 then (2,0) else (3,((par s).getD (0,0)).2)
def path (k:Nat):List Nat:=if k<10 then [k] else if k<138 then [16522,k] else [16523,16524+(k - 138) / 128,k]
def Chain : Option Nat→List Nat→Prop
 | _,[]=>True
 | o,s::r=>s<nS∧(match o with|none=>par s=none|some q=>∃ p,par s=some (q,p))∧s ∉ r∧Chain (some s) r
theorem path_chain {k:Nat} (hk:k<16522):Chain none (path k)∧(path k).map stepOf=wayM k:=by
 unfold path wayM
 by_cases h1:k<10
 ·rw [if_pos h1,if_pos h1]
  refine ⟨⟨by unfold nS; omega,by unfold par; exact if_pos h1,by simp,trivial⟩,?_⟩
  simp only [List.map_cons,List.map_nil,stepOf,if_pos h1]
 ·rw [if_neg h1,if_neg h1]
  by_cases h2:k<138
  ·rw [if_pos h2,if_pos h2]
   have e:par k=some (16522,k - 10):=by unfold par; rw [if_neg h1,if_pos h2]
   refine ⟨⟨by decide,by decide,by simp; omega,by unfold nS; omega,⟨_,e⟩,by simp,trivial⟩,?_⟩
   simp only [List.map_cons,List.map_nil,stepOf,if_neg h1,e]
   rw [if_neg (show ¬ 16522<10 by decide),if_pos trivial,if_neg (by omega),if_neg (by omega)]; rfl
  ·rw [if_neg h2,if_neg h2]
   have e:par k=some (16524+(k - 138) / 128,(k - 138) % 128):=by unfold par; rw [if_neg h1,if_neg h2,if_pos hk]
   have e2:par (16524+(k - 138) / 128)=some (16523,(k - 138) / 128):=par_table (by omega)
   refine ⟨⟨by decide,by decide,by simp; omega,by unfold nS; omega,⟨_,e2⟩,by simp; omega,by unfold nS; omega,⟨_,e⟩,by simp,trivial⟩,?_⟩
   simp only [List.map_cons,List.map_nil,stepOf,if_neg h1,e,e2]
   rw [if_neg (show ¬ 16523<10 by decide),if_neg (show ¬ 16523=16522 by decide),if_pos trivial,if_neg (by omega),if_neg (by omega),if_neg (by omega),if_neg (by omega),if_neg (by omega)]; rfl
theorem root_num {n:Nat} {Z:Nat→Txt} {R:List Int} {s:Nat} (w:Wf n Z R) (hs:s<nS) (h:par s=none):root R s=(num Z R s:Nat):=by
 rw [num_none h]
 have a:=par_none h
 have:0≤root R s:=by
  unfold root
  split
  ·exact w.rr _ (by omega) (by omega)
  ·split
   ·exact w.rr _ (by omega) (by omega)
   ·exact w.rr _ (by omega) (by omega)
 omega
def at_ (Z:Nat→Txt) (R:List Int):Option Nat→Int
 | none=>0
 | some q=>(num Z R q:Nat)
def tabO (Z:Nat→Txt) (R:List Int):Option Nat→Txt
 | none=>[]
 | some q=>Z (num Z R q)
theorem numM_tab (T:TM) (R:List Int) (p:Nat) (a:Int):numM T R (3,p) a=if (T.read a).2≠0 then ((0:Int),([]:Txt),(T.read a).2) else (((num4 (T.read a).1 p:Nat):Int),(T.read a).1,(0:Int)):=rfl
theorem stepOf_table {s q p:Nat} (h:par s=some (q,p)) (hs:s<nS):stepOf s=(3,p):=by
 have b:=par_up h hs
 unfold stepOf
 rw [h,if_neg (by omega),if_neg (by unfold nS at *; omega),if_neg (by unfold nS at *; omega)]; rfl
theorem step_num {n:Nat} {Z:Nat→Txt} {R:List Int} {T:TM} {o:Option Nat} {s:Nat} {r:List Nat} (a:Av n Z T) (w:Wf n Z R) (c:Chain o (s::r)) (ho:∀ q,o=some q→q<nS∧num Z R q≠0) :
  numM T R (stepOf s) (at_ Z R o)=(((num Z R s:Nat):Int),tabO Z R o,0):=by
 obtain ⟨hs,hp,_,_⟩:=c
 cases o with
 | none =>
  have hp:par s=none:=hp
  have e:=root_num w hs hp
  have b:=par_none hp
  rcases b with h1|rfl|rfl
  ·have es:stepOf s=(0,s):=by unfold stepOf; rw [if_pos h1]
   rw [es,← e]
   unfold root
   rw [if_pos h1]; rfl
  ·rw [← e]; rfl
  ·rw [← e]; rfl
 | some q =>
  obtain ⟨p,hp⟩:=hp
  obtain ⟨hq,h0⟩:=ho q rfl
  have ru:=w.rng q hq h0
  rw [stepOf_table hp hs,numM_tab]
  have ez:at_ Z R (some q)=((num Z R q:Nat):Int):=rfl
  rw [ez,a.z _ ru.2.1,if_neg (fun y=>y rfl),num_some hp hs]
  unfold sub
  rw [if_neg h0]; rfl
theorem look_ok {n:Nat} {v:Nat} (h1:(geoN n).data≤v) (h2:v<n):lookM (geoN n) (v:Int)=0:=by
 unfold lookM
 have:(geoN n).blocks=n:=rfl
 rw [if_neg (by omega)]
theorem walkF_ok {n:Nat} {Z:Nat→Txt} {R:List Int} {T:TM} (a:Av n Z T) (w:Wf n Z R):∀ (r:List Nat) (o:Option Nat),Chain o r→(∀ q,o=some q→q<nS∧num Z R q≠0) →
  walkF T (geoN n) R (r.map stepOf) (at_ Z R o)=(((match r.getLast? with|none=>at_ Z R o|some s=>(num Z R s:Nat)):Int),0)
 | [],o,_,_=>rfl
 | s::r,o,c,ho=>by
  have e:=step_num a w c ho
  show walkF T (geoN n) R (stepOf s::r.map stepOf) (at_ Z R o)=_
  unfold walkF
  rw [e]
  simp only
  rw [if_neg (fun y=>y rfl)]
  obtain ⟨hs,_,_,c'⟩:=c
  have below:num Z R s=0→∀ (l:List Nat) (x:Nat),Chain (some x) l→num Z R x=0→∀ y ∈ l,num Z R y=0:=fun _ l=>by
   induction l with
   | nil=>intro x _ _ y hy; cases hy
   | cons y l ih =>
    intro x c h0 z hz
    obtain ⟨h1,⟨p,h2⟩,_,h4⟩:=c
    have hy:num Z R y=0:=by rw [num_some h2 h1,h0]; exact if_pos rfl
    rcases List.mem_cons.mp hz with rfl|hz
    ·exact hy
    ·exact ih y h4 hy z hz
  by_cases h0:num Z R s=0
  ·rw [if_pos (by omega)]
   have hl:(match (s::r).getLast? with|none=>at_ Z R o|some s=>((num Z R s:Nat):Int))=0:=by
    cases hg:(s::r).getLast? with
    | none=>rw [List.getLast?_eq_none_iff] at hg; cases hg
    | some x =>
     have hx:=List.mem_of_getLast? hg
     show ((num Z R x:Nat):Int)=0
     rcases List.mem_cons.mp hx with rfl|hx
     ·omega
     ·rw [below h0 r s c' h0 x hx]; rfl
   rw [hl]
  ·have ru:=w.rng s hs h0
   rw [if_neg (by omega),look_ok ru.1 ru.2.1,if_neg (fun y=>y rfl)]
   have:=walkF_ok a w r (some s) c' fun q e=>by cases e; exact ⟨hs,h0⟩
   have ea:at_ Z R (some s)=((num Z R s:Nat):Int):=rfl
   rw [ea] at this
   rw [this]
   cases r with
   | nil=>rfl
   | cons y r =>
    rw [List.getLast?_cons_cons]
    cases hg:(y::r).getLast? with
    | none=>rw [List.getLast?_eq_none_iff] at hg; cases hg
    | some x=>rfl
theorem path_last (k:Nat):(path k).getLast?=some k:=by
 unfold path
 split
 ·rfl
 ·split <;> rfl
theorem find_ok {n:Nat} {Z:Nat→Txt} {R:List Int} {T:TM} (a:Av n Z T) (w:Wf n Z R) {k:Nat} (hk:k<16522):findM T (geoN n) R k=(((num Z R k:Nat):Int),0):=by
 obtain ⟨c,e⟩:=path_chain hk
 unfold findM
 rw [if_neg (by omega)]
 have:=walkF_ok a w (path k) none c fun q y=>by cases y
 rw [e,path_last] at this
 exact this
def miss (Z:Nat→Txt) (R:List Int):List Nat→Nat
 | []=>0
 | s::r=>(if num Z R s=0 then 1 else 0)+miss Z R r
theorem miss_congr {Z Z':Nat→Txt} {R R':List Int}:∀ {l:List Nat},(∀ s ∈ l,num Z' R' s=num Z R s)→miss Z' R' l=miss Z R l
 | [],_=>rfl
 | s::r,h=>by
  show (if num Z' R' s=0 then 1 else 0)+_=(if num Z R s=0 then 1 else 0)+_
  rw [h s (List.mem_cons_self ..),miss_congr fun x hx=>h x (List.mem_cons_of_mem _ hx)]
theorem chain_nS : ∀ {l:List Nat} {o:Option Nat},Chain o l→∀ s ∈ l,s<nS
 | [],_,_,s,h=>by cases h
 | x::r,_,c,s,h=>by
  rcases List.mem_cons.mp h with rfl|h
  ·exact c.1
  ·exact chain_nS c.2.2.2 s h
def From_ (n:Nat) (Z:Nat→Txt) (nx:Nat):Prop:=∀ j,isFree n Z j=true↔nx≤j∧j<n
structure Added (n:Nat) (Z:Nat→Txt) (R:List Int) (o:Option Nat) (l:List Nat) (Z':Nat→Txt) (R':List Int):Prop where
 w:Wf n Z' R'
 off:∀ s,s<nS→s ∉ l→num Z' R' s=num Z R s
 old:∀ s ∈ l,num Z R s≠0→num Z' R' s=num Z R s
 got:∀ s ∈ l,num Z' R' s≠0
 bits:∀ j,j<n→bit Z j=true→bit Z' j=true
 many:many Z' R'=many Z R+miss Z R l
 frees:frees n Z=frees n Z'+miss Z R l
 head:∀ i,i<3→R'.getD i 0=R.getD i 0
 cont:∀ b,b<n→(geoN n).inodes≤b→(b<(geoN n).data∨bit Z b=true)→(∀ q ∈ l,b≠num Z' R' q)→(∀ q,o=some q→b≠num Z R q)→Z' b=Z b
 zero:∀ s ∈ l,s<16522→num Z R s=0→Z' (num Z' R' s)=zeros
 low:∀ nx,From_ n Z nx→From_ n Z' (nx+miss Z R l)∧∀ i (h:i<l.length),num Z R l[i]=0→num Z' R' l[i]=nx+miss Z R (l.take i)
 same:miss Z R l=0→Z'=Z∧R'=R
 ex:∀ j,j<n→bit Z' j=true→bit Z j=true∨∃ s,s ∈ l∧num Z R s=0∧num Z' R' s=j
 new:∀ s ∈ l,num Z R s=0→bit Z (num Z' R' s)=false
theorem Added.nil {n:Nat} {Z:Nat→Txt} {R:List Int} (w:Wf n Z R) (o:Option Nat):Added n Z R o [] Z R :=
 ⟨w,fun _ _ _=>rfl,fun s h=>(by cases h),fun s h=>(by cases h),fun _ _ h=>h,(Nat.add_zero _).symm,(Nat.add_zero _).symm,fun _ _=>rfl,fun _ _ _ _ _ _=>rfl,fun s h=>(by cases h),fun nx h=>⟨h,fun i h=>(by cases h)⟩,fun _=>⟨rfl,rfl⟩,fun _ _ h => .inl h,fun s h=>(by cases h)⟩
theorem From_.take {n m nx:Nat} {Z Z':Nat→Txt} (h:From_ n Z nx) (hm:isFree n Z m=true) (hl:∀ k,k<m→isFree n Z k=false) (hb:∀ j,j<n→bit Z' j=if j=m then true else bit Z j):m=nx∧From_ n Z' (nx+1):=by
 have h1:=(h m).mp hm
 have e:m=nx:=by
  rcases Nat.lt_or_ge nx m with y|y
  ·have:=(h nx).mpr ⟨Nat.le_refl _,by omega⟩
   rw [hl nx y] at this; cases this
  ·omega
 refine ⟨e,fun j=>?_⟩
 rw [isFree_iff]
 have hj:=h j
 rw [isFree_iff] at hj
 constructor
 ·rintro ⟨a,b,c⟩
  rw [hb j b] at c
  by_cases hjm:j=m
  ·rw [if_pos hjm] at c; cases c
  ·rw [if_neg hjm] at c
   have:=hj.mp ⟨a,b,c⟩
   omega
 ·rintro ⟨a,b⟩
  obtain ⟨x,y,z⟩:=hj.mpr ⟨by omega,b⟩
  refine ⟨x,y,?_⟩
  rw [hb j b,if_neg (by omega)]; exact z
theorem Added.skip {n:Nat} {Z Z':Nat→Txt} {R R':List Int} {s:Nat} {r:List Nat} {o:Option Nat} (a:Added n Z R (some s) r Z' R') (hs:s<nS) (hn:s ∉ r) (h0:num Z R s≠0):Added n Z R o (s::r) Z' R':=by
 have em:miss Z R (s::r)=miss Z R r:=by show (if num Z R s=0 then 1 else 0)+_=_; rw [if_neg h0]; omega
 have eo:=a.off s hs hn
 refine ⟨a.w,fun x hx hxn=>a.off x hx fun h=>hxn (List.mem_cons_of_mem _ h),fun x hx h=>?_,fun x hx=>?_,a.bits,by rw [em]; exact a.many,by rw [em]; exact a.frees,a.head,fun b h1 h2 h3 h4 _=>a.cont b h1 h2 h3 (fun q hq=>h4 q (List.mem_cons_of_mem _ hq)) fun q e=>?_,fun x hx h1 h2=>?_,fun nx h=>⟨by rw [em]; exact (a.low nx h).1,fun i hi hz=>?_⟩,by rw [em]; exact a.same,fun j hj h=>(a.ex j hj h).imp id fun ⟨x,hx,h1,h2⟩=>⟨x,List.mem_cons_of_mem _ hx,h1,h2⟩,fun x hx h1=>(List.mem_cons.mp hx).elim (fun e=>absurd (e▸h1) h0) fun hx=>a.new x hx h1⟩
 ·rcases List.mem_cons.mp hx with rfl|hx
  ·exact eo
  ·exact a.old x hx h
 ·rcases List.mem_cons.mp hx with rfl|hx
  ·rw [eo]; exact h0
  ·exact a.got x hx
 ·cases e
  have:=h4 s (List.mem_cons_self ..)
  rw [eo] at this; exact this
 ·rcases List.mem_cons.mp hx with rfl|hx
  ·exact absurd h2 h0
  ·exact a.zero x hx h1 h2
 ·cases i with
  | zero=>exact absurd hz h0
  | succ i =>
   rw [List.getElem_cons_succ] at hz ⊢
   rw [(a.low nx h).2 i (by rw [List.length_cons] at hi; omega) hz,List.take_succ_cons]
   show _=nx+((if num Z R s=0 then 1 else 0)+miss Z R (r.take i))
   rw [if_neg h0,Nat.zero_add]
theorem fillR_head {R:List Int} (s m:Nat) (hl:R.length=15):∀ i,i<3→(fillR R s m).getD i 0=R.getD i 0:=fun i hi=>by
 unfold fillR
 split
 ·unfold setRoot
  split
  ·exact (getD_set _ _ _ _ _ (by omega)).trans (if_neg (by omega))
  ·split
   ·exact (getD_set _ _ _ _ _ (by omega)).trans (if_neg (by omega))
   ·exact (getD_set _ _ _ _ _ (by omega)).trans (if_neg (by omega))
 ·rfl
theorem Added.step {n m:Nat} {Z Z':Nat→Txt} {R R':List Int} {s:Nat} {r:List Nat} {o:Option Nat} (d:Dim n) (hl:∀ k,k<n→(Z k).length=512) (w:Wf n Z R) (c:Chain o (s::r)) (h0:num Z R s=0) (ho:∀ q,o=some q→q<nS∧num Z R q≠0) (hf:isFree n Z m=true) (hlow:∀ k,k<m→isFree n Z k=false)
  (a:Added n (fillZ Z R s m) (fillR R s m) (some s) r Z' R'):Added n Z R o (s::r) Z' R':=by
 obtain ⟨hs,hpo,hn,c'⟩:=c
 have hp:∀ q p,par s=some (q,p)→o=some q∧num Z R q≠0:=fun q p e=>by
  cases o with
  | none =>
   have hpo:par s=none:=hpo
   rw [hpo] at e; cases e
  | some q' =>
   obtain ⟨p',hpo⟩:=hpo
   rw [hpo] at e; cases e
   exact ⟨rfl,(ho _ rfl).2⟩
 obtain ⟨f1,f2,f3⟩:=isFree_iff.mp hf
 have hd:=d.data
 obtain ⟨N1,W1⟩:=Wf.fill d hl w hs h0 (fun q p e=>(hp q p e).2) hf
 obtain ⟨b1,b2,b3⟩:=fillZ_at d hl w hs (fun q p e=>(hp q p e).2) hf
 have ne:∀ x ∈ r,x≠s:=fun x hx e=>hn (e▸hx)
 have rn:∀ x ∈ r,x<nS:=chain_nS c'
 have Nr:∀ x ∈ r,num (fillZ Z R s m) (fillR R s m) x=num Z R x:=fun x hx=>by rw [N1 x (rn x hx),if_neg (ne x hx)]
 have mr:∀ l:List Nat,(∀ x ∈ l,x ∈ r)→miss (fillZ Z R s m) (fillR R s m) l=miss Z R l:=fun l h=>miss_congr fun x hx=>Nr x (h x hx)
 have ms:miss Z R (s::r)=1+miss Z R r:=by show (if num Z R s=0 then 1 else 0)+_=_; rw [if_pos h0]
 have es:num Z' R' s=m:=by rw [a.off s hs hn,N1 s hs,if_pos rfl]
 refine ⟨a.w,fun x hx hxn=>?_,fun x hx h=>?_,fun x hx=>?_,fun j hj h=>a.bits j hj (by rw [b1 j hj]; split <;> first|rfl|exact h),?_,?_,fun i hi=>(a.head i hi).trans (fillR_head s m w.rl i hi),fun b h1 h2 h3 h4 h5=>?_,fun x hx h1 h2=>?_,fun nx h=>?_,fun h=>by omega,fun j hj h=>?_,fun x hx h1=>?_⟩
 ·rw [a.off x hx fun h=>hxn (List.mem_cons_of_mem _ h),N1 x hx,if_neg (fun e:x=s=>hxn (by rw [e]; exact List.mem_cons_self ..))]
 ·rcases List.mem_cons.mp hx with rfl|hx
  ·exact absurd h0 h
  ·rw [a.old x hx (by rw [Nr x hx]; exact h),Nr x hx]
 ·rcases List.mem_cons.mp hx with rfl|hx
  ·rw [es]; omega
  ·exact a.got x hx
 ·have q1:=many_fill (show m≠0 by omega) hs h0 N1
  have q2:=a.many
  rw [mr r fun _ h=>h] at q2
  omega
 ·have q1:=frees_bits f1 f2 f3 b1
  have q2:=a.frees
  rw [mr r fun _ h=>h] at q2
  omega
 ·have hbm:b≠m:=fun e=>h4 s (List.mem_cons_self ..) (by rw [es]; exact e)
  have e1:fillZ Z R s m b=Z b:=b3 b h2 hbm fun q p e=>h5 q (hp q p e).1
  rw [← e1]
  refine a.cont b h1 h2 (h3.imp id fun y=>?_) (fun q hq=>h4 q (List.mem_cons_of_mem _ hq)) fun q e=>?_
  ·rw [b1 b h1]; split
   ·rfl
   ·exact y
  ·cases e
   rw [N1 s hs,if_pos rfl]; exact hbm
 ·rcases List.mem_cons.mp hx with rfl|hx
  ·have er:r=[]:=by
    cases r with
    | nil=>rfl
    | cons y r =>
     obtain ⟨hy,⟨p,e⟩,_⟩:=c'
     have:=(par_ne e hy).2.2
     omega
   subst er
   obtain ⟨e1,e2⟩:=a.same rfl
   rw [es,e1]; exact b2
  ·exact a.zero x hx h1 (by rw [Nr x hx]; exact h2)
 ·obtain ⟨e1,h'⟩:=h.take hf hlow b1
  obtain ⟨q1,q2⟩:=a.low (nx+1) h'
  refine ⟨?_,fun i hi hz=>?_⟩
  ·rw [mr r fun _ h=>h] at q1
   rw [ms,show nx+(1+miss Z R r)=nx+1+miss Z R r by omega]; exact q1
  ·cases i with
   | zero =>
    show num Z' R' s=nx+0
    rw [es,e1]; rfl
   | succ i =>
    have hi':i<r.length:=by rw [List.length_cons] at hi; omega
    rw [List.getElem_cons_succ] at hz ⊢
    rw [q2 i hi' (by rw [Nr _ (List.getElem_mem hi')]; exact hz),List.take_succ_cons,mr (r.take i) fun x hx=>List.mem_of_mem_take hx]
    show _=nx+((if num Z R s=0 then 1 else 0)+miss Z R (r.take i))
    rw [if_pos h0]; omega
 ·rcases a.ex j hj h with h|⟨x,hx,h1,h2⟩
  ·rw [b1 j hj] at h
   by_cases e:j=m
   ·exact .inr ⟨s,List.mem_cons_self ..,h0,by rw [es,e]⟩
   ·rw [if_neg e] at h; exact .inl h
  ·exact .inr ⟨x,List.mem_cons_of_mem _ hx,by rw [← Nr x hx]; exact h1,h2⟩
 ·rcases List.mem_cons.mp hx with rfl|hx
  ·rw [es]; exact f3
  ·have hb:=a.new x hx (by rw [Nr x hx]; exact h1)
   have hr:=a.w.rng x (rn x hx) (a.got x hx)
   rw [b1 _ hr.2.1] at hb
   by_cases e:num Z' R' x=m
   ·rw [if_pos e] at hb; cases hb
   ·rw [if_neg e] at hb; exact hb
theorem setM_root {T:TM} {R:List Int} {s:Nat} {a:Int} {b:Txt} {m:Nat} (h:par s=none):setM T R (stepOf s) a b m=((T,fillR R s m),0):=by
 rcases par_none h with h1|rfl|rfl
 ·have es:stepOf s=(0,s):=by unfold stepOf; rw [if_pos h1]
  have ef:fillR R s m=R.set (3+s) m:=by unfold fillR setRoot; rw [h]; simp only [if_pos h1]
  rw [es,ef]; rfl
 ·rfl
 ·rfl
theorem keys_le {l m k:List Int} (h:m.Nodup) (hs:∀ x ∈ m,x ∈ k∨x ∈ l):m.length≤k.length+l.length:=by
 have:=nodup_len (l:=m) (m:=k++l) h fun x hx=>List.mem_append.mpr (hs x hx)
 rw [List.length_append] at this
 exact this
inductive AddR (n:Nat) (Z:Nat→Txt) (T:TM) (R:List Int) (o:Option Nat) (l:List Nat) (res:(TM×List Int)×Int×Int):Prop where
 | ok (Z':Nat→Txt):res.2=(at_ Z' res.1.2 (match l.getLast? with|none=>o|some s=>some s),0)→Av n Z' res.1.1→Added n Z R o l Z' res.1.2→(miss Z R l=0→res.1.1=T)→(∀ x ∈ ks res.1.1,x ∈ ks T∨x<(geoN n).inodes∨(∃ s ∈ l,x=(num Z' res.1.2 s:Nat))∨∃ q,o=some q∧x=(num Z R q:Nat))→((∀ x ∈ ks T,x ∈ ks res.1.1)∧∀ s ∈ l,num Z R s=0→((num Z' res.1.2 s:Nat):Int) ∈ ks res.1.1)→AddR n Z T R o l res
 | full:res.2=(0,60)→96≤(ks T).length+3*l.length→AddR n Z T R o l res
 | none_:res.2=(0,90)→frees n Z<miss Z R l→AddR n Z T R o l res
theorem walkA_ok {n:Nat} (d:Dim n):∀ (l:List Nat) (o:Option Nat) (Z:Nat→Txt) (T T0:TM) (R:List Int),Av n Z T→Wf n Z R→Chain o l→(∀ q,o=some q→q<nS∧num Z R q≠0)→Ext T0 T →
  AddR n Z T R o l (walkA (geoN n) (l.map stepOf) T R (at_ Z R o))∧Ext T0 (walkA (geoN n) (l.map stepOf) T R (at_ Z R o)).1.1
 | [],o,Z,T,T0,R,a,w,_,_,ex=>⟨.ok Z rfl a (Added.nil w o) (fun _=>rfl) (fun x hx => .inl hx) ⟨fun x hx=>hx,fun s hs=>by cases hs⟩,ex⟩
 | s::r,o,Z,T,T0,R,a,w,c,ho,ex=>by
  have e:=step_num a w c ho
  have c0:=c
  obtain ⟨hs,hpo,hn,c'⟩:=c
  show AddR n Z T R o (s::r) (walkA (geoN n) (stepOf s::r.map stepOf) T R (at_ Z R o))∧Ext T0 (walkA (geoN n) (stepOf s::r.map stepOf) T R (at_ Z R o)).1.1
  unfold walkA
  rw [e]
  simp only
  rw [if_neg (fun y=>y rfl)]
  have last:∀ {Z':Nat→Txt} {R':List Int},at_ Z' R' (match r.getLast? with|none=>some s|some s=>some s)=at_ Z' R' (match (s::r).getLast? with|none=>o|some s=>some s):=fun {Z' R'}=>by
   cases r with
   | nil=>rfl
   | cons y r =>
    rw [List.getLast?_cons_cons]
    cases hg:(y::r).getLast? with
    | none=>rw [List.getLast?_eq_none_iff] at hg; cases hg
    | some x=>rfl
  have hd:=d.data
  by_cases h0:num Z R s=0
  ·rw [if_neg (by omega)]
   rcases a.taken d with ⟨m,hm,hl,et⟩|⟨hno,et⟩
   ·obtain ⟨f1,f2,f3⟩:=isFree_iff.mp hm
    have hmi:=(d.map f2).2.2.1
    rw [et]
    rcases a.take d f1 f2 with ⟨e1,a1,k1⟩|⟨e1,h95⟩
    ·have ex1:=takeAt_ext ex (geoN n) m
     have e11:(takeAt T (geoN n) m).2.1=m:=by rw [e1]
     have e12:(takeAt T (geoN n) m).2.2=0:=by rw [e1]
     rw [e12,e11,if_neg (fun y=>y rfl)]
     have hlen:=a.len
     -- what follows, once the number stands
     have go:∀ (T2:TM),Av n (fillZ Z R s m) T2→Ext T0 T2→(∀ x ∈ ks T2,x ∈ ks T∨x<(geoN n).inodes∨x=(m:Nat)∨∃ q,o=some q∧x=(num Z R q:Nat))→(∀ x ∈ ks T,x ∈ ks T2)∧((m:Nat):Int) ∈ ks T2→(ks T2).length≤(ks T).length+3→(∀ q p,par s=some (q,p)→num Z R q≠0) →
       AddR n Z T R o (s::r) (walkA (geoN n) (r.map stepOf) T2 (fillR R s m) m)∧Ext T0 (walkA (geoN n) (r.map stepOf) T2 (fillR R s m) m).1.1:=by
      intro T2 a2 ex2 k2 lw l2 hp
      obtain ⟨N1,W1⟩:=Wf.fill d hlen w hs h0 hp hm
      obtain ⟨b1,b2,b3⟩:=fillZ_at d hlen w hs hp hm
      have ih:=walkA_ok d r (some s) (fillZ Z R s m) T2 T0 (fillR R s m) a2 W1 c' (fun q e=>by cases e; exact ⟨hs,by rw [N1 s hs,if_pos rfl]; omega⟩) ex2
      have ea:at_ (fillZ Z R s m) (fillR R s m) (some s)=(m:Int):=by show ((num _ _ s:Nat):Int)=_; rw [N1 s hs,if_pos rfl]
      rw [ea] at ih
      refine ⟨?_,ih.2⟩
      have rn:∀ x ∈ r,x<nS:=chain_nS c'
      have mr:miss (fillZ Z R s m) (fillR R s m) r=miss Z R r:=miss_congr fun x hx=>by rw [N1 x (rn x hx),if_neg fun e:x=s=>hn (by rw [← e]; exact hx)]
      have ms:miss Z R (s::r)=1+miss Z R r:=by show (if num Z R s=0 then 1 else 0)+_=_; rw [if_pos h0]
      rcases ih.1 with ⟨Z',e',a',ad,_,kk,lk1,lk2⟩|⟨e',h96⟩|⟨e',hfr⟩
      ·have AD:=ad.step d hlen w c0 h0 ho hm hl
       refine .ok Z' (by rw [e',last]) a' AD (fun y=>by omega) (fun x hx=>?_) ⟨fun x hx=>lk1 x (lw.1 x hx),fun x hx h0x=>?_⟩
       ·rcases kk x hx with h|h|⟨s',h1,h2⟩|⟨q,h1,h2⟩
        ·rcases k2 x h with h|h|h|h
         ·exact .inl h
         ·exact .inr (.inl h)
         ·exact .inr (.inr (.inl ⟨s,List.mem_cons_self ..,by rw [h,ad.off s hs hn,N1 s hs,if_pos rfl]⟩))
         ·exact .inr (.inr (.inr h))
        ·exact .inr (.inl h)
        ·exact .inr (.inr (.inl ⟨s',List.mem_cons_of_mem _ h1,h2⟩))
        ·cases h1
         exact .inr (.inr (.inl ⟨s,List.mem_cons_self ..,by rw [h2,ad.off s hs hn]⟩))
       ·rcases List.mem_cons.mp hx with rfl|hx
        ·rw [ad.off _ hs hn,N1 _ hs,if_pos rfl]
         exact lk1 _ lw.2
        ·exact lk2 x hx (by rw [N1 x (rn x hx),if_neg fun e:x=s=>hn (by rw [← e]; exact hx)]; exact h0x)
      ·exact .full e' (by rw [List.length_cons]; omega)
      ·refine .none_ e' ?_
       rw [frees_bits f1 f2 f3 b1,ms,← mr]; omega
     have lk:=look_ok (n:=n) f1 f2
     cases o with
     | none =>
      have hpo:par s=none:=hpo
      have ez:fillZ Z R s m=takeZ Z m:=by simp only [fillZ,hpo]
      rw [setM_root hpo,if_neg (fun y=>y rfl),if_neg (by omega),lk,if_neg (fun y=>y rfl)]
      refine go _ (by rw [ez]; exact a1) ex1 (fun x hx=>?_) ⟨fun x hx=>(k1 x).mpr (.inl hx),(k1 _).mpr (.inr (.inr rfl))⟩ ?_ fun q p e=>by rw [hpo] at e; cases e
      ·rcases (k1 x).mp hx with h|h|h
       ·exact .inl h
       ·exact .inr (.inl (by have:=d.map f2; omega))
       ·exact .inr (.inr (.inl h))
      ·have:=Bm.keys_le (l:=[((98+m / 4096:Nat):Int),(m:Int)]) a1.keys fun x hx=>by
        rcases (k1 x).mp hx with h|h|h
        ·exact .inl h
        ·exact .inr (by rw [h]; simp)
        ·exact .inr (by rw [h]; simp)
       exact Nat.le_trans this (by show _+2≤_; omega)
     | some q =>
      obtain ⟨p,hp⟩:=hpo
      obtain ⟨hq,hq0⟩:=ho q rfl
      have ru:=w.rng q hq hq0
      have hqm:num Z R q≠m:=fun y=>by have:=ru.2.2; rw [y,f3] at this; cases this
      have pp:=(par_up hp hs).1
      have hqd:=(d.map ru.2.1).2.2.1
      have ez:fillZ Z R s m=up (takeZ Z m) (num Z R q) (set4 (Z (num Z R q)) p m):=by simp only [fillZ,hp]
      have er:fillR R s m=R:=by simp only [fillR,hp]
      have es:setM (takeAt T (geoN n) m).1 R (stepOf s) (at_ Z R (some q)) (tabO Z R (some q)) m=((((takeAt T (geoN n) m).1.write (num Z R q:Nat) (set4 (Z (num Z R q)) p m)).1,R),((takeAt T (geoN n) m).1.write (num Z R q:Nat) (set4 (Z (num Z R q)) p m)).2):=by
       rw [stepOf_table hp hs]; rfl
      rw [es]
      simp only
      have l5:=set4_length (v:=m) (a.len _ ru.2.1) pp
      rcases a1.write_full (i:=num Z R q) (bs:=set4 (Z (num Z R q)) p m) (by omega) ru.2.1 l5 with h|⟨h,h96,_⟩
      ·rw [if_neg (fun y=>y h),if_neg (by omega),lk,if_neg (fun y=>y rfl)]
       have k3:=write_keys h
       have a2:=a1.write (by omega) ru.2.1 l5 h
       have kall:∀ x ∈ ks ((takeAt T (geoN n) m).1.write (num Z R q:Nat) (set4 (Z (num Z R q)) p m)).1,x ∈ ks T∨x=((98+m / 4096:Nat):Int)∨x=(m:Nat)∨x=(num Z R q:Nat):=fun x hx=>by
        rcases (k3 x).mp hx with hx|hx
        ·rcases (k1 x).mp hx with h|h|h
         ·exact .inl h
         ·exact .inr (.inl h)
         ·exact .inr (.inr (.inl h))
        ·exact .inr (.inr (.inr hx))
       have G:=go _ (by rw [ez]; exact a2) (ex1.write _ _) (fun x hx=>by
        rcases kall x hx with h|h|h|h
        ·exact .inl h
        ·exact .inr (.inl (by have:=d.map f2; omega))
        ·exact .inr (.inr (.inl h))
        ·exact .inr (.inr (.inr ⟨q,rfl,h⟩))) ⟨fun x hx=>(k3 x).mpr (.inl ((k1 x).mpr (.inl hx))),(k3 _).mpr (.inl ((k1 _).mpr (.inr (.inr rfl))))⟩ (by
        have:=Bm.keys_le (l:=[((98+m / 4096:Nat):Int),(m:Int),(num Z R q:Int)]) a2.keys fun x hx=>by
         rcases kall x hx with h|h|h|h
         ·exact .inl h
         ·exact .inr (by rw [h]; simp)
         ·exact .inr (by rw [h]; simp)
         ·exact .inr (by rw [h]; simp)
        exact this) fun q' p' e=>by rw [hp] at e; cases e; exact hq0
       rw [er] at G
       exact G
      ·rw [h,if_pos (show (60:Int)≠0 by decide)]
       refine ⟨.full rfl ?_,ex1⟩
       have:=Bm.keys_le (l:=[((98+m / 4096:Nat):Int),(m:Int)]) a1.keys fun x hx=>by
        rcases (k1 x).mp hx with h|h|h
        ·exact .inl h
        ·exact .inr (by rw [h]; simp)
        ·exact .inr (by rw [h]; simp)
       have:(ks (takeAt T (geoN n) m).1).length≤(ks T).length+2:=this
       rw [List.length_cons]; omega
    ·rw [e1,if_pos (show (60:Int)≠0 by decide)]
     exact ⟨.full rfl (by rw [List.length_cons]; omega),ex⟩
   ·rw [et,if_pos (show (90:Int)≠0 by decide)]
    refine ⟨.none_ rfl ?_,ex⟩
    have:frees n Z=0:=cnt_zero fun j _=>hno j
    show frees n Z<(if num Z R s=0 then 1 else 0)+_
    rw [if_pos h0]; omega
  ·have ru:=w.rng s hs h0
   rw [if_pos (by omega),look_ok ru.1 ru.2.1,if_neg (fun y=>y rfl)]
   obtain ⟨ih,ex'⟩:=walkA_ok d r (some s) Z T T0 R a w c' (fun q e=>by cases e; exact ⟨hs,h0⟩) ex
   have ea:at_ Z R (some s)=((num Z R s:Nat):Int):=rfl
   rw [ea] at ih ex'
   refine ⟨?_,ex'⟩
   have em:miss Z R (s::r)=miss Z R r:=by show (if num Z R s=0 then 1 else 0)+_=_; rw [if_neg h0]; omega
   rcases ih with ⟨Z',e',a',ad,sm,kk,lk1,lk2⟩|⟨e',h96⟩|⟨e',hfr⟩
   ·refine .ok Z' (by rw [e',last]) a' (ad.skip hs hn h0) (by rw [em]; exact sm) (fun x hx=>?_) ⟨lk1,fun x hx h0x=>(List.mem_cons.mp hx).elim (fun e=>absurd (e▸h0x) h0) fun hx=>lk2 x hx h0x⟩
    rcases kk x hx with h|h|⟨s',h1,h2⟩|⟨q,h1,h2⟩
    ·exact .inl h
    ·exact .inr (.inl h)
    ·exact .inr (.inr (.inl ⟨s',List.mem_cons_of_mem _ h1,h2⟩))
    ·cases h1
     exact .inr (.inr (.inl ⟨s,List.mem_cons_self ..,by rw [h2,ad.off s hs hn]⟩))
   ·exact .full e' (by rw [List.length_cons]; omega)
   ·exact .none_ e' (by rw [em]; exact hfr)
end Go.Proofs.YtiapingedfnlnaaGreatDoor.Bm
namespace Go.Proofs.YtiapingedfnlnaaGreatDoor.Bm
open Go Go.Proofs Wx Hp W Ad Tm Spc Re Av
open Hd (ints wrap_u64)
open In (Glo ints_length ints_one)
def stV (s:Nat×Nat):List Value:=[.int .i64 s.1,.int .i64 s.2]
def fileV (t:Option Addr) (g:G) (R:List Int):List Value := .pointer t::(g.v++ints R)
theorem fileV_get {t:Option Addr} {g:G} {R:List Int} {i:Nat} (hi:i<R.length):(fileV t g R)[6+i]?=some (.int .i64 (R.getD i 0)):=by
 rw [Nat.add_comm 6 i]
 show (ints R)[i]?=_
 rw [ints,List.getElem?_map,List.getD_eq_getElem?_getD,List.getElem?_eq_getElem hi]; rfl
theorem fileV_set (t:Option Addr) (g:G) (R:List Int) (i:Nat) (v:Int):(fileV t g R).set (6+i) (.int .i64 v)=fileV t g (R.set i v):=by
 rw [Nat.add_comm 6 i]
 show .pointer t :: .int .i64 g.blocks :: .int .i64 g.bitmap :: .int .i64 g.inodes :: .int .i64 g.data :: .int .i64 g.count::(ints R).set i (.int .i64 v)=_
 have e:ints (R.set i v)=(ints R).set i (.int .i64 v):=by rw [ints,ints,List.map_set]
 unfold fileV; rw [e]; rfl
theorem fileV_len {t:Option Addr} {g:G} {R:List Int} (h:R.length=15):(fileV t g R).length=21:=by
 unfold fileV; rw [List.length_cons,List.length_append,ints_length,h]; rfl
theorem cell2 {h:Heap} {b i j:Nat} {xs:List Value} {v:Value} (e:rd h b=xs) (hv:xs[i+j]?=some v):cellOf h (Addr.add (Addr.add ⟨b,0,none⟩ i) j)=some v:=by
 rw [add_mk,add_mk,cellOf_rd,e,Nat.zero_add]; exact hv
theorem look_spec {h:Heap} {fb:Nat} {t:Option Addr} {g:G} {R:List Int} {v:Int} {K:Value→Heap→Prop} (e:rd h fb=fileV t g R) (hK:K (.int .i64 (lookM g v)) h):C.bmap_file_look (some ⟨fb,0,none⟩) v h K:=by
 refine bmap_file_look.ok (os ⟨g.data,cell2 e rfl,cd (fun y=>?_) fun y=>os ⟨g.blocks,cell2 e rfl,cd (fun y2=>?_) fun y2=>?_⟩⟩)
 ·have:lookM g v=100:=by unfold lookM; rw [if_pos (.inl y)]
  rw [this] at hK; exact hK
 ·have:lookM g v=100:=by unfold lookM; rw [if_pos (.inr y2)]
  rw [this] at hK; exact hK
 ·have:lookM g v=0:=by unfold lookM; rw [if_neg (by omega)]
  rw [this] at hK; exact hK
theorem way_spec {k:Int} {h:Heap} {K:Value→Heap→Prop} (h0:0≤k) (h1:k<16522)
  (hK:∀ h',Fr No h h'→h.size<h'.size→rd h' h.size=(wayM k.toNat).flatMap stV→K (.slice (some ⟨h.size,0,none⟩) (wayM k.toNat).length (wayM k.toNat).length) h'):C.bmap_way k h K:=by
 have cast:((k.toNat:Nat):Int)=k:=by omega
 refine bmap_way.ok (cd (fun y=>⟨rfl,New.intro fun h2 n2=>?_⟩) fun y=>cd (fun y2=>⟨rfl,rfl,New.intro fun h2 n2=>?_⟩) fun y2=>⟨rfl,rfl,rfl,New.intro fun h2 n2=>?_⟩)
 ·have e:wayM k.toNat=[(0,k.toNat)]:=by unfold wayM; rw [if_pos (by omega)]
  rw [e] at hK
  refine hK h2 n2.fr n2.own.lt (n2.rd.trans ?_)
  show _=[Value.int .i64 ((0:Nat):Int),.int .i64 ((k.toNat:Nat):Int)]
  rw [cast]; rfl
 ·have e:wayM k.toNat=[(1,0),(3,k.toNat - 10)]:=by unfold wayM; rw [if_neg (by omega),if_pos (by omega)]
  rw [e] at hK
  refine hK h2 n2.fr n2.own.lt (n2.rd.trans ?_)
  show _=[Value.int .i64 ((1:Nat):Int),.int .i64 ((0:Nat):Int),.int .i64 ((3:Nat):Int),.int .i64 ((k.toNat - 10:Nat):Int)]
  rw [wrap_i64 (by omega) (by omega),show ((k.toNat - 10:Nat):Int)=k - 10 by omega]; rfl
 ·have e:wayM k.toNat=[(2,0),(3,(k.toNat - 138) / 128),(3,(k.toNat - 138) % 128)]:=by unfold wayM; rw [if_neg (by omega),if_neg (by omega)]
  rw [e] at hK
  refine hK h2 n2.fr n2.own.lt (n2.rd.trans ?_)
  show _=[Value.int .i64 ((2:Nat):Int),.int .i64 ((0:Nat):Int),.int .i64 ((3:Nat):Int),.int .i64 (((k.toNat - 138) / 128:Nat):Int),.int .i64 ((3:Nat):Int),.int .i64 (((k.toNat - 138) % 128:Nat):Int)]
  have e1:Int.tdiv (k - 138) 128=(((k.toNat - 138) / 128:Nat):Int):=by rw [Int.tdiv_eq_ediv_of_nonneg (by omega)]; omega
  have e2:Int.tmod (k - 138) 128=(((k.toNat - 138) % 128:Nat):Int):=by rw [Int.tmod_eq_emod_of_nonneg (by omega)]; omega
  rw [wrap_i64 (n:=k - 138) (by omega) (by omega),e1,e2,wrap_i64 (by omega) (by omega)]; rfl
def StOk (s:Nat×Nat):Prop:=s.1=0∧s.2<10∨s.1=1∨s.1=2∨s.1=3∧s.2<128
theorem wayM_ok {k:Nat} (h:k<16522):∀ s ∈ wayM k,StOk s:=by
 unfold wayM StOk
 intro s hs
 split at hs
 ·simp at hs; subst hs; exact .inl ⟨rfl,by assumption⟩
 ·split at hs
  ·simp at hs; rcases hs with rfl|rfl
   ·exact .inr (.inl rfl)
   ·exact .inr (.inr (.inr ⟨rfl,by simp only; omega⟩))
  ·simp at hs; rcases hs with rfl|rfl|rfl
   ·exact .inr (.inr (.inl rfl))
   ·exact .inr (.inr (.inr ⟨rfl,by simp only; omega⟩))
   ·exact .inr (.inr (.inr ⟨rfl,by simp only; omega⟩))
def ownI (s:Nat×Nat):Nat:=if s.1=0 then 3+s.2 else if s.1=1 then 13 else 14
theorem ownI_lt {s:Nat×Nat} (hs:StOk s):ownI s<15:=by
 unfold ownI
 rcases hs with ⟨h1,h2⟩|h1|h1|⟨h1,_⟩
 ·rw [if_pos h1]; omega
 ·rw [if_neg (by omega),if_pos h1]; decide
 ·rw [if_neg (by omega),if_neg (by omega)]; decide
 ·rw [if_neg (by omega),if_neg (by omega)]; decide
theorem own_spec {h:Heap} {fb:Nat} {s:Nat×Nat} {K:Value→Heap→Prop} (hs:StOk s) (hK:∀ h',Fr No h h'→K (.pointer (some ⟨fb,6+ownI s,none⟩)) h'):C.bmap_file_own (some ⟨fb,0,none⟩) (stV s) h K:=by
 refine bmap_file_own.ok (New.intro fun h2 n2=>⟨_,rda n2.rd rfl,ce (fun y=>⟨_,rda n2.rd rfl,os ⟨⟨by omega,?_⟩,?_⟩⟩) fun y=>ce (fun y2=>os ?_) fun y2=>os ?_⟩)
 ·rcases hs with ⟨_,h2⟩|h1|h1|⟨h1,_⟩ <;> omega
 ·have e:ownI s=3+s.2:=by unfold ownI; rw [if_pos (by omega)]
  have hK:=hK h2 n2.fr
  rw [add_mk,add_mk,add_mk,Int.toNat_natCast]
  rw [e] at hK
  rw [show 0+6+3+s.2=6+(3+s.2) by omega]; exact hK
 ·have e:ownI s=13:=by unfold ownI; rw [if_neg (by omega),if_pos (by omega)]
  have hK:=hK h2 n2.fr
  rw [e] at hK
  rw [add_mk,add_mk]; exact hK
 ·have e:ownI s=14:=by unfold ownI; rw [if_neg (by omega),if_neg (by omega)]
  have hK:=hK h2 n2.fr
  rw [e] at hK
  rw [add_mk,add_mk]; exact hK
theorem numM_own {T:TM} {R:List Int} {s:Nat×Nat} {a:Int} (hs:StOk s) (h:s.1≠3):numM T R s a=(R.getD (ownI s) 0,[],0):=by
 unfold numM ownI
 rcases hs with ⟨h1,_⟩|h1|h1|⟨h1,_⟩
 ·rw [if_pos h1,if_pos h1]
 ·rw [if_neg (by omega),if_pos h1,if_neg (by omega),if_pos h1]
 ·rw [if_neg (by omega),if_neg (by omega),if_pos h1,if_neg (by omega),if_neg (by omega)]
 ·exact absurd h1 h
theorem numM_t {T:TM} {R:List Int} {s:Nat×Nat} {a:Int} (h:s.1=3):numM T R s a=if (T.read a).2≠0 then ((0:Int),([]:Txt),(T.read a).2) else (((num4 (T.read a).1 s.2:Nat):Int),(T.read a).1,(0:Int)):=by
 unfold numM
 rw [if_neg (by omega),if_neg (by omega),if_neg (by omega)]
theorem number_spec {h:Heap} {F:Nat→Prop} {t d:Option Addr} {T:TM} {g:G} {R:List Int} {fb:Nat} {s:Nat×Nat} {a:Int} {K:Value→Heap→Prop} (gl:In.Glo h) (x:Tx h F t d T) (e:rd h fb=fileV t g R) (hR:R.length=15) (hs:StOk s)
  (hK:∀ sa sl sc h',Fr No h h'→sl=(numM T R s a).2.1.length→Sl h' 1 sa sl sc ((numM T R s a).2.1.map bv) (From h.size)→K (.tuple #[.int .i64 (numM T R s a).1,.slice sa sl sc,.int .i64 (numM T R s a).2.2]) h'):C.bmap_file_number (some ⟨fb,0,none⟩) (stV s) a h K:=by
 have fl:fb<h.size:=rd_lt (o:=0) (by rw [e]; rfl)
 refine bmap_file_number.ok (New.intro fun h2 n2=>⟨_,rda n2.rd rfl,cn (fun y=>⟨stV s,rfl,cellsAll n2.rd,own_spec hs fun h3 f3=>⟨_,rfl,os ?_⟩⟩) fun y=>os ?_⟩)
 ·rw [numM_own hs (by omega)] at hK
  have F3:=n2.fr.no f3
  refine ⟨_,rdc ((F3.rd fl fun y=>y).trans e) (fileV_get (by rw [hR]; exact ownI_lt hs)),hK none 0 0 h3 F3 rfl (Sl.nil _ _ _)⟩
 ·have hs3:s.1=3:=by omega
  have hs2:s.2<128:=by rcases hs with ⟨h1,_⟩|h1|h1|⟨_,h2⟩ <;> omega
  rw [numM_t hs3] at hK
  refine ⟨t,rda ((n2.at_ fl).trans e) rfl,Tm.Read_spec (x.no n2.fr) fun sa sl sc h4 f4 el s4=>⟨_,_,_,_,rfl,cn (fun he=>?_) fun he=>?_⟩⟩
  ·rw [if_pos he] at hK
   exact hK none 0 0 h4 (n2.fr.no f4) rfl (Sl.nil _ _ _)
  ·rw [if_neg (fun y=>y he)] at hK
   have hlen:(T.read a).1.length=512:=Tx.readLen x he
   have F4:=n2.fr.no f4
   have z2:=n2.size
   refine ⟨_,rda ((f4.rd n2.own.lt fun y=>y).trans n2.rd) rfl,?_⟩
   rw [wrap_i64 (n:=4*(s.2:Int)) (by omega) (by omega)]
   refine In.Get_w (gl.no F4) s4.str (by omega) (.inr (.inr (.inl rfl))) (by omega) (by omega) ⟨_,_,rfl,?_⟩
   have en:leN (((T.read a).1.drop (4*(s.2:Int)).toNat).take (Int.toNat 4))=num4 (T.read a).1 s.2:=by
    unfold num4
    rw [show (4*(s.2:Int)).toNat=4*s.2 by omega]; rfl
   rw [en]
   have lt:=num4_lt (T.read a).1 s.2
   rw [wrap_i64 (by omega) (by omega)]
   exact hK sa sl sc h4 F4 el (s4.mono fun b hb=>by have:h2.size≤b:=hb; show h.size≤b; omega)
theorem setM_own {T:TM} {R:List Int} {s:Nat×Nat} {a v:Int} {b:Txt} (hs:StOk s) (h:s.1≠3):setM T R s a b v=((T,R.set (ownI s) v),0):=by
 unfold setM ownI
 rcases hs with ⟨h1,_⟩|h1|h1|⟨h1,_⟩
 ·rw [if_pos h1,if_pos h1]
 ·rw [if_neg (by omega),if_pos h1,if_neg (by omega),if_pos h1]
 ·rw [if_neg (by omega),if_neg (by omega),if_pos h1,if_neg (by omega),if_neg (by omega)]
 ·exact absurd h1 h
theorem setM_t {T:TM} {R:List Int} {s:Nat×Nat} {a v:Int} {b:Txt} (h:s.1=3):setM T R s a b v=(((T.write a (set4 b s.2 v.toNat)).1,R),(T.write a (set4 b s.2 v.toNat)).2):=by
 unfold setM
 rw [if_neg (by omega),if_neg (by omega),if_neg (by omega)]
theorem setM_len {T:TM} {R:List Int} {s:Nat×Nat} {a v:Int} {b:Txt} (hs:StOk s) (hR:R.length=15):(setM T R s a b v).1.2.length=15:=by
 by_cases h:s.1=3
 ·rw [setM_t h]; exact hR
 ·rw [setM_own hs h]; show (R.set _ _).length=15; rw [List.length_set]; exact hR
theorem sl_rngB {h:Heap} {ec l c:Nat} {a:Option Addr} {xs:List Value} {F:Nat→Prop} (s:Sl h ec a l c xs F):Sl h ec a l c xs (fun b=>F b∧b<h.size):=by
 obtain ⟨h1,h2⟩:=s
 refine ⟨h1,?_⟩
 cases a with
 | none=>exact h2
 | some p=>exact ⟨h2.1,⟨h2.2.1,h2.2.2.1.lt⟩,h2.2.2.1,h2.2.2.2.1,h2.2.2.2.2⟩
theorem write_un (T:TM) (i:Int) (bs:Txt):(T.write i bs).1.undo.length≤T.undo.length+1:=by
 by_cases h:(T.write i bs).2=0
 ·obtain ⟨_,_,_,_,_,ew⟩:=TM.write_ok h
  rw [ew]
  show (T.undo++[_]).length≤_
  rw [List.length_append]; exact Nat.le_refl _
 ·rw [TM.write_bad h]; exact Nat.le_add_right _ _
theorem setM_un {T:TM} {R:List Int} {s:Nat×Nat} {a v:Int} {b:Txt} (hs:StOk s):(setM T R s a b v).1.1.undo.length≤T.undo.length+1:=by
 by_cases h:s.1=3
 ·rw [setM_t h]; exact write_un _ _ _
 ·rw [setM_own hs h]; exact Nat.le_add_right _ _
theorem setBit_un (T:TM) (g:G) (i:Nat) (on:Bool):(setBit T g i on).1.undo.length≤T.undo.length+1:=by
 unfold setBit
 split
 ·exact Nat.le_add_right _ _
 ·exact write_un _ _ _
theorem takeM_un (T:TM) (g:G):(takeM T g).1.undo.length≤T.undo.length+2:=by
 unfold takeM
 split
 ·unfold takeAt
  split
  ·exact Nat.le_add_right _ _
  ·split
   ·exact Nat.le_add_right _ _
   ·exact Nat.le_trans (write_un _ _ _) (Nat.succ_le_succ (setBit_un _ _ _ _))
 ·exact Nat.le_add_right _ _
theorem takeM_rng (T:TM) (g:G):0≤(takeM T g).2.1∧((takeM T g).2.1=0∨(takeM T g).2.1<g.blocks):=by
 unfold takeM
 split
 ·rename_i m hm
  have hm:=List.mem_of_find?_eq_some hm
  rw [List.mem_range] at hm
  unfold takeAt
  split
  ·exact ⟨Int.le_refl _,.inl rfl⟩
  ·split
   ·exact ⟨Int.le_refl _,.inl rfl⟩
   ·exact ⟨Int.natCast_nonneg _,.inr (by show (m:Int)<_; omega)⟩
 ·exact ⟨Int.le_refl _,.inl rfl⟩
theorem set_spec {h:Heap} {F:Nat→Prop} {t d:Option Addr} {T:TM} {g:G} {R:List Int} {fb lo:Nat} {s:Nat×Nat} {a v:Int} {sa:Option Addr} {sl sc:Nat} {b:Txt} {K:Value→Heap→Prop} (gl:In.Glo h) (x:Tx h F t d T) (e:rd h fb=fileV t g R) (fo:Own h fb) (hR:R.length=15) (hs:StOk s)
  (hf:¬ F fb) (hu:T.undo.length<1000000000) (hv:0≤v∧v<4294967296) (hb:s.1=3→b.length=512∧Sl h 1 sa sl sc (b.map bv) (fun y=>lo≤y∧¬ F y∧y≠fb))
  (hK:∀ h' F',Fr (fun y=>F y∨y=fb∨lo≤y) h h'→Gw h F h' F'→Tx h' F' t d (setM T R s a b v).1.1→rd h' fb=fileV t g (setM T R s a b v).1.2→Own h' fb→K (.int .i64 (setM T R s a b v).2) h'):C.bmap_file_set (some ⟨fb,0,none⟩) (stV s) a sa sl sc v h K:=by
 have fl:=fo.lt
 have Flt:=fun y (hy:F y)=>x.lt hy
 refine bmap_file_set.ok (New.intro fun h2 n2=>⟨_,rda n2.rd rfl,cn (fun y=>⟨stV s,rfl,cellsAll n2.rd,own_spec hs fun h3 f3=>⟨_,rfl,os ?_⟩⟩) fun y=>?_⟩)
 ·rw [setM_own hs (by omega)] at hK
  have F3:=n2.fr.no f3
  have r3:rd h3 fb=_:=(F3.rd fl fun y=>y).trans e
  have hi:=ownI_lt hs
  refine Put.intro (F3.own fl (fun y=>y) fo) (by rw [r3,fileV_len hR]; omega) fun h4 d4=>?_
  rw [r3,fileV_set] at d4
  have F4:Fr (fun y=>F y∨y=fb∨lo≤y) h h4:=(F3.mono fun _ _ y=>y.elim).did d4 fun _ => .inr (.inl rfl)
  exact hK h4 F F4 (Gw.refl F4.size Flt) ((x.no F3).fr d4.fr fun c hc y=>hf (by have y:c=fb:=y; rw [← y]; exact hc)) d4.rd d4.own
 ·have hs3:s.1=3:=by omega
  have hs2:s.2<128:=by rcases hs with ⟨h1,_⟩|h1|h1|⟨_,h2⟩ <;> omega
  rw [setM_t hs3] at hK
  obtain ⟨lb,S⟩:=hb hs3
  have z2:=n2.size
  have ll:sl=512:=by have:=S.1; rw [List.length_map] at this; omega
  subst ll
  obtain ⟨⟨pb,po,sp⟩,ep,_⟩:=S.get (by decide)
  subst ep
  have esp:sp=none:=S.2.1
  subst esp
  have k1:=S.2.2.1
  have k1:lo≤pb∧¬ F pb∧pb≠fb:=k1
  have pl:=S.lt
  have pl:pb<h.size:=pl
  refine ⟨_,rda n2.rd rfl,?_⟩
  rw [wrap_i64 (n:=4*(s.2:Int)) (by omega) (by omega),wrap_u64 (n:=v) hv.1 (by omega),show v=((v.toNat:Nat):Int) by omega]
  refine In.Put_w (gl.no n2.fr) (S.fr n2.fr fun _ _ _ y=>y) (by decide) (.inr (.inr rfl)) (by omega) (by omega) (by show _<256 ^ 4; omega) fun h5 f5 s5=>⟨_,rfl,os ?_⟩
  have z5:=f5.size
  have e5:putU b (4*(s.2:Int)).toNat (leBs (Int.toNat 4) v.toNat)=set4 b s.2 v.toNat:=by
   unfold set4
   rw [show (4*(s.2:Int)).toNat=4*s.2 by omega]; rfl
  rw [e5] at s5
  have F5:Fr (fun y=>y=pb) h h5:=(n2.fr.mono fun _ _ y=>y.elim).trans f5 fun _ _ y=>y
  have r5:rd h5 fb=_:=(F5.rd fl fun y=>k1.2.2 y.symm).trans e
  have x5:Tx h5 F t d T:=x.fr F5 fun c hc y=>k1.2.1 (by have y:c=pb:=y; rw [← y]; exact hc)
  refine ⟨t,rda r5 rfl,Tm.Write_spec x5 s5.str (by decide) (fun p e y=>?_) hu fun h6 F' f6 g6 x6=>⟨_,rfl,?_⟩⟩
  ·cases e; exact k1.2.1 y
  ·refine hK h6 F' ((F5.mono fun c _ y=>?_).trans f6 fun c _ y => .inl y) ((Gw.refl F5.size Flt).trans g6 F5.size) x6 ((f6.rd (by omega) hf).trans r5) (f6.own (by omega) hf (F5.own fl (fun y=>k1.2.2 y.symm) fo))
   have y:c=pb:=y
   rw [y]; exact .inr (.inr k1.1)
theorem Find_c1_spec {s:List Value} {a:Int} {sa:Option Addr} {sl sc:Nat} {h:Heap} {K:Value→Heap→Prop} (hK:∀ h',Fr No h h'→K (.tuple #[.int .i64 0,.int .i64 0]) h'):C.bmap_Find_c1 s a sa sl sc h K :=
 bmap_Find_c1.ok (New.intro fun h2 n2=>hK h2 n2.fr)
theorem st_cells {h:Heap} {b:Nat} {l:List (Nat×Nat)} (e:rd h b=l.flatMap stV) {j:Nat} (hj:j<l.length):Cells h (Addr.add ⟨b,0,none⟩ (j*2)) (stV l[j]):=by
 have c:Cells h ⟨b,0,none⟩ (l.flatMap stV):=cellsAll e
 have:=Cells.take (Cells.drop c (j*2)) 2
 rw [flat_part stV 2 l (fun _ _=>rfl) j hj] at this
 exact this
theorem drop_cons {α:Type} {l:List α} {j:Nat} (h:j<l.length):l.drop j=l[j]::l.drop (j+1):=List.drop_eq_getElem_cons h
theorem walkF_cons (T:TM) (g:G) (R:List Int) (s:Nat×Nat) (r:List (Nat×Nat)) (a:Int):walkF T g R (s::r) a=if (numM T R s a).2.2≠0 then (0,(numM T R s a).2.2) else if (numM T R s a).1=0 then (0,0) else
   if lookM g (numM T R s a).1≠0 then (0,lookM g (numM T R s a).1) else walkF T g R r (numM T R s a).1:=rfl
theorem one_st (s:Nat×Nat):∀ v ∈ stV s,v.oneCell'=true:=one2 rfl rfl
theorem walkF_spec {h:Heap} {F:Nat→Prop} {t d:Option Addr} {T:TM} {g:G} {R:List Int} {fb:Nat} {k:Int} {K:Value→Heap→Prop} (gl:In.Glo h) (x:Tx h F t d T) (e:rd h fb=fileV t g R) (hR:R.length=15) (h0:0≤k) (h1:k<16522)
  (hK:∀ h',Fr No h h'→K (.tuple #[.int .i64 (walkF T g R (wayM k.toNat) 0).1,.int .i64 (walkF T g R (wayM k.toNat) 0).2]) h'):C.bmap_file_walk (some ⟨fb,0,none⟩) k (Value.func (.func 204) #[] ⟨[]⟩) h K:=by
 have fl:fb<h.size:=rd_lt (o:=0) (by rw [e]; rfl)
 refine bmap_file_walk.ok (way_spec h0 h1 fun h2 f2 l2 rw2=>⟨_,_,_,rfl,?_⟩)
 have hok:=wayM_ok (k:=k.toNat) (by omega)
 have hwl:(wayM k.toNat).length≤3:=by
  unfold wayM
  split
  ·simp
  ·split <;> simp
 generalize wayM k.toNat=w at hK rw2 hok hwl
 refine ⟨fun a i hh=>∃ j:Nat,i=j∧j≤w.length∧Fr No h2 hh∧walkF T g R (w.drop j) a=walkF T g R w 0,fun _ i _=>((w.length:Int) - i).toNat,⟨0,rfl,Nat.zero_le _,Fr.refl _ _,by rw [List.drop_zero]⟩,?_⟩
 rintro a i h3 ⟨j,rfl,hj,f3,ew⟩
 refine cd (fun hl=>?_) fun hl=>?_
 ·have hj':j<w.length:=by omega
  rw [drop_cons hj',walkF_cons] at ew
  have F3:=f2.no f3
  have hs:=hok _ (List.getElem_mem hj')
  have z3:=f3.size
  rw [Int.toNat_natCast]
  refine ⟨⟨by omega,hl⟩,os ⟨stV w[j],rfl,st_cells ((f3.rd l2 fun y=>y).trans rw2) hj',NewRow.intro rfl (one_st _) rfl fun h5 n5=>⟨stV w[j],rfl,cellsAll n5.rd,?_⟩⟩⟩
  have F5:=F3.new n5
  refine number_spec (gl.no F5) (x.no F5) ((F5.rd fl fun y=>y).trans e) hR hs fun sa sl sc h6 f6 el s6=>⟨_,_,_,_,_,rfl,?_⟩
  have F6:=F5.no f6
  have z5:=n5.size
  have z6:=f6.size
  have wr:IntKind.wrap .i64 ((j:Int)+1)=((j+1:Nat):Int):=by rw [wrap_i64 (by omega) (by omega)]; omega
  have go:∀ h8,Fr No h3 h8→∀ (nu er:Int),(if er≠0 then ((0:Int),er) else if nu=0 then (0,0) else if lookM g nu≠0 then (0,lookM g nu) else walkF T g R (w.drop (j+1)) nu)=walkF T g R w 0 →
    bmap_file_walk.k1 (some ⟨fb,0,none⟩) a (j:Int) h3 (fun a i hh=>∃ j:Nat,i=j∧j≤w.length∧Fr No h2 hh∧walkF T g R (w.drop j) a=walkF T g R w 0) (fun _ i _=>((w.length:Int) - i).toNat) nu er h8 K:=fun h8 f8 nu er e8=>by
   have F8:=F3.no f8
   unfold bmap_file_walk.k1
   refine cn (fun y=>?_) fun y=>ce (fun y2=>?_) fun y2=>?_
   ·rw [if_pos y] at e8; rw [← e8] at hK; exact hK h8 F8
   ·rw [if_neg (fun z=>z y),if_pos y2] at e8; rw [← e8] at hK; exact hK h8 F8
   ·rw [if_neg (fun z=>z y),if_neg y2] at e8
    refine look_spec ((F8.rd fl fun y=>y).trans e) ⟨_,rfl,cn (fun y3=>?_) fun y3=>?_⟩
    ·rw [if_pos y3] at e8; rw [← e8] at hK; exact hK h8 F8
    ·rw [if_neg (fun z=>z y3)] at e8
     rw [wr]
     exact ⟨⟨j+1,rfl,hj',f3.no f8,e8⟩,by show ((w.length:Int) - ((j+1:Nat):Int)).toNat<((w.length:Int) - (j:Int)).toNat; omega⟩
  have F36:Fr No h3 h6:=n5.fr.no f6
  refine ce (fun y=>ce (fun y2=>?_) fun y2=>go h6 F36 _ _ ew) fun y=>go h6 F36 _ _ ew
  rw [if_neg (fun z=>z y),if_pos y2] at ew
  refine ⟨stV w[j],rfl,cellsAll ((f6.rd n5.own.lt fun y=>y).trans n5.rd),Find_c1_spec fun h7 f7=>⟨_,_,rfl,go h7 (F36.no f7) 0 0 ?_⟩⟩
  rw [if_neg (fun z=>z rfl),if_pos rfl]; exact ew
 ·have ej:j=w.length:=by omega
  subst ej
  rw [List.drop_length] at ew
  have ew:(a,(0:Int))=walkF T g R w 0:=ew
  rw [← ew] at hK
  exact hK h3 (f2.no f3)
theorem Find_spec {h:Heap} {F:Nat→Prop} {t d:Option Addr} {T:TM} {g:G} {R:List Int} {k:Int} {K:Value→Heap→Prop} (gl:In.Glo h) (x:Tx h F t d T) (hR:R.length=15)
  (hK:∀ h',Fr No h h'→K (.tuple #[.int .i64 (findM T g R k).1,.int .i64 (findM T g R k).2]) h'):C.bmap_Find t g.v (ints R) k h K:=by
 refine bmap_Find.ok (New.intro fun h2 n2=>New.intro fun h3 n3=>cd (fun y=>?_) fun y=>cd (fun y2=>?_) fun y2=>?_)
 ·have e:findM T g R k=(0,101):=by unfold findM; rw [if_pos (.inl y)]
  rw [e] at hK; exact hK h3 (n2.fr.new n3)
 ·have e:findM T g R k=(0,101):=by unfold findM; rw [if_pos (.inr y2)]
  rw [e] at hK; exact hK h3 (n2.fr.new n3)
 ·have e:findM T g R k=walkF T g R (wayM k.toNat) 0:=by unfold findM; rw [if_neg (by omega)]
  rw [e] at hK
  unfold bmap_Find.k1
  refine ⟨g.v,rfl,cellsAll ((n3.at_ n2.own.lt).trans n2.rd),ints R,by rw [ints_length,hR],cellsAll n3.rd,rfl,by rw [ints_length,hR],New.intro fun h4 n4=>?_⟩
  have F4:=(n2.fr.new n3).new n4
  exact walkF_spec (gl.no F4) (x.no F4) n4.rd hR (by omega) (by omega) fun h5 f5=>⟨_,_,rfl,hK h5 (F4.no f5)⟩
end Go.Proofs.YtiapingedfnlnaaGreatDoor.Bm
namespace Go.Proofs.YtiapingedfnlnaaGreatDoor.Bm
open Go Go.Proofs Wx Hp W Ad Tm Spc Re Av
open Hd (ints wrap_u64)
open In (Glo ints_length ints_one)
def holeM (T:TM) (g:G) (R:List Int) (s:Nat×Nat) (a:Int) (b:Txt):(TM×List Int)×Int×Int :=
 if (takeM T g).2.2≠0 then (((takeM T g).1,R),0,(takeM T g).2.2) else ((setM (takeM T g).1 R s a b (takeM T g).2.1).1,(takeM T g).2.1,(setM (takeM T g).1 R s a b (takeM T g).2.1).2)
def nextM (g:G) (TR:TM×List Int) (nu er:Int) (go:TM→List Int→Int→(TM×List Int)×Int×Int):(TM×List Int)×Int×Int :=
 if er≠0 then (TR,0,er) else if nu=0 then (TR,0,0) else if lookM g nu≠0 then (TR,0,lookM g nu) else go TR.1 TR.2 nu
theorem walkA_cons (g:G) (s:Nat×Nat) (r:List (Nat×Nat)) (T:TM) (R:List Int) (a:Int):walkA g (s::r) T R a =
  if (numM T R s a).2.2=0∧(numM T R s a).1=0 then nextM g (holeM T g R s a (numM T R s a).2.1).1 (holeM T g R s a (numM T R s a).2.1).2.1 (holeM T g R s a (numM T R s a).2.1).2.2 (walkA g r)
   else nextM g (T,R) (numM T R s a).1 (numM T R s a).2.2 (walkA g r):=by
 by_cases h1:(numM T R s a).2.2=0
 ·by_cases h2:(numM T R s a).1=0
  ·by_cases h3:(takeM T g).2.2=0
   ·simp [walkA,nextM,holeM,h1,h2,h3]
   ·simp [walkA,nextM,holeM,h1,h2,h3]
  ·simp [walkA,nextM,h1,h2]
 ·simp [walkA,nextM,h1]
theorem holeM_len {T:TM} {g:G} {R:List Int} {s:Nat×Nat} {a:Int} {b:Txt} (hs:StOk s) (hR:R.length=15):(holeM T g R s a b).1.2.length=15:=by
 unfold holeM
 split
 ·exact hR
 ·exact setM_len hs hR
theorem holeM_un {T:TM} {g:G} {R:List Int} {s:Nat×Nat} {a:Int} {b:Txt} (hs:StOk s):(holeM T g R s a b).1.1.undo.length≤T.undo.length+3:=by
 have h2:=takeM_un T g
 unfold holeM
 split
 ·exact Nat.le_succ_of_le h2
 ·have:=setM_un (T:=(takeM T g).1) (R:=R) (a:=a) (v:=(takeM T g).2.1) (b:=b) hs
  exact Nat.le_trans this (by omega)
structure Cap (h:Heap) (tb gb pb fb:Nat) (t:Option Addr) (g:G):Prop where
 t:rd h tb=[.pointer t]
 g:rd h gb=g.v
 p:rd h pb=[.pointer (some ⟨fb,0,none⟩)]
theorem Cap.lt {h:Heap} {tb gb pb fb:Nat} {t:Option Addr} {g:G} (c:Cap h tb gb pb fb t g):tb<h.size∧gb<h.size∧pb<h.size :=
 ⟨rd_lt (o:=0) (by rw [c.t]; rfl),rd_lt (o:=0) (by rw [c.g]; rfl),rd_lt (o:=0) (by rw [c.p]; rfl)⟩
theorem Cap.fr {h h':Heap} {tb gb pb fb:Nat} {t:Option Addr} {g:G} {G':Nat→Prop} (c:Cap h tb gb pb fb t g) (f:Fr G' h h') (h1:¬ G' tb) (h2:¬ G' gb) (h3:¬ G' pb):Cap h' tb gb pb fb t g:=by
 obtain ⟨l1,l2,l3⟩:=c.lt
 exact ⟨(f.rd l1 h1).trans c.t,(f.rd l2 h2).trans c.g,(f.rd l3 h3).trans c.p⟩
theorem hole_spec {h:Heap} {F:Nat→Prop} {t d:Option Addr} {T:TM} {n:Nat} {R:List Int} {fb tb gb pb lo:Nat} {s:Nat×Nat} {a:Int} {sa:Option Addr} {sl sc:Nat} {b:Txt} {K:Value→Heap→Prop} (gl:In.Glo h) (dm:Dim n) (x:Tx h F t d T) (e:rd h fb=fileV t (geoN n) R) (fo:Own h fb) (hR:R.length=15) (hs:StOk s)
  (cp:Cap h tb gb pb fb t (geoN n)) (hf:¬ F fb∧¬ F tb∧¬ F gb∧¬ F pb) (g0:∀ b,b<1→¬ F b) (hu:T.undo.length<800000000) (hb:s.1=3→b.length=512∧Sl h 1 sa sl sc (b.map bv) (fun y=>lo≤y∧¬ F y∧y≠fb))
  (hK:∀ h' F',Fr (fun y=>F y∨y=fb∨lo≤y) h h'→Gw h F h' F'→Tx h' F' t d (holeM T (geoN n) R s a b).1.1→rd h' fb=fileV t (geoN n) (holeM T (geoN n) R s a b).1.2→Own h' fb→K (.tuple #[.int .i64 (holeM T (geoN n) R s a b).2.1,.int .i64 (holeM T (geoN n) R s a b).2.2]) h') :
  C.bmap_Add_c2 (stV s) a sa sl sc (some ⟨tb,0,none⟩) (some ⟨gb,0,none⟩) (some ⟨pb,0,none⟩) h K:=by
 obtain ⟨l1,l2,l3⟩:=cp.lt
 have fl:=fo.lt
 refine bmap_Add_c2.ok (New.intro fun h2 n2=>os ⟨t,rdc ((n2.at_ l1).trans cp.t) rfl,os ⟨(geoN n).v,rfl,cellsAll ((n2.at_ l2).trans cp.g),?_⟩⟩)
 have z2:=n2.size
 refine Take_any (x.no n2.fr) dm (by omega) fun h3 F3 f3 g3 x3=>⟨_,_,rfl,?_⟩
 have F03:Fr F h h3:=(n2.fr.mono fun _ _ y=>y.elim).trans f3 fun _ _ y=>y
 have G03:Gw h F h3 F3:=(Gw.refl n2.fr.size fun b hb=>x.lt hb).trans g3 n2.fr.size
 have z3:=f3.size
 have old:∀ y,y<h.size→(F3 y↔F y):=G03.old
 have hf3:¬ F3 fb:=fun y=>hf.1 ((old _ fl).mp y)
 have tu:=takeM_un T (geoN n)
 have tr:=takeM_rng T (geoN n)
 refine cn (fun he=>?_) fun he=>?_
 ·have eh:holeM T (geoN n) R s a b=(((takeM T (geoN n)).1,R),0,(takeM T (geoN n)).2.2):=by unfold holeM; rw [if_pos he]
  rw [eh] at hK
  exact hK h3 F3 (F03.mono fun _ _ y => .inl y) G03 x3 ((F03.rd fl hf.1).trans e) (F03.own fl hf.1 fo)
 ·have eh:holeM T (geoN n) R s a b=((setM (takeM T (geoN n)).1 R s a b (takeM T (geoN n)).2.1).1,(takeM T (geoN n)).2.1,(setM (takeM T (geoN n)).1 R s a b (takeM T (geoN n)).2.1).2):=by unfold holeM; rw [if_neg (fun y=>y he)]
  rw [eh] at hK
  have hbl:((geoN n).blocks:Int)≤16384:=by have:=dm.hi; show (n:Int)≤_; omega
  have ns:¬ F h.size:=fun y=>by have:=x.lt y; omega
  refine os ⟨_,rdc ((F03.rd l3 hf.2.2.2).trans cp.p) rfl,stV s,rfl,cellsAll ((f3.rd n2.own.lt ns).trans n2.rd),?_⟩
  refine set_spec (lo:=lo) (b:=b) (gl.fr F03 g0) x3 ((F03.rd fl hf.1).trans e) (F03.own fl hf.1 fo) hR hs hf3 (by omega) ⟨tr.1,by omega⟩ (fun h3'=>?_) fun h4 F4 f4 g4 x4 r4 o4=>⟨_,rfl,?_⟩
  ·obtain ⟨lb,S⟩:=hb h3'
   exact ⟨lb,((sl_rngB S).fr F03 fun y _ hy z=>hy.1.2.1 z).mono fun y hy=>⟨hy.1.1,fun z=>hy.1.2.1 ((old y hy.2).mp z),hy.1.2.2⟩⟩
  ·refine hK h4 F4 ((F03.mono fun _ _ y => .inl y).trans f4 fun y hy z=>?_) (G03.trans g4 F03.size) x4 r4 o4
   rcases z with z|z
   ·exact .inl ((old y hy).mp z)
   ·exact .inr z
theorem walkA_spec {h:Heap} {F:Nat→Prop} {t d:Option Addr} {T:TM} {n:Nat} {R:List Int} {fb tb gb pb:Nat} {k:Int} {K:Value→Heap→Prop} (gl:In.Glo h) (dm:Dim n) (x:Tx h F t d T) (e:rd h fb=fileV t (geoN n) R) (fo:Own h fb) (hR:R.length=15) (h0:0≤k) (h1:k<16522)
  (cp:Cap h tb gb pb fb t (geoN n)) (hf:¬ F fb∧¬ F tb∧¬ F gb∧¬ F pb) (hne:tb≠fb∧gb≠fb∧pb≠fb) (g0:∀ b,b<1→¬ F b∧b≠fb) (hu:T.undo.length<700000000)
  (hK:∀ h' F',Fr (fun y=>F y∨y=fb) h h'→Gw h F h' F'→Tx h' F' t d (walkA (geoN n) (wayM k.toNat) T R 0).1.1→rd h' fb=fileV t (geoN n) (walkA (geoN n) (wayM k.toNat) T R 0).1.2→Own h' fb→(walkA (geoN n) (wayM k.toNat) T R 0).1.2.length=15→(walkA (geoN n) (wayM k.toNat) T R 0).1.1.undo.length≤T.undo.length+9 →
   K (.tuple #[.int .i64 (walkA (geoN n) (wayM k.toNat) T R 0).2.1,.int .i64 (walkA (geoN n) (wayM k.toNat) T R 0).2.2]) h') :
  C.bmap_file_walk (some ⟨fb,0,none⟩) k (Value.func (.func 208) #[] ⟨[.pointer (some ⟨tb,0,none⟩),.pointer (some ⟨gb,0,none⟩),.pointer (some ⟨pb,0,none⟩)]⟩) h K:=by
 have fl:=fo.lt
 have Flt:=fun y (hy:F y)=>x.lt hy
 refine bmap_file_walk.ok (way_spec h0 h1 fun h2 f2 l2 rw2=>⟨_,_,_,rfl,?_⟩)
 have hok:=wayM_ok (k:=k.toNat) (by omega)
 have hwl:(wayM k.toNat).length≤3:=by
  unfold wayM
  split
  ·simp
  ·split <;> simp
 generalize wayM k.toNat=w at hK rw2 hok hwl
 have z2:=f2.size
 refine ⟨fun a i hh=>∃ (j:Nat) (F':Nat→Prop) (T':TM) (R':List Int),i=j∧j≤w.length∧Fr (fun y=>F y∨y=fb) h2 hh∧Gw h2 F hh F'∧Tx hh F' t d T'∧rd hh fb=fileV t (geoN n) R'∧Own hh fb∧R'.length=15∧T'.undo.length≤T.undo.length+3*j∧walkA (geoN n) (w.drop j) T' R' a=walkA (geoN n) w T R 0,fun _ i _=>((w.length:Int) - i).toNat,
  ⟨0,F,T,R,rfl,Nat.zero_le _,Fr.refl _ _,Gw.refl (Nat.le_refl _) (fun b hb=>Nat.lt_of_lt_of_le (Flt b hb) z2),x.no f2,(f2.rd fl fun y=>y).trans e,f2.own fl (fun y=>y) fo,hR,Nat.le_refl _,by rw [List.drop_zero]⟩,?_⟩
 rintro a i h3 ⟨j,F',T',R',rfl,hj,f3,g3,x3,r3,o3,R3,u3,ew⟩
 have z3:=f3.size
 have f03:Fr (fun y=>F y∨y=fb) h h3:=(f2.mono fun _ _ y=>y.elim).trans f3 fun _ _ y=>y
 have old3:∀ y,y<h2.size→(F' y↔F y):=g3.old
 have G2:Gw h F h2 F:=Gw.refl z2 Flt
 refine cd (fun hl=>?_) fun hl=>?_
 ·have hj':j<w.length:=by omega
  rw [drop_cons hj',walkA_cons] at ew
  have hs:=hok _ (List.getElem_mem hj')
  have nP:¬ (F h.size∨h.size=fb):=by
   rintro (y|y)
   ·have:=Flt _ y; omega
   ·omega
  rw [Int.toNat_natCast]
  refine ⟨⟨by omega,hl⟩,os ⟨stV w[j],rfl,st_cells ((f3.rd l2 nP).trans rw2) hj',NewRow.intro rfl (one_st _) rfl fun h5 n5=>⟨stV w[j],rfl,cellsAll n5.rd,?_⟩⟩⟩
  have z5:=n5.size
  have fl3:=o3.lt
  have gl5:In.Glo h5:=(gl.fr f03 fun b hb y=>by rcases y with y|y; exact (g0 b hb).1 y; exact (g0 b hb).2 y).no n5.fr
  refine number_spec gl5 (x3.no n5.fr) ((n5.at_ fl3).trans r3) R3 hs fun sa sl sc h6 f6 el s6=>⟨_,_,_,_,_,rfl,?_⟩
  have z6:=f6.size
  have F36:Fr No h3 h6:=n5.fr.no f6
  have wr:IntKind.wrap .i64 ((j:Int)+1)=((j+1:Nat):Int):=by rw [wrap_i64 (by omega) (by omega)]; omega
  -- what a number does, at h8
  have go:∀ (h8:Heap) (F8:Nat→Prop) (TR:TM×List Int) (nu er:Int),Fr (fun y=>F y∨y=fb) h2 h8→Gw h2 F h8 F8→Tx h8 F8 t d TR.1→rd h8 fb=fileV t (geoN n) TR.2→Own h8 fb→TR.2.length=15→TR.1.undo.length≤T.undo.length+3*(j+1) →
    nextM (geoN n) TR nu er (walkA (geoN n) (w.drop (j+1)))=walkA (geoN n) w T R 0 →
    bmap_file_walk.k1 (some ⟨fb,0,none⟩) a (j:Int) h3 (fun a i hh=>∃ (j:Nat) (F':Nat→Prop) (T':TM) (R':List Int),i=j∧j≤w.length∧Fr (fun y=>F y∨y=fb) h2 hh∧Gw h2 F hh F'∧Tx hh F' t d T'∧rd hh fb=fileV t (geoN n) R'∧Own hh fb∧R'.length=15∧T'.undo.length≤T.undo.length+3*j∧walkA (geoN n) (w.drop j) T' R' a=walkA (geoN n) w T R 0) (fun _ i _=>((w.length:Int) - i).toNat) nu er h8 K:=fun h8 F8 TR nu er f8 g8 x8 r8 o8 R8 u8 e8=>by
   have f08:Fr (fun y=>F y∨y=fb) h h8:=(f2.mono fun _ _ y=>y.elim).trans f8 fun _ _ y=>y
   unfold nextM at e8
   unfold bmap_file_walk.k1
   refine cn (fun y=>?_) fun y=>ce (fun y2=>?_) fun y2=>?_
   ·rw [if_pos y] at e8; rw [← e8] at hK; exact hK h8 F8 f08 (G2.trans g8 z2) x8 r8 o8 R8 (by show TR.1.undo.length≤_; omega)
   ·rw [if_neg (fun z=>z y),if_pos y2] at e8; rw [← e8] at hK; exact hK h8 F8 f08 (G2.trans g8 z2) x8 r8 o8 R8 (by show TR.1.undo.length≤_; omega)
   ·rw [if_neg (fun z=>z y),if_neg y2] at e8
    refine look_spec r8 ⟨_,rfl,cn (fun y3=>?_) fun y3=>?_⟩
    ·rw [if_pos y3] at e8; rw [← e8] at hK; exact hK h8 F8 f08 (G2.trans g8 z2) x8 r8 o8 R8 (by show TR.1.undo.length≤_; omega)
    ·rw [if_neg (fun z=>z y3)] at e8
     rw [wr]
     exact ⟨⟨j+1,F8,TR.1,TR.2,rfl,hj',f8,g8,x8,r8,o8,R8,u8,e8⟩,by show ((w.length:Int) - ((j+1:Nat):Int)).toNat<((w.length:Int) - (j:Int)).toNat; omega⟩
  have f26:Fr (fun y=>F y∨y=fb) h2 h6:=f3.no F36
  have g36:Gw h2 F h6 F':=⟨g3.old,fun b hb=>Nat.lt_of_lt_of_le (g3.lt b hb) F36.size⟩
  have x6:=x3.no F36
  have r6:rd h6 fb=_:=(F36.rd fl3 fun y=>y).trans r3
  have o6:=F36.own fl3 (fun y=>y) o3
  have plain:¬ ((numM T' R' w[j] a).2.2=0∧(numM T' R' w[j] a).1=0)→bmap_file_walk.k1 (some ⟨fb,0,none⟩) a (j:Int) h3 (fun a i hh=>∃ (j:Nat) (F':Nat→Prop) (T':TM) (R':List Int),i=j∧j≤w.length∧Fr (fun y=>F y∨y=fb) h2 hh∧Gw h2 F hh F'∧Tx hh F' t d T'∧rd hh fb=fileV t (geoN n) R'∧Own hh fb∧R'.length=15∧T'.undo.length≤T.undo.length+3*j∧walkA (geoN n) (w.drop j) T' R' a=walkA (geoN n) w T R 0) (fun _ i _=>((w.length:Int) - i).toNat) (numM T' R' w[j] a).1 (numM T' R' w[j] a).2.2 h6 K:=fun hno=>by
   rw [if_neg hno] at ew
   exact go h6 F' (T',R') _ _ f26 g36 x6 r6 o6 R3 (by show T'.undo.length≤_; omega) ew
  refine ce (fun y=>ce (fun y2=>?_) fun y2=>plain fun z=>y2 z.2) fun y=>plain fun z=>y z.1
  rw [if_pos ⟨y,y2⟩] at ew
  refine ⟨stV w[j],rfl,cellsAll ((f6.rd n5.own.lt fun y=>y).trans n5.rd),?_⟩
  have f06:Fr (fun y=>F y∨y=fb) h h6:=f03.no F36
  obtain ⟨c1,c2,c3⟩:=cp.lt
  have cp6:Cap h6 tb gb pb fb t (geoN n):=cp.fr f06 (by rintro (y|y); exact hf.2.1 y; exact hne.1 y) (by rintro (y|y); exact hf.2.2.1 y; exact hne.2.1 y) (by rintro (y|y); exact hf.2.2.2 y; exact hne.2.2 y)
  have hb:w[j].1=3→(numM T' R' w[j] a).2.1.length=512∧Sl h6 1 sa sl sc ((numM T' R' w[j] a).2.1.map bv) (fun y=>h5.size≤y∧¬ F' y∧y≠fb):=fun h3'=>by
   refine ⟨?_,s6.mono fun y hy=>⟨hy,fun z=>?_,?_⟩⟩
   ·rw [numM_t h3'] at y ⊢
    by_cases hh:(T'.read a).2≠0
    ·rw [if_pos hh] at y; exact absurd y hh
    ·rw [if_neg hh]; exact Tx.readLen x3 (by omega)
   ·have hy:h5.size≤y:=hy
    have:=x3.lt z; omega
   ·have hy:h5.size≤y:=hy
    omega
  refine hole_spec (lo:=h5.size) (gl5.no f6) dm x6 r6 o6 R3 hs cp6 ⟨fun z=>hf.1 ((old3 _ (by omega)).mp z),fun z=>hf.2.1 ((old3 _ (by omega)).mp z),fun z=>hf.2.2.1 ((old3 _ (by omega)).mp z),fun z=>hf.2.2.2 ((old3 _ (by omega)).mp z)⟩ (fun b hb' z=>?_) (by omega) hb fun h7 F7 f7 g7 x7 r7 o7=>⟨_,_,rfl,?_⟩
  ·exact (g0 b hb').1 ((old3 b (by omega)).mp z)
  ·have z7:=f7.size
   have f27:Fr (fun y=>F y∨y=fb) h2 h7:=f26.trans f7 fun c hc z=>?_
   ·have hl7:=holeM_un (T:=T') (g:=geoN n) (R:=R') (a:=a) (b:=(numM T' R' w[j] a).2.1) hs
    exact go h7 F7 _ _ _ f27 (g36.trans g7 f26.size) x7 r7 o7 (holeM_len hs R3) (by omega) ew
   ·rcases z with z|z|z
    ·exact .inl ((old3 c hc).mp z)
    ·exact .inr z
    ·omega
 ·have ej:j=w.length:=by omega
  subst ej
  rw [List.drop_length] at ew
  have ew:((T',R'),a,(0:Int))=walkA (geoN n) w T R 0:=ew
  rw [← ew] at hK
  exact hK h3 F' f03 (G2.trans g3 z2) x3 r3 o3 R3 (by show T'.undo.length≤_; omega)
end Go.Proofs.YtiapingedfnlnaaGreatDoor.Bm
namespace Go.Proofs.YtiapingedfnlnaaGreatDoor.Bm
open Go Go.Proofs Wx Hp W Ad Tm Spc Re Av
open Hd (ints wrap_u64)
open In (Glo ints_length ints_one)
structure Gd (h:Heap) (ob tb mb:Nat) (t:Option Addr) (m:Int×Int):Prop where
 o:rd h ob=[.int .i64 m.2]
 t:rd h tb=[.pointer t]
 m:rd h mb=[.int .i64 m.1]
def gdV (ob tb mb:Nat):Value := .func (.func 275) ⟨[]⟩ ⟨[.pointer (some ⟨ob,0,none⟩),.pointer (some ⟨tb,0,none⟩),.pointer (some ⟨mb,0,none⟩)]⟩
theorem Gd.lt {h:Heap} {ob tb mb:Nat} {t:Option Addr} {m:Int×Int} (c:Gd h ob tb mb t m):ob<h.size∧tb<h.size∧mb<h.size :=
 ⟨rd_lt (o:=0) (by rw [c.o]; rfl),rd_lt (o:=0) (by rw [c.t]; rfl),rd_lt (o:=0) (by rw [c.m]; rfl)⟩
theorem Gd.fr {h h':Heap} {ob tb mb:Nat} {t:Option Addr} {m:Int×Int} {G:Nat→Prop} (c:Gd h ob tb mb t m) (f:Fr G h h') (h1:¬ G ob) (h2:¬ G tb) (h3:¬ G mb):Gd h' ob tb mb t m:=by
 obtain ⟨l1,l2,l3⟩:=c.lt
 exact ⟨(f.rd l1 h1).trans c.o,(f.rd l2 h2).trans c.t,(f.rd l3 h3).trans c.m⟩
theorem guard_spec {h:Heap} {F:Nat→Prop} {t d:Option Addr} {T:TM} {K:Value→Heap→Prop} (x:Tx h F t d T)
  (hK:∀ ob tb mb h',Fr No h h'→h.size≤ob→h.size≤tb→h.size≤mb→Gd h' ob tb mb t T.mark→K (gdV ob tb mb) h'):C.bmap_guard t h K:=by
 refine bmap_guard.ok (New.intro fun h2 n2=>⟨t,rdc n2.rd rfl,Mark_spec (x.no n2.fr) ⟨_,_,rfl,New.intro fun h4 n4=>New.intro fun h5 n5=>?_⟩⟩)
 have z2:=n2.size
 have z4:=n4.size
 have z5:=n5.size
 refine Put.intro (n5.ow n4.own) (by rw [n5.at_ n4.own.lt,n4.rd]; decide) fun h6 d6=>Put.intro (d6.ow n5.own) (by rw [d6.at_ n5.own.lt (by omega),n5.rd]; decide) fun h7 d7=>?_
 have z6:=d6.size
 have F7:Fr No h h7:=(((n2.fr.new n4).new n5).did d6 fun hl=>by omega).did d7 fun hl=>by omega
 refine hK h4.size h.size h2.size h7 F7 (by omega) (Nat.le_refl _) (by omega) ⟨?_,?_,?_⟩
 ·rw [d7.rd,d6.at_ n5.own.lt (by omega),n5.rd]; rfl
 ·exact (d7.at_ (by omega) (by omega)).trans ((d6.at_ (by omega) (by omega)).trans ((n5.at_ (by omega)).trans ((n4.at_ n2.own.lt).trans n2.rd)))
 ·rw [d7.at_ (by omega) (by omega),d6.rd,n5.at_ n4.own.lt,n4.rd]; rfl
theorem guard_c1_spec {h:Heap} {F:Nat→Prop} {t d:Option Addr} {T:TM} {ob tb mb:Nat} {m:Int×Int} {e:Int} {K:Value→Heap→Prop} (x:Tx h F t d T) (c:Gd h ob tb mb t m) (hu:T.undo.length<1000000000)
  (hK:∀ h',Fr F h h'→Tx h' F t d (if e≠0∧m.2=0 then (T.back m.1).1 else T)→K (.tuple #[]) h'):HCallsV Tryz.prog (gdV ob tb mb) [.int .i64 e] h K:=by
 show C.bmap_guard_c1 e (some ⟨ob,0,none⟩) (some ⟨tb,0,none⟩) (some ⟨mb,0,none⟩) h K
 refine bmap_guard_c1.ok (cn (fun he=>os ⟨_,rdc c.o rfl,ce (fun hm=>os ⟨t,rdc c.t rfl,os ⟨_,rdc c.m rfl,Back_spec x hu fun h2 f2 x2=>⟨_,rfl,?_⟩⟩⟩) fun hm=>?_⟩) fun he=>?_)
 ·rw [if_pos ⟨he,hm⟩] at hK; exact hK h2 f2 x2
 ·rw [if_neg (fun y=>hm y.2)] at hK; exact hK h (Fr.refl _ _) x
 ·rw [if_neg (fun y=>y.1 he)] at hK; exact hK h (Fr.refl _ _) x
theorem rep_one' (n:Nat):repCells z3 n=List.replicate n (Value.int .i64 0):=rfl
theorem z15_one : ∀ v ∈ ints z15,v.oneCell'=true:=ints_one z15
theorem Add_spec {h:Heap} {F:Nat→Prop} {t d:Option Addr} {T:TM} {n:Nat} {R:List Int} {k:Int} {K:Value→Heap→Prop} (gl:In.Glo h) (dm:Dim n) (x:Tx h F t d T) (live:T.over=false) (hR:R.length=15) (g0:∀ b,b<1→¬ F b) (hu:T.undo.length<700000000)
  (hK:∀ h' F',Fr F h h'→Gw h F h' F'→Tx h' F' t d (addM T (geoN n) R k).1→K (.tuple #[.agg ⟨ints (addM T (geoN n) R k).2.1⟩,.int .i64 (addM T (geoN n) R k).2.2.1,.int .i64 (addM T (geoN n) R k).2.2.2]) h') :
  C.bmap_Add t (geoN n).v (ints R) k h K:=by
 have Flt:=fun y (hy:F y)=>x.lt hy
 have gl1:=gl.lt
 refine bmap_Add.ok (New.intro fun h2 n2=>New.intro fun h3 n3=>New.intro fun h4 n4=>New.intro fun h5 n5=>New.intro fun h6 n6=>New.intro fun h7 n7=>?_)
 have z2:=n2.size
 have z3:=n3.size
 have z4:=n4.size
 have z5:=n5.size
 have z6:=n6.size
 have z7:=n7.size
 have F7:Fr No h h7:=((((n2.fr.new n3).new n4).new n5).new n6).new n7
 have ry:rd h7 h4.size=ints z15:=(n7.at_ (by omega)).trans ((n6.at_ (by omega)).trans n5.rd)
 have oy:Own h7 h4.size:=n7.ow (n6.ow n5.own)
 have rn:rd h7 h5.size=[.int .i64 0]:=(n7.at_ (by omega)).trans n6.rd
 have on:Own h7 h5.size:=n7.ow n6.own
 have re:rd h7 h6.size=[.int .i64 0]:=n7.rd
 have oe':Own h7 h6.size:=n7.own
 by_cases hk:0≤k∧k<16522
 rotate_left
 ·have e0:addM T (geoN n) R k=(T,z15,0,101):=by unfold addM; rw [if_pos (by omega)]
  rw [e0] at hK
  have far:PutRow ⟨h4.size,0,none⟩ (ints z15) 15 h7 fun h8=>Put ⟨h5.size,0,none⟩ (.int .i64 0) h8 fun h9=>Put ⟨h6.size,0,none⟩ (.int .i64 101) h9 fun h10 =>
    ∃ res1:List Value,List.length res1=15∧Cells h10 ⟨h4.size,0,none⟩ res1∧∃ (res2:Int),cellOf h10 ⟨h5.size,0,none⟩=some (.int .i64 res2)∧∃ (res3:Int),cellOf h10 ⟨h6.size,0,none⟩=some (.int .i64 res3)∧K (.tuple #[.agg ⟨res1⟩,.int .i64 res2,.int .i64 res3]) h10:=by
   refine PutRow.intro oy rfl z15_one (by rw [ry]; exact Nat.le_refl _) fun h8 d8=>Put.intro (d8.ow on) (by rw [d8.at_ (by omega) (by omega),rn]; decide) fun h9 d9=>Put.intro (d9.ow (d8.ow oe')) (by rw [d9.at_ (by have:=d8.size; omega) (by omega),d8.at_ (by omega) (by omega),re]; decide) fun h10 d10=>?_
   have z8:=d8.size
   have z9:=d9.size
   have F10:Fr No h h10:=((F7.did d8 fun hl=>by omega).did d9 fun hl=>by omega).did d10 fun hl=>by omega
   refine ⟨ints z15,rfl,cellsAll ?_,0,rdc (xs:=[.int .i64 0]) ?_ rfl,101,rdc (xs:=[.int .i64 101]) ?_ rfl,hK h10 F (F10.mono fun _ _ y=>y.elim) (Gw.refl F10.size Flt) (x.no F10)⟩
   ·rw [d10.at_ (by omega) (by omega),d9.at_ (by omega) (by omega),d8.rd,ry]; exact put_all _ _ rfl
   ·rw [d10.at_ (by omega) (by omega),d9.rd,d8.at_ (by omega) (by omega),rn]; rfl
   ·rw [d10.rd,d9.at_ (by omega) (by omega),d8.at_ (by omega) (by omega),re]; rfl
  exact cd (fun _=>far) fun y=>cd (fun _=>far) fun y2=>by exfalso; omega
 refine cd (fun y=>by exfalso; omega) fun _=>cd (fun y=>by exfalso; omega) fun _=>?_
 have rt:rd h7 h.size=[.pointer t]:=(n7.at_ (by omega)).trans ((n6.at_ (by omega)).trans ((n5.at_ (by omega)).trans ((n4.at_ (by omega)).trans ((n3.at_ (by omega)).trans n2.rd))))
 have rg:rd h7 h2.size=(geoN n).v:=(n7.at_ (by omega)).trans ((n6.at_ (by omega)).trans ((n5.at_ (by omega)).trans ((n4.at_ (by omega)).trans n3.rd)))
 have rx:rd h7 h3.size=ints R:=(n7.at_ (by omega)).trans ((n6.at_ (by omega)).trans ((n5.at_ (by omega)).trans n4.rd))
 unfold bmap_Add.k1
 refine ⟨t,rdc rt rfl,guard_spec (x.no F7) fun ob tb mb h15 f15 b1 b2 b3 gd=>⟨_,_,_,rfl,New.intro fun h16 n16=>?_⟩⟩
 have z15':=f15.size
 have z16:=n16.size
 obtain ⟨gl1',gl2',gl3'⟩:=gd.lt
 refine Put.intro n16.own (by rw [n16.rd]; decide) fun h17 d17=>?_
 have z17:=d17.size
 have q17:∀ b,b<h15.size→rd h17 b=rd h15 b:=fun b hb=>(d17.at_ (by omega) (by omega)).trans (n16.at_ hb)
 have q7:∀ b,b<h7.size→rd h15 b=rd h7 b:=fun b hb=>f15.rd hb fun y=>y
 refine ⟨t,rdc ((q17 _ (by omega)).trans ((q7 _ (by omega)).trans rt)) rfl,(geoN n).v,rfl,cellsAll ((q17 _ (by omega)).trans ((q7 _ (by omega)).trans rg)),ints R,by rw [ints_length,hR],cellsAll ((q17 _ (by omega)).trans ((q7 _ (by omega)).trans rx)),rfl,by rw [ints_length,hR],New.intro fun h18 n18=>New.intro fun h19 n19=>?_⟩
 have z18:=n18.size
 have z19:=n19.size
 refine Put.intro n19.own (by rw [n19.rd]; decide) fun h20 d20=>?_
 have z20:=d20.size
 have q20:∀ b,b<h17.size→rd h20 b=rd h17 b:=fun b hb=>(d20.at_ (by omega) (by omega)).trans ((n19.at_ (by omega)).trans (n18.at_ hb))
 have o20:∀ {b},Own h17 b→Own h20 b:=fun w=>d20.ow (n19.ow (n18.ow w))
 have o17:∀ {b},Own h7 b→Own h17 b:=fun w=>d17.ow (n16.ow (f15.own w.lt (fun y=>y) w))
 have F17:Fr No h h17:=((F7.no f15).new n16).did d17 fun hl=>by omega
 have F20:Fr No h h20:=((F17.new n18).new n19).did d20 fun hl=>by omega
 have s7:=F7.size
 have notF:∀ b,h.size≤b→¬ F b:=fun b hb y=>by have:=Flt b y; omega
 have rf20:rd h20 h17.size=fileV t (geoN n) R:=(d20.at_ (by omega) (by omega)).trans ((n19.at_ (by omega)).trans n18.rd)
 have rp20:rd h20 h18.size=[.pointer (some ⟨h17.size,0,none⟩)]:=by rw [d20.rd,n19.rd]; rfl
 have cap:Cap h20 h.size h2.size h18.size h17.size t (geoN n):=⟨(q20 _ (by omega)).trans ((q17 _ (by omega)).trans ((q7 _ (by omega)).trans rt)),(q20 _ (by omega)).trans ((q17 _ (by omega)).trans ((q7 _ (by omega)).trans rg)),rp20⟩
 refine ⟨_,rdc rp20 rfl,walkA_spec (gl.no F20) dm (x.no F20) rf20 (d20.ow (n19.ow n18.own)) hR hk.1 hk.2 cap ⟨notF _ (by omega),notF _ (by omega),notF _ (by omega),notF _ (by omega)⟩ ⟨by omega,by omega,by omega⟩ (fun b hb=>⟨g0 b hb,by omega⟩) hu fun h21 F' f21 g21 x21 r21 o21 l21 u21=>⟨_,_,rfl,?_⟩⟩
 have ea:addM T (geoN n) R k=if (walkA (geoN n) (wayM k.toNat) T R 0).2.2≠0 then (((walkA (geoN n) (wayM k.toNat) T R 0).1.1.back T.undo.length).1,z15,0,(walkA (geoN n) (wayM k.toNat) T R 0).2.2)
   else ((walkA (geoN n) (wayM k.toNat) T R 0).1.1,(walkA (geoN n) (wayM k.toNat) T R 0).1.2,(walkA (geoN n) (wayM k.toNat) T R 0).2.1,0):=by unfold addM; rw [if_neg (by omega)]
 rw [ea] at hK
 generalize walkA (geoN n) (wayM k.toNat) T R 0=W at hK x21 r21 l21 u21
 obtain ⟨⟨T',R'⟩,n1,e1⟩:=W
 simp only at hK x21 r21 l21 u21
 have z21:=f21.size
 have q21:∀ b,h.size≤b→b<h20.size→b≠h17.size→rd h21 b=rd h20 b:=fun b h1 h2 h3=>f21.rd h2 (by rintro (y|y); exact notF b h1 y; exact h3 y)
 have w21:∀ {b},h.size≤b→b≠h17.size→Own h20 b→Own h21 b:=fun h1 h3 w=>f21.own w.lt (by rintro (y|y); exact notF _ h1 y; exact h3 y) w
 have rn21:rd h21 h5.size=[.int .i64 0]:=(q21 _ (by omega) (by omega) (by omega)).trans ((q20 _ (by omega)).trans ((q17 _ (by omega)).trans ((q7 _ (by omega)).trans rn)))
 have re21:rd h21 h6.size=[.int .i64 0]:=(q21 _ (by omega) (by omega) (by omega)).trans ((q20 _ (by omega)).trans ((q17 _ (by omega)).trans ((q7 _ (by omega)).trans re)))
 have ry21:rd h21 h4.size=ints z15:=(q21 _ (by omega) (by omega) (by omega)).trans ((q20 _ (by omega)).trans ((q17 _ (by omega)).trans ((q7 _ (by omega)).trans ry)))
 have on21:Own h21 h5.size:=w21 (by omega) (by omega) (o20 (o17 on))
 have oe21:Own h21 h6.size:=w21 (by omega) (by omega) (o20 (o17 oe'))
 have oy21:Own h21 h4.size:=w21 (by omega) (by omega) (o20 (o17 oy))
 have rp21:rd h21 h18.size=[.pointer (some ⟨h17.size,0,none⟩)]:=(q21 _ (by omega) (by omega) (by omega)).trans rp20
 have rb21:rd h21 h15.size=[gdV ob tb mb]:=(q21 _ (by omega) (by omega) (by omega)).trans ((q20 _ (by omega)).trans (by rw [d17.rd,n16.rd]; rfl))
 have F21:Fr F h h21:=(F20.mono fun _ _ y=>y.elim).trans f21 fun b hb y=>by
  rcases y with y|y
  ·exact y
  ·omega
 have G21:Gw h F h21 F':=(Gw.refl F20.size Flt).trans g21 F20.size
 have old:∀ b,b<h20.size→(F' b↔F b):=g21.old
 have notF':∀ b,h.size≤b→b<h20.size→¬ F' b:=fun b h1 h2 y=>notF b h1 ((old b h2).mp y)
 have gd21:Gd h21 ob tb mb t T.mark:=by
  have g17:Gd h17 ob tb mb t T.mark:=⟨(q17 _ gl1').trans gd.o,(q17 _ gl2').trans gd.t,(q17 _ gl3').trans gd.m⟩
  have g20:Gd h20 ob tb mb t T.mark:=⟨(q20 _ (by omega)).trans g17.o,(q20 _ (by omega)).trans g17.t,(q20 _ (by omega)).trans g17.m⟩
  exact ⟨(q21 _ (by omega) (by omega) (by omega)).trans g20.o,(q21 _ (by omega) (by omega) (by omega)).trans g20.t,(q21 _ (by omega) (by omega) (by omega)).trans g20.m⟩
 have lr:R'.length=15:=l21
 refine Put.intro on21 (by rw [rn21]; decide) fun h22 d22=>Put.intro (d22.ow oe21) (by rw [d22.at_ (by omega) (by omega),re21]; decide) fun h23 d23=>?_
 have z22:=d22.size
 have z23:=d23.size
 have q23:∀ b,b<h21.size→b≠h5.size→b≠h6.size→rd h23 b=rd h21 b:=fun b hb h1 h2=>(d23.at_ (by omega) h2).trans (d22.at_ hb h1)
 have rn23:rd h23 h5.size=[.int .i64 n1]:=(d23.at_ (by omega) (by omega)).trans (by rw [d22.rd,rn21]; rfl)
 have re23:rd h23 h6.size=[.int .i64 e1]:=by rw [d23.rd,d22.at_ (by omega) (by omega),re21]; rfl
 have rf23:rd h23 h17.size=fileV t (geoN n) R':=(q23 _ (by omega) (by omega) (by omega)).trans r21
 refine ⟨_,rdc ((q23 _ (by omega) (by omega) (by omega)).trans rp21) rfl,os ⟨ints R',by rw [ints_length,lr],cellsa rf23 ?_,n1,rdc rn23 rfl,e1,rdc re23 rfl,?_⟩⟩
 ·show (ints R').take _=_
  exact List.take_of_length_le (Nat.le_refl _)
 refine PutRow.intro (d23.ow (d22.ow oy21)) (by rw [ints_length,lr]) (ints_one _) (by rw [q23 _ (by omega) (by omega) (by omega),ry21]; exact Nat.le_refl _) fun h24 d24=>?_
 have z24:=d24.size
 have ry24:rd h24 h4.size=ints R':=by rw [d24.rd,q23 _ (by omega) (by omega) (by omega),ry21]; exact put_all _ _ (by rw [ints_length,lr]; rfl)
 have rn24:rd h24 h5.size=[.int .i64 n1]:=(d24.at_ (by omega) (by omega)).trans rn23
 have re24:rd h24 h6.size=[.int .i64 e1]:=(d24.at_ (by omega) (by omega)).trans re23
 refine ⟨rdc rn24 rfl,rdc re24 rfl,Put.intro (d24.ow (d23.ow (d22.ow on21))) (by rw [rn24]; exact Nat.zero_lt_one) fun h25 d25=>?_⟩
 have z25:=d25.size
 have re25:rd h25 h6.size=[.int .i64 e1]:=(d25.at_ (by omega) (by omega)).trans re24
 have oe25:Own h25 h6.size:=d25.ow (d24.ow (d23.ow (d22.ow oe21)))
 refine ⟨rdc re25 rfl,Put.intro oe25 (by rw [re25]; exact Nat.zero_lt_one) fun h26 d26=>?_⟩
 have z26:=d26.size
 have q26:∀ b,b<h21.size→b≠h4.size→b≠h5.size→b≠h6.size→rd h26 b=rd h21 b:=fun b hb h1 h2 h3=>(d26.at_ (by omega) h3).trans ((d25.at_ (by omega) h2).trans ((d24.at_ (by omega) h1).trans (q23 b hb h2 h3)))
 have re26:rd h26 h6.size=[.int .i64 e1]:=by rw [d26.rd,re25]; rfl
 have rn26:rd h26 h5.size=[.int .i64 n1]:=(d26.at_ (by omega) (by omega)).trans (by rw [d25.rd,rn24]; rfl)
 have ry26:rd h26 h4.size=ints R':=(d26.at_ (by omega) (by omega)).trans ((d25.at_ (by omega) (by omega)).trans ry24)
 have oy26:Own h26 h4.size:=d26.ow (d25.ow d24.own)
 have on26:Own h26 h5.size:=d26.ow d25.own
 have f2126:Fr (fun b=>b=h4.size∨b=h5.size∨b=h6.size) h21 h26:=((((Fr.refl _ _).did d22 fun _ => .inr (.inl rfl)).did d23 fun _ => .inr (.inr rfl)).did d24 fun _ => .inl rfl).did d25 (fun _ => .inr (.inl rfl)) |>.did d26 fun _ => .inr (.inr rfl)
 have x26:Tx h26 F' t d T':=x21.fr f2126 fun b hb y=>by
  rcases y with rfl|rfl|rfl
  ·exact notF' _ (by omega) (by omega) hb
  ·exact notF' _ (by omega) (by omega) hb
  ·exact notF' _ (by omega) (by omega) hb
 have gd26:Gd h26 ob tb mb t T.mark:=gd21.fr f2126 (by rintro (y|y|y) <;> omega) (by rintro (y|y|y) <;> omega) (by rintro (y|y|y) <;> omega)
 have F26:Fr F h h26:=F21.trans f2126 fun b hb y=>by rcases y with y|y|y <;> omega
 have G26:Gw h F h26 F':=⟨G21.old,fun b hb=>Nat.lt_of_lt_of_le (G21.lt b hb) f2126.size⟩
 have em:T.mark=((T.undo.length:Int),0):=by unfold TM.mark; rw [live,if_neg (by simp)]
 refine bmap_Add_c1.okD (os ⟨_,rdc ((q26 _ (by omega) (by omega) (by omega) (by omega)).trans rb21) rfl,os ⟨_,rdc re26 rfl,guard_c1_spec x26 gd26 (by omega) fun h27 f27 x27=>⟨rfl,?_⟩⟩⟩)
 have z27:=f27.size
 have q27:∀ b,h.size≤b→b<h20.size→rd h27 b=rd h26 b:=fun b h1 h2=>f27.rd (by omega) (notF' b h1 h2)
 have F27:Fr F h h27:=F26.trans f27 fun b hb y=>(old b (by omega)).mp y
 have G27:Gw h F h27 F':=⟨G26.old,fun b hb=>Nat.lt_of_lt_of_le (G26.lt b hb) f27.size⟩
 rw [em] at x27
 refine os ⟨_,rdc ((q27 _ (by omega) (by omega)).trans re26) rfl,cn (fun he=>?_) fun he=>?_⟩
 ·rw [if_pos ⟨he,rfl⟩] at x27
  rw [if_pos he] at hK
  refine os (PutRow.intro (f27.own (by omega) (notF' _ (by omega) (by omega)) oy26) rfl z15_one (by rw [q27 _ (by omega) (by omega),ry26,ints_length,lr]; exact Nat.le_refl _) fun h28 d28=>os (Put.intro (d28.ow (f27.own (by omega) (notF' _ (by omega) (by omega)) on26)) (by rw [d28.at_ (by omega) (by omega),q27 _ (by omega) (by omega),rn26]; exact Nat.zero_lt_one) fun h29 d29=>?_))
  have z28:=d28.size
  have z29:=d29.size
  have f2729:Fr (fun b=>b=h4.size∨b=h5.size) h27 h29:=((Fr.refl _ _).did d28 fun _ => .inl rfl).did d29 fun _ => .inr rfl
  refine ⟨ints z15,rfl,cellsAll ?_,0,rdc (xs:=[.int .i64 0]) ?_ rfl,e1,rdc (xs:=[.int .i64 e1]) ?_ rfl,hK h29 F' (F27.trans f2729 fun b hb y=>by rcases y with y|y <;> omega) ⟨G27.old,fun b hb=>Nat.lt_of_lt_of_le (G27.lt b hb) f2729.size⟩ (x27.fr f2729 fun b hb y=>?_)⟩
  ·rw [d29.at_ (by omega) (by omega),d28.rd,q27 _ (by omega) (by omega),ry26]; exact put_all _ _ (by rw [ints_length,lr]; rfl)
  ·rw [d29.rd,d28.at_ (by omega) (by omega),q27 _ (by omega) (by omega),rn26]; rfl
  ·rw [d29.at_ (by omega) (by omega),d28.at_ (by omega) (by omega),q27 _ (by omega) (by omega),re26]
  ·rcases y with rfl|rfl
   ·exact notF' _ (by omega) (by omega) hb
   ·exact notF' _ (by omega) (by omega) hb
 ·rw [if_neg (fun y=>y.1 he)] at x27
  rw [if_neg (fun y=>y he)] at hK
  have he:e1=0:=he
  subst he
  exact ⟨ints R',by rw [ints_length,lr],cellsAll ((q27 _ (by omega) (by omega)).trans ry26),n1,rdc ((q27 _ (by omega) (by omega)).trans rn26) rfl,0,rdc ((q27 _ (by omega) (by omega)).trans re26) rfl,hK h27 F' F27 G27 x27⟩
end Go.Proofs.YtiapingedfnlnaaGreatDoor.Bm
namespace Go.Proofs.YtiapingedfnlnaaGreatDoor.Bm
open Go Go.Proofs Wx Hp W Ad Tm Spc Re Av
open Hd (ints wrap_u64)
open In (Glo ints_length ints_one)
def numsL (b:Txt):List Int:=(List.range 128).map fun i=>((num4 b i:Nat):Int)
theorem numsL_len (b:Txt):(numsL b).length=128:=by unfold numsL; rw [List.length_map,List.length_range]
theorem numsL_get {b:Txt} {j:Nat} (h:j<(numsL b).length):(numsL b)[j]=((num4 b j:Nat):Int):=by
 simp only [numsL,List.getElem_map,List.getElem_range]
theorem numbers_spec {h:Heap} {F:Nat→Prop} {t d:Option Addr} {T:TM} {g:G} {R:List Int} {fb:Nat} {tab:Int} {K:Value→Heap→Prop} (gl:In.Glo h) (x:Tx h F t d T) (e:rd h fb=fileV t g R)
  (hE:(lookM g tab≠0∨(T.read tab).2≠0)→∀ h',Fr No h h'→K (.tuple #[.slice none 0 0,.slice none 0 0,.int .i64 (if lookM g tab≠0 then lookM g tab else (T.read tab).2)]) h')
  (hK:lookM g tab=0→(T.read tab).2=0→(T.read tab).1.length=512→∀ sa sc lb h',Fr No h h'→h.size≤lb→Sl h' 1 sa 512 sc ((T.read tab).1.map bv) (fun y=>h.size≤y∧y≠lb)→rd h' lb=ints (numsL (T.read tab).1)→Own h' lb →
   K (.tuple #[.slice sa 512 sc,.slice (some ⟨lb,0,none⟩) 128 128,.int .i64 0]) h'):C.bmap_file_numbers (some ⟨fb,0,none⟩) tab h K:=by
 refine bmap_file_numbers.ok (look_spec e ⟨_,rfl,cn (fun y=>?_) fun y=>os ⟨t,rda e rfl,Tm.Read_spec x fun sa sl sc h3 f3 el s3=>⟨_,_,_,_,rfl,cn (fun y2=>?_) fun y2=>?_⟩⟩⟩)
 ·have:=hE (.inl y) h (Fr.refl _ _)
  rw [if_pos y] at this; exact this
 ·have:=hE (.inr y2) h3 f3
  rw [if_neg (fun z=>z y)] at this; exact this
 have hlen:(T.read tab).1.length=512:=Tx.readLen x y2
 have hK:=hK y y2 hlen
 rw [hlen] at el
 subst el
 generalize (T.read tab).1=b at hK hlen s3
 refine ⟨⟨by decide,by decide,by decide,by decide⟩,New.intro fun h4 n4=>?_⟩
 have z3:=f3.size
 have z4:=n4.size
 have nl:=numsL_len b
 have r4:rd h4 h3.size=ints (List.replicate 128 0):=by
  rw [n4.rd,ints,List.map_replicate]; exact rep_one' 128
 have s4:=s3.fr n4.fr fun _ _ _ y=>y
 have s4:Sl h4 1 sa 512 sc (b.map bv) (fun y=>h.size≤y∧y≠h3.size):=(sl_rngB s3).fr n4.fr (fun _ _ _ y=>y) |>.mono fun y hy=>⟨hy.1,by have:=hy.2; omega⟩
 refine ⟨fun i hh=>∃ j:Nat,i=j∧j≤128∧Fr (fun y=>y=h3.size) h4 hh∧Own hh h3.size∧rd hh h3.size=ints ((numsL b).take j++List.replicate (128 - j) 0),fun i _=>((128:Int) - i).toNat,⟨0,rfl,by decide,Fr.refl _ _,n4.own,r4⟩,?_⟩
 intro i h5 hI
 obtain ⟨j,ei,hj,f5,o5,r5⟩:=hI
 have F5:Fr No h h5:=((f3.new n4).trans f5 fun c hc y=>by have y:c=h3.size:=y; omega)
 have s5:=s4.fr f5 fun c _ hc y=>hc.2 y
 have c128:((Int.toNat 128:Nat):Int)=128:=rfl
 rw [c128]
 refine cd (fun hl=>?_) fun hl=>?_
 ·subst ei
  have hj':j<(numsL b).length:=by omega
  rw [wrap_i64 (n:=4*(j:Int)) (by omega) (by omega)]
  refine In.Get_w (gl.no F5) s5.str (by decide) (.inr (.inr (.inl rfl))) (by omega) (by omega) ⟨_,_,rfl,⟨by omega,hl⟩,?_⟩
  have en:leN ((b.drop (4*(j:Int)).toNat).take (Int.toNat 4))=num4 b j:=by
   unfold num4
   rw [show (4*(j:Int)).toNat=4*j by omega]; rfl
  have lt:=num4_lt b j
  rw [en,wrap_i64 (n:=((num4 b j:Nat):Int)) (by omega) (by omega),wrap_i64 (n:=(j:Int)+1) (by omega) (by omega),Int.toNat_natCast]
  have ll:(ints ((numsL b).take j++List.replicate (128 - j) 0)).length=128:=by rw [ints_length,List.length_append,List.length_take,List.length_replicate]; omega
  refine Put.add o5 (by rw [r5,ll]; omega) fun h6 d6=>⟨⟨j+1,by omega,by omega,f5.did d6 fun _=>rfl,d6.own,?_⟩,by show ((128:Int) - ((j:Int)+1)).toNat<((128:Int) - (j:Int)).toNat; omega⟩
  rw [d6.rd,r5,Nat.zero_add,ints,← List.map_set]
  show ints _=ints _
  congr 1
  have lt':((numsL b).take j).length=j:=by rw [List.length_take]; omega
  rw [List.set_append_right _ _ (by omega),lt',Nat.sub_self,take_snoc _ _ hj',numsL_get hj',show 128 - j=(128 - (j+1))+1 by omega,List.replicate_succ,List.set_cons_zero,List.append_assoc]; rfl
 ·have ej:j=128:=by omega
  subst ej
  rw [Nat.sub_self,List.replicate_zero,List.append_nil,List.take_of_length_le (by omega)] at r5
  exact hK sa sc h3.size h5 F5 z3 s5 r5 o5
end Go.Proofs.YtiapingedfnlnaaGreatDoor.Bm
namespace Go.Proofs.YtiapingedfnlnaaGreatDoor.Bm
open Go Go.Proofs Wx Hp W Ad Tm Spc Re Av
open Hd (ints wrap_u64)
open In (Glo ints_length ints_one)
structure AllS where
 L:List (Int×Int)
 M:List Int
def AllS.n (S:AllS):Nat:=S.L.length+S.M.length
abbrev DoM := AllS→Nat→Int→AllS×Int
def ownA (g:G) (S:AllS) (k v:Int):AllS×Int:=if v=0 then (S,0) else (⟨S.L++[(k,v)],S.M⟩,lookM g v)
def eachGo (dO:DoM):List Int→Nat→AllS→AllS×Int
 | [],_,S=>(S,0)
 | v::r,i,S=>if (dO S i v).2≠0 then dO S i v else eachGo dO r (i+1) (dO S i v).1
def eachM (T:TM) (g:G) (dO:DoM) (tab:Int) (S:AllS):AllS×Int :=
 if tab=0 then (S,0) else if lookM g tab≠0 then (⟨S.L,S.M++[tab]⟩,lookM g tab) else if (T.read tab).2≠0 then (⟨S.L,S.M++[tab]⟩,(T.read tab).2) else
  eachGo dO (numsL (T.read tab).1) 0 ⟨S.L,S.M++[tab]⟩
def dirD (g:G):DoM:=fun S i v=>ownA g S i v
def oneD (g:G):DoM:=fun S i v=>ownA g S (10+i) v
def inD (g:G) (i:Nat):DoM:=fun S j v=>ownA g S (138+(i:Int)*128+j) v
def twoD (T:TM) (g:G):DoM:=fun S i tab=>eachM T g (inD g i) tab S
def allS (T:TM) (g:G) (R:List Int):AllS×Int :=
 if (eachGo (dirD g) ((R.drop 3).take 10) 0 ⟨[],[]⟩).2≠0 then eachGo (dirD g) ((R.drop 3).take 10) 0 ⟨[],[]⟩ else
 if (eachM T g (oneD g) (R.getD 13 0) (eachGo (dirD g) ((R.drop 3).take 10) 0 ⟨[],[]⟩).1).2≠0 then eachM T g (oneD g) (R.getD 13 0) (eachGo (dirD g) ((R.drop 3).take 10) 0 ⟨[],[]⟩).1 else
  eachM T g (twoD T g) (R.getD 14 0) (eachM T g (oneD g) (R.getD 13 0) (eachGo (dirD g) ((R.drop 3).take 10) 0 ⟨[],[]⟩).1).1
def allM (T:TM) (g:G) (R:List Int):List (Int×Int)×List Int×Int:=if (allS T g R).2≠0 then ([],[],(allS T g R).2) else ((allS T g R).1.L,(allS T g R).1.M,0)
theorem ownA_n (g:G) (S:AllS) (k v:Int):(ownA g S k v).1.n≤S.n+1:=by
 unfold ownA
 split
 ·exact Nat.le_add_right _ _
 ·unfold AllS.n; rw [List.length_append]; show S.L.length+1+S.M.length≤_; omega
theorem eachGo_n {dO:DoM} {w:Nat} (hd:∀ S i v,(dO S i v).1.n≤S.n+w):∀ (l:List Int) (i:Nat) (S:AllS),(eachGo dO l i S).1.n≤S.n+w*l.length
 | [],_,S=>Nat.le_add_right _ _
 | v::r,i,S=>by
  rw [List.length_cons,Nat.mul_succ]
  have h1:=hd S i v
  unfold eachGo
  split
  ·omega
  ·have:=eachGo_n hd r (i+1) (dO S i v).1; omega
theorem eachM_n {T:TM} {g:G} {dO:DoM} {tab:Int} {S:AllS} {w:Nat} (hd:∀ S i v,(dO S i v).1.n≤S.n+w):(eachM T g dO tab S).1.n≤S.n+(w*128+1):=by
 have e:(⟨S.L,S.M++[tab]⟩:AllS).n=S.n+1:=by unfold AllS.n; rw [List.length_append]; show S.L.length+(S.M.length+1)=_; omega
 unfold eachM
 split
 ·exact Nat.le_add_right _ _
 ·split
  ·show (⟨S.L,S.M++[tab]⟩:AllS).n≤_; omega
  ·split
   ·show (⟨S.L,S.M++[tab]⟩:AllS).n≤_; omega
   ·have:=eachGo_n hd (numsL (T.read tab).1) 0 ⟨S.L,S.M++[tab]⟩
    rw [numsL_len] at this; omega
def pcellA (p:Int×Int):List Value:=[.int .i64 p.1,.int .i64 p.2]
structure AIds where
 fb:Nat
 fp:Nat
 bc:Nat
 tc:Nat
 oc:Nat
 ec:Nat
def ownV (I:AIds):Value := .func (.func 150) #[] ⟨[.pointer (some ⟨I.bc,0,none⟩),.pointer (some ⟨I.fp,0,none⟩)]⟩
def eachV (I:AIds):Value := .func (.func 152) #[] ⟨[.pointer (some ⟨I.fp,0,none⟩),.pointer (some ⟨I.tc,0,none⟩)]⟩
structure AH (F:Nat→Prop) (t d:Option Addr) (T:TM) (g:G) (R:List Int) (I:AIds) (hh:Heap) (Q:Nat→Prop) (S:AllS):Prop where
 gl:In.Glo hh
 x:Tx hh F t d T
 rf:rd hh I.fb=fileV t g R
 rp:rd hh I.fp=[.pointer (some ⟨I.fb,0,none⟩)]
 ro:rd hh I.oc=[ownV I]
 re:rd hh I.ec=[eachV I]
 ob:Own hh I.bc
 ot:Own hh I.tc
 ne:I.bc≠I.tc
 rows:∃ P1 P2 a1 c1 a2 c2,rd hh I.bc=[.slice a1 S.L.length c1]∧rd hh I.tc=[.slice a2 S.M.length c2]∧Sl hh 2 a1 S.L.length c1 (S.L.flatMap pcellA) P1∧Sl hh 1 a2 S.M.length c2 (S.M.map (.int .i64)) P2∧(∀ b,P1 b→b≠I.bc∧b≠I.tc∧¬ P2 b)∧(∀ b,P2 b→b≠I.bc∧b≠I.tc)∧∀ b,Q b↔b=I.bc∨b=I.tc∨P1 b∨P2 b
 lt:∀ b,Q b→b<hh.size
 nQ:∀ b,Q b→¬ F b∧b≠I.fb∧b≠I.fp∧b≠I.oc∧b≠I.ec∧1≤b
theorem AH.no {F:Nat→Prop} {t d:Option Addr} {T:TM} {g:G} {R:List Int} {I:AIds} {hh h':Heap} {Q:Nat→Prop} {S:AllS} (a:AH F t d T g R I hh Q S) (f:Fr No hh h'):AH F t d T g R I h' Q S:=by
 obtain ⟨P1,P2,a1,c1,a2,c2,r1,r2,s1,s2,k1,k2,k3⟩:=a.rows
 have q:∀ {b xs v},rd hh b=v::xs→rd h' b=v::xs:=fun e=>(f.rd (rd_lt (o:=0) (by rw [e]; rfl)) fun y=>y).trans e
 exact ⟨a.gl.no f,a.x.no f,q a.rf,q a.rp,q a.ro,q a.re,f.own a.ob.lt (fun y=>y) a.ob,f.own a.ot.lt (fun y=>y) a.ot,a.ne,⟨P1,P2,a1,c1,a2,c2,q r1,q r2,s1.fr f (fun _ _ _ y=>y),s2.fr f (fun _ _ _ y=>y),k1,k2,k3⟩,fun b hb=>Nat.lt_of_lt_of_le (a.lt b hb) f.size,a.nQ⟩
def DoS (dv:Value) (dO:DoM) (h0:Heap) (Q0:Nat→Prop) (F:Nat→Prop) (t d:Option Addr) (T:TM) (g:G) (R:List Int) (I:AIds) (lim:Nat):Prop :=
 ∀ (hh:Heap) (Q:Nat→Prop) (S:AllS) (i:Nat) (v:Int) (K:Value→Heap→Prop),Fr Q0 h0 hh→Gw h0 Q0 hh Q→AH F t d T g R I hh Q S→S.n<lim→i<128 → -9223372036854775808≤v→v≤9223372036854775807 →
  (∀ h' Q',Fr Q hh h'→Gw hh Q h' Q'→AH F t d T g R I h' Q' (dO S i v).1→K (.int .i64 (dO S i v).2) h')→HCallsV Tryz.prog dv [.int .i64 (i:Int),.int .i64 v] hh K
theorem own_spec' {F:Nat→Prop} {t d:Option Addr} {T:TM} {g:G} {R:List Int} {I:AIds} {hh:Heap} {Q:Nat→Prop} {S:AllS} {k v:Int} {K:Value→Heap→Prop} (a:AH F t d T g R I hh Q S) (hn:S.n<1000000)
  (hK:∀ h' Q',Fr Q hh h'→Gw hh Q h' Q'→AH F t d T g R I h' Q' (ownA g S k v).1→K (.int .i64 (ownA g S k v).2) h'):HCallsV Tryz.prog (ownV I) [.int .i64 k,.int .i64 v] hh K:=by
 show C.bmap_All_c1 k v (some ⟨I.bc,0,none⟩) (some ⟨I.fp,0,none⟩) hh K
 obtain ⟨P1,P2,a1,c1,a2,c2,r1,r2,s1,s2,k1,k2,k3⟩:=a.rows
 refine bmap_All_c1.ok (ce (fun y=>?_) fun y=>os ⟨_,_,_,rdc r1 rfl,rfl,New.intro fun h2 n2=>⟨pcellA (k,v),rfl,cellsAll n2.rd,one2 rfl rfl,?_⟩⟩)
 ·have e0:ownA g S k v=(S,0):=by unfold ownA; rw [if_pos y]
  rw [e0] at hK
  exact hK hh Q (Fr.refl _ _) (Gw.refl (Nat.le_refl _) a.lt) a
 have e0:ownA g S k v=(⟨S.L++[(k,v)],S.M⟩,lookM g v):=by unfold ownA; rw [if_neg y]
 rw [e0] at hK
 have z2:=n2.size
 have hSn:S.L.length≤S.n:=Nat.le_add_right _ _
 refine append_own (elem:=ti264) ((sl_rngB s1).fr n2.fr fun _ _ _ y=>y) rfl rfl (by show (_+1)*16≤_; omega) (by omega) fun a' c' h3 f3 s3=>?_
 have z3:=f3.size
 have lb:=a.ob.lt
 have ltc:=a.ot.lt
 have q3:∀ b,b<hh.size→¬ P1 b→rd h3 b=rd hh b:=fun b hb hp=>(f3.rd (by omega) fun y=>hp y.1).trans (n2.at_ hb)
 have w3:∀ b,¬ P1 b→Own hh b→Own h3 b:=fun b hp o=>f3.own (by have:=o.lt; omega) (fun y=>hp y.1) (n2.ow o)
 have nb:¬ P1 I.bc:=fun y=>(k1 _ y).1 rfl
 have nt:¬ P1 I.tc:=fun y=>(k1 _ y).2.1 rfl
 have r3:rd h3 I.bc=_:=(q3 _ lb nb).trans r1
 refine os (Put.intro (w3 _ nb a.ob) (by rw [r3]; exact Nat.zero_lt_one) fun h4 d4=>?_)
 have z4:=d4.size
 have nid:∀ b,(b=I.fb∨b=I.fp∨b=I.oc∨b=I.ec∨b<1∨F b)→¬ Q b:=fun b hb y=>by
  have n:=a.nQ b y
  rcases hb with h|h|h|h|h|h
  ·exact n.2.1 h
  ·exact n.2.2.1 h
  ·exact n.2.2.2.1 h
  ·exact n.2.2.2.2.1 h
  ·omega
  ·exact n.1 h
 have F4:Fr Q hh h4:=(((n2.fr.mono fun _ _ y=>y.elim).trans f3 fun b _ y=>(k3 b).mpr (.inr (.inr (.inl y.1)))).did d4 fun _=>(k3 _).mpr (.inl rfl))
 have idl:∀ {b v},rd hh b=[v]→(b=I.fb∨b=I.fp∨b=I.oc∨b=I.ec∨b<1∨F b)→rd h4 b=[v]:=fun e hb=>(F4.rd (rd_lt (o:=0) (by rw [e]; rfl)) (nid _ hb)).trans e
 have rf4:rd h4 I.fb=fileV t g R:=(F4.rd (rd_lt (o:=0) (by rw [a.rf]; rfl)) (nid _ (.inl rfl))).trans a.rf
 have rp4:=idl a.rp (.inr (.inl rfl))
 refine os ⟨_,rdc rp4 rfl,look_spec rf4 ⟨_,rfl,?_⟩⟩
 have s3':=(sl_rngB s3).fr d4.fr fun b hb y e=>by
  have e:b=I.bc:=e
  have y:=y.1
  rcases y with y|y
  ·exact nb (e▸y.1)
  ·rw [e] at y; omega
 have s24:Sl h4 1 a2 S.M.length c2 (S.M.map (.int .i64)) (fun b=>P2 b∧b<hh.size):=(((sl_rngB s2).fr n2.fr fun _ _ _ y=>y).fr f3 fun b _ y z=>(k1 b z.1).2.2 y.1).fr d4.fr fun b _ y e=>(k2 b y.1).1 e
 have rt4:rd h4 I.tc=[.slice a2 S.M.length c2]:=(d4.at_ (by omega) a.ne.symm).trans ((q3 _ ltc nt).trans r2)
 refine hK h4 (fun b=>b=I.bc∨b=I.tc∨((P1 b∧b<hh.size∨h2.size≤b)∧b<h3.size)∨(P2 b∧b<hh.size)) F4 ⟨fun b hb=>?_,fun b hb=>?_⟩ ⟨a.gl.fr F4 (fun b hb=>nid b (by omega)),a.x.fr F4 (fun b hb=>nid b (by simp [hb])),rf4,rp4,idl a.ro (by simp),idl a.re (by simp),d4.own,d4.ow (w3 _ nt a.ot),a.ne,
  ⟨_,_,a',c',a2,c2,?_,rt4,?_,s24,fun b hb=>?_,fun b hb=>k2 b hb.1,fun b=>Iff.rfl⟩,fun b hb=>?_,fun b hb=>?_⟩
 ·show _↔Q b
  rw [k3 b]
  constructor
  ·rintro (y|y|y|y)
   ·exact .inl y
   ·exact .inr (.inl y)
   ·rcases y.1 with z|z
    ·exact .inr (.inr (.inl z.1))
    ·omega
   ·exact .inr (.inr (.inr y.1))
  ·rintro (y|y|y|y)
   ·exact .inl y
   ·exact .inr (.inl y)
   ·exact .inr (.inr (.inl ⟨.inl ⟨y,hb⟩,by omega⟩))
   ·exact .inr (.inr (.inr ⟨y,hb⟩))
 ·rcases hb with y|y|y|y <;> omega
 ·show rd h4 I.bc=[.slice a' (S.L++[(k,v)]).length c']
  rw [d4.rd,r3,List.length_append]; rfl
 ·show Sl h4 2 a' (S.L++[(k,v)]).length c' ((S.L++[(k,v)]).flatMap pcellA) _
  rw [List.length_append,List.flatMap_append]
  exact s3'
 ·rcases hb with ⟨y|y,z⟩
  ·have:=k1 b y.1
   exact ⟨this.1,this.2.1,fun w=>this.2.2 w.1⟩
  ·exact ⟨by omega,by omega,fun w=>by omega⟩
 ·rcases hb with y|y|y|y <;> omega
 ·have new:h2.size≤b→¬ F b∧b≠I.fb∧b≠I.fp∧b≠I.oc∧b≠I.ec∧1≤b:=fun hl=>by
   have l1:I.fb<hh.size:=rd_lt (o:=0) (by rw [a.rf]; rfl)
   have l2:I.fp<hh.size:=rd_lt (o:=0) (by rw [a.rp]; rfl)
   have l3:I.oc<hh.size:=rd_lt (o:=0) (by rw [a.ro]; rfl)
   have l4:I.ec<hh.size:=rd_lt (o:=0) (by rw [a.re]; rfl)
   exact ⟨fun y=>by have:=a.x.lt y; omega,by omega,by omega,by omega,by omega,by omega⟩
  rcases hb with y|y|y|y
  ·exact a.nQ b ((k3 b).mpr (.inl y))
  ·exact a.nQ b ((k3 b).mpr (.inr (.inl y)))
  ·rcases y.1 with z|z
   ·exact a.nQ b ((k3 b).mpr (.inr (.inr (.inl z.1))))
   ·exact new z
  ·exact a.nQ b ((k3 b).mpr (.inr (.inr (.inr y.1))))
end Go.Proofs.YtiapingedfnlnaaGreatDoor.Bm
namespace Go.Proofs.YtiapingedfnlnaaGreatDoor.Bm
open Go Go.Proofs Wx Hp W Ad Tm Spc Re Av
open Hd (ints wrap_u64)
open In (Glo ints_length ints_one)
theorem AH.pushM {F:Nat→Prop} {t d:Option Addr} {T:TM} {g:G} {R:List Int} {I:AIds} {hh:Heap} {Q:Nat→Prop} {S:AllS} {tab:Int} {X:Heap→Prop} (a:AH F t d T g R I hh Q S) (hn:S.n<1000000)
  (hX:∀ h' Q',Fr Q hh h'→Gw hh Q h' Q'→AH F t d T g R I h' Q' ⟨S.L,S.M++[tab]⟩→X h') :
  ∃ (sA3:Option Addr) (sL3:Nat) (sC3:Nat),cellOf hh ⟨I.tc,0,none⟩=some (.slice sA3 sL3 sC3)∧New [.int .i64 tab] 3 hh fun h3 =>
   ∃ new1:List Value,List.length new1=1*1∧SlCells h3 (some ⟨hh.size,0,none⟩) new1∧(∀ v ∈ new1,v.oneCell'=true)∧AppendP ti3 3 sA3 sL3 sC3 1 new1 h3 fun sA4 sL4 sC4 h4=>onSome (some (⟨I.tc,0,none⟩:Addr)) fun p3=>Put p3 (.slice sA4 sL4 sC4) h4 fun h5=>X h5:=by
 obtain ⟨P1,P2,a1,c1,a2,c2,r1,r2,s1,s2,k1,k2,k3⟩:=a.rows
 refine ⟨_,_,_,rdc r2 rfl,New.intro fun h2 n2=>⟨[.int .i64 tab],rfl,cellsAll n2.rd,(fun v hv=>by rw [List.mem_singleton.mp hv]; rfl),?_⟩⟩
 have z2:=n2.size
 have hSn:S.M.length≤S.n:=Nat.le_add_left _ _
 refine append_own (elem:=ti3) ((sl_rngB s2).fr n2.fr fun _ _ _ y=>y) rfl rfl (by show (_+1)*8≤_; omega) (by omega) fun a' c' h3 f3 s3=>?_
 have z3:=f3.size
 have lb:=a.ob.lt
 have ltc:=a.ot.lt
 have q3:∀ b,b<hh.size→¬ P2 b→rd h3 b=rd hh b:=fun b hb hp=>(f3.rd (by omega) fun y=>hp y.1).trans (n2.at_ hb)
 have w3:∀ b,¬ P2 b→Own hh b→Own h3 b:=fun b hp o=>f3.own (by have:=o.lt; omega) (fun y=>hp y.1) (n2.ow o)
 have nb:¬ P2 I.bc:=fun y=>(k2 _ y).1 rfl
 have nt:¬ P2 I.tc:=fun y=>(k2 _ y).2 rfl
 have r3:rd h3 I.tc=_:=(q3 _ ltc nt).trans r2
 refine os (Put.intro (w3 _ nt a.ot) (by rw [r3]; exact Nat.zero_lt_one) fun h4 d4=>?_)
 have z4:=d4.size
 have nid:∀ b,(b=I.fb∨b=I.fp∨b=I.oc∨b=I.ec∨b<1∨F b)→¬ Q b:=fun b hb y=>by
  have n:=a.nQ b y
  rcases hb with h|h|h|h|h|h
  ·exact n.2.1 h
  ·exact n.2.2.1 h
  ·exact n.2.2.2.1 h
  ·exact n.2.2.2.2.1 h
  ·omega
  ·exact n.1 h
 have F4:Fr Q hh h4:=(((n2.fr.mono fun _ _ y=>y.elim).trans f3 fun b _ y=>(k3 b).mpr (.inr (.inr (.inr y.1)))).did d4 fun _=>(k3 _).mpr (.inr (.inl rfl)))
 have idl:∀ {b v},rd hh b=[v]→(b=I.fb∨b=I.fp∨b=I.oc∨b=I.ec∨b<1∨F b)→rd h4 b=[v]:=fun e hb=>(F4.rd (rd_lt (o:=0) (by rw [e]; rfl)) (nid _ hb)).trans e
 have rf4:rd h4 I.fb=fileV t g R:=(F4.rd (rd_lt (o:=0) (by rw [a.rf]; rfl)) (nid _ (.inl rfl))).trans a.rf
 have rp4:=idl a.rp (.inr (.inl rfl))
 have s3':=(sl_rngB s3).fr d4.fr fun b hb y e=>by
  have e:b=I.tc:=e
  have y:=y.1
  rcases y with y|y
  ·exact nt (e▸y.1)
  ·rw [e] at y; omega
 have s14:Sl h4 2 a1 S.L.length c1 (S.L.flatMap pcellA) (fun b=>P1 b∧b<hh.size):=(((sl_rngB s1).fr n2.fr fun _ _ _ y=>y).fr f3 fun b _ y z=>(k1 b y.1).2.2 z.1).fr d4.fr fun b _ y e=>(k1 b y.1).2.1 e
 have rb4:rd h4 I.bc=[.slice a1 S.L.length c1]:=(d4.at_ (by omega) a.ne).trans ((q3 _ lb nb).trans r1)
 refine hX h4 (fun b=>b=I.bc∨b=I.tc∨(P1 b∧b<hh.size)∨((P2 b∧b<hh.size∨h2.size≤b)∧b<h3.size)) F4 ⟨fun b hb=>?_,fun b hb=>?_⟩ ⟨a.gl.fr F4 (fun b hb=>nid b (by omega)),a.x.fr F4 (fun b hb=>nid b (by simp [hb])),rf4,rp4,idl a.ro (by simp),idl a.re (by simp),d4.ow (w3 _ nb a.ob),d4.own,a.ne,
  ⟨_,_,a1,c1,a',c',rb4,?_,s14,?_,fun b hb=>?_,fun b hb=>?_,fun b=>Iff.rfl⟩,fun b hb=>?_,fun b hb=>?_⟩
 ·show _↔Q b
  rw [k3 b]
  constructor
  ·rintro (y|y|y|y)
   ·exact .inl y
   ·exact .inr (.inl y)
   ·exact .inr (.inr (.inl y.1))
   ·rcases y.1 with z|z
    ·exact .inr (.inr (.inr z.1))
    ·omega
  ·rintro (y|y|y|y)
   ·exact .inl y
   ·exact .inr (.inl y)
   ·exact .inr (.inr (.inl ⟨y,hb⟩))
   ·exact .inr (.inr (.inr ⟨.inl ⟨y,hb⟩,by omega⟩))
 ·rcases hb with y|y|y|y <;> omega
 ·show rd h4 I.tc=[.slice a' (S.M++[tab]).length c']
  rw [d4.rd,r3,List.length_append]; rfl
 ·show Sl h4 1 a' (S.M++[tab]).length c' ((S.M++[tab]).map (.int .i64)) _
  rw [List.length_append,List.map_append]
  exact s3'
 ·have:=k1 b hb.1
  refine ⟨this.1,this.2.1,fun w=>?_⟩
  rcases w with ⟨y|y,z⟩
  ·exact this.2.2 y.1
  ·have:=hb.2; omega
 ·rcases hb with ⟨y|y,z⟩
  ·exact k2 b y.1
  ·exact ⟨by omega,by omega⟩
 ·rcases hb with y|y|y|y <;> omega
 ·have new:h2.size≤b→¬ F b∧b≠I.fb∧b≠I.fp∧b≠I.oc∧b≠I.ec∧1≤b:=fun hl=>by
   have l1:I.fb<hh.size:=rd_lt (o:=0) (by rw [a.rf]; rfl)
   have l2:I.fp<hh.size:=rd_lt (o:=0) (by rw [a.rp]; rfl)
   have l3:I.oc<hh.size:=rd_lt (o:=0) (by rw [a.ro]; rfl)
   have l4:I.ec<hh.size:=rd_lt (o:=0) (by rw [a.re]; rfl)
   exact ⟨fun y=>by have:=a.x.lt y; omega,by omega,by omega,by omega,by omega,by omega⟩
  rcases hb with y|y|y|y
  ·exact a.nQ b ((k3 b).mpr (.inl y))
  ·exact a.nQ b ((k3 b).mpr (.inr (.inl y)))
  ·exact a.nQ b ((k3 b).mpr (.inr (.inr (.inl y.1))))
  ·rcases y.1 with z|z
   ·exact a.nQ b ((k3 b).mpr (.inr (.inr (.inr z.1))))
   ·exact new z
theorem eachGo_cons (dO:DoM) (v:Int) (r:List Int) (i:Nat) (S:AllS):eachGo dO (v::r) i S=if (dO S i v).2≠0 then dO S i v else eachGo dO r (i+1) (dO S i v).1:=rfl
theorem each_spec {F:Nat→Prop} {t d:Option Addr} {T:TM} {g:G} {R:List Int} {I:AIds} {hh:Heap} {Q:Nat→Prop} {S:AllS} {tab:Int} {dv:Value} {dO:DoM} {w lim:Nat} {K:Value→Heap→Prop} (a:AH F t d T g R I hh Q S) (D:DoS dv dO hh Q F t d T g R I lim) (hd:∀ S i v,(dO S i v).1.n≤S.n+w) (hn:S.n+(w*128+2)<lim) (hlim:lim≤1000000)
  (hK:∀ h' Q',Fr Q hh h'→Gw hh Q h' Q'→AH F t d T g R I h' Q' (eachM T g dO tab S).1→K (.int .i64 (eachM T g dO tab S).2) h'):HCallsV Tryz.prog (eachV I) [.int .i64 tab,dv] hh K:=by
 show C.bmap_All_c2 tab dv (some ⟨I.fp,0,none⟩) (some ⟨I.tc,0,none⟩) hh K
 refine bmap_All_c2.ok (ce (fun y=>?_) fun y=>os ⟨_,rdc a.rp rfl,numbers_spec a.gl a.x a.rf (fun he h2 f2=>⟨_,_,_,_,_,_,_,rfl,os ?_⟩) fun y1 y2 hlen sa sc lb h2 f2 hlb s2 r2 o2=>⟨_,_,_,_,_,_,_,rfl,os ?_⟩⟩)
 ·have e0:eachM T g dO tab S=(S,0):=by unfold eachM; rw [if_pos y]
  rw [e0] at hK
  exact hK hh Q (Fr.refl _ _) (Gw.refl (Nat.le_refl _) a.lt) a
 ·have z2:=f2.size
  refine (a.no f2).pushM (by omega) fun h5 Q5 f5 g5 a5=>?_
  have F5:Fr Q hh h5:=(f2.mono fun _ _ y=>y.elim).trans f5 fun _ _ y=>y
  have G5:Gw hh Q h5 Q5:=(Gw.refl z2 a.lt).trans g5 z2
  have hK:=hK h5 Q5 F5 G5
  have e0:eachM T g dO tab S=(⟨S.L,S.M++[tab]⟩,if lookM g tab≠0 then lookM g tab else (T.read tab).2):=by
   unfold eachM
   rw [if_neg y]
   by_cases h1:lookM g tab≠0
   ·rw [if_pos h1,if_pos h1]
   ·rw [if_neg h1,if_neg h1,if_pos (he.resolve_left h1)]
  rw [e0] at hK
  refine ⟨fun e i h6=>e=(if lookM g tab≠0 then lookM g tab else (T.read tab).2)∧i=0∧h6=h5,fun _ _ _=>0,⟨rfl,rfl,rfl⟩,?_⟩
  rintro e i h6 ⟨rfl,rfl,rfl⟩
  exact cd (fun z=>absurd z (by decide)) fun _=>hK a5
 ·have z2:=f2.size
  refine (a.no f2).pushM (by omega) fun h5 Q5 f5 g5 a5=>?_
  have F5:Fr Q hh h5:=(f2.mono fun _ _ y=>y.elim).trans f5 fun _ _ y=>y
  have G5:Gw hh Q h5 Q5:=(Gw.refl z2 a.lt).trans g5 z2
  have z5:=f5.size
  have e0:eachM T g dO tab S=eachGo dO (numsL (T.read tab).1) 0 ⟨S.L,S.M++[tab]⟩:=by unfold eachM; rw [if_neg y,if_neg (fun z=>z y1),if_neg (fun z=>z y2)]
  rw [e0] at hK
  have nl:=numsL_len (T.read tab).1
  have nlt:∀ j (hj:j<(numsL (T.read tab).1).length),0≤(numsL (T.read tab).1)[j]∧(numsL (T.read tab).1)[j]<4294967296:=fun j hj=>by
   rw [numsL_get hj]
   have:=num4_lt (T.read tab).1 j
   omega
  generalize numsL (T.read tab).1=ns at hK r2 nl nlt
  have lbl:lb<h2.size:=o2.lt
  have nlb:¬ Q lb:=fun y=>by have:=a.lt lb y; omega
  have r5:rd h5 lb=ints ns:=(f5.rd lbl nlb).trans r2
  have n5:(⟨S.L,S.M++[tab]⟩:AllS).n=S.n+1:=by unfold AllS.n; rw [List.length_append]; show S.L.length+(S.M.length+1)=_; omega
  refine ⟨fun e i h6=>∃ (j:Nat) (Q6:Nat→Prop) (S6:AllS),i=j∧j≤128∧Fr Q hh h6∧Gw h2 Q h6 Q6∧h2.size≤h6.size∧AH F t d T g R I h6 Q6 S6∧rd h6 lb=ints ns∧S6.n≤S.n+1+w*j ∧
    ((e=0∧eachGo dO (ns.drop j) j S6=eachGo dO ns 0 ⟨S.L,S.M++[tab]⟩)∨(e≠0∧(S6,e)=eachGo dO ns 0 ⟨S.L,S.M++[tab]⟩)),fun _ i _=>((128:Int) - i).toNat,
   ⟨0,Q5,_,rfl,by decide,F5,g5,z5,a5,r5,by rw [n5]; exact Nat.le_refl _,.inl ⟨rfl,by rw [List.drop_zero]⟩⟩,?_⟩
  intro e i h6 hI
  obtain ⟨j,Q6,S6,ei,hj,f6,g6,zz,a6,r6,u6,hE⟩:=hI
  have G6:Gw hh Q h6 Q6:=(Gw.refl z2 a.lt).trans g6 z2
  have fin:(S6,e)=eachGo dO ns 0 ⟨S.L,S.M++[tab]⟩→K (.int .i64 e) h6:=fun ee=>by rw [← ee] at hK; exact hK h6 Q6 f6 G6 a6
  refine cd (fun hl=>ce (fun h0=>?_) fun h0=>fin ?_) fun hl=>fin ?_
  ·subst ei
   have ew:=(hE.resolve_right (fun z=>z.1 h0)).2
   have hj':j<ns.length:=by omega
   have hjn:j<128:=by omega
   rw [drop_cons hj',eachGo_cons] at ew
   have nj:=nlt j hj'
   have cv:cellOf h6 (Addr.add ⟨lb,0,none⟩ j)=some (.int .i64 (ns[j]'hj')):=rda r6 (by rw [Nat.zero_add,ints,List.getElem?_map,List.getElem?_eq_getElem hj']; rfl)
   have wr:IntKind.wrap .i64 ((j:Int)+1)=((j+1:Nat):Int):=by rw [wrap_i64 (by omega) (by omega)]; omega
   have hju:w*j≤w*128:=Nat.mul_le_mul_left _ hj
   have hm:w*(j+1)=w*j+w:=Nat.mul_succ w j
   unfold bmap_All_c2.k1
   rw [Int.toNat_natCast,wr]
   refine ⟨⟨by omega,hl⟩,os ⟨_,cv,D h6 Q6 S6 j (ns[j]'hj') _ f6 G6 a6 (by omega) hjn (by omega) (by omega) fun h7 Q7 f7 g7 a7=>⟨_,rfl,⟨j+1,Q7,_,rfl,hjn,f6.trans f7 fun c hc y=>(G6.old c hc).mp y,g6.trans g7 zz,by have:=f7.size; omega,a7,(f7.rd (by omega) fun y=>nlb ((g6.old lb lbl).mp y)).trans r6,?_,?_⟩,by show ((128:Int) - ((j+1:Nat):Int)).toNat<((128:Int) - (j:Int)).toNat; omega⟩⟩⟩
   ·have:=hd S6 j (ns[j]'hj'); omega
   ·by_cases he:(dO S6 j (ns[j]'hj')).2=0
    ·rw [if_neg (fun z=>z he)] at ew
     exact .inl ⟨he,ew⟩
    ·rw [if_pos he] at ew
     exact .inr ⟨he,ew⟩
  ·exact (hE.resolve_left (fun z=>h0 z.1)).2
  ·rcases hE with ⟨h0,ew⟩|⟨_,ew⟩
   ·have ej:j=128:=by omega
    have ed:ns.drop j=[]:=List.drop_eq_nil_of_le (by omega)
    rw [ed] at ew
    rw [h0]; exact ew
   ·exact ew
def oneV (I:AIds):Value := .func (.func 154) #[] ⟨[.pointer (some ⟨I.oc,0,none⟩)]⟩
def twoV (I:AIds):Value := .func (.func 155) #[] ⟨[.pointer (some ⟨I.ec,0,none⟩),.pointer (some ⟨I.oc,0,none⟩)]⟩
def inV (I:AIds) (ib:Nat):Value := .func (.func 156) #[] ⟨[.pointer (some ⟨I.oc,0,none⟩),.pointer (some ⟨ib,0,none⟩)]⟩
theorem one_do {F:Nat→Prop} {t d:Option Addr} {T:TM} {g:G} {R:List Int} {I:AIds} {h0:Heap} {Q0:Nat→Prop}:DoS (oneV I) (oneD g) h0 Q0 F t d T g R I 1000000:=by
 intro hh Q S i v K _ _ a hn hi _ _ hK
 show C.bmap_All_c3 (i:Int) v (some ⟨I.oc,0,none⟩) hh K
 refine bmap_All_c3.ok (os ⟨_,rdc a.ro rfl,?_⟩)
 rw [wrap_i64 (by omega) (by omega)]
 exact own_spec' a hn fun h' Q' f gw a'=>⟨_,rfl,hK h' Q' f gw a'⟩
theorem in_do {F:Nat→Prop} {t d:Option Addr} {T:TM} {g:G} {R:List Int} {I:AIds} {h0:Heap} {Q0:Nat→Prop} {ib i:Nat} (hi:i<128) (ri:rd h0 ib=[.int .i64 (i:Int)]) (hq:¬ Q0 ib):DoS (inV I ib) (inD g i) h0 Q0 F t d T g R I 1000000:=by
 intro hh Q S j v K f _ a hn hj _ _ hK
 show C.bmap_All_c4_c1 (j:Int) v (some ⟨I.oc,0,none⟩) (some ⟨ib,0,none⟩) hh K
 refine bmap_All_c4_c1.ok (os ⟨_,rdc a.ro rfl,os ⟨_,rdc ((f.rd (rd_lt (o:=0) (by rw [ri]; rfl)) hq).trans ri) rfl,?_⟩⟩)
 rw [wrap_i64 (n:=(i:Int)*128) (by omega) (by omega),wrap_i64 (n:=138+(i:Int)*128) (by omega) (by omega),wrap_i64 (n:=138+(i:Int)*128+j) (by omega) (by omega)]
 exact own_spec' a hn fun h' Q' f gw a'=>⟨_,rfl,hK h' Q' f gw a'⟩
theorem inD_n (g:G) (i:Nat) (S:AllS) (j:Nat) (v:Int):(inD g i S j v).1.n≤S.n+1:=ownA_n g S _ v
theorem two_do {F:Nat→Prop} {t d:Option Addr} {T:TM} {g:G} {R:List Int} {I:AIds} {h0:Heap} {Q0:Nat→Prop}:DoS (twoV I) (twoD T g) h0 Q0 F t d T g R I 999000:=by
 intro hh Q S i v K _ _ a hn hi _ _ hK
 show C.bmap_All_c4 (i:Int) v (some ⟨I.ec,0,none⟩) (some ⟨I.oc,0,none⟩) hh K
 refine bmap_All_c4.ok (New.intro fun h2 n2=>?_)
 have a2:=a.no n2.fr
 have z2:=n2.size
 have nq:¬ Q hh.size:=fun y=>by have:=a.lt _ y; omega
 refine os ⟨_,rdc a2.re rfl,each_spec (w:=1) (lim:=1000000) a2 (in_do hi n2.rd nq) (inD_n g i) (by omega) (Nat.le_refl _) fun h3 Q3 f3 g3 a3=>⟨_,rfl,hK h3 Q3 ((n2.fr.mono fun _ _ y=>y.elim).trans f3 fun _ _ y=>y) ((Gw.refl n2.fr.size a.lt).trans g3 n2.fr.size) a3⟩⟩
end Go.Proofs.YtiapingedfnlnaaGreatDoor.Bm
namespace Go.Proofs.YtiapingedfnlnaaGreatDoor.Bm
open Go Go.Proofs Wx Hp W Ad Tm Spc Re Av
open Hd (ints wrap_u64)
open In (Glo ints_length ints_one)
theorem oneD_n (g:G) (S:AllS) (j:Nat) (v:Int):(oneD g S j v).1.n≤S.n+1:=ownA_n g S _ v
theorem twoD_n (T:TM) (g:G) (S:AllS) (j:Nat) (v:Int):(twoD T g S j v).1.n≤S.n+129:=eachM_n (inD_n g j)
theorem All_spec {h:Heap} {F:Nat→Prop} {t d:Option Addr} {T:TM} {g:G} {R:List Int} {K:Value→Heap→Prop} (gl:In.Glo h) (x:Tx h F t d T) (hR:R.length=15)
  (hK:∀ P1 P2 a1 c1 a2 c2 h',Fr No h h'→Sl h' 2 a1 (allM T g R).1.length c1 ((allM T g R).1.flatMap pcellA) P1→Sl h' 1 a2 (allM T g R).2.1.length c2 ((allM T g R).2.1.map (.int .i64)) P2→(∀ b,P1 b→h.size≤b∧¬ P2 b)→(∀ b,P2 b→h.size≤b) →
   K (.tuple #[.slice a1 (allM T g R).1.length c1,.slice a2 (allM T g R).2.1.length c2,.int .i64 (allM T g R).2.2]) h'):C.bmap_All t g.v (ints R) h K:=by
 have Flt:=fun y (hy:F y)=>x.lt hy
 have gl1:=gl.lt
 refine bmap_All.ok (New.intro fun h2 n2=>New.intro fun h3 n3=>⟨g.v,rfl,cellsAll ((n3.at_ n2.own.lt).trans n2.rd),ints R,by rw [ints_length,hR],cellsAll n3.rd,rfl,by rw [ints_length,hR],New.intro fun h4 n4=>New.intro fun h5 n5=>?_⟩)
 have z2:=n2.size
 have z3:=n3.size
 have z4:=n4.size
 have z5:=n5.size
 refine Put.intro n5.own (by rw [n5.rd]; decide) fun h6 d6=>New.intro fun h7 n7=>New.intro fun h8 n8=>New.intro fun h9 n9=>?_
 have z6:=d6.size
 have z7:=n7.size
 have z8:=n8.size
 have z9:=n9.size
 refine Put.intro n9.own (by rw [n9.rd]; decide) fun h10 d10=>New.intro fun h11 n11=>?_
 have z10:=d10.size
 have z11:=n11.size
 refine Put.intro n11.own (by rw [n11.rd]; decide) fun h12 d12=>?_
 have z12:=d12.size
 have q12:∀ b,b<h10.size→rd h12 b=rd h10 b:=fun b hb=>(d12.at_ (by omega) (by omega)).trans (n11.at_ hb)
 have q10:∀ b,b<h8.size→rd h10 b=rd h8 b:=fun b hb=>(d10.at_ (by omega) (by omega)).trans (n9.at_ hb)
 have q8:∀ b,b<h6.size→rd h8 b=rd h6 b:=fun b hb=>(n8.at_ (by omega)).trans (n7.at_ hb)
 have F6:Fr No h h6:=((((n2.fr.new n3).new n4).new n5).did d6 fun hl=>by omega)
 have F12:Fr No h h12:=((((((F6.new n7).new n8).new n9).did d10 fun hl=>by omega).new n11).did d12 fun hl=>by omega)
 have rx:rd h12 h2.size=ints R:=(q12 _ (by omega)).trans ((q10 _ (by omega)).trans ((q8 _ (by omega)).trans ((d6.at_ (by omega) (by omega)).trans ((n5.at_ (by omega)).trans ((n4.at_ (by omega)).trans n3.rd)))))
 have rf:rd h12 h3.size=fileV t g R:=(q12 _ (by omega)).trans ((q10 _ (by omega)).trans ((q8 _ (by omega)).trans ((d6.at_ (by omega) (by omega)).trans ((n5.at_ (by omega)).trans n4.rd))))
 have rp:rd h12 h4.size=[.pointer (some ⟨h3.size,0,none⟩)]:=(q12 _ (by omega)).trans ((q10 _ (by omega)).trans ((q8 _ (by omega)).trans (by rw [d6.rd,n5.rd]; rfl)))
 have rb:rd h12 h6.size=[.slice none 0 0]:=(q12 _ (by omega)).trans ((q10 _ (by omega)).trans ((n8.at_ (by omega)).trans n7.rd))
 have rt:rd h12 h7.size=[.slice none 0 0]:=(q12 _ (by omega)).trans ((q10 _ (by omega)).trans n8.rd)
 obtain ⟨I,eI⟩:∃ I:AIds,I=⟨h3.size,h4.size,h6.size,h7.size,h8.size,h10.size⟩:=⟨_,rfl⟩
 have ro:rd h12 h8.size=[ownV I]:=(q12 _ (by omega)).trans (by rw [d10.rd,n9.rd,eI]; rfl)
 have re:rd h12 h10.size=[eachV I]:=by rw [d12.rd,n11.rd,eI]; rfl
 have ob:Own h12 h6.size:=d12.ow (n11.ow (d10.ow (n9.ow (n8.ow n7.own))))
 have ot:Own h12 h7.size:=d12.ow (n11.ow (d10.ow (n9.ow n8.own)))
 obtain ⟨Q,eQ⟩:∃ Q:Nat→Prop,∀ b,Q b↔b=h6.size∨b=h7.size:=⟨_,fun _=>Iff.rfl⟩
 have a12:AH F t d T g R I h12 Q ⟨[],[]⟩:=by
  rw [eI]
  rw [eI] at ro re
  refine ⟨gl.no F12,x.no F12,rf,rp,ro,re,ob,ot,by show h6.size≠h7.size; omega,⟨fun _=>False,fun _=>False,none,0,none,0,rb,rt,Sl.nil _ _ _,Sl.nil _ _ _,fun _ y=>y.elim,fun _ y=>y.elim,fun b=>?_⟩,fun b hb=>?_,fun b hb=>?_⟩
  ·rw [eQ b]; simp
  ·rcases (eQ b).mp hb with y|y <;> omega
  ·have k:h.size≤b∧b≠h3.size∧b≠h4.size∧b≠h8.size∧b≠h10.size:=by rcases (eQ b).mp hb with y|y <;> omega
   exact ⟨fun y=>by have:=Flt b y; omega,k.2.1,k.2.2.1,k.2.2.2.1,k.2.2.2.2,by omega⟩
 have j1:h8.size=I.oc:=by rw [eI]
 have j2:h10.size=I.ec:=by rw [eI]
 have j3:h6.size=I.bc:=by rw [eI]
 have j4:h7.size=I.tc:=by rw [eI]
 have nqx:¬ Q h2.size:=fun y=>by rcases (eQ _).mp y with y|y <;> omega
 have base:∀ b,Q b→h.size≤b:=fun b y=>by rcases (eQ b).mp y with y|y <;> omega
 clear eI eQ
 -- the end
 have k4:∀ (hh:Heap) (Q':Nat→Prop) (S:AllS) (e:Int),Fr Q h12 hh→Gw h12 Q hh Q'→AH F t d T g R I hh Q' S→(S,e)=allS T g R→bmap_All.k4 h6 h7 e hh K:=fun hh Q' S e f gw a es=>by
  have F':Fr No h hh:=F12.trans f fun b hb y=>by have:=base b y; omega
  have em:allM T g R=if e≠0 then ([],[],e) else (S.L,S.M,0):=by unfold allM; rw [← es]
  rw [em] at hK
  unfold bmap_All.k4
  refine cn (fun he=>?_) fun he=>?_
  ·rw [if_pos he] at hK
   exact hK No No none 0 none 0 hh F' (Sl.nil _ _ _) (Sl.nil _ _ _) (fun _ y=>y.elim) fun _ y=>y.elim
  ·rw [if_neg (fun z=>z he)] at hK
   obtain ⟨P1,P2,a1,c1,a2,c2,r1,r2,s1,s2,k1,k2,k3⟩:=a.rows
   rw [j3,j4]
   have old:∀ b,Q' b→h.size≤b:=fun b y=>by
    rcases gw.new y with z|z
    ·exact base b z
    ·have:=F12.size; omega
   refine ⟨_,_,_,rdc r1 rfl,_,_,_,rdc r2 rfl,hK P1 P2 a1 c1 a2 c2 hh F' s1 s2 (fun b hb=>⟨old b ((k3 b).mpr (.inr (.inr (.inl hb)))),(k1 b hb).2.2⟩) fun b hb=>old b ((k3 b).mpr (.inr (.inr (.inr hb))))⟩
 have k3:∀ (hh:Heap) (Q':Nat→Prop) (S:AllS) (e:Int),Fr Q h12 hh→Gw h12 Q hh Q'→AH F t d T g R I hh Q' S→S.n≤500→((e≠0∧(S,e)=allS T g R)∨(e=0∧eachM T g (twoD T g) (R.getD 14 0) S=allS T g R))→bmap_All.k3 h2 h6 h7 h8 h10 e hh K:=fun hh Q' S e f gw a hn es=>by
  unfold bmap_All.k3
  refine ce (fun he=>?_) fun he=>k4 hh Q' S e f gw a (es.resolve_right fun z=>he z.1).2
  have es:=(es.resolve_left fun z=>z.1 he).2
  have rxh:rd hh h2.size=ints R:=(f.rd (by omega) nqx).trans rx
  rw [j1,j2]
  refine ⟨_,rdc a.re rfl,_,rda rxh (by rw [Nat.zero_add,ints,List.getElem?_map,List.getElem?_eq_getElem (by omega)]; rfl),?_⟩
  have e14:R[14]'(by omega)=R.getD 14 0:=by rw [List.getD_eq_getElem?_getD,List.getElem?_eq_getElem (by omega)]; rfl
  rw [e14]
  refine each_spec (w:=129) (lim:=999000) a two_do (twoD_n T g) (by omega) (by decide) fun h' Q2 f2 g2 a2=>⟨_,rfl,k4 h' Q2 _ _ (f.trans f2 fun b hb y=>(gw.old b hb).mp y) (gw.trans g2 f.size) a2 es⟩
 have k2:∀ (hh:Heap) (Q':Nat→Prop) (S:AllS) (e:Int),Fr Q h12 hh→Gw h12 Q hh Q'→AH F t d T g R I hh Q' S→S.n≤10→(S,e)=eachGo (dirD g) ((R.drop 3).take 10) 0 ⟨[],[]⟩→bmap_All.k2 h2 h6 h7 h8 h10 e hh K:=fun hh Q' S e f gw a hn es=>by
  unfold bmap_All.k2
  refine ce (fun he=>?_) fun he=>k3 hh Q' S e f gw a (by omega) (.inl ⟨he,?_⟩)
  ·have rxh:rd hh h2.size=ints R:=(f.rd (by omega) nqx).trans rx
   refine ⟨_,rdc (xs:=[eachV I]) (by rw [j2]; exact a.re) rfl,_,rda rxh (by rw [Nat.zero_add,ints,List.getElem?_map,List.getElem?_eq_getElem (by omega)]; rfl),?_⟩
   have e13:R[13]'(by omega)=R.getD 13 0:=by rw [List.getD_eq_getElem?_getD,List.getElem?_eq_getElem (by omega)]; rfl
   rw [e13]
   have ea:allS T g R=if (eachM T g (oneD g) (R.getD 13 0) S).2≠0 then eachM T g (oneD g) (R.getD 13 0) S else eachM T g (twoD T g) (R.getD 14 0) (eachM T g (oneD g) (R.getD 13 0) S).1:=by
    unfold allS; rw [← es]; show (if e≠0 then _ else _)=_; rw [if_neg (fun z=>z he)]
   have en:=eachM_n (T:=T) (g:=g) (tab:=R.getD 13 0) (S:=S) (oneD_n g)
   have ev:oneV I=Value.func (.func 154) #[] ⟨[.pointer (some ⟨h8.size,0,none⟩)]⟩:=by rw [j1]; rfl
   rw [← ev]
   refine each_spec (w:=1) (lim:=1000000) a one_do (oneD_n g) (by omega) (Nat.le_refl _) fun h' Q2 f2 g2 a2=>⟨_,rfl,k3 h' Q2 _ _ (f.trans f2 fun b hb y=>(gw.old b hb).mp y) (gw.trans g2 f.size) a2 (by omega) ?_⟩
   by_cases h2':(eachM T g (oneD g) (R.getD 13 0) S).2=0
   ·rw [if_neg (fun z=>z h2')] at ea
    exact .inr ⟨h2',ea.symm⟩
   ·rw [if_pos h2'] at ea
    exact .inl ⟨h2',ea.symm⟩
  ·unfold allS; rw [← es]; show _=(if e≠0 then _ else _); rw [if_pos he]
 generalize hds:(R.drop 3).take 10=ds at k2
 have dl:ds.length=10:=by rw [← hds,List.length_take,List.length_drop,hR]; rfl
 have dg:∀ j (hj:j<ds.length),R[3+j]?=some (ds[j]'hj):=fun j hj=>by
  subst hds
  rw [List.getElem_take,List.getElem_drop,List.getElem?_eq_getElem]
 refine ⟨fun e i hh=>∃ (j:Nat) (Q':Nat→Prop) (S':AllS),i=j∧j≤10∧Fr Q h12 hh∧Gw h12 Q hh Q'∧AH F t d T g R I hh Q' S'∧S'.n≤j∧((e=0∧eachGo (dirD g) (ds.drop j) j S'=eachGo (dirD g) ds 0 ⟨[],[]⟩)∨(e≠0∧(S',e)=eachGo (dirD g) ds 0 ⟨[],[]⟩)),fun _ i _=>((10:Int) - i).toNat,
  ⟨0,Q,_,rfl,by decide,Fr.refl _ _,Gw.refl (Nat.le_refl _) a12.lt,a12,Nat.le_refl _,.inl ⟨rfl,by rw [List.drop_zero]⟩⟩,?_⟩
 intro e i hh hI
 obtain ⟨j,Q',S',ei,hj,f,gw,a,hn,hE⟩:=hI
 refine cd (fun hl=>ce (fun h0=>?_) fun h0=>k2 hh Q' S' e f gw a (by omega) (hE.resolve_left (fun z=>h0 z.1)).2) fun hl=>k2 hh Q' S' e f gw a (by omega) ?_
 ·subst ei
  have ew:=(hE.resolve_right (fun z=>z.1 h0)).2
  have hj':j<ds.length:=by omega
  rw [drop_cons hj',eachGo_cons] at ew
  have rxh:rd hh h2.size=ints R:=(f.rd (by omega) nqx).trans rx
  have wr:IntKind.wrap .i64 ((j:Int)+1)=((j+1:Nat):Int):=by rw [wrap_i64 (by omega) (by omega)]; omega
  unfold bmap_All.k1
  rw [Int.toNat_natCast,wr]
  refine ⟨_,rdc (xs:=[ownV I]) (by rw [j1]; exact a.ro) rfl,⟨by omega,by omega⟩,(ds[j]'hj'),cell2 rxh (by rw [ints,List.getElem?_map,dg j hj']; rfl),own_spec' a (by omega) fun h' Q2 f2 g2 a2=>⟨_,rfl,⟨j+1,Q2,_,rfl,by omega,f.trans f2 fun b hb y=>(gw.old b hb).mp y,gw.trans g2 f.size,a2,?_,?_⟩,by show ((10:Int) - ((j+1:Nat):Int)).toNat<((10:Int) - (j:Int)).toNat; omega⟩⟩
  ·have:=ownA_n g S' (j:Int) (ds[j]'hj'); omega
  ·have edr:dirD g S' j (ds[j]'hj')=ownA g S' (j:Int) (ds[j]'hj'):=rfl
   rw [edr] at ew
   by_cases he:(ownA g S' (j:Int) (ds[j]'hj')).2=0
   ·rw [if_neg (fun z=>z he)] at ew
    exact .inl ⟨he,ew⟩
   ·rw [if_pos he] at ew
    exact .inr ⟨he,ew⟩
 ·rcases hE with ⟨h0,ew⟩|⟨_,ew⟩
  ·have ed:ds.drop j=[]:=List.drop_eq_nil_of_le (by omega)
   rw [ed] at ew
   rw [h0]; exact ew
  ·exact ew
end Go.Proofs.YtiapingedfnlnaaGreatDoor.Bm
namespace Go.Proofs.YtiapingedfnlnaaGreatDoor.Ino
open Go Go.Proofs Wx Hp W Ad Tm Bt Spc Re
open Hd (ints)
open In (z15 mayR encR decA ints_one ints_length ints_eq pairs15 cell15 Glo getR_length encR_length z15_row)
def rblk (g:G) (n:Int):Int:=(g.inodes+n.toNat / 8:Nat)
def rat (n:Int):Nat:=64*(n.toNat % 8)
theorem rat_le (n:Int):rat n+64≤512:=by unfold rat; omega
theorem decA_length (bs:Txt):(decA bs).1.length=15:=by
 unfold decA; split
 ·exact List.length_replicate
 ·split
  ·exact getR_length bs
  ·exact List.length_replicate
def getM (T:TM) (g:G) (n:Int):List Int×Int :=
 if ¬ (1≤n∧n<g.count) then (z15,110) else if (T.read (rblk g n)).2≠0 then (z15,(T.read (rblk g n)).2) else decA (((T.read (rblk g n)).1.drop (rat n)).take 64)
theorem getM_length (T:TM) (g:G) (n:Int):(getM T g n).1.length=15:=by
 unfold getM
 split
 ·exact List.length_replicate
 ·split
  ·exact List.length_replicate
  ·exact decA_length _
def putM (T:TM) (g:G) (n:Int) (R:List Int):TM×Int :=
 if ¬ (1≤n∧n<g.count) then (T,110) else if mayR R=false then (T,111) else if (T.read (rblk g n)).2≠0 then (T,(T.read (rblk g n)).2) else
  T.write (rblk g n) (putU (T.read (rblk g n)).1 (rat n) (encR R))
structure Cok (g:G):Prop where
 ok:g.ok
 c:g.count≤1099511627776
theorem isInode_spec {g:G} {n:Int} {h:Heap} {K:Value→Heap→Prop} (ok:Cok g) (hK:∀ h',Fr No h h'→K (.bool (decide (1≤n∧n<g.count))) h'):C.inode_isInode g.v n h K:=by
 have:=ok.c
 refine inode_isInode.ok (New.intro fun h2 n2=>⟨_,rda n2.rd rfl,In.within_spec ⟨_,rfl,?_⟩⟩)
 rw [wrap_i64 (by omega) (by omega)]
 have e:(decide (1≤n) && decide (n≤(g.count:Int) - 1))=decide (1≤n∧n<g.count):=by
  rw [Bool.eq_iff_iff,Bool.and_eq_true,decide_eq_true_iff,decide_eq_true_iff,decide_eq_true_iff]
  omega
 rw [e]
 exact hK h2 n2.fr
theorem Record_spec {g:G} {n:Int} {h:Heap} {K:Value→Heap→Prop} (ok:Cok g) (h1:1≤n) (h2:n<g.count) (hK:∀ h',Fr No h h'→K (.tuple #[.int .i64 (rblk g n),.int .i64 (rat n),.int .i64 0]) h'):C.geo_Record g.v n h K:=by
 have c1:=ok.c
 have c2:=ok.ok.i
 refine geo_Record.ok (New.intro fun h2 n2=>cf (decide_eq_false (by omega)) ⟨_,rda n2.rd rfl,cf (decide_eq_false (by omega)) ⟨_,rda n2.rd rfl,?_⟩⟩)
 have hK:=hK h2 n2.fr
 have e1:Int.tdiv n 8=n / 8:=Int.tdiv_eq_ediv_of_nonneg (by omega)
 have e2:Int.tmod n 8=n % 8:=Int.tmod_eq_emod_of_nonneg (by omega)
 rw [e1,e2,wrap_i64 (n:=n / 8) (by omega) (by omega),wrap_i64 (n:=(g.inodes:Int)+n / 8) (by omega) (by omega),wrap_i64 (n:=n % 8*64) (by omega) (by omega)]
 have e3:n % 8*64=((rat n:Nat):Int):=by unfold rat; omega
 have e4:(g.inodes:Int)+n / 8=rblk g n:=by unfold rblk; omega
 rw [e3,e4]; exact hK
theorem place_spec {h:Heap} {F:Nat→Prop} {t d:Option Addr} {T:TM} {g:G} {n:Int} {K:Value→Heap→Prop} (x:Tx h F t d T) (ok:Cok g) (h1:1≤n) (h2:n<g.count)
  (hK:∀ a l c h',Fr No h h'→l=(T.read (rblk g n)).1.length→Sl h' 1 a l c ((T.read (rblk g n)).1.map bv) (From h.size)→K (.tuple #[.int .i64 (rblk g n),.slice a l c,.int .i64 (rat n),.int .i64 (T.read (rblk g n)).2]) h'):C.inode_place t g.v n h K:=by
 refine inode_place.ok (New.intro fun h2' n2=>⟨g.v,rfl,cellsAll n2.rd,Record_spec ok h1 h2 fun h3 f3=>⟨_,_,_,rfl,cn (fun y=>absurd rfl y) fun _=>?_⟩⟩)
 have F3:=n2.fr.no f3
 refine Tm.Read_spec (x.no F3) fun a l c h4 f4 hl s=>⟨_,_,_,_,rfl,?_⟩
 exact hK a l c h4 (F3.no f4) hl (s.mono fun b hb=>Nat.le_trans F3.size hb)
theorem Get_spec {h:Heap} {F:Nat→Prop} {t d:Option Addr} {T:TM} {g:G} {n:Int} {K:Value→Heap→Prop} (gl:In.Glo h) (x:Tx h F t d T) (ok:Cok g)
  (hK:∀ h',Fr No h h'→K (.tuple #[.agg ⟨ints (getM T g n).1⟩,.int .i64 (getM T g n).2]) h'):C.inode_Get t g.v n h K:=by
 have ha:=rat_le n
 refine inode_Get.ok (New.intro fun h2' n2=>New.intro fun h3 n3=>⟨g.v,rfl,cellsAll ((n3.at_ n2.own.lt).trans n2.rd),isInode_spec ok fun h4 f4=>⟨_,rfl,cnot ?_⟩⟩)
 have s2:=n2.size
 have s3:=n3.size
 have f3:Fr No h h3:=n2.fr.new n3
 have F4:=f3.no f4
 have z4:=f4.size
 have row:∀ {h':Heap},Fr No h4 h'→Own h' h2'.size∧(rd h' h2'.size).length=15:=fun f'=>by
  have f34:Fr No h3 _:=f4.no f'
  exact ⟨f34.own n3.own.lt (fun y=>y) n3.own,by rw [f34.rd n3.own.lt fun y=>y,n3.rd]; rfl⟩
 by_cases hn:1≤n∧n<g.count
 ·have e0:getM T g n=if (T.read (rblk g n)).2≠0 then (z15,(T.read (rblk g n)).2) else decA (((T.read (rblk g n)).1.drop (rat n)).take 64):=by unfold getM; rw [if_neg (fun y=>y hn)]
  rw [e0] at hK
  refine ct (decide_eq_true hn) ⟨g.v,rfl,cellsAll ((f4.rd (by omega) fun y=>y).trans ((n3.at_ n2.own.lt).trans n2.rd)),place_spec (x.no F4) ok hn.1 hn.2 fun a l c h6 f6 hl s6=>⟨_,_,_,_,_,_,rfl,cn (fun he=>?_) fun he=>?_⟩⟩
  ·rw [if_pos he] at hK
   obtain ⟨w,l15⟩:=row f6
   exact z15_row (h3:=h) (F4.no f6) (by omega) w l15 hK
  ·rw [if_neg (fun y=>y he)] at hK
   have hlen:(T.read (rblk g n)).1.length=512:=Tx.readLen x he
   have hc:=s6.le
   rw [wrap_i64 (by omega) (by omega)]
   refine ⟨⟨by omega,by omega,by omega⟩,?_⟩
   have B6:=StrAt.cut s6.str hc (i:=(rat n:Int).toNat) (j:=((rat n:Int)+64).toNat) (by omega) (by omega)
   rw [show ((rat n:Int)+64).toNat - (rat n:Int).toNat=64 by omega] at B6 ⊢
   refine In.Decode_spec (gl.no (F4.no f6)) B6 (by omega) fun h8 f8=>⟨_,_,rfl,?_⟩
   rw [show (rat n:Int).toNat=rat n by omega]
   obtain ⟨w,l15⟩:=row (f6.no f8)
   refine PutRow.intro w (by rw [ints_length,decA_length]) (ints_one _) (by omega) fun h9 d9=>⟨_,by rw [ints_length]; exact decA_length _,cellsAll ?_,hK h9 (((F4.no f6).no f8).did d9 fun hl=>by omega)⟩
   rw [d9.rd]; exact put_all _ _ (by rw [ints_length,decA_length,l15])
 ·have e0:getM T g n=(z15,110):=by unfold getM; rw [if_pos hn]
  rw [e0] at hK
  obtain ⟨w,l15⟩:=row (Fr.refl _ _)
  exact cf (decide_eq_false hn) (z15_row (h3:=h) F4 (by omega) w l15 hK)
theorem Put_spec {h:Heap} {F:Nat→Prop} {t d:Option Addr} {T:TM} {g:G} {n:Int} {R:List Int} {K:Value→Heap→Prop} (gl:In.Glo h) (x:Tx h F t d T) (ok:Cok g) (hR:R.length=15) (hu:T.undo.length<1000000000)
  (hK:∀ h' F',Fr F h h'→Gw h F h' F'→Tx h' F' t d (putM T g n R).1→K (.int .i64 (putM T g n R).2) h'):C.inode_Put t g.v n (ints R) h K:=by
 have ha:=rat_le n
 have same:∀ e h',Fr No h h'→putM T g n R=(T,e)→K (.int .i64 e) h':=fun e h' f e0=>by
  rw [e0] at hK
  exact hK h' F (f.mono fun _ _ y=>y.elim) (Gw.refl f.size fun b hb=>x.lt hb) (x.no f)
 refine inode_Put.ok (New.intro fun h2' n2=>New.intro fun h3 n3=>⟨g.v,rfl,cellsAll ((n3.at_ n2.own.lt).trans n2.rd),isInode_spec ok fun h4 f4=>⟨_,rfl,cnot ?_⟩⟩)
 have s2:=n2.size
 have s3:=n3.size
 have F4:=(n2.fr.new n3).no f4
 have z4:=f4.size
 by_cases hn:1≤n∧n<g.count
 ·refine ct (decide_eq_true hn) ⟨ints R,by rw [ints_length,hR],cellsAll ((f4.rd (by omega) fun y=>y).trans n3.rd),In.Encode_spec (gl.no F4) hR (fun hm h5 f5=>⟨_,_,_,_,rfl,cn (fun _=>?_) fun y=>absurd (show (111:Int)=0 from y) (by decide)⟩) fun hm eb h5 f5 heb s5=>⟨_,_,_,_,rfl,cn (fun y=>absurd rfl y) fun _=>?_⟩⟩
  ·exact same _ h5 (F4.no f5) (by unfold putM; rw [if_neg (fun y=>y hn),if_pos hm])
  have z5:=f5.size
  have leb:eb<h5.size:=s5.lt
  have F5:=F4.no f5
  refine ⟨g.v,rfl,cellsAll ((f5.rd (by omega) fun y=>y).trans ((f4.rd (by omega) fun y=>y).trans ((n3.at_ n2.own.lt).trans n2.rd))),place_spec (x.no F5) ok hn.1 hn.2 fun a l c h6 f6 hl s6=>⟨_,_,_,_,_,_,rfl,cn (fun he=>?_) fun he=>?_⟩⟩
  ·exact same _ h6 (F5.no f6) (by unfold putM; rw [if_neg (fun y=>y hn),if_neg (by rw [hm]; simp),if_pos he])
  have hlen:(T.read (rblk g n)).1.length=512:=Tx.readLen x he
  have e0:putM T g n R=T.write (rblk g n) (putU (T.read (rblk g n)).1 (rat n) (encR R)):=by unfold putM; rw [if_neg (fun y=>y hn),if_neg (by rw [hm]; simp),if_neg (fun y=>y he)]
  rw [e0] at hK
  generalize T.read (rblk g n)=rd0 at hl s6 hlen hK
  obtain ⟨bs,er⟩:=rd0
  simp only at hl s6 hlen hK
  obtain ⟨p,ep,_⟩:=s6.get (by omega)
  subst ep
  obtain ⟨pb,po,sp⟩:=p
  have esp:sp=none:=s6.2.1
  subst esp
  have z6:=f6.size
  have hc:=s6.le
  have F6:=F5.no f6
  have le:=encR_length hR
  refine ⟨⟨by omega,by omega⟩,?_⟩
  rw [if_neg (by omega)]
  show CopyP _ (some (Addr.add ⟨pb,po,none⟩ (rat n:Int).toNat)) _ _ _ _
  rw [add_mk]
  have hfrom:h5.size≤pb:=s6.2.2.1
  have e5:SlCells h6 (some ⟨eb,0,none⟩) ((encR R).map bv):=(s5.fr f6 fun _ _ _ y=>y).cells
  obtain ⟨w6,l6⟩:=s6.wr
  refine CopyP.intro (new:=(encR R).map bv) (by rw [List.length_map,le]; show 64=min 64 (l - _)*1; omega) e5 (bv_one _) w6 (by rw [List.length_map,le]; omega) fun h7 d7=>?_
  have s7:Sl h7 1 (some ⟨pb,po,none⟩) l c ((putU bs (rat n) (encR R)).map bv) (From h5.size):=by
   have:=s6.putAt (new:=(encR R).map bv) (j:=rat n) (by rw [List.length_map,le]; omega) (by rw [show po+rat n=po+(rat n:Int).toNat by omega]; exact d7)
   rw [putU_put (by rw [hlen,le]; omega)] at this; exact this
  have F7:=F6.did d7 fun hl=>by omega
  refine Tm.Write_spec (x.no F7) s7.str (by omega) (fun q eq y=>?_) hu fun h8 F8 f8 g8 x8=>⟨_,rfl,hK h8 F8 ?_ ?_ x8⟩
  ·cases eq
   have y:F pb:=y
   have:=x.lt y
   omega
  ·exact (F7.mono fun _ _ y=>y.elim).trans f8 fun _ _ y=>y
  ·exact (Gw.refl F7.size fun b hb=>x.lt hb).trans g8 F7.size
 ·exact cf (decide_eq_false hn) (same _ h4 F4 (by unfold putM; rw [if_pos hn]))
end Go.Proofs.YtiapingedfnlnaaGreatDoor.Ino
namespace Go.Proofs.YtiapingedfnlnaaGreatDoor.Fi
open Go Go.Proofs Wx Hp W Ad Tm Spc Re Av
open Hd (ints)
open In (Glo ints_length ints_one)
open Ino (getM putM Cok getM_length)
open Bm (findM addM allM pcellA)
theorem ints_at {R:List Int} {i:Nat} (hi:i<R.length):(ints R)[i]?=some (.int .i64 (R.getD i 0)):=by
 unfold ints
 rw [List.getElem?_map,List.getD_eq_getElem?_getD,List.getElem?_eq_getElem hi]; rfl
theorem ints_set {R:List Int} {i:Nat} {v:Int}:(ints R).set i (.int .i64 v)=ints (R.set i v):=by
 unfold ints; rw [List.map_set]
def getF (T:TM) (g:G) (n:Int):List Int×Int:=if (getM T g n).2=0∧(getM T g n).1.getD 0 0=0 then ((getM T g n).1,110) else getM T g n
theorem getF_length (T:TM) (g:G) (n:Int):(getF T g n).1.length=15:=by
 unfold getF
 split <;> exact getM_length T g n
theorem get_spec {h:Heap} {F:Nat→Prop} {t d:Option Addr} {T:TM} {g:G} {n:Int} {K:Value→Heap→Prop} (gl:In.Glo h) (x:Tx h F t d T) (ok:Cok g)
  (hK:∀ h',Fr No h h'→K (.tuple #[.agg ⟨ints (getF T g n).1⟩,.int .i64 (getF T g n).2]) h'):C.file_get t g.v n h K:=by
 have lR:=getM_length T g n
 refine file_get.ok (New.intro fun h2 n2=>New.intro fun h3 n3=>⟨g.v,rfl,cellsAll ((n3.at_ n2.own.lt).trans n2.rd),Ino.Get_spec (gl.no (n2.fr.new n3)) (x.no (n2.fr.new n3)) ok fun h4 f4=>⟨_,_,rfl,NewRow.intro (by rw [ints_length,lR]) (ints_one _) rfl fun h6 n6=>?_⟩⟩)
 have z2:=n2.size
 have z3:=n3.size
 have z4:=f4.size
 have z6:=n6.size
 have F6:Fr No h h6:=((n2.fr.new n3).no f4).new n6
 have w6:Own h6 h2.size:=n6.ow (f4.own (by omega) (fun y=>y) n3.own)
 have l6:(rd h6 h2.size).length=15:=by rw [n6.at_ (by omega),f4.rd (by omega) fun y=>y,n3.rd]; rfl
 have fin:∀ {e:Int} {k:Heap→Prop},getF T g n=((getM T g n).1,e)→(∀ h',K (.tuple #[.agg ⟨ints (getF T g n).1⟩,.int .i64 (getF T g n).2]) h'→K (.tuple #[.agg ⟨ints (getM T g n).1⟩,.int .i64 e]) h'):=fun e h' hk=>by rw [e] at hk; exact hk
 have out:∀ e,getF T g n=((getM T g n).1,e)→∃ cs3:List Value,List.length cs3=15∧Cells h6 ⟨h4.size,0,none⟩ cs3 ∧
   PutRow ⟨h2.size,0,none⟩ cs3 15 h6 fun h7=>∃ res1:List Value,List.length res1=15∧Cells h7 ⟨h2.size,0,none⟩ res1∧K (.tuple #[.agg ⟨res1⟩,.int .i64 e]) h7:=fun e he=>by
  rw [he] at hK
  refine ⟨_,by rw [ints_length,lR],cellsAll n6.rd,PutRow.intro w6 (by rw [ints_length,lR]) (ints_one _) (by omega) fun h7 d7=>⟨_,by rw [ints_length,lR],cellsAll ?_,hK h7 (F6.did d7 fun hl=>by omega)⟩⟩
  rw [d7.rd]; exact put_all _ _ (by rw [ints_length,lR,l6])
 refine ce (fun he=>⟨_,rda n6.rd (ints_at (by rw [lR]; decide)),ce (fun h0=>?_) fun h0=>?_⟩) fun he=>?_
 ·exact out 110 (by unfold getF; rw [if_pos ⟨he,h0⟩])
 ·exact out _ (by unfold getF; rw [if_neg fun y=>h0 y.2])
 ·exact out _ (by unfold getF; rw [if_neg fun y=>he y.1])
def blockM (T:TM) (g:G) (R:List Int) (k:Int):Txt×Int:=if (findM T g R k).2≠0 then ([],(findM T g R k).2) else if (findM T g R k).1=0 then (zeros,0) else T.read (findM T g R k).1
def blocksM (T:TM) (g:G) (n:Int):Int×Int:=if (getF T g n).2≠0 then (0,(getF T g n).2) else
 if (allM T g (getF T g n).1).2.2≠0 then (0,(allM T g (getF T g n).1).2.2) else (((allM T g (getF T g n).1).1.length:Int)+((allM T g (getF T g n).1).2.1.length:Int),0)
theorem Blocks_spec {h:Heap} {F:Nat→Prop} {t d:Option Addr} {T:TM} {g:G} {n:Int} {K:Value→Heap→Prop} (gl:In.Glo h) (x:Tx h F t d T) (ok:Cok g) (hl:(getF T g n).2=0→(allM T g (getF T g n).1).1.length+(allM T g (getF T g n).1).2.1.length<1000000000000)
  (hK:∀ h',Fr No h h'→K (.tuple #[.int .i64 (blocksM T g n).1,.int .i64 (blocksM T g n).2]) h'):C.file_Blocks t g.v n h K:=by
 have lR:=getF_length T g n
 refine file_Blocks.ok (New.intro fun h2 n2=>⟨g.v,rfl,cellsAll n2.rd,get_spec (gl.no n2.fr) (x.no n2.fr) ok fun h3 f3=>⟨_,_,rfl,NewRow.intro (by rw [ints_length,lR]) (ints_one _) rfl fun h5 n5=>?_⟩⟩)
 have z2:=n2.size
 have z3:=f3.size
 have z5:=n5.size
 have F5:Fr No h h5:=(n2.fr.no f3).new n5
 refine cn (fun he=>?_) fun he=>⟨g.v,rfl,cellsAll ((n5.at_ (by omega)).trans ((f3.rd (by omega) fun y=>y).trans n2.rd)),_,by rw [ints_length,lR],cellsAll n5.rd,Bm.All_spec (gl.no F5) (x.no F5) lR fun P1 P2 a1 c1 a2 c2 h6 f6 s1 s2 _ _=>⟨_,_,_,_,_,_,_,rfl,cn (fun h0=>?_) fun h0=>?_⟩⟩
 ·have e0:blocksM T g n=(0,(getF T g n).2):=by unfold blocksM; rw [if_pos he]
  rw [e0] at hK; exact hK h5 F5
 ·have e0:blocksM T g n=(0,(allM T g (getF T g n).1).2.2):=by unfold blocksM; rw [if_neg (fun y=>y he),if_pos h0]
  rw [e0] at hK; exact hK h6 (F5.no f6)
 ·have e0:blocksM T g n=(((allM T g (getF T g n).1).1.length:Int)+((allM T g (getF T g n).1).2.1.length:Int),0):=by unfold blocksM; rw [if_neg (fun y=>y he),if_neg (fun y=>y h0)]
  rw [e0] at hK
  have hl:=hl (Classical.byContradiction fun y=>y he)
  rw [wrap_i64 (by omega) (by omega)]
  exact hK h6 (F5.no f6)
end Go.Proofs.YtiapingedfnlnaaGreatDoor.Fi
namespace Go.Proofs.YtiapingedfnlnaaGreatDoor.Bm
open Go Go.Proofs Wx Hp W Ad Tm Bt Spc Re Av
def rowN (f:Nat→Nat):Nat→Nat→List (Int×Int)
 | _,0=>[]
 | k,m+1=>(if f k=0 then [] else [((k:Int),(f k:Int))])++rowN f (k+1) m
def tabN (f:Nat→Nat):Nat→Nat→List Int
 | _,0=>[]
 | k,m+1=>(if f k=0 then [] else [(f k:Int)])++tabN f (k+1) m
theorem rowN_zero {f:Nat→Nat}:∀ (m k:Nat),(∀ j,j<m→f (k+j)=0)→rowN f k m=[]
 | 0,_,_=>rfl
 | m+1,k,h=>by
  have h0:=h 0 (by omega)
  rw [Nat.add_zero] at h0
  show (if f k=0 then [] else _)++rowN f (k+1) m=[]
  rw [if_pos h0,rowN_zero m (k+1) fun j hj=>by have:=h (j+1) (by omega); rwa [show k+(j+1)=k+1+j by omega] at this]; rfl
theorem rowN_add {f:Nat→Nat}:∀ (a k b:Nat),rowN f k (a+b)=rowN f k a++rowN f (k+a) b
 | 0,k,b=>by rw [Nat.zero_add]; rfl
 | a+1,k,b=>by
  rw [show a+1+b=(a+b)+1 by omega]
  show (if f k=0 then [] else _)++rowN f (k+1) (a+b)=((if f k=0 then [] else _)++rowN f (k+1) a)++_
  rw [rowN_add a (k+1) b,List.append_assoc,show k+1+a=k+(a+1) by omega]
theorem own_go {g:G} {f:Nat→Nat} {dO:DoM} {b:Nat} (hd:∀ S i v,dO S i v=ownA g S ((b+i:Nat):Int) v):∀ (vs:List Int) (i:Nat) (S:AllS),(∀ j (hj:j<vs.length),vs[j]=(f (b+i+j):Int))→(∀ j,j<vs.length→f (b+i+j)≠0→lookM g (f (b+i+j):Int)=0) →
  eachGo dO vs i S=(⟨S.L++rowN f (b+i) vs.length,S.M⟩,0)
 | [],i,S,_,_=>by show (S,(0:Int))=(⟨S.L++[],S.M⟩,0); rw [List.append_nil]
 | v::r,i,S,h1,h2=>by
  have hv:v=(f (b+i):Int):=h1 0 (Nat.succ_pos _)
  have ih:=fun S'=>own_go hd r (i+1) S' (fun j hj=>by
   have:=h1 (j+1) (Nat.succ_lt_succ hj)
   rw [show b+i+(j+1)=b+(i+1)+j by omega] at this
   exact this) (fun j hj hne=>by
   have:=h2 (j+1) (Nat.succ_lt_succ hj)
   rw [show b+i+(j+1)=b+(i+1)+j by omega] at this
   exact this hne)
  rw [eachGo_cons,hd,List.length_cons]
  show _=(AllS.mk (S.L++((if f (b+i)=0 then [] else _)++rowN f (b+i+1) r.length)) S.M,(0:Int))
  by_cases h0:f (b+i)=0
  ·have e:ownA g S ((b+i:Nat):Int) v=(S,0):=by unfold ownA; rw [if_pos (by omega)]
   rw [e,if_neg (fun z=>z rfl),ih S,if_pos h0]; rfl
  ·have l0:=h2 0 (Nat.succ_pos _) h0
   have l0:lookM g (f (b+i):Int)=0:=l0
   have e:ownA g S ((b+i:Nat):Int) v=(⟨S.L++[(((b+i:Nat):Int),v)],S.M⟩,0):=by unfold ownA; rw [if_neg (by omega),hv,l0]
   rw [e,if_neg (fun z=>z rfl),ih,if_neg h0,hv]
   show (AllS.mk (S.L++[(((b+i:Nat):Int),(f (b+i):Int))]++rowN f (b+(i+1)) r.length) S.M,(0:Int))=_
   rw [List.append_assoc]; rfl
theorem each_ok {n:Nat} {Z:Nat→Txt} {R:List Int} {T:TM} {dO:DoM} {b q:Nat} {S:AllS} (a:Av n Z T) (w:Wf n Z R) (hd:∀ S i v,dO S i v=ownA (geoN n) S ((b+i:Nat):Int) v) (hq:q<nS) (hb:∀ j,j<128→b+j<nS∧par (b+j)=some (q,j)) :
  eachM T (geoN n) dO (num Z R q:Nat) S=(⟨S.L++rowN (num Z R) b 128,S.M++tabN (num Z R) q 1⟩,0):=by
 have ch:∀ j,j<128→num Z R (b+j)=sub Z (num Z R q) j:=fun j hj=>num_some (hb j hj).2 (hb j hj).1
 unfold eachM
 show _=(AllS.mk _ (S.M++((if num Z R q=0 then [] else _)++[])),(0:Int))
 by_cases h0:num Z R q=0
 ·rw [if_pos (by omega),if_pos h0,rowN_zero 128 b fun j hj=>by rw [ch j hj,h0]; rfl,List.append_nil,List.append_nil,List.append_nil]
 ·have ru:=w.rng q hq h0
  rw [if_neg (by omega),if_neg (fun z=>z (look_ok ru.1 ru.2.1)),a.z _ ru.2.1,if_neg (fun z=>z rfl),if_neg h0]
  have lk:∀ j,j<(numsL (Z (num Z R q))).length→num Z R (b+0+j)≠0→lookM (geoN n) (num Z R (b+0+j):Int)=0:=fun j hj hne=>by
   rw [numsL_len] at hj
   rw [Nat.add_zero] at hne ⊢
   have r2:=w.rng _ (hb j hj).1 hne
   exact look_ok r2.1 r2.2.1
  have g:=own_go (f:=num Z R) hd (numsL (Z (num Z R q))) 0 ⟨S.L,S.M++[((num Z R q:Nat):Int)]⟩ (fun j hj=>by
   rw [numsL_get hj]
   rw [numsL_len] at hj
   rw [Nat.add_zero,ch j hj]
   unfold sub
   rw [if_neg h0]) lk
  rw [numsL_len,Nat.add_zero] at g
  rw [g,List.append_nil]
theorem two_go {n:Nat} {Z:Nat→Txt} {R:List Int} {T:TM} (a:Av n Z T) (w:Wf n Z R):∀ (vs:List Int) (i:Nat) (S:AllS),i+vs.length≤128→(∀ j (hj:j<vs.length),vs[j]=(num Z R (16524+i+j):Int)) →
  eachGo (twoD T (geoN n)) vs i S=(⟨S.L++rowN (num Z R) (138+128*i) (128*vs.length),S.M++tabN (num Z R) (16524+i) vs.length⟩,0)
 | [],i,S,_,_=>by show (S,(0:Int))=(AllS.mk (S.L++[]) (S.M++[]),0); rw [List.append_nil,List.append_nil]
 | v::r,i,S,hl,h1=>by
  rw [List.length_cons] at hl
  have hv:v=(num Z R (16524+i):Int):=h1 0 (Nat.succ_pos _)
  have ih:=fun S'=>two_go a w r (i+1) S' (by omega) (fun j hj=>by
   have:=h1 (j+1) (Nat.succ_lt_succ hj)
   rw [show 16524+i+(j+1)=16524+(i+1)+j by omega] at this
   exact this)
  have ed:twoD T (geoN n) S i v=(⟨S.L++rowN (num Z R) (138+128*i) 128,S.M++tabN (num Z R) (16524+i) 1⟩,0):=by
   show eachM T (geoN n) (inD (geoN n) i) v S=_
   rw [hv]
   refine each_ok a w (fun S j v=>?_) (by unfold nS; omega) fun j hj=>⟨by unfold nS; omega,?_⟩
   ·show ownA (geoN n) S (138+(i:Int)*128+j) v=_
    rw [show 138+(i:Int)*128+j=((138+128*i+j:Nat):Int) by omega]
   ·unfold par
    rw [if_neg (by omega),if_neg (by omega),if_pos (by omega),show 16524+(138+128*i+j - 138) / 128=16524+i by omega,show (138+128*i+j - 138) % 128=j by omega]
  rw [eachGo_cons,ed,if_neg (fun z=>z rfl),ih,List.length_cons,show 128*(r.length+1)=128+128*r.length by omega,rowN_add,show 138+128*i+128=138+128*(i+1) by omega]
  show (AllS.mk ((S.L++rowN (num Z R) (138+128*i) 128)++_) ((S.M++((if num Z R (16524+i)=0 then [] else _)++[]))++_),(0:Int))=(AllS.mk (S.L++(_++_)) (S.M++((if num Z R (16524+i)=0 then [] else _)++_)),(0:Int))
  rw [List.append_assoc,List.append_assoc,List.append_nil]; rfl
theorem allS_ok {n:Nat} {Z:Nat→Txt} {R:List Int} {T:TM} (a:Av n Z T) (w:Wf n Z R):allM T (geoN n) R=(rowN (num Z R) 0 16522,tabN (num Z R) 16522 1++(tabN (num Z R) 16523 1++if num Z R 16523=0 then [] else tabN (num Z R) 16524 128),0):=by
 have rl:=w.rl
 have dirs:eachGo (dirD (geoN n)) ((R.drop 3).take 10) 0 ⟨[],[]⟩=(⟨rowN (num Z R) 0 10,[]⟩,0):=by
  have hl:((R.drop 3).take 10).length=10:=by rw [List.length_take,List.length_drop,rl]; rfl
  have g:=own_go (g:=geoN n) (f:=num Z R) (dO:=dirD (geoN n)) (b:=0) (fun S i v=>by show ownA _ S (i:Int) v=_; rw [Nat.zero_add]) ((R.drop 3).take 10) 0 ⟨[],[]⟩ (fun j hj=>by
   have h0:par (0+0+j)=none:=by unfold par; rw [if_pos (by omega)]
   rw [← root_num w (by unfold nS; omega) h0]
   unfold root
   rw [if_pos (by omega),List.getElem_take,List.getElem_drop,List.getD_eq_getElem?_getD,List.getElem?_eq_getElem (by omega)]
   show _=R[3+(0+0+j)]
   congr 1; omega) (fun j hj hne=>by
   have r2:=w.rng _ (by unfold nS; omega) hne
   exact look_ok r2.1 r2.2.1)
  rw [hl] at g
  exact g
 have r13:R.getD 13 0=(num Z R 16522:Nat):=by
  have:=root_num w (s:=16522) (by decide) (by decide)
  unfold root at this
  rw [if_neg (by decide),if_pos rfl] at this; exact this
 have r14:R.getD 14 0=(num Z R 16523:Nat):=by
  have:=root_num w (s:=16523) (by decide) (by decide)
  unfold root at this
  rw [if_neg (by decide),if_neg (by decide)] at this; exact this
 have one:∀ S,eachM T (geoN n) (oneD (geoN n)) (R.getD 13 0) S=(⟨S.L++rowN (num Z R) 10 128,S.M++tabN (num Z R) 16522 1⟩,0):=fun S=>by
  rw [r13]
  refine each_ok a w (fun S j v=>?_) (by decide) fun j hj=>⟨by unfold nS; omega,?_⟩
  ·show ownA (geoN n) S (10+(j:Int)) v=_
   rw [show 10+(j:Int)=((10+j:Nat):Int) by omega]
  ·unfold par
   rw [if_neg (by omega),if_pos (by omega),show 10+j - 10=j by omega]
 have two:∀ S,eachM T (geoN n) (twoD T (geoN n)) (R.getD 14 0) S=(⟨S.L++rowN (num Z R) 138 16384,S.M++(tabN (num Z R) 16523 1++if num Z R 16523=0 then [] else tabN (num Z R) 16524 128)⟩,0):=fun S=>by
  rw [r14]
  have pt:∀ p,p<128→num Z R (16524+p)=sub Z (num Z R 16523) p:=fun p hp=>num_some (par_table hp) (by unfold nS; omega)
  unfold eachM
  show _=(AllS.mk _ (S.M++(((if num Z R 16523=0 then [] else _)++[])++_)),(0:Int))
  by_cases h0:num Z R 16523=0
  ·rw [if_pos (by omega),if_pos h0,if_pos h0,rowN_zero 16384 138 fun j hj=>?_]
   ·simp only [List.append_nil]
   ·have e:par (138+j)=some (16524+j / 128,j % 128):=by
     unfold par
     rw [if_neg (by omega),if_neg (by omega),if_pos (by omega),Nat.add_sub_cancel_left]
    rw [num_some e (by unfold nS; omega),pt (j / 128) (by omega),h0]; rfl
  ·have ru:=w.rng 16523 (by decide) h0
   rw [if_neg (by omega),if_neg (fun z=>z (look_ok ru.1 ru.2.1)),a.z _ ru.2.1,if_neg (fun z=>z rfl),if_neg h0,if_neg h0]
   have g:=two_go a w (numsL (Z (num Z R 16523))) 0 ⟨S.L,S.M++[((num Z R 16523:Nat):Int)]⟩ (by rw [numsL_len]; decide) (fun j hj=>by
    rw [numsL_get hj]
    rw [numsL_len] at hj
    rw [Nat.add_zero,pt j hj]
    unfold sub
    rw [if_neg h0])
   rw [numsL_len] at g
   rw [g,List.append_nil,← List.append_assoc]
 have sum:rowN (num Z R) 0 16522=(rowN (num Z R) 0 10++rowN (num Z R) 10 128)++rowN (num Z R) 138 16384:=by
  rw [show 16522=10+(128+16384) by rfl,rowN_add,rowN_add,← List.append_assoc]
 have es:allS T (geoN n) R=(⟨rowN (num Z R) 0 16522,tabN (num Z R) 16522 1++(tabN (num Z R) 16523 1++if num Z R 16523=0 then [] else tabN (num Z R) 16524 128)⟩,0):=by
  unfold allS
  rw [dirs,if_neg (fun z=>z rfl),one,if_neg (fun z=>z rfl),two,sum]; rfl
 unfold allM
 rw [es,if_neg (fun z=>z rfl)]
end Go.Proofs.YtiapingedfnlnaaGreatDoor.Bm
namespace Go.Proofs.YtiapingedfnlnaaGreatDoor.Bm
open Go Go.Proofs Wx Hp W Ad Tm Bt Spc Re Av
def edge (n j:Nat):Bool:=decide (j<(geoN n).data) || decide (n≤j)
def Z0 (L:Txt):Nat→Txt:=fun k=>(L.drop (k*512)).take 512
theorem fresh_av {n:Nat} {L:Txt} (hL:L.length=512*n):Av n (Z0 L) ⟨fresh (chunks L),[],[],false⟩:=by
 have hn:(chunks L).length=n:=by rw [chunks_length,hL]; omega
 refine ⟨rfl,hn,fun k hk=>?_,fun k hk=>by unfold Z0; rw [List.length_take,List.length_drop,hL]; omega,List.nodup_nil,fun x hx=>(by cases hx)⟩
 have hN:TM.N ⟨fresh (chunks L),[],[],false⟩=n:=hn
 rw [TM.read_live rfl,hN,if_neg (by omega),TM.get_none rfl,if_neg (by intro y; cases y)]
 have:readAt (fresh (chunks L)) ((k:Nat):Int).toNat=Z0 L k:=by
  show (chunks L).getD k []=_
  rw [List.getD_eq_getElem?_getD,List.getElem?_eq_getElem (by omega),Option.getD_some,chunks_get]; rfl
 rw [this]
theorem bitAt_chunk (L:Txt) (k t:Nat) (ht:t<4096):bitAt (Z0 L k) t=bitAt L (4096*k+t):=by
 unfold bitAt Z0
 rw [List.getD_eq_getElem?_getD,List.getElem?_take,if_pos (by omega),List.getElem?_drop,← List.getD_eq_getElem?_getD,show k*512+t / 8=(4096*k+t) / 8 by omega,show t % 8=(4096*k+t) % 8 by omega]
theorem num_nil {Z:Nat→Txt} {R:List Int} (h:∀ i,3≤i→i<15→R.getD i 0=0):∀ s,s<nS→num Z R s=0:=by
 refine slots (fun s hs e=>?_) fun s q p hs e ih=>?_
 ·rw [num_none e]
  have b:=par_none e
  have:root R s=0:=by
   unfold root
   split
   ·exact h _ (by omega) (by omega)
   ·split
    ·exact h _ (by omega) (by omega)
    ·exact h _ (by omega) (by omega)
  rw [this]; rfl
 ·rw [num_some e hs,ih]; rfl
theorem wf_nil {n:Nat} {Z:Nat→Txt} {R:List Int} (hl:R.length=15) (h:∀ i,3≤i→i<15→R.getD i 0=0):Wf n Z R :=
 ⟨hl,fun i h1 h2=>by rw [h i h1 h2]; exact Int.le_refl _,fun s hs h0=>absurd (num_nil h s hs) h0,fun s s' hs _ h0 _=>absurd (num_nil h s hs) h0⟩
theorem mem_rowN {f:Nat→Nat} {x:Int×Int}:∀ (m k:Nat),x ∈ rowN f k m↔∃ j,k≤j∧j<k+m∧f j≠0∧x=((j:Int),(f j:Int))
 | 0,k=>by
  constructor
  ·intro h; cases h
  ·rintro ⟨j,h1,h2,_⟩; omega
 | m+1,k=>by
  show x ∈ (if f k=0 then [] else [((k:Int),(f k:Int))])++rowN f (k+1) m↔_
  rw [List.mem_append,mem_rowN m (k+1)]
  constructor
  ·rintro (h|⟨j,h1,h2,h3,h4⟩)
   ·split at h
    ·cases h
    ·rename_i h0
     exact ⟨k,Nat.le_refl _,by omega,h0,List.mem_singleton.mp h⟩
   ·exact ⟨j,by omega,by omega,h3,h4⟩
  ·rintro ⟨j,h1,h2,h3,h4⟩
   by_cases e:j=k
   ·subst e
    rw [if_neg h3]; exact .inl (List.mem_singleton.mpr h4)
   ·exact .inr ⟨j,by omega,by omega,h3,h4⟩
theorem rowN_lt {f:Nat→Nat}:∀ (m k:Nat),(rowN f k m).Pairwise fun x y=>x.1<y.1
 | 0,_=>List.Pairwise.nil
 | m+1,k=>by
  show ((if f k=0 then [] else [((k:Int),(f k:Int))])++rowN f (k+1) m).Pairwise _
  rw [List.pairwise_append]
  refine ⟨?_,rowN_lt m (k+1),fun x hx y hy=>?_⟩
  ·split
   ·exact List.Pairwise.nil
   ·exact List.pairwise_singleton _ _
  ·obtain ⟨j,h1,_,_,rfl⟩:=(mem_rowN m (k+1)).mp hy
   split at hx
   ·cases hx
   ·rw [List.mem_singleton.mp hx]; show (k:Int)<(j:Int); omega
end Go.Proofs.YtiapingedfnlnaaGreatDoor.Bm
namespace Go.Proofs.YtiapingedfnlnaaGreatDoor.Bm
open Go Go.Proofs Wx Hp W Ad Tm Bt Spc Re Av
def loS (q:Nat):Nat:=if q=16522 then 10 else if q=16523 then 138 else 138+128*(q - 16524)
def hiS (q:Nat):Nat:=if q=16522 then 138 else if q=16523 then 16522 else 138+128*(q - 16524)+128
def ch (q p:Nat):Nat:=if q=16522 then 10+p else if q=16523 then 16524+p else 138+128*(q - 16524)+p
theorem lo_tab (p:Nat):loS (16524+p)=138+128*p:=by unfold loS; rw [if_neg (by omega),if_neg (by omega),Nat.add_sub_cancel_left]
theorem hi_tab (p:Nat):hiS (16524+p)=138+128*p+128:=by unfold hiS; rw [if_neg (by omega),if_neg (by omega),Nat.add_sub_cancel_left]
theorem ch_tab (r p:Nat):ch (16524+r) p=138+128*r+p:=by unfold ch; rw [if_neg (by omega),if_neg (by omega),Nat.add_sub_cancel_left]
theorem ch_one (p:Nat):ch 16522 p=10+p:=rfl
theorem ch_two (p:Nat):ch 16523 p=16524+p:=rfl
theorem tab_cases {q:Nat} (h1:16522≤q) (h2:q<nS):q=16522∨q=16523∨∃ r,r<128∧q=16524+r:=by
 unfold nS at h2
 by_cases a:q=16522
 ·exact .inl a
 ·by_cases b:q=16523
  ·exact .inr (.inl b)
  ·exact .inr (.inr ⟨q - 16524,by omega,by omega⟩)
theorem ch_par {q p:Nat} (h1:16522≤q) (h2:q<nS) (hp:p<128):par (ch q p)=some (q,p)∧ch q p<nS:=by
 rcases tab_cases h1 h2 with rfl|rfl|⟨r,hr,rfl⟩
 ·rw [ch_one]
  refine ⟨?_,by unfold nS; omega⟩
  unfold par
  rw [if_neg (by omega),if_pos (by omega),Nat.add_sub_cancel_left]
 ·rw [ch_two]
  exact ⟨par_table hp,by unfold nS; omega⟩
 ·rw [ch_tab]
  refine ⟨?_,by unfold nS; omega⟩
  unfold par
  rw [if_neg (by omega),if_neg (by omega),if_pos (by omega),show (138+128*r+p - 138) / 128=r by omega,show (138+128*r+p - 138) % 128=p by omega]
def Sub (q s:Nat):Prop:=s=q∨(16522≤q∧loS q≤s∧s<hiS q)∨(q=16523∧16524≤s∧s<nS)
theorem sub_leaf {c s:Nat} (h:c<16522):Sub c s↔s=c:=by unfold Sub; omega
theorem sub_one {s:Nat}:Sub 16522 s↔s=16522∨(10≤s∧s<138):=by
 have e1:loS 16522=10:=rfl
 have e2:hiS 16522=138:=rfl
 unfold Sub; rw [e1,e2]; omega
theorem sub_two {s:Nat}:Sub 16523 s↔s=16523∨(138≤s∧s<16522)∨(16524≤s∧s<nS):=by
 have e1:loS 16523=138:=rfl
 have e2:hiS 16523=16522:=rfl
 unfold Sub; rw [e1,e2]; omega
theorem sub_tab {r s:Nat}:Sub (16524+r) s↔s=16524+r∨(138+128*r≤s∧s<138+128*r+128):=by
 unfold Sub; rw [lo_tab,hi_tab]; omega
theorem sub_split {q s:Nat} (h1:16522≤q) (h2:q<nS):Sub q s↔s=q∨∃ j,j<128∧Sub (ch q j) s:=by
 rcases tab_cases h1 h2 with rfl|rfl|⟨r,hr,rfl⟩
 ·rw [sub_one]
  constructor
  ·rintro (h|h)
   ·exact .inl h
   ·exact .inr ⟨s - 10,by omega,by rw [ch_one,sub_leaf (by omega)]; omega⟩
  ·rintro (h|⟨j,hj,h⟩)
   ·exact .inl h
   ·rw [ch_one,sub_leaf (by omega)] at h; omega
 ·rw [sub_two]
  constructor
  ·rintro (h|h|h)
   ·exact .inl h
   ·exact .inr ⟨(s - 138) / 128,by omega,by rw [ch_two,sub_tab]; omega⟩
   ·exact .inr ⟨s - 16524,by unfold nS at h; omega,by rw [ch_two,sub_tab]; omega⟩
  ·rintro (h|⟨j,hj,h⟩)
   ·exact .inl h
   ·rw [ch_two,sub_tab] at h; unfold nS; omega
 ·rw [sub_tab]
  constructor
  ·rintro (h|h)
   ·exact .inl h
   ·exact .inr ⟨s - (138+128*r),by omega,by rw [ch_tab,sub_leaf (by omega)]; omega⟩
  ·rintro (h|⟨j,hj,h⟩)
   ·exact .inl h
   ·rw [ch_tab,sub_leaf (by omega)] at h; omega
theorem data_sub {q s:Nat} (h1:16522≤q) (h2:q<nS) (h:loS q≤s) (h':s<hiS q):Sub q s∧s<16522:=by
 refine ⟨.inr (.inl ⟨h1,h,h'⟩),?_⟩
 rcases tab_cases h1 h2 with rfl|rfl|⟨r,hr,rfl⟩
 ·have:s<138:=h'; omega
 ·exact h'
 ·rw [hi_tab] at h'; omega
theorem sub_zero {Z:Nat→Txt} {R:List Int} {q:Nat} (hq:q<nS) (h0:num Z R q=0):∀ s,Sub q s→num Z R s=0:=by
 intro s h
 rcases Nat.lt_or_ge q 16522 with h1|h1
 ·rw [sub_leaf h1] at h; rw [h]; exact h0
 ·rcases (sub_split h1 hq).mp h with rfl|⟨j,hj,h⟩
  ·exact h0
  ·obtain ⟨e,hc⟩:=ch_par h1 hq hj
   have hz:num Z R (ch q j)=0:=by rw [num_some e hc,h0]; exact if_pos rfl
   rcases Nat.lt_or_ge (ch q j) 16522 with h2|h2
   ·rw [sub_leaf h2] at h; rw [h]; exact hz
   ·rcases (sub_split h2 hc).mp h with rfl|⟨i,hi,h⟩
    ·exact hz
    ·obtain ⟨e',hc'⟩:=ch_par h2 hc hi
     have:ch (ch q j) i<16522:=by
      rcases tab_cases h1 hq with rfl|rfl|⟨r,hr,rfl⟩
      ·rw [ch_one] at h2; omega
      ·rw [ch_two,ch_tab]; omega
      ·rw [ch_tab] at h2; omega
     rw [sub_leaf this] at h
     rw [h,num_some e' hc',hz]; exact if_pos rfl
def Tight (Z:Nat→Txt) (R:List Int):Prop:=∀ q,16522≤q→q<nS→num Z R q≠0→∃ x,loS q≤x∧x<hiS q∧num Z R x≠0
end Go.Proofs.YtiapingedfnlnaaGreatDoor.Bm
namespace Go.Proofs.YtiapingedfnlnaaGreatDoor.Bm
open Go Go.Proofs Wx Hp W Ad Tm Bt Spc Re Av
theorem nz60 {x:Int} (e:x=60):x≠0:=by rw [e]; decide
theorem nz90 {x:Int} (e:x=90):x≠0:=by rw [e]; decide
end Go.Proofs.YtiapingedfnlnaaGreatDoor.Bm
namespace Go.Proofs.YtiapingedfnlnaaGreatDoor.Bm
open Go Go.Proofs Wx Hp W Ad Tm Bt Spc Re Av
theorem root_dir {R:List Int} {i:Nat} (hi:i<10):root R i=R.getD (3+i) 0:=if_pos hi
end Go.Proofs.YtiapingedfnlnaaGreatDoor.Bm
namespace Go.Proofs.YtiapingedfnlnaaGreatDoor.Bm
open Go Go.Proofs Wx Hp W Ad Tm Bt Spc Re Av
theorem add_ok {n k:Nat} {Z:Nat→Txt} {R:List Int} {T:TM} (d:Dim n) (a:Av n Z T) (w:Wf n Z R) (hk:k<16522) :
  (addM T (geoN n) R k=(T,z15,0,60)∧96≤(ks T).length+9)∨(addM T (geoN n) R k=(T,z15,0,90)∧frees n Z<miss Z R (path k)) ∨
  ∃ T' R' Z',addM T (geoN n) R k=(T',R',((num Z' R' k:Nat):Int),0)∧Av n Z' T'∧Added n Z R none (path k) Z' R'∧(miss Z R (path k)=0→T'=T)∧(∀ x ∈ ks T',x ∈ ks T∨x<(geoN n).inodes∨∃ s ∈ path k,x=((num Z' R' s:Nat):Int))∧(∀ x ∈ ks T,x ∈ ks T')∧∀ s ∈ path k,num Z R s=0→((num Z' R' s:Nat):Int) ∈ ks T':=by
 obtain ⟨c,e⟩:=path_chain hk
 unfold addM
 rw [if_neg (by omega),Int.toNat_natCast,← e]
 have hl:(path k).length≤3:=by
  unfold path
  split
  ·simp
  ·split <;> simp
 obtain ⟨o,x⟩:=walkA_ok d (path k) none Z T T R a w c (fun q y=>by cases y) (Ext.refl T)
 have ea:at_ Z R none=0:=rfl
 rw [ea] at o x
 rcases o with ⟨Z',e1,a',ad,nf,kk,lk1,lk2⟩|⟨e1,h⟩|⟨e1,h⟩
 ·rw [if_neg (fun y=>y (by rw [e1]))]
  refine .inr (.inr ⟨_,_,Z',?_,a',ad,nf,fun x hx=>?_,lk1,lk2⟩)
  ·rw [e1,path_last]; rfl
  ·rcases kk x hx with h|h|h|⟨q,h,_⟩
   ·exact .inl h
   ·exact .inr (.inl h)
   ·exact .inr (.inr h)
   ·cases h
 ·rw [if_pos (nz60 (by rw [e1])),x.back a.live,e1]
  exact .inl ⟨rfl,by omega⟩
 ·rw [if_pos (nz90 (by rw [e1])),x.back a.live,e1]
  exact .inr (.inl ⟨rfl,h⟩)
theorem path_under {k q:Nat} (hk:k<16522) (h:q ∈ path k) (hq:16522≤q):loS q≤k∧k<hiS q:=by
 unfold path at h
 split at h
 ·rw [List.mem_singleton] at h; omega
 ·split at h
  ·simp only [List.mem_cons,List.not_mem_nil,or_false] at h
   rcases h with rfl|rfl
   ·show 10≤k∧k<138; omega
   ·omega
  ·simp only [List.mem_cons,List.not_mem_nil,or_false] at h
   rcases h with rfl|rfl|rfl
   ·show 138≤k∧k<16522; omega
   ·rw [lo_tab,hi_tab]; omega
   ·omega
theorem path_self (k:Nat):k ∈ path k:=List.mem_of_getLast? (path_last k)
theorem path_data {k s:Nat} (h:s ∈ path k) (hs:s<16522):s=k:=by
 unfold path at h
 split at h
 ·exact List.mem_singleton.mp h
 ·split at h
  ·simp only [List.mem_cons,List.not_mem_nil,or_false] at h; omega
  ·simp only [List.mem_cons,List.not_mem_nil,or_false] at h; omega
theorem Added.tight {n k:Nat} {Z Z':Nat→Txt} {R R':List Int} (a:Added n Z R none (path k) Z' R') (hk:k<16522) (tg:Tight Z R):Tight Z' R':=by
 intro q h1 h2 h0
 by_cases hq:q ∈ path k
 ·obtain ⟨b,c⟩:=path_under hk hq h1
  exact ⟨k,b,c,a.got k (path_self k)⟩
 ·rw [a.off q h2 hq] at h0
  obtain ⟨x,b,c,hx⟩:=tg q h1 h2 h0
  have hx2:=(data_sub h1 h2 b c).2
  refine ⟨x,b,c,?_⟩
  by_cases hp:x ∈ path k
  ·exact a.got x hp
  ·rw [a.off x (by unfold nS; omega) hp]; exact hx
theorem tight_nil {Z:Nat→Txt} {R:List Int} (h:∀ i,3≤i→i<15→R.getD i 0=0):Tight Z R:=fun q _ h2 h0=>absurd (num_nil h q h2) h0
theorem Added.data {n k:Nat} {Z Z':Nat→Txt} {R R':List Int} (a:Added n Z R none (path k) Z' R') {s:Nat} (hs:s<16522) (hne:s≠k):num Z' R' s=num Z R s :=
 a.off s (by unfold nS; omega) fun h=>hne (path_data h hs)
theorem roots_num {n:Nat} {Z:Nat→Txt} {R:List Int} (w:Wf n Z R):(∀ i,i<10→R.getD (3+i) 0=((num Z R i:Nat):Int))∧R.getD 13 0=((num Z R 16522:Nat):Int)∧R.getD 14 0=((num Z R 16523:Nat):Int) :=
 ⟨fun i hi=>by rw [← root_dir hi]; exact root_num w (by unfold nS; omega) (by unfold par; rw [if_pos hi]),root_num w (s:=16522) (by decide) rfl,root_num w (s:=16523) (by decide) rfl⟩
end Go.Proofs.YtiapingedfnlnaaGreatDoor.Bm
namespace Go.Proofs.YtiapingedfnlnaaGreatDoor.Bm
open Go Go.Proofs Wx Hp W Ad Tm Bt Spc Re Av
theorem walkA_un (g:G):∀ (l:List (Nat×Nat)) (T:TM) (R:List Int) (a:Int),(∀ s ∈ l,StOk s)→(walkA g l T R a).1.1.undo.length≤T.undo.length+3*l.length
 | [],T,R,a,_=>Nat.le_add_right _ _
 | s::r,T,R,a,h=>by
  have ih:=fun T' R' a'=>walkA_un g r T' R' a' fun x hx=>h x (List.mem_cons_of_mem _ hx)
  have nx:∀ (TR:TM×List Int) (nu er:Int),TR.1.undo.length≤T.undo.length+3→(nextM g TR nu er (walkA g r)).1.1.undo.length≤T.undo.length+3*(r.length+1):=fun TR nu er hle=>by
   unfold nextM
   split
   ·show TR.1.undo.length≤_; omega
   ·split
    ·show TR.1.undo.length≤_; omega
    ·split
     ·show TR.1.undo.length≤_; omega
     ·have:=ih TR.1 TR.2 nu; omega
  rw [walkA_cons,List.length_cons]
  split
  ·exact nx _ _ _ (holeM_un (h s (List.mem_cons_self ..)))
  ·exact nx (T,R) _ _ (Nat.le_add_right _ _)
theorem back_un (T:TM) (m:Int):(T.back m).1.undo.length≤T.undo.length:=by
 unfold TM.back
 split
 ·exact Nat.le_refl _
 ·split
  ·exact Nat.le_refl _
  ·show (T.undo.take _).length≤_
   rw [List.length_take]; omega
theorem addM_un {T:TM} {g:G} {R:List Int} {k:Int}:(addM T g R k).1.undo.length≤T.undo.length+9:=by
 unfold addM
 split
 ·exact Nat.le_add_right _ _
 ·rename_i hk
  have hl:(wayM k.toNat).length≤3:=by
   unfold wayM
   split
   ·simp
   ·split <;> simp
  have:=walkA_un g (wayM k.toNat) T R 0 (wayM_ok (by omega))
  split
  ·have hb:=back_un (walkA g (wayM k.toNat) T R 0).1.1 T.undo.length
   exact Nat.le_trans hb (by omega)
  ·exact Nat.le_trans this (by omega)
end Go.Proofs.YtiapingedfnlnaaGreatDoor.Bm
namespace Go.Proofs.YtiapingedfnlnaaGreatDoor.Fi
open Go Go.Proofs Wx Hp W Ad Tm Spc Re Av Rg
open Hd (ints)
open In (Glo ints_length ints_one)
open Ino (getM putM Cok getM_length)
open Bm (findM addM allM pcellA write_un)
theorem hv_yield {P:Program} {l:Nat} {args:List Value} {h:Heap} {k:Value→Heap→Prop} (y:YCalls P l args h k):HCallsV P (.func (.yield l) #[] #[]) args h k:=y
def undoM (T:TM) (r:TM×Int):TM×Int:=if r.2≠0 then ((r.1.back T.mark.1).1,r.2) else r
theorem putM_un {T:TM} {g:G} {n:Int} {R:List Int}:(putM T g n R).1.undo.length≤T.undo.length+1:=by
 unfold putM
 split
 ·exact Nat.le_add_right _ _
 ·split
  ·exact Nat.le_add_right _ _
  ·split
   ·exact Nat.le_add_right _ _
   ·exact write_un _ _ _
theorem cok {n:Nat} (d:Dim n):Cok (geoN n):=⟨geoN_ok d.hi,by have:=d.hi; show 8*(n / 64)≤_; omega⟩
theorem put_e {h:Heap} {eb:Nat} {e0 e:Int} {k:Heap→Prop} (w:Own h eb) (r:rd h eb=[.int .i64 e0]) (H:∀ h',Did eb h h' [.int .i64 e]→k h'):Put ⟨eb,0,none⟩ (.int .i64 e) h k :=
 Put.intro w (by rw [r]; exact Nat.zero_lt_one) fun h' d=>by rw [r] at d; exact H h' d
end Go.Proofs.YtiapingedfnlnaaGreatDoor.Fi
namespace Go.Proofs.YtiapingedfnlnaaGreatDoor.Fi
open Go Go.Proofs Wx Hp W Ad Tm Spc Re Av Rg
open Hd (ints)
open In (Glo ints_length ints_one mayR decA)
open Ino (getM putM Cok getM_length)
open Bm (findM addM allM pcellA write_un)
theorem getM_may {T:TM} {g:G} {n:Int} (h:(getM T g n).2=0):mayR (getM T g n).1=true:=by
 unfold getM at h ⊢
 split
 ·rename_i y; rw [if_pos y] at h; exact absurd h (by decide)
 ·rename_i y
  rw [if_neg y] at h
  split
  ·rename_i z; rw [if_pos z] at h; exact absurd h z
  ·rename_i z
   rw [if_neg z] at h
   unfold decA at h ⊢
   split
   ·rename_i w; rw [if_pos w] at h; exact absurd h (by decide)
   ·rename_i w
    rw [if_neg w] at h
    split
    ·rename_i v
     unfold In.decOk at v
     rw [Bool.and_eq_true] at v; exact v.2
    ·rename_i v
     rw [if_neg v] at h; exact absurd h (by decide)
end Go.Proofs.YtiapingedfnlnaaGreatDoor.Fi
namespace Go.Proofs.YtiapingedfnlnaaGreatDoor.Fi
open Go Go.Proofs Wx Hp W Ad Tm Spc Re Av Rg
open Hd (ints)
open In (Glo ints_length ints_one mayR decA)
open Ino (getM putM Cok getM_length)
open Bm (findM addM allM pcellA write_un addM_un setM walkA)
theorem setM_len (T:TM) (R:List Int) (s:Nat×Nat) (a:Int) (b:Txt) (v:Int):(setM T R s a b v).1.2.length=R.length:=by
 unfold setM
 split
 ·exact List.length_set
 ·split
  ·exact List.length_set
  ·split
   ·exact List.length_set
   ·rfl
theorem walkA_len (g:G):∀ (l:List (Nat×Nat)) (T:TM) (R:List Int) (a:Int),(walkA g l T R a).1.2.length=R.length
 | [],_,_,_=>rfl
 | s::r,T,R,a=>by
  unfold walkA
  split
  ·rfl
  ·split
   ·split
    ·rfl
    ·exact walkA_len g r T R _
   ·split
    ·rfl
    ·split
     ·exact setM_len ..
     ·split
      ·exact setM_len ..
      ·split
       ·exact setM_len ..
       ·rw [walkA_len g r]; exact setM_len ..
theorem addM_length {T:TM} {g:G} {R:List Int} {k:Int} (hR:R.length=15):(addM T g R k).2.1.length=15:=by
 unfold addM
 split
 ·rfl
 ·split
  ·rfl
  ·show (walkA g _ T R 0).1.2.length=15
   rw [walkA_len,hR]
end Go.Proofs.YtiapingedfnlnaaGreatDoor.Fi
namespace Go.Proofs.YtiapingedfnlnaaGreatDoor.Di
open Go Go.Proofs Ad Tm Bt Spc Av Fi Bm Ino Sk Ss
def openM (T:TM) (g:G) (n:Int):List Int×Int :=
 if (getM T g n).2≠0 then getM T g n else if (getM T g n).1.getD 0 0=0 then ((getM T g n).1,110) else if (getM T g n).1.getD 0 0≠2 then ((getM T g n).1,161) else getM T g n
theorem openM_ok {T:TM} {g:G} {n:Int} (h:(openM T g n).2=0):openM T g n=getM T g n∧(getM T g n).2=0∧(getM T g n).1.getD 0 0=2:=by
 unfold openM at h ⊢
 split
 ·rename_i y; rw [if_pos y] at h; exact absurd h y
 ·rename_i y
  rw [if_neg y] at h
  split
  ·rename_i z; rw [if_pos z] at h; exact absurd (show (110:Int)=0 from h) (by decide)
  ·rename_i z
   rw [if_neg z] at h
   split
   ·rename_i w; rw [if_pos w] at h; exact absurd (show (161:Int)=0 from h) (by decide)
   ·rename_i w; exact ⟨rfl,Classical.byContradiction y,Classical.byContradiction w⟩
theorem openM_length (T:TM) (g:G) (n:Int):(openM T g n).1.length=15:=by
 have l:=getM_length T g n
 unfold openM
 split
 ·exact l
 ·split
  ·exact l
  ·split <;> exact l
structure Leaf where
 index:Nat
 block:Int
 bytes:Tm.Txt
 cells:List E
def leafM (T:TM) (g:G) (R:List Int) (k:Nat):Leaf×Int:=(⟨k,(findM T g R k).1,(blockM T g R k).1,(ans (blockM T g R k).1).1⟩,if (blockM T g R k).2≠0 then (blockM T g R k).2 else (ans (blockM T g R k).1).2)
def leavesGo (T:TM) (g:G) (R:List Int):Nat→Nat→List Leaf×Int
 | 0,_=>([],0)
 | m+1,k=>if (leafM T g R k).2≠0 then ([],(leafM T g R k).2) else ((leafM T g R k).1::(leavesGo T g R m (k+1)).1,(leavesGo T g R m (k+1)).2)
def leavesM (T:TM) (g:G) (R:List Int):List Leaf×Int:=leavesGo T g R (R.getD 2 0 / 512).toNat 0
def cellOfName (l:Leaf) (s:Tm.Txt):Option E:=l.cells.find? fun c=>c.name == s
def seekGo (T:TM) (g:G) (R:List Int) (s:Tm.Txt):Nat→Nat→Option (Leaf×E)×Int
 | 0,_=>(none,160)
 | m+1,k=>if (leafM T g R k).2≠0 then (none,(leafM T g R k).2) else match cellOfName (leafM T g R k).1 s with
  | some c=>(some ((leafM T g R k).1,c),0)
  | none=>seekGo T g R s m (k+1)
def seekM (T:TM) (g:G) (n:Int) (s:Tm.Txt):Option (Leaf×E)×Int :=
 if nameOk s=false then (none,1) else if (openM T g n).2≠0 then (none,(openM T g n).2) else seekGo T g (openM T g n).1 s ((openM T g n).1.getD 2 0 / 512).toNat 0
theorem seekGo_some {T:TM} {g:G} {R:List Int} {s:Tm.Txt}:∀ (m k:Nat) (x:Leaf×E),(seekGo T g R s m k).1=some x→(seekGo T g R s m k).2=0∧x.2.name=s∧x.2 ∈ x.1.cells∧∃ j,k≤j∧j<k+m∧x.1=(leafM T g R j).1∧(leafM T g R j).2=0
 | 0,k,x,h=>by cases h
 | m+1,k,x,h=>by
  unfold seekGo at h ⊢
  split at h
  ·cases h
  ·rename_i y
   rw [if_neg y]
   split at h
   ·rename_i c hc
    cases h
    refine ⟨rfl,?_,List.mem_of_find?_eq_some (by unfold cellOfName at hc; exact hc),k,Nat.le_refl _,by omega,rfl,Classical.byContradiction y⟩
    unfold cellOfName at hc
    have q:=List.find?_some hc
    exact eq_of_beq q
   ·obtain ⟨a,b,c,j,j0,j1,j2⟩:=seekGo_some m (k+1) x h
    exact ⟨a,b,c,j,by omega,by omega,j2⟩
theorem seekGo_none {T:TM} {g:G} {R:List Int} {s:Tm.Txt}:∀ (m k:Nat),(seekGo T g R s m k).1=none→(seekGo T g R s m k).2≠0
 | 0,k,_=>by show (160:Int)≠0; decide
 | m+1,k,h=>by
  unfold seekGo at h ⊢
  split at h
  ·rename_i y; rw [if_pos y]; exact y
  ·rename_i y
   rw [if_neg y]
   split at h
   ·cases h
   ·exact seekGo_none m (k+1) h
def findD (T:TM) (g:G) (n:Int) (s:Tm.Txt):Int×Int:=((match (seekM T g n s).1 with
 | some x=>x.2.inode
 | none=>0),(seekM T g n s).2)
def putD (T:TM) (x:Leaf×E) (r:Int×Tm.Txt):TM×Int×Int :=
 if r.1≠0 then (T,0,r.1) else if (T.write x.1.block r.2).2≠0 then ((T.write x.1.block r.2).1,0,(T.write x.1.block r.2).2) else ((T.write x.1.block r.2).1,x.2.inode,0)
def removeD (T:TM) (g:G) (n:Int) (s:Tm.Txt):TM×Int×Int:=match (seekM T g n s).1 with
 | some x=>putD T x (clrA x.1.bytes x.2.place)
 | none=>(T,0,(seekM T g n s).2)
def hasI (g:G) (i:Int):Bool:=decide (1≤i) && decide (i<g.count)
def replaceD (T:TM) (g:G) (n:Int) (s:Tm.Txt) (i:Int):TM×Int×Int :=
 if nameOk s=false then (T,0,1) else if hasI g i=false then (T,0,110) else match (seekM T g n s).1 with
 | some x=>putD T x (putA x.1.bytes ⟨x.2.place,s,i⟩)
 | none=>(T,0,(seekM T g n s).2)
def placeGo (s:Tm.Txt):List Leaf→Int×Int×Bool→Int×Int×Bool
 | [],x=>x
 | l::r,(i,p,b)=>placeGo s r (if p<0∧0≤(lowA l.bytes).1∧(lowA l.bytes).2=0 then ((l.index:Int),(lowA l.bytes).1,b || (cellOfName l s).isSome) else (i,p,b || (cellOfName l s).isSome))
def addAt (T:TM) (g:G) (n:Int) (R:List Int) (index place:Int) (s:Tm.Txt) (i:Int):TM×Int :=
 if (addM T g R index).2.2.2≠0 then ((addM T g R index).1,(addM T g R index).2.2.2) else
 if ((addM T g R index).1.read (addM T g R index).2.2.1).2≠0 then ((addM T g R index).1,((addM T g R index).1.read (addM T g R index).2.2.1).2) else
 if (putA ((addM T g R index).1.read (addM T g R index).2.2.1).1 ⟨max place 0,s,i⟩).1≠0 then ((addM T g R index).1,(putA ((addM T g R index).1.read (addM T g R index).2.2.1).1 ⟨max place 0,s,i⟩).1) else
 if ((addM T g R index).1.write (addM T g R index).2.2.1 (putA ((addM T g R index).1.read (addM T g R index).2.2.1).1 ⟨max place 0,s,i⟩).2).2≠0 then (addM T g R index).1.write (addM T g R index).2.2.1 (putA ((addM T g R index).1.read (addM T g R index).2.2.1).1 ⟨max place 0,s,i⟩).2 else
 if (if place<0 then (addM T g R index).2.1.set 2 ((addM T g R index).2.1.getD 2 0+512) else (addM T g R index).2.1)=R then (((addM T g R index).1.write (addM T g R index).2.2.1 (putA ((addM T g R index).1.read (addM T g R index).2.2.1).1 ⟨max place 0,s,i⟩).2).1,0) else
  putM ((addM T g R index).1.write (addM T g R index).2.2.1 (putA ((addM T g R index).1.read (addM T g R index).2.2.1).1 ⟨max place 0,s,i⟩).2).1 g n (if place<0 then (addM T g R index).2.1.set 2 ((addM T g R index).2.1.getD 2 0+512) else (addM T g R index).2.1)
def addD (T:TM) (g:G) (n:Int) (s:Tm.Txt) (i:Int):TM×Int :=
 if nameOk s=false then (T,1) else if hasI g i=false then (T,110) else if (openM T g n).2≠0 then (T,(openM T g n).2) else
 if (leavesM T g (openM T g n).1).2≠0 then (T,(leavesM T g (openM T g n).1).2) else
 if (placeGo s (leavesM T g (openM T g n).1).1 ((openM T g n).1.getD 2 0 / 512,-1,false)).2.2=true then (T,150) else if T.mark.2≠0 then (T,T.mark.2) else
  undoM T (addAt T g n (openM T g n).1 (placeGo s (leavesM T g (openM T g n).1).1 ((openM T g n).1.getD 2 0 / 512,-1,false)).1 (placeGo s (leavesM T g (openM T g n).1).1 ((openM T g n).1.getD 2 0 / 512,-1,false)).2.1 s i)
def allE (l:List Leaf):List E:=l.flatMap fun x=>x.cells.map fun c=>⟨c.place+16*x.index,c.name,c.inode⟩
end Go.Proofs.YtiapingedfnlnaaGreatDoor.Di
namespace Go.Proofs.YtiapingedfnlnaaGreatDoor.Bm
open Go Go.Proofs Wx Hp W Ad Tm Bt Spc Re Av
open Hd (ints wrap_u64)
open In (Glo ints_length ints_one)
structure Im (n:Nat) (U:Nat→Bool) (L:Txt):Prop where
 len:L.length=512*n
 bits:∀ j,j<4096*((geoN n).inodes - 98)→bitAt L (98*4096+j)=U j
def updU (U:Nat→Bool) (i:Nat):Nat→Bool:=fun j=>if j=i then true else U j
theorem Im.put {n i:Nat} {U:Nat→Bool} {L:Txt} (a:Im n U L) (hn:128≤n∧n<4428) (hi:i<4096*((geoN n).inodes - 98)):Im n (updU U i) (putBit L (98*4096+i) true):=by
 have hle:(geoN n).inodes*512≤n*512:=by show (98+(n+4095) / 4096)*512≤_; omega
 have h98:98≤(geoN n).inodes:=by show 98≤98+_; omega
 refine ⟨(putBit_length ..).trans a.len,fun j hj=>?_⟩
 rw [bitAt_putBit _ _ _ _ (by rw [a.len]; omega)]
 unfold updU
 by_cases h:j=i
 ·rw [if_pos (by omega),if_pos h]
 ·rw [if_neg (by omega),if_neg h,a.bits j hj]
theorem Im.congr {n:Nat} {U U':Nat→Bool} {L:Txt} (a:Im n U L) (h:∀ j,U j=U' j):Im n U' L:=⟨a.len,fun j hj=>(a.bits j hj).trans (h j)⟩
def lowU (n k:Nat):Nat→Bool:=fun j=>decide (j<k) && edge n j
theorem lowU_hit {n k:Nat} (h:edge n k=true) (j:Nat):updU (lowU n k) k j=lowU n (k+1) j:=by
 unfold updU lowU
 by_cases e:j=k
 ·subst e; rw [if_pos rfl,h,decide_eq_true (by omega)]; rfl
 ·have:decide (j<k+1)=decide (j<k):=decide_eq_decide.mpr (by omega)
  rw [if_neg e,this]
theorem lowU_miss {n k:Nat} (h:edge n k=false) (j:Nat):lowU n k j=lowU n (k+1) j:=by
 unfold lowU
 by_cases e:j=k
 ·subst e; rw [h,Bool.and_false,Bool.and_false]
 ·have:decide (j<k+1)=decide (j<k):=decide_eq_decide.mpr (by omega)
  rw [this]
theorem Im.bit {n:Nat} {U:Nat→Bool} {L:Txt} (a:Im n U L) (hn:128≤n∧n<4428) {j:Nat} (hj:j<n):Av.bit (Z0 L) j=U j:=by
 have hino:(geoN n).inodes=98+(n+4095) / 4096:=rfl
 rw [← a.bits j (by omega)]
 unfold Av.bit
 rw [bitAt_chunk _ _ _ (Nat.mod_lt _ (by decide))]
 congr 1; omega
end Go.Proofs.YtiapingedfnlnaaGreatDoor.Bm
namespace Go.Proofs.YtiapingedfnlnaaGreatDoor.Bm
open Go Go.Proofs Wx Hp W Ad Tm Bt Spc Re Av
structure Dom (f:Nat→Nat) (has:MapI):Prop where
 nd:(has.map (·.1)).Nodup
 rng:∀ p ∈ has,0≤p.1∧p.1<16522
 at_:∀ k:Nat,k<16522→((k:Int) ∈ has.map (·.1)↔f k≠0)
theorem Dom.mem {f:Nat→Nat} {has:MapI} (a:Dom f has) {x:Int}:x ∈ has.map (·.1)↔∃ k:Nat,k<16522∧x=k∧f k≠0:=by
 constructor
 ·intro h
  obtain ⟨p,hp,rfl⟩:=List.mem_map.mp h
  obtain ⟨h1,h2⟩:=a.rng p hp
  have e:((p.1.toNat:Nat):Int)=p.1:=by omega
  exact ⟨p.1.toNat,by omega,e.symm,(a.at_ _ (by omega)).mp (by rw [e]; exact h)⟩
 ·rintro ⟨k,hk,rfl,h0⟩
  exact (a.at_ k hk).mpr h0
theorem rowN_fst {f:Nat→Nat} (m k:Nat):((rowN f k m).map (·.1)).Nodup:=by
 have:=rowN_lt (f:=f) m k
 exact (List.Pairwise.map (S:=fun a b:Int=>a<b) _ (fun _ _ h=>h) this).imp fun h=>by omega
theorem Dom.len {f:Nat→Nat} {has:MapI} (a:Dom f has):(rowN f 0 16522).length=has.length:=by
 have h1:∀ x,x ∈ (rowN f 0 16522).map (·.1)↔x ∈ has.map (·.1):=fun x=>by
  rw [a.mem]
  constructor
  ·intro h
   obtain ⟨p,hp,rfl⟩:=List.mem_map.mp h
   obtain ⟨j,_,h2,h3,rfl⟩:=(mem_rowN 16522 0).mp hp
   exact ⟨j,by omega,rfl,h3⟩
  ·rintro ⟨k,hk,rfl,h0⟩
   exact List.mem_map.mpr ⟨_,(mem_rowN 16522 0).mpr ⟨k,by omega,by omega,h0,rfl⟩,rfl⟩
 have a1:=nodup_len (rowN_fst (f:=f) 16522 0) fun x hx=>(h1 x).mp hx
 have a2:=nodup_len a.nd fun x hx=>(h1 x).mpr hx
 rw [List.length_map,List.length_map] at a1 a2
 omega
theorem tabN_add {f:Nat→Nat}:∀ (a k b:Nat),tabN f k (a+b)=tabN f k a++tabN f (k+a) b
 | 0,k,b=>by rw [Nat.zero_add]; rfl
 | a+1,k,b=>by
  rw [show a+1+b=(a+b)+1 by omega]
  show (if f k=0 then [] else _)++tabN f (k+1) (a+b)=((if f k=0 then [] else _)++tabN f (k+1) a)++_
  rw [tabN_add a (k+1) b,List.append_assoc,show k+1+a=k+(a+1) by omega]
theorem tabN_zero {f:Nat→Nat}:∀ (m k:Nat),(∀ j,j<m→f (k+j)=0)→tabN f k m=[]
 | 0,_,_=>rfl
 | m+1,k,h=>by
  have h0:=h 0 (by omega)
  rw [Nat.add_zero] at h0
  show (if f k=0 then [] else _)++tabN f (k+1) m=[]
  rw [if_pos h0,tabN_zero m (k+1) fun j hj=>by have:=h (j+1) (by omega); rwa [show k+(j+1)=k+1+j by omega] at this]; rfl
theorem tabs_eq (Z:Nat→Txt) (R:List Int):tabN (num Z R) 16522 1++(tabN (num Z R) 16523 1++if num Z R 16523=0 then [] else tabN (num Z R) 16524 128)=tabN (num Z R) 16522 130:=by
 rw [show 130=1+(1+128) by rfl,tabN_add 1 16522,tabN_add 1 (16522+1)]
 congr 2
 split
 ·rename_i h
  exact (tabN_zero 128 16524 fun j hj=>sub_zero (q:=16523) (by decide) h _ (sub_two.mpr (.inr (.inr ⟨by omega,by unfold nS; omega⟩)))).symm
 ·rfl
def tabS (f:Nat→Nat):Nat→Nat→List Nat
 | _,0=>[]
 | k,m+1=>(if f k=0 then [] else [k])++tabS f (k+1) m
theorem tabN_S {f:Nat→Nat}:∀ (m k:Nat),tabN f k m=(tabS f k m).map fun s=>((f s:Nat):Int)
 | 0,_=>rfl
 | m+1,k=>by
  show (if f k=0 then [] else [((f k:Nat):Int)])++tabN f (k+1) m=((if f k=0 then [] else [k])++tabS f (k+1) m).map _
  rw [List.map_append,tabN_S m (k+1)]
  split <;> rfl
theorem up_num {Z:Nat→Txt} {R:List Int} {k q:Nat} (hk:k<16522) (h0:num Z R k≠0) (hq:q ∈ path k) (h2:q<nS):num Z R q≠0:=fun hz=>by
 rcases Nat.lt_or_ge q 16522 with h|h
 ·rw [path_data hq h] at hz; exact h0 hz
 ·obtain ⟨a,b⟩:=path_under hk hq h
  exact h0 (sub_zero h2 hz k (data_sub h h2 a b).1)
theorem Dom.split {f:Nat→Nat} {has:MapI} (a:Dom f has):cnt (fun s=>decide (f s≠0)) nS=has.length+(tabN f 16522 130).length:=by
 have c1:∀ (m k:Nat) (p:Nat→Bool),(∀ s,p s=decide (f s≠0))→cnt p (k+m)=cnt p k+(tabS f k m).length:=by
  intro m
  induction m with
  | zero=>intro k p _; rfl
  | succ m ih =>
   intro k p hp
   have:=ih (k+1) p hp
   rw [show k+(m+1)=k+1+m by omega,this]
   show cnt p k+(if p k=true then 1 else 0)+_=cnt p k+((if f k=0 then [] else [k])++tabS f (k+1) m).length
   rw [List.length_append,hp k]
   by_cases h0:f k=0
   ·rw [if_pos h0,if_neg (by rw [decide_eq_true_eq]; exact fun y=>y h0)]; simp
   ·rw [if_neg h0,if_pos (decide_eq_true h0)]; simp; omega
 have c2:∀ (m k:Nat),(rowN f k m).length=(tabS f k m).length:=by
  intro m
  induction m with
  | zero=>intro k; rfl
  | succ m ih =>
   intro k
   show ((if f k=0 then [] else [(((k:Nat):Int),((f k:Nat):Int))])++rowN f (k+1) m).length=((if f k=0 then [] else [k])++tabS f (k+1) m).length
   rw [List.length_append,List.length_append,ih]
   split <;> rfl
 have e1:=c1 130 16522 (fun s=>decide (f s≠0)) fun s=>rfl
 have e2:=c1 16522 0 (fun s=>decide (f s≠0)) fun s=>rfl
 have e3:cnt (fun s=>decide (f s≠0)) 0=0:=rfl
 rw [Nat.zero_add,e3,Nat.zero_add] at e2
 unfold nS
 rw [show 16652=16522+130 by rfl,e1,e2,← c2,a.len,tabN_S,List.length_map]
end Go.Proofs.YtiapingedfnlnaaGreatDoor.Bm
namespace Go.Proofs.YtiapingedfnlnaaGreatDoor.Bm
open Go Go.Proofs Wx Hp W Ad Tm Bt Spc Re Av
theorem miss_zero {Z:Nat→Txt} {R:List Int} {k:Nat} (hk:k<16522) (h0:num Z R k≠0):miss Z R (path k)=0:=by
 have:∀ l:List Nat,(∀ s ∈ l,num Z R s≠0)→miss Z R l=0:=by
  intro l
  induction l with
  | nil=>intro _; rfl
  | cons s l ih =>
   intro h
   show (if num Z R s=0 then 1 else 0)+miss Z R l=0
   rw [if_neg (h s (List.mem_cons_self ..)),ih fun x hx=>h x (List.mem_cons_of_mem _ hx)]
 exact this _ fun s hs=>up_num hk h0 hs (chain_nS (path_chain hk).1 s hs)
end Go.Proofs.YtiapingedfnlnaaGreatDoor.Bm
namespace Go.Proofs.YtiapingedfnlnaaGreatDoor.Fi
open Go Go.Proofs Wx Hp W Ad Tm Bt Spc Re Av
open Hd (ints)
open In (Glo ints_length ints_one mayR decA encR encR_length decOk getR_enc z15)
open Ino (getM putM Cok getM_length rblk rat)
open Bm (findM addM allM num num4 nS Wf Tight path Added find_ok add_ok num_congr path_self path_chain chain_nS path_data miss_zero many miss par)
def blkZ (n k:Nat):Nat:=(geoN n).inodes+k / 8
def recZ (n:Nat) (Z:Nat→Txt) (k:Nat):List Int×Int:=decA (((Z (blkZ n k)).drop (64*(k % 8))).take 64)
theorem blkZ_rng {n k:Nat} (d:Dim n) (h:k<(geoN n).count):(geoN n).inodes≤blkZ n k∧blkZ n k<(geoN n).data∧blkZ n k<n∧98≤blkZ n k:=by
 have hd:=d.data
 have e:(geoN n).count=8*(n / 64):=rfl
 have e2:(geoN n).data=98+(n+4095) / 4096+n / 64:=rfl
 have e3:(geoN n).inodes=98+(n+4095) / 4096:=rfl
 unfold blkZ
 omega
theorem part64 {b z:Txt} {o q:Nat} (hz:z.length=64) (hb:b.length=512) (ho:o<8) (hq:q<8):((putU b (64*o) z).drop (64*q)).take 64=if q=o then z else (b.drop (64*q)).take 64:=by
 unfold putU
 have l1:(b.take (64*o)).length=64*o:=by rw [List.length_take]; omega
 by_cases h:q=o
 ·rw [if_pos h,h,List.append_assoc,List.drop_append_of_le_length (by omega),List.drop_of_length_le (by omega),List.nil_append,List.take_append_of_le_length (by omega),List.take_of_length_le (by omega)]
 ·rw [if_neg h]
  rcases Nat.lt_or_ge q o with h1|h1
  ·rw [List.append_assoc,List.drop_append_of_le_length (by omega),List.take_append_of_le_length (by rw [List.length_drop]; omega),List.drop_take,List.take_take,Nat.min_eq_left (by omega)]
  ·have l2:(b.take (64*o)++z).length=64*o+64:=by rw [List.length_append]; omega
   rw [List.drop_append,List.drop_of_length_le (by omega),List.nil_append,List.drop_drop,l2,hz,show 64*o+64+(64*q - (64*o+64))=64*q by omega]
theorem decA_enc {P:List Int} (hP:P.length=15) (hm:mayR P=true):decA (encR P)=(P,0):=by
 obtain ⟨e1,e2⟩:=getR_enc hP hm
 have:decOk (encR P)=true:=by rw [decOk,e1,e2,hm]; rfl
 rw [decA,if_neg (by rw [encR_length hP]; decide),if_pos this,e1]
theorem getM_at {n k:Nat} {Z:Nat→Txt} {T:TM} (a:Av n Z T) (d:Dim n) (h1:1≤k) (h2:k<(geoN n).count):getM T (geoN n) k=recZ n Z k:=by
 have r:=blkZ_rng d h2
 have e:rblk (geoN n) (k:Int)=((blkZ n k:Nat):Int):=rfl
 unfold getM
 rw [if_neg (fun y=>y ⟨by omega,by omega⟩),e,a.z _ r.2.2.1,if_neg (fun y=>y rfl)]
 rfl
theorem putM_at {n k:Nat} {Z:Nat→Txt} {T:TM} {R:List Int} (a:Av n Z T) (d:Dim n) (h1:1≤k) (h2:k<(geoN n).count) (hm:mayR R=true) :
  putM T (geoN n) k R=T.write (blkZ n k:Nat) (putU (Z (blkZ n k)) (64*(k % 8)) (encR R)):=by
 have r:=blkZ_rng d h2
 have e:rblk (geoN n) (k:Int)=((blkZ n k:Nat):Int):=rfl
 unfold putM
 rw [if_neg (fun y=>y ⟨by omega,by omega⟩),if_neg (by rw [hm]; simp),e,a.z _ r.2.2.1,if_neg (fun y=>y rfl)]
 rfl
theorem recZ_put {n i k:Nat} {Z:Nat→Txt} {R:List Int} (hR:R.length=15) (hm:mayR R=true) (hl:(Z (blkZ n i)).length=512):recZ n (up Z (blkZ n i) (putU (Z (blkZ n i)) (64*(i % 8)) (encR R))) k=if k=i then (R,0) else recZ n Z k:=by
 have le:=encR_length hR
 unfold recZ
 by_cases hb:blkZ n k=blkZ n i
 ·rw [hb,up_at,part64 le hl (by omega) (by omega)]
  by_cases hk:k=i
  ·rw [if_pos (by rw [hk]),if_pos hk]; exact decA_enc hR hm
  ·have:¬ k % 8=i % 8:=fun y=>by unfold blkZ at hb; omega
   rw [if_neg this,if_neg hk]
 ·rw [up_ne _ _ hb,if_neg (fun y=>hb (by rw [y]))]
def pc (Z:Nat→Txt) (R:List Int) (k:Nat):Txt:=if num Z R k=0 then zeros else Z (num Z R k)
theorem blockM_ok {n k:Nat} {Z:Nat→Txt} {R:List Int} {T:TM} (a:Av n Z T) (w:Wf n Z R) (hk:k<16522):blockM T (geoN n) R k=(pc Z R k,0):=by
 unfold blockM pc
 rw [find_ok a w hk,if_neg (fun y=>y rfl)]
 by_cases h:num Z R k=0
 ·rw [if_pos (by show ((num Z R k:Nat):Int)=0; omega),if_pos h]
 ·rw [if_neg (by show ¬ ((num Z R k:Nat):Int)=0; omega),if_neg h]
  exact a.z _ (w.rng k (by unfold nS; omega) h).2.1
structure Gr (n:Nat) (Z:Nat→Txt) (R:List Int) (Z':Nat→Txt) (R':List Int) (ps:List Nat):Prop where
 w:Wf n Z' R'
 tg:Tight Z' R'
 keep:∀ s,s<nS→num Z R s≠0→num Z' R' s=num Z R s
 dom:∀ s,s<nS→(num Z' R' s≠0↔num Z R s≠0∨∃ k ∈ ps,s ∈ path k)
 new:∀ s,s<nS→num Z R s=0→num Z' R' s≠0→bit Z (num Z' R' s)=false
 bits:∀ j,j<n→(bit Z' j=true↔bit Z j=true∨∃ s,s<nS∧num Z R s=0∧num Z' R' s≠0∧num Z' R' s=j)
 head:∀ i,i<3→R'.getD i 0=R.getD i 0
 cont:∀ b,b<n→(geoN n).inodes≤b→(b<(geoN n).data∨bit Z b=true)→(∀ s,s<nS→num Z' R' s≠0→b≠num Z' R' s)→Z' b=Z b
 tot:frees n Z'+many Z' R'=frees n Z+many Z R
theorem Gr.refl {n:Nat} {Z:Nat→Txt} {R:List Int} (w:Wf n Z R) (tg:Tight Z R):Gr n Z R Z R [] :=
 ⟨w,tg,fun _ _ _=>rfl,fun s _=>⟨.inl,fun y=>y.elim id fun ⟨k,hk,_⟩=>by cases hk⟩,fun s _ h0 h1=>absurd h0 h1,fun j _=>⟨.inl,fun y=>y.elim id fun ⟨s,_,h0,h1,_⟩=>absurd h0 h1⟩,fun _ _=>rfl,fun _ _ _ _ _=>rfl,rfl⟩
theorem Added.keep {n k:Nat} {Z Z':Nat→Txt} {R R':List Int} (a:Added n Z R none (path k) Z' R') {s:Nat} (hs:s<nS) (h0:num Z R s≠0):num Z' R' s=num Z R s:=by
 by_cases h:s ∈ path k
 ·exact a.old s h h0
 ·exact a.off s hs h
theorem Gr.add {n k:Nat} {Z Z1 Z2:Nat→Txt} {R R1 R2:List Int} {ps:List Nat} (g:Gr n Z R Z1 R1 ps) (hk:k<16522) (a:Added n Z1 R1 none (path k) Z2 R2):Gr n Z R Z2 R2 (k::ps):=by
 have kp:=fun {s:Nat} (hs:s<nS) h0=>Added.keep a hs h0
 have z0:∀ s,s<nS→num Z1 R1 s=0→num Z R s=0:=fun s hs h=>Classical.byContradiction fun y=>by rw [g.keep s hs y] at h; exact y h
 have pn:=chain_nS (path_chain hk).1
 refine ⟨a.w,a.tight hk g.tg,fun s hs h0=>?_,fun s hs=>?_,fun s hs h0 h2=>?_,fun j hj=>?_,fun i hi=>(a.head i hi).trans (g.head i hi),fun b h1 h2 h3 h4=>?_,?_⟩
 ·have:=g.keep s hs h0
  rw [kp hs (by rw [this]; exact h0),this]
 ·have e:num Z2 R2 s≠0↔num Z1 R1 s≠0∨s ∈ path k:=by
   constructor
   ·intro h
    by_cases hp:s ∈ path k
    ·exact .inr hp
    ·rw [a.off s hs hp] at h; exact .inl h
   ·rintro (h|h)
    ·rw [kp hs h]; exact h
    ·exact a.got s h
  rw [e,g.dom s hs]
  constructor
  ·rintro ((h|⟨x,hx,h⟩)|h)
   ·exact .inl h
   ·exact .inr ⟨x,List.mem_cons_of_mem _ hx,h⟩
   ·exact .inr ⟨k,List.mem_cons_self ..,h⟩
  ·rintro (h|⟨x,hx,h⟩)
   ·exact .inl (.inl h)
   ·rcases List.mem_cons.mp hx with rfl|hx
    ·exact .inr h
    ·exact .inl (.inr ⟨x,hx,h⟩)
 ·by_cases h1:num Z1 R1 s=0
  ·have hp:s ∈ path k:=Classical.byContradiction fun y=>by rw [a.off s hs y] at h2; exact h2 h1
   have hb:=a.new s hp h1
   cases hz:bit Z (num Z2 R2 s) with
   | false=>rfl
   | true=>rw [(g.bits _ (a.w.rng s hs h2).2.1).mpr (.inl hz)] at hb; cases hb
  ·rw [kp hs h1]; exact g.new s hs h0 h1
 ·constructor
  ·intro h
   rcases a.ex j hj h with h|⟨s,hp,h1,h2⟩
   ·rcases (g.bits j hj).mp h with h|⟨s,hs,h0,h1,h2⟩
    ·exact .inl h
    ·exact .inr ⟨s,hs,h0,by rw [kp hs h1]; exact h1,by rw [kp hs h1]; exact h2⟩
   ·exact .inr ⟨s,pn s hp,z0 s (pn s hp) h1,a.got s hp,h2⟩
  ·rintro (h|⟨s,hs,h0,h1,h2⟩)
   ·exact a.bits j hj ((g.bits j hj).mpr (.inl h))
   ·rw [← h2]; exact (a.w.rng s hs h1).2.2
 ·rw [a.cont b h1 h2 (h3.imp id fun y=>(g.bits b h1).mpr (.inl y)) (fun q hq=>h4 q (pn q hq) (a.got q hq)) fun q e=>by cases e]
  exact g.cont b h1 h2 h3 fun s hs h=>by
   have:=kp hs h
   rw [← this]
   exact h4 s hs (by rw [this]; exact h)
 ·have h1:=a.many
  have h2:=a.frees
  have h3:=g.tot
  omega
theorem num_up {n k:Nat} {Z:Nat→Txt} {R:List Int} {bs:Txt} (w:Wf n Z R) (hk:k<16522) (h0:num Z R k≠0):∀ s,s<nS→num (up Z (num Z R k) bs) R s=num Z R s :=
 num_congr (fun _ _ _=>rfl) fun q h1 h2 h3 p _=>by
  rw [up_ne _ _ fun e=>by have:=w.inj q k h2 (by unfold nS; omega) h3 e; omega]
theorem bit_data {n v j:Nat} {Z:Nat→Txt} {bs:Txt} (d:Dim n) (hv:(geoN n).data≤v) (hj:j<n):bit (up Z v bs) j=bit Z j:=by
 have:=d.map hj
 exact bit_up (by omega)
theorem Wf.up {n k:Nat} {Z:Nat→Txt} {R:List Int} {bs:Txt} (d:Dim n) (w:Wf n Z R) (hk:k<16522) (h0:num Z R k≠0):Wf n (up Z (num Z R k) bs) R:=by
 have N:=num_up (bs:=bs) w hk h0
 have r:=w.rng k (by unfold nS; omega) h0
 refine ⟨w.rl,w.rr,fun s hs h=>?_,fun s s' hs hs' h e=>?_⟩
 ·rw [N s hs] at h ⊢
  obtain ⟨a,b,c⟩:=w.rng s hs h
  exact ⟨a,b,by rw [bit_data d r.1 b]; exact c⟩
 ·rw [N s hs] at h e
  rw [N s' hs'] at e
  exact w.inj s s' hs hs' h e
theorem Gr.put {n k:Nat} {Z Z1:Nat→Txt} {R R1:List Int} {ps:List Nat} (d:Dim n) (g:Gr n Z R Z1 R1 ps) (hk:k<16522) (h0:num Z1 R1 k≠0) (bs:Txt):Gr n Z R (up Z1 (num Z1 R1 k) bs) R1 ps:=by
 have N:=num_up (bs:=bs) g.w hk h0
 have hkn:k<nS:=by unfold nS; omega
 have r:=g.w.rng k hkn h0
 have eb:∀ j,j<n→bit (up Z1 (num Z1 R1 k) bs) j=bit Z1 j:=fun j hj=>bit_data d r.1 hj
 refine ⟨Wf.up d g.w hk h0,fun q h1 h2 h=>?_,fun s hs h=>by rw [N s hs]; exact g.keep s hs h,fun s hs=>by rw [N s hs]; exact g.dom s hs,fun s hs h1 h2=>?_,fun j hj=>?_,g.head,fun b h1 h2 h3 h4=>?_,?_⟩
 ·rw [N q h2] at h
  obtain ⟨x,a,b,c⟩:=g.tg q h1 h2 h
  exact ⟨x,a,b,by rw [N x (by have:=(Bm.data_sub h1 h2 a b).2; unfold nS; omega)]; exact c⟩
 ·rw [N s hs] at h2 ⊢
  exact g.new s hs h1 h2
 ·rw [eb j hj,g.bits j hj]
  constructor
  ·rintro (h|⟨s,hs,a,b,c⟩)
   ·exact .inl h
   ·exact .inr ⟨s,hs,a,by rw [N s hs]; exact b,by rw [N s hs]; exact c⟩
  ·rintro (h|⟨s,hs,a,b,c⟩)
   ·exact .inl h
   ·rw [N s hs] at b c
    exact .inr ⟨s,hs,a,b,c⟩
 ·have hne:b≠num Z1 R1 k:=by have:=h4 k hkn (by rw [N k hkn]; exact h0); rw [N k hkn] at this; exact this
  rw [up_ne _ _ hne]
  exact g.cont b h1 h2 h3 fun s hs h=>by
   have:=h4 s hs (by rw [N s hs]; exact h)
   rw [N s hs] at this; exact this
 ·have e1:many (up Z1 (num Z1 R1 k) bs) R1=many Z1 R1:=by
   unfold many
   exact cnt_congr fun s hs=>by rw [N s hs]
  have e2:frees n (up Z1 (num Z1 R1 k) bs)=frees n Z1:=by
   unfold frees
   exact cnt_congr fun j hj=>by unfold isFree; rw [eb j hj]
  rw [e1,e2]; exact g.tot
theorem pc_add {n k:Nat} {Z Z':Nat→Txt} {R R':List Int} (w:Wf n Z R) (a:Added n Z R none (path k) Z' R') (hk:k<16522) {x:Nat} (hx:x<16522):pc Z' R' x=pc Z R x:=by
 have hxn:x<nS:=by unfold nS; omega
 have hkn:k<nS:=by unfold nS; omega
 by_cases hm:num Z R k=0
 ·unfold pc
  by_cases e:x=k
  ·subst e
   rw [if_neg (a.got x (path_self x)),if_pos hm]
   exact a.zero x (path_self x) hx hm
  ·have en:=a.data hx e
   rw [en]
   split
   ·rfl
   ·rename_i h
    have r:=w.rng x hxn h
    refine a.cont _ r.2.1 ?_ (.inr r.2.2) (fun q hq y=>?_) fun q y=>by cases y
    ·have:(geoN n).inodes≤(geoN n).data:=Nat.le_add_right _ _
     omega
    ·rw [← en] at y
     have hqn:=chain_nS (path_chain hk).1 q hq
     have:=a.w.inj x q hxn hqn (by rw [en]; exact h) y
     subst this
     exact e (path_data hq hx)
 ·obtain ⟨e1,e2⟩:=a.same (miss_zero hk hm)
  rw [e1,e2]
theorem pc_up {n k:Nat} {Z:Nat→Txt} {R:List Int} {bs:Txt} (w:Wf n Z R) (hk:k<16522) (h0:num Z R k≠0) {x:Nat} (hx:x<16522):pc (up Z (num Z R k) bs) R x=if x=k then bs else pc Z R x:=by
 have hxn:x<nS:=by unfold nS; omega
 have hkn:k<nS:=by unfold nS; omega
 have N:=num_up (bs:=bs) w hk h0
 unfold pc
 rw [N x hxn]
 by_cases e:x=k
 ·subst e
  rw [if_neg h0,if_pos rfl,up_at]
 ·rw [if_neg e]
  split
  ·rfl
  ·rename_i h
   rw [up_ne _ _ fun y=>e (w.inj x k hxn hkn h y)]
end Go.Proofs.YtiapingedfnlnaaGreatDoor.Fi
namespace Go.Proofs.YtiapingedfnlnaaGreatDoor.Di
open Go Go.Proofs Ad Tm Bt Spc Av Ss
open Fi (blockM getM_at recZ pc blockM_ok undoM)
open Bm (findM addM num nS Wf find_ok)
open Ino (getM putM)
open Sk (E ents low nameOk dec dec_blk blk_length)
abbrev Cl := Nat×Tm.Txt
def seg (H:List Cl) (k:Nat):List Cl:=(H.drop (16*k)).take 16
theorem seg_len {H:List Cl} {k:Nat} (h6:H.length % 16=0) (hk:16*k<H.length):(seg H k).length=16:=by
 unfold seg; rw [List.length_take,List.length_drop]; omega
theorem seg_mem {H:List Cl} {k:Nat} {x:Cl} (h:x ∈ seg H k):x ∈ H:=List.mem_of_mem_drop (List.mem_of_mem_take h)
theorem drop_seg (H:List Cl) (k:Nat):H.drop (16*k)=seg H k++H.drop (16*(k+1)):=by
 unfold seg
 rw [show 16*(k+1)=16*k+16 by omega,← List.drop_drop,List.take_append_drop]
theorem seg_set {H:List Cl} {p:Nat} {c:Cl} (k:Nat):seg (H.set p c) k=if p / 16=k then (seg H k).set (p % 16) c else seg H k:=by
 unfold seg
 refine List.ext_getElem? fun i=>?_
 rw [List.getElem?_take]
 by_cases hi:i<16
 ·rw [if_pos hi,List.getElem?_drop,List.getElem?_set]
  by_cases hk:p / 16=k
  ·rw [if_pos hk,List.getElem?_set,List.length_take,List.length_drop]
   by_cases e:p=16*k+i
   ·rw [if_pos e]
    by_cases hl:p<H.length
    ·rw [if_pos hl,if_pos (show p % 16=i by omega),if_pos (show p % 16<min 16 (H.length - 16*k) by omega)]
    ·rw [if_neg hl,if_pos (show p % 16=i by omega),if_neg (show ¬ p % 16<min 16 (H.length - 16*k) by omega)]
   ·rw [if_neg e,if_neg (by omega),List.getElem?_take,if_pos hi,List.getElem?_drop]
  ·rw [if_neg hk,if_neg (by omega),List.getElem?_take,if_pos hi,List.getElem?_drop]
 ·rw [if_neg hi]
  split
  ·rw [List.getElem?_set,List.getElem?_take,if_neg hi]
   split
   ·rw [List.length_take,if_neg (by omega)]
   ·rfl
  ·rw [List.getElem?_take,if_neg hi]
structure Dir (Z:Nat→Tm.Txt) (R:List Int) (H:List Cl):Prop where
 kind:R.getD 0 0=2
 links:2≤R.getD 1 0∧R.getD 1 0≤65535
 size:R.getD 2 0=((32*H.length:Nat):Int)
 sixt:H.length % 16=0
 most:H.length≤160
 good:∀ x ∈ H,Sk.Good x
 dom:∀ s,s<nS→(num Z R s≠0↔16*s<H.length)
 blk:∀ k,16*k<H.length→pc Z R k=Sk.blk (seg H k)
theorem ans_blk {hs:List Cl} (hl:hs.length=16) (g:∀ x ∈ hs,Sk.Good x):ans (Sk.blk hs)=(ents 0 hs,0):=by
 have e:=dec_blk g
 rw [hl] at e
 unfold ans
 rw [if_neg (fun y=>y (by rw [blk_length g,hl])),e]
theorem lowA_blk {hs:List Cl} (hl:hs.length=16) (g:∀ x ∈ hs,Sk.Good x):lowA (Sk.blk hs)=(low 0 hs,0):=by
 have e:=dec_blk g
 rw [hl] at e
 unfold lowA
 rw [if_neg (fun y=>y (by rw [blk_length g,hl])),e]
def pos (s:Tm.Txt):List Cl→Option Nat
 | []=>none
 | x::r=>if x.1≠0∧x.2=s then some 0 else (pos s r).map (· + 1)
theorem pos_append (s:Tm.Txt) (b:List Cl):∀ a:List Cl,pos s (a++b)=match pos s a with
  | some p=>some p
  | none=>(pos s b).map (· + a.length)
 | []=>by
  show pos s b=(pos s b).map (· + 0)
  cases pos s b <;> rfl
 | x::r=>by
  have ih:=pos_append s b r
  show (if x.1≠0∧x.2=s then some 0 else (pos s (r++b)).map (· + 1))=match (if x.1≠0∧x.2=s then some 0 else (pos s r).map (· + 1)) with
   | some p=>some p
   | none=>(pos s b).map (· + (r.length+1))
  by_cases h:x.1≠0∧x.2=s
  ·rw [if_pos h,if_pos h]
  ·rw [if_neg h,if_neg h,ih]
   cases pos s r with
   | some p=>rfl
   | none =>
    cases pos s b with
    | none=>rfl
    | some q=>show some (q+r.length+1)=some (q+(r.length+1)); rw [Nat.add_assoc]
theorem pos_some {s:Tm.Txt}:∀ {H:List Cl} {p:Nat},pos s H=some p→p<H.length∧(H.getD p (0,[])).1≠0∧(H.getD p (0,[])).2=s
 | [],p,h=>by cases h
 | x::r,p,h=>by
  unfold pos at h
  by_cases c:x.1≠0∧x.2=s
  ·rw [if_pos c] at h
   cases h
   exact ⟨Nat.succ_pos _,c⟩
  ·rw [if_neg c] at h
   obtain ⟨q,hq,rfl⟩:=Option.map_eq_some_iff.mp h
   obtain ⟨a,b⟩:=pos_some hq
   exact ⟨Nat.succ_lt_succ a,b⟩
theorem pos_none {s:Tm.Txt}:∀ {H:List Cl},pos s H=none→∀ x ∈ H,¬ (x.1≠0∧x.2=s)
 | [],_,x,hx=>by cases hx
 | y::r,h,x,hx=>by
  unfold pos at h
  by_cases c:y.1≠0∧y.2=s
  ·rw [if_pos c] at h; cases h
  ·rw [if_neg c] at h
   rcases List.mem_cons.mp hx with rfl|hx
   ·exact c
   ·exact pos_none (Option.map_eq_none_iff.mp h) x hx
theorem find_ents (s:Tm.Txt):∀ (hs:List Cl) (k:Nat),(ents k hs).find? (fun c=>c.name == s)=match pos s hs with
  | some p=>some ⟨((k+p:Nat):Int),s,(((hs.getD p (0,[])).1:Nat):Int)⟩
  | none=>none
 | [],k=>rfl
 | x::r,k=>by
  have ih:=find_ents s r (k+1)
  show (ents k (x::r)).find? _=match (if x.1≠0∧x.2=s then some 0 else (pos s r).map (· + 1)) with
   | some p=>some ⟨((k+p:Nat):Int),s,((((x::r).getD p (0,[])).1:Nat):Int)⟩
   | none=>none
  have rest:(match (pos s r).map (· + 1) with
   | some p=>some (⟨((k+p:Nat):Int),s,((((x::r).getD p (0,[])).1:Nat):Int)⟩:E)
   | none=>none)=match pos s r with
   | some p=>some ⟨((k+1+p:Nat):Int),s,(((r.getD p (0,[])).1:Nat):Int)⟩
   | none=>none:=by
   cases pos s r with
   | none=>rfl
   | some p =>
    show some (⟨((k+(p+1):Nat):Int),s,((((x::r).getD (p+1) (0,[])).1:Nat):Int)⟩:E)=_
    rw [show k+(p+1)=k+1+p by omega]; rfl
  unfold ents
  by_cases h0:x.1=0
  ·rw [if_pos h0,if_neg (fun y=>y.1 h0),rest]; exact ih
  ·rw [if_neg h0]
   by_cases e:x.2=s
   ·rw [if_pos ⟨h0,e⟩,List.find?_cons_of_pos (by show (x.2 == s)=true; rw [e]; exact beq_self_eq_true s),e]; rfl
   ·rw [if_neg (fun y=>e y.2),rest,List.find?_cons_of_neg (by show ¬ (x.2 == s)=true; rw [beq_iff_eq]; exact e)]; exact ih
def free : List Cl→Option Nat
 | []=>none
 | x::r=>if x.1=0 then some 0 else (free r).map (· + 1)
theorem low_free : ∀ (hs:List Cl) (k:Nat),low k hs=match free hs with
  | some p=>((k+p:Nat):Int)
  | none => -1
 | [],k=>rfl
 | x::r,k=>by
  show (if x.1=0 then (k:Int) else low (k+1) r)=match (if x.1=0 then some 0 else (free r).map (· + 1)) with
   | some p=>((k+p:Nat):Int)
   | none => -1
  by_cases h:x.1=0
  ·rw [if_pos h,if_pos h]; rfl
  ·rw [if_neg h,if_neg h,low_free r (k+1)]
   cases free r with
   | none=>rfl
   | some p=>show ((k+1+p:Nat):Int)=((k+(p+1):Nat):Int); congr 1; omega
theorem free_append (b:List Cl):∀ a:List Cl,free (a++b)=match free a with
  | some p=>some p
  | none=>(free b).map (· + a.length)
 | []=>by
  show free b=(free b).map (· + 0)
  cases free b <;> rfl
 | x::r=>by
  have ih:=free_append b r
  show (if x.1=0 then some 0 else (free (r++b)).map (· + 1))=match (if x.1=0 then some 0 else (free r).map (· + 1)) with
   | some p=>some p
   | none=>(free b).map (· + (r.length+1))
  by_cases h:x.1=0
  ·rw [if_pos h,if_pos h]
  ·rw [if_neg h,if_neg h,ih]
   cases free r with
   | some p=>rfl
   | none =>
    cases free b with
    | none=>rfl
    | some q=>show some (q+r.length+1)=some (q+(r.length+1)); rw [Nat.add_assoc]
theorem free_some : ∀ {H:List Cl} {p:Nat},free H=some p→p<H.length∧(H.getD p (0,[])).1=0
 | [],p,h=>by cases h
 | x::r,p,h=>by
  unfold free at h
  by_cases c:x.1=0
  ·rw [if_pos c] at h
   cases h
   exact ⟨Nat.succ_pos _,c⟩
  ·rw [if_neg c] at h
   obtain ⟨q,hq,rfl⟩:=Option.map_eq_some_iff.mp h
   obtain ⟨a,b⟩:=free_some hq
   exact ⟨Nat.succ_lt_succ a,b⟩
theorem free_none : ∀ {H:List Cl},free H=none→∀ x ∈ H,x.1≠0
 | [],_,x,hx=>by cases hx
 | y::r,h,x,hx=>by
  unfold free at h
  by_cases c:y.1=0
  ·rw [if_pos c] at h; cases h
  ·rw [if_neg c] at h
   rcases List.mem_cons.mp hx with rfl|hx
   ·exact c
   ·exact free_none (Option.map_eq_none_iff.mp h) x hx
def leafOf (Z:Nat→Tm.Txt) (R:List Int) (H:List Cl) (k:Nat):Leaf:=⟨k,((num Z R k:Nat):Int),Sk.blk (seg H k),ents 0 (seg H k)⟩
section
variable {n : Nat} {Z : Nat → Tm.Txt} {T : TM} {R : List Int} {H : List Cl}
theorem open_ok {i:Nat} (a:Av n Z T) (d:Dim n) (r1:1≤i) (r2:i<(geoN n).count) (gi:recZ n Z i=(R,0)) (D:Dir Z R H):openM T (geoN n) i=(R,0):=by
 have k:=D.kind
 unfold openM
 rw [getM_at a d r1 r2,gi,if_neg (fun y=>y rfl),if_neg (fun y=>by have y:R.getD 0 0=0:=y; omega),if_neg (fun y=>y k)]
theorem leaf_ok {k:Nat} (a:Av n Z T) (w:Wf n Z R) (D:Dir Z R H) (hk:16*k<H.length):leafM T (geoN n) R k=(leafOf Z R H k,0):=by
 have m:=D.most
 have e:=ans_blk (seg_len D.sixt hk) fun x hx=>D.good x (seg_mem hx)
 unfold leafM leafOf
 rw [find_ok a w (by omega),blockM_ok a w (by omega),D.blk k hk,if_neg (fun y=>y rfl)]
 show (({ index:=k,block:=((num Z R k:Nat):Int),bytes:=Sk.blk (seg H k),cells:=(ans (Sk.blk (seg H k))).1 }:Leaf),(ans (Sk.blk (seg H k))).2)=_
 rw [e]
def hit (Z:Nat→Tm.Txt) (R:List Int) (H:List Cl) (s:Tm.Txt) (p:Nat):Leaf×E:=(leafOf Z R H (p / 16),⟨((p % 16:Nat):Int),s,(((H.getD p (0,[])).1:Nat):Int)⟩)
theorem seekGo_ok {s:Tm.Txt} (a:Av n Z T) (w:Wf n Z R) (D:Dir Z R H):∀ m k,16*(k+m)=H.length→seekGo T (geoN n) R s m k=match pos s (H.drop (16*k)) with
  | some p=>(some (hit Z R H s (16*k+p)),0)
  | none=>(none,160)
 | 0,k,h=>by
  rw [List.drop_of_length_le (by omega)]; rfl
 | m+1,k,h=>by
  have ih:=seekGo_ok (s:=s) a w D m (k+1) (by omega)
  have hk:16*k<H.length:=by omega
  have l16:=seg_len D.sixt hk
  unfold seekGo
  rw [leaf_ok a w D hk,if_neg (fun y=>y rfl),drop_seg,pos_append]
  have ec:cellOfName (leafOf Z R H k,(0:Int)).1 s=match pos s (seg H k) with
   | some p=>some ⟨((0+p:Nat):Int),s,((((seg H k).getD p (0,[])).1:Nat):Int)⟩
   | none=>none:=find_ents s (seg H k) 0
  rw [ec]
  cases hp:pos s (seg H k) with
  | some p =>
   have hp16:=(pos_some hp).1
   rw [l16] at hp16
   have eg:(seg H k).getD p (0,[])=H.getD (16*k+p) (0,[]):=by
    unfold seg
    rw [List.getD_eq_getElem?_getD,List.getElem?_take,if_pos hp16,List.getElem?_drop,← List.getD_eq_getElem?_getD]
   show (some (leafOf Z R H k,(⟨((0+p:Nat):Int),s,((((seg H k).getD p (0,[])).1:Nat):Int)⟩:E)),(0:Int))=(some (hit Z R H s (16*k+p)),0)
   unfold hit
   rw [eg,show (16*k+p) / 16=k by omega,show (16*k+p) % 16=p by omega,Nat.zero_add]
  | none =>
   show seekGo T (geoN n) R s m (k+1)=_
   rw [ih]
   cases pos s (H.drop (16*(k+1))) with
   | none=>rfl
   | some q =>
    show (some (hit Z R H s (16*(k+1)+q)),(0:Int))=(some (hit Z R H s (16*k+(q+(seg H k).length))),0)
    rw [l16,show 16*(k+1)+q=16*k+(q+16) by omega]
theorem size16 (D:Dir Z R H):(R.getD 2 0 / 512).toNat=H.length / 16:=by
 have:=D.size
 have:=D.sixt
 omega
theorem seek_ok {i:Nat} {s:Tm.Txt} (a:Av n Z T) (d:Dim n) (w:Wf n Z R) (r1:1≤i) (r2:i<(geoN n).count) (gi:recZ n Z i=(R,0)) (D:Dir Z R H) (hs:nameOk s=true):seekM T (geoN n) i s=match pos s H with
  | some p=>(some (hit Z R H s p),0)
  | none=>(none,160):=by
 have h6:=D.sixt
 unfold seekM
 rw [if_neg (by rw [hs]; simp),open_ok a d r1 r2 gi D,if_neg (fun y=>y rfl),size16 D,seekGo_ok a w D (H.length / 16) 0 (by omega),Nat.mul_zero,List.drop_zero]
 cases pos s H with
 | none=>rfl
 | some p=>show (some (hit Z R H s (0+p)),(0:Int))=_; rw [Nat.zero_add]
theorem find_dir {i:Nat} {s:Tm.Txt} (a:Av n Z T) (d:Dim n) (w:Wf n Z R) (r1:1≤i) (r2:i<(geoN n).count) (gi:recZ n Z i=(R,0)) (D:Dir Z R H) (hs:nameOk s=true):findD T (geoN n) i s=match pos s H with
  | some p=>((((H.getD p (0,[])).1:Nat):Int),0)
  | none=>(0,160):=by
 unfold findD
 rw [seek_ok a d w r1 r2 gi D hs]
 cases pos s H <;> rfl
theorem leavesGo_ok (a:Av n Z T) (w:Wf n Z R) (D:Dir Z R H):∀ m k,16*(k+m)=H.length→leavesGo T (geoN n) R m k=((List.range' k m).map (leafOf Z R H),0)
 | 0,k,h=>rfl
 | m+1,k,h=>by
  have ih:=leavesGo_ok a w D m (k+1) (by omega)
  unfold leavesGo
  rw [leaf_ok a w D (by omega),if_neg (fun y=>y rfl),ih]
  rfl
theorem leaves_ok (a:Av n Z T) (w:Wf n Z R) (D:Dir Z R H):leavesM T (geoN n) R=((List.range' 0 (H.length / 16)).map (leafOf Z R H),0):=by
 have:=D.sixt
 unfold leavesM
 rw [size16 D]
 exact leavesGo_ok a w D _ 0 (by omega)
theorem cell_some (s:Tm.Txt) (k:Nat):(cellOfName (leafOf Z R H k) s).isSome=(pos s (seg H k)).isSome:=by
 have ec:cellOfName (leafOf Z R H k) s=match pos s (seg H k) with
   | some p=>some ⟨((0+p:Nat):Int),s,((((seg H k).getD p (0,[])).1:Nat):Int)⟩
   | none=>none:=find_ents s (seg H k) 0
 rw [ec]
 cases pos s (seg H k) <;> rfl
theorem placeGo_ok {s:Tm.Txt} (D:Dir Z R H):∀ m k (i p:Int) (b:Bool),16*(k+m)=H.length→placeGo s ((List.range' k m).map (leafOf Z R H)) (i,p,b)=match free (H.drop (16*k)) with
  | some q=>if p<0 then (((k+q / 16:Nat):Int),((q % 16:Nat):Int),b || (pos s (H.drop (16*k))).isSome) else (i,p,b || (pos s (H.drop (16*k))).isSome)
  | none=>(i,p,b || (pos s (H.drop (16*k))).isSome)
 | 0,k,i,p,b,h=>by
  rw [List.drop_of_length_le (by omega)]
  show (i,p,b)=(i,p,b || false)
  rw [Bool.or_false]
 | m+1,k,i,p,b,h=>by
  have hk:16*k<H.length:=by omega
  have l16:=seg_len D.sixt hk
  have ih:=fun i p b=>placeGo_ok (s:=s) D m (k+1) i p b (by omega)
  have el:=lowA_blk l16 fun x hx=>D.good x (seg_mem hx)
  have eb:(lowA (leafOf Z R H k).bytes)=(low 0 (seg H k),0):=el
  rw [List.range'_succ,List.map_cons]
  unfold placeGo
  rw [eb,cell_some,low_free,drop_seg,pos_append,free_append]
  have eo:∀ c:Bool,((b || (pos s (seg H k)).isSome) || (pos s (H.drop (16*(k+1)))).isSome)=(b || (match pos s (seg H k) with
   | some p=>some p
   | none=>(pos s (H.drop (16*(k+1)))).map (· + (seg H k).length)).isSome):=fun _=>by
   cases pos s (seg H k) <;> cases pos s (H.drop (16*(k+1))) <;> simp
  cases hf:free (seg H k) with
  | some q =>
   have hq:=(free_some hf).1
   rw [l16] at hq
   by_cases hp:p<0
   ·rw [if_pos ⟨hp,by show (0:Int)≤((0+q:Nat):Int); omega,rfl⟩,ih]
    show _=(if p<0 then (((k+q / 16:Nat):Int),((q % 16:Nat):Int),_) else _)
    rw [if_pos hp,← eo true,show q / 16=0 by omega,show q % 16=q by omega,Nat.add_zero]
    have e0:(((0+q:Nat):Int))=(q:Int):=by omega
    show (match free (H.drop (16*(k+1))) with
     | some q'=>if ((0+q:Nat):Int)<0 then _ else (((k:Nat):Int),((0+q:Nat):Int),_)
     | none=>(((k:Nat):Int),((0+q:Nat):Int),_))=_
    rw [e0]
    cases free (H.drop (16*(k+1))) with
    | none=>rfl
    | some q'=>exact if_neg (by omega)
   ·rw [if_neg (fun y=>hp y.1),ih]
    show _=(if p<0 then _ else (i,p,_))
    rw [if_neg hp,← eo true]
    cases free (H.drop (16*(k+1))) with
    | none=>rfl
    | some q'=>exact if_neg hp
  | none =>
   rw [if_neg (fun y=>absurd y.2.1 (by show ¬ (0:Int) ≤ -1; decide)),ih,← eo true]
   cases free (H.drop (16*(k+1))) with
   | none=>rfl
   | some q' =>
    show (if p<0 then (((k+1+q' / 16:Nat):Int),((q' % 16:Nat):Int),_) else _)=(if p<0 then (((k+(q'+(seg H k).length) / 16:Nat):Int),(((q'+(seg H k).length) % 16:Nat):Int),_) else _)
    rw [l16,show k+(q'+16) / 16=k+1+q' / 16 by omega,show (q'+16) % 16=q' % 16 by omega]
theorem place_ok {s:Tm.Txt} (D:Dir Z R H):placeGo s ((List.range' 0 (H.length / 16)).map (leafOf Z R H)) (R.getD 2 0 / 512,-1,false)=match free H with
  | some q=>(((q / 16:Nat):Int),((q % 16:Nat):Int),(pos s H).isSome)
  | none=>(((H.length / 16:Nat):Int),-1,(pos s H).isSome):=by
 have h6:=D.sixt
 have hz:=D.size
 rw [placeGo_ok D (H.length / 16) 0 _ _ _ (by omega),Nat.mul_zero,List.drop_zero,Bool.false_or,show R.getD 2 0 / 512=((H.length / 16:Nat):Int) by omega]
 cases free H with
 | none=>rfl
 | some q =>
  show (if (-1:Int)<0 then (((0+q / 16:Nat):Int),_,_) else _)=_
  rw [if_pos (by decide),Nat.zero_add]
theorem ents_shift (a:Nat):∀ (hs:List Cl) (k:Nat),(ents k hs).map (fun c=>(⟨c.place+16*(a:Int),c.name,c.inode⟩:E))=ents (16*a+k) hs
 | [],k=>rfl
 | x::r,k=>by
  have ih:=ents_shift a r (k+1)
  unfold ents
  by_cases h:x.1=0
  ·rw [if_pos h,if_pos h]; exact ih
  ·rw [if_neg h,if_neg h,List.map_cons,ih]
   congr 1
   rw [Sk.E.mk.injEq]
   exact ⟨by show (k:Int)+16*(a:Int)=((16*a+k:Nat):Int); omega,rfl,rfl⟩
theorem all_ok (D:Dir Z R H):∀ m k,16*(k+m)=H.length→allE ((List.range' k m).map (leafOf Z R H))=ents (16*k) (H.drop (16*k))
 | 0,k,h=>by rw [List.drop_of_length_le (by omega)]; rfl
 | m+1,k,h=>by
  have ih:=all_ok D m (k+1) (by omega)
  have l16:=seg_len (H:=H) (k:=k) D.sixt (by omega)
  rw [List.range'_succ,List.map_cons,drop_seg,Sk.ents_append,l16,show 16*k+16=16*(k+1) by omega,← ih]
  show ((ents 0 (seg H k)).map fun c=>(⟨c.place+16*((k:Nat):Int),c.name,c.inode⟩:E))++_=_
  rw [ents_shift]
  rfl
end
end Go.Proofs.YtiapingedfnlnaaGreatDoor.Di
namespace Go.Proofs.YtiapingedfnlnaaGreatDoor.Fi
open Go Go.Proofs Wx Hp W Ad Tm Bt Spc Re Av
open Hd (ints)
open In (Glo ints_length ints_one mayR decA encR encR_length decOk getR_enc z15)
open Ino (getM putM Cok getM_length rblk rat)
open Bm (findM addM allM num num4 nS Wf Tight path Added find_ok add_ok num_congr path_self path_chain chain_nS path_data miss_zero many miss par walkA_ok)
theorem add_ext {n k:Nat} {Z:Nat→Txt} {R:List Int} {T T0:TM} (d:Dim n) (a:Av n Z T) (w:Wf n Z R) (hk:k<16522) (e0:Ext T0 T):Ext T0 (addM T (geoN n) R k).1:=by
 obtain ⟨c,e⟩:=path_chain hk
 unfold addM
 rw [if_neg (by omega),Int.toNat_natCast,← e]
 have x0:=(walkA_ok d (path k) none Z T T R a w c (fun q y=>by cases y) (Ext.refl T)).2
 have x1:=(walkA_ok d (path k) none Z T T0 R a w c (fun q y=>by cases y) e0).2
 have ea:Bm.at_ Z R none=0:=rfl
 rw [ea] at x0 x1
 split
 ·show Ext T0 (TM.back _ _).1
  rw [x0.back a.live]; exact e0
 ·exact x1
end Go.Proofs.YtiapingedfnlnaaGreatDoor.Fi
namespace Go.Proofs.YtiapingedfnlnaaGreatDoor.Fi
open Go Go.Proofs Wx Hp W Ad Tm Bt Spc Re Av
open Hd (ints)
open In (Glo ints_length ints_one mayR decA encR encR_length decOk getR_enc z15 wordOk kindOk)
open Ino (getM putM Cok getM_length rblk rat)
open Bm (findM addM allM num num4 nS Wf Tight path Added find_ok add_ok num_congr path_self path_chain chain_nS path_data miss_zero many miss par walkA_ok root)
theorem root_size {R:List Int} {v:Int} (s:Nat):root (R.set 2 v) s=root R s:=by
 have e:∀ i,3≤i→(R.set 2 v).getD i 0=R.getD i 0:=fun i hi=>by
  rw [List.getD_eq_getElem?_getD,List.getD_eq_getElem?_getD,List.getElem?_set_ne (by omega)]
 unfold root
 rw [e (3+s) (by omega),e 13 (by omega),e 14 (by omega)]
theorem num_size {Z:Nat→Txt} {R:List Int} {v:Int}:∀ s,s<nS→num Z (R.set 2 v) s=num Z R s:=num_congr (fun s _ _=>root_size s) fun _ _ _ _ _ _=>rfl
theorem pc_size {Z:Nat→Txt} {R:List Int} {v:Int} {k:Nat} (hk:k<16522):pc Z (R.set 2 v) k=pc Z R k:=by
 unfold pc; rw [num_size k (by unfold nS; omega)]
theorem Wf.alike {n:Nat} {Z Z':Nat→Txt} {R R':List Int} (w:Wf n Z R) (hl:R'.length=15) (hr:∀ i,3≤i→i<15→0≤R'.getD i 0) (N:∀ s,s<nS→num Z' R' s=num Z R s) (hb:∀ j,j<n→bit Z j=true→bit Z' j=true):Wf n Z' R':=by
 refine ⟨hl,hr,fun s hs h=>?_,fun s s' hs hs' h e=>?_⟩
 ·rw [N s hs] at h ⊢
  obtain ⟨a,b,c⟩:=w.rng s hs h
  exact ⟨a,b,hb _ b c⟩
 ·rw [N s hs] at h e
  rw [N s' hs'] at e
  exact w.inj s s' hs hs' h e
theorem tight_alike {Z Z':Nat→Txt} {R R':List Int} (tg:Tight Z R) (N:∀ s,s<nS→num Z' R' s=num Z R s):Tight Z' R':=fun q h1 h2 h=>by
 rw [N q h2] at h
 obtain ⟨x,a,b,c⟩:=tg q h1 h2 h
 exact ⟨x,a,b,by rw [N x (by have:=(Bm.data_sub h1 h2 a b).2; unfold nS; omega)]; exact c⟩
theorem many_alike {Z Z':Nat→Txt} {R R':List Int} (N:∀ s,s<nS→num Z' R' s=num Z R s):many Z' R'=many Z R:=by
 unfold many
 exact cnt_congr fun s hs=>by rw [N s hs]
theorem frees_alike {n:Nat} {Z Z':Nat→Txt} (hb:∀ j,j<n→bit Z' j=bit Z j):frees n Z'=frees n Z:=by
 unfold frees
 exact cnt_congr fun j hj=>by unfold isFree; rw [hb j hj]
theorem num_low {n b:Nat} {Z:Nat→Txt} {R:List Int} {bs:Txt} (w:Wf n Z R) (hb:b<(geoN n).data):∀ s,s<nS→num (up Z b bs) R s=num Z R s :=
 num_congr (fun _ _ _=>rfl) fun q h1 h2 h3 p _=>by
  have:=(w.rng q h2 h3).1
  rw [up_ne _ _ (by omega)]
theorem bit_low {n b:Nat} {Z:Nat→Txt} {bs:Txt} (d:Dim n) (hb:(geoN n).inodes≤b) {j:Nat} (hj:j<n):bit (up Z b bs) j=bit Z j:=by
 have:=d.map hj
 exact bit_up (by omega)
theorem pc_low {n b k:Nat} {Z:Nat→Txt} {R:List Int} {bs:Txt} (w:Wf n Z R) (hb:b<(geoN n).data) (hk:k<16522):pc (up Z b bs) R k=pc Z R k:=by
 have hkn:k<nS:=by unfold nS; omega
 unfold pc
 rw [num_low w hb k hkn]
 split
 ·rfl
 ·rename_i h
  have:=(w.rng k hkn h).1
  rw [up_ne _ _ (by omega)]
theorem Gr.other {n:Nat} {Z Z1:Nat→Txt} {R R1 S:List Int} {ps:List Nat} (g:Gr n Z R Z1 R1 ps) (w:Wf n Z S) (dis:∀ s s',s<nS→s'<nS→num Z R s≠0→num Z R s≠num Z S s') :
  (∀ s,s<nS→num Z S s≠0→Z1 (num Z S s)=Z (num Z S s))∧(∀ s s',s<nS→s'<nS→num Z1 R1 s≠0→num Z1 R1 s≠num Z S s'):=by
 have D:∀ s s',s<nS→s'<nS→num Z1 R1 s≠0→num Z1 R1 s≠num Z S s':=fun s s' hs hs' h e=>by
  by_cases h0:num Z R s=0
  ·have hb:=g.new s hs h0 h
   rw [e] at hb h
   rw [(w.rng s' hs' h).2.2] at hb; cases hb
  ·have:=g.keep s hs h0
   rw [this] at e
   exact dis s s' hs hs' h0 e
 refine ⟨fun s hs h=>?_,D⟩
 have r:=w.rng s hs h
 have:(geoN n).inodes≤(geoN n).data:=Nat.le_add_right _ _
 exact g.cont _ r.2.1 (by omega) (.inr r.2.2) fun s' hs' h' e=>D s' s hs' hs h' e.symm
theorem num_same {Z Z1:Nat→Txt} {S:List Int} (h:∀ s,s<nS→num Z S s≠0→Z1 (num Z S s)=Z (num Z S s)):∀ s,s<nS→num Z1 S s=num Z S s :=
 num_congr (fun _ _ _=>rfl) fun q _ h2 h3 p _=>by rw [h q h2 h3]
theorem pc_same {Z Z1:Nat→Txt} {S:List Int} (h:∀ s,s<nS→num Z S s≠0→Z1 (num Z S s)=Z (num Z S s)) {k:Nat} (hk:k<16522):pc Z1 S k=pc Z S k:=by
 have hkn:k<nS:=by unfold nS; omega
 unfold pc
 rw [num_same h k hkn]
 split
 ·rfl
 ·rename_i h0; exact h k hkn h0
end Go.Proofs.YtiapingedfnlnaaGreatDoor.Fi
namespace Go.Proofs.YtiapingedfnlnaaGreatDoor.In
open Go Go.Proofs Wx Hp W Su Re Hd
theorem append_from {elem:TI} {e:Nat} {a:Option Addr} {l c n:Nat} {xs new:List Value} {h0 h:Heap} {k:Option Addr→Nat→Nat→Heap→Prop} (f:Fr No h0 h)
  (s:Sl h elem.cells a l c xs (From h0.size)) (hn:new.length=n*elem.cells) (hz:elem.zero.length=elem.cells) (hb:(l+n)*elem.bytes≤140737488355328) (hb':l+n≤140737488355328)
  (hk:∀ a' c' h',Fr No h0 h'→Sl h' elem.cells a' (l+n) c' (xs++new) (From h0.size)→k a' (l+n) c' h') :
  AppendP elem e a l c n new h k:=by
 have hs:=f.size
 refine append_own s hn hz hb hb' fun a' c' h' f' s'=>hk a' c' h' (f.trans f' fun b hb e=>by have:h0.size≤b:=e; omega) (s'.mono fun b hb=>?_)
 rcases hb with hb|hb
 ·exact hb
 ·show h0.size≤b; omega
theorem bv_nat (m:Nat):(Value.int .u8 (IntKind.wrap .u8 (m:Int)))=bv (UInt8.ofNat m):=by
 rw [bv_wrap]
 congr 1
 apply UInt8.toNat_inj.mp
 rw [UInt8.toNat_ofNat',UInt8.toNat_ofNat']; omega
theorem bv_mod {n:Int} (h0:0≤n):(Value.int .u8 (IntKind.wrap .u8 (Int.tmod n 256)))=bv (UInt8.ofNat n.toNat):=by
 have e:Int.tmod n 256=((n.toNat % 256:Nat):Int):=by rw [Int.tmod_eq_emod_of_nonneg h0]; omega
 rw [e,bv_nat]
 congr 1
 apply UInt8.toNat_inj.mp
 rw [UInt8.toNat_ofNat',UInt8.toNat_ofNat']; omega
theorem rwithin_spec {v lo hi:Int} {h:Heap} {K:Value→Heap→Prop} (hK:K (.bool (decide (lo≤v) && decide (v≤hi))) h):C.boleref11_within v lo hi h K:=by
 refine boleref11_within.ok (cd (fun x=>?_) fun x=>?_)
 ·rw [decide_eq_true (show lo≤v from x)] at hK; exact hK
 ·rw [decide_eq_false (show ¬ lo≤v from x)] at hK; exact hK
theorem cell15' {h:Heap} {b:Nat} {R:List Int} (r:rd h b=ints R) {i:Nat} (hi:3+i<R.length):cellOf h (Addr.add (Addr.add ⟨b,0,none⟩ 3) i)=some (.int .i64 (R.getD (3+i) 0)):=by
 rw [add_mk]
 refine rda r ?_
 rw [Nat.zero_add,ints,List.getElem?_map,List.getD_eq_getElem?_getD,List.getElem?_eq_getElem hi]; rfl
theorem all_words {R:List Int} (hR:R.length=15):(R.drop 3).all wordOk=true↔∀ j,j<12→wordOk (R.getD (3+j) 0)=true:=by
 have e:∀ j (hj:j<(R.drop 3).length),(R.drop 3)[j]=R.getD (3+j) 0:=fun j hj=>by
  have:3+j<R.length:=by rw [List.length_drop] at hj; omega
  rw [List.getElem_drop,List.getD_eq_getElem?_getD,List.getElem?_eq_getElem this]; rfl
 have ld:(R.drop 3).length=12:=by rw [List.length_drop,hR]
 constructor
 ·intro h j hj
  rw [← e j (by omega)]
  exact List.all_eq_true.mp h _ (List.getElem_mem _)
 ·intro h
  refine List.all_eq_true.mpr fun x hx=>?_
  obtain ⟨j,hj,rfl⟩:=List.mem_iff_getElem.mp hx
  rw [e j hj]; exact h j (by omega)
theorem bad_word {R:List Int} (hR:R.length=15) {j:Nat} (hj:j<12) (h:wordOk (R.getD (3+j) 0)=false):mayR R=false:=by
 cases e:(R.drop 3).all wordOk with
 | false=>rw [mayR,e]; rfl
 | true=>rw [(all_words hR).mp e j hj] at h; cases h
theorem rMay_k1 {R:List Int} {h1 h:Heap} {K:Value→Heap→Prop} (hR:R.length=15) (hw:(R.drop 3).all wordOk=true) (r3:rd h h1.size=ints R) (hK:K (.bool (mayR R)) h):boleref11_May.k1 h1 h K:=by
 have em:mayR R=kindOk (R.getD 0 0) (R.getD 1 0) (R.getD 2 0) R:=by rw [mayR,hw,Bool.true_and]
 rw [em] at hK
 unfold kindOk at hK
 refine ⟨_,cell15 r3 (by omega),ce (fun h0=>?_) fun h0=>?_⟩
 ·rw [if_pos h0] at hK
  refine ⟨ints R,by rw [ints_length,hR],cellsAll r3,pairs15 hR (S:=z15) List.length_replicate,?_⟩
  rw [show ([.int .i64 0,.int .i64 0,.int .i64 0,.int .i64 0,.int .i64 0,.int .i64 0,.int .i64 0,.int .i64 0,.int .i64 0,.int .i64 0,.int .i64 0,.int .i64 0,.int .i64 0,.int .i64 0,.int .i64 0]:List Value)=ints z15 from rfl,ints_eq]
  exact hK
 ·rw [if_neg h0] at hK
  refine ce (fun h1=>?_) fun h1=>?_
  ·rw [if_pos h1] at hK
   refine ⟨_,cell15 r3 (by omega),rwithin_spec ⟨_,rfl,?_⟩⟩
   cases hb:(decide (0≤R.getD 1 0) && decide (R.getD 1 0≤1000)) with
   | false=>rw [hb] at hK; exact hK
   | true=>rw [hb] at hK; exact ⟨_,cell15 r3 (by omega),rwithin_spec ⟨_,rfl,hK⟩⟩
  ·rw [if_neg h1] at hK
   refine ce (fun h2'=>?_) fun h2'=>?_
   ·rw [if_pos h2'] at hK
    refine ⟨_,cell15 r3 (by omega),rwithin_spec ⟨_,rfl,?_⟩⟩
    cases hb:(decide (2≤R.getD 1 0) && decide (R.getD 1 0≤65535)) with
    | false=>rw [hb] at hK; exact hK
    | true =>
     rw [hb,Bool.true_and] at hK
     refine ⟨_,cell15 r3 (by omega),rwithin_spec ⟨_,rfl,?_⟩⟩
     cases hc:(decide (0≤R.getD 2 0) && decide (R.getD 2 0≤8459264)) with
     | false=>rw [hc] at hK; exact hK
     | true =>
      rw [hc,Bool.true_and] at hK
      rw [Bool.and_eq_true,decide_eq_true_eq] at hc
      refine ⟨_,cell15 r3 (by omega),?_⟩
      have e:(Int.tmod (R.getD 2 0) 512 == 0)=decide (R.getD 2 0 % 512=0):=by rw [Int.tmod_eq_emod_of_nonneg hc.1]; rfl
      rw [e]; exact hK
   ·rw [if_neg h2'] at hK
    refine ce (fun h3'=>?_) fun h3'=>?_
    ·rw [if_pos h3'] at hK
     refine ⟨_,cell15 r3 (by omega),rwithin_spec ⟨_,rfl,?_⟩⟩
     cases hb:(decide (1≤R.getD 1 0) && decide (R.getD 1 0≤1000)) with
     | false=>rw [hb] at hK; exact hK
     | true=>rw [hb] at hK; exact ⟨_,cell15 r3 (by omega),rwithin_spec ⟨_,rfl,hK⟩⟩
    ·rw [if_neg h3'] at hK; exact hK
theorem rMay_spec {R:List Int} {h:Heap} {K:Value→Heap→Prop} (hR:R.length=15) (hK:∀ h',Fr No h h'→K (.bool (mayR R)) h'):C.boleref11_May (ints R) h K:=by
 refine boleref11_May.ok (New.intro fun h2 n2=>?_)
 have hK:=hK h2 n2.fr
 refine ⟨fun i hh=>0≤i∧i≤10∧h2=hh∧∀ j,j<i.toNat→wordOk (R.getD (3+j) 0)=true,fun i _=>((10:Nat) - i).toNat,⟨by omega,by omega,rfl,fun j hj=>absurd hj (Nat.not_lt_zero _)⟩,?_⟩
 rintro i _ ⟨i0,i1,rfl,q⟩
 have bad:∀ j,j<12→wordOk (R.getD (3+j) 0)=false→K (.bool false) h2:=fun j hj e=>by
  rw [bad_word hR hj e] at hK; exact hK
 refine cd (fun hi=>?_) fun hi=>?_
 ·have hi:i<10:=hi
  refine ⟨⟨i0,hi⟩,_,cell15' n2.rd (by omega),rwithin_spec ⟨_,rfl,cnot ?_⟩⟩
  cases hw:wordOk (R.getD (3+i.toNat) 0) with
  | false=>exact cf hw (bad i.toNat (by omega) hw)
  | true =>
   rw [wrap_i64 (by omega) (by omega)]
   refine ct hw ⟨⟨by omega,by omega,rfl,fun j hj=>?_⟩,falls (m:=10) hi⟩
   by_cases e:j<i.toNat
   ·exact q j e
   ·have:j=i.toNat:=by omega
    rw [this]; exact hw
 ·have hi:¬ i<10:=hi
  have ei:i.toNat=10:=by omega
  rw [ei] at q
  refine ⟨_,cell15 n2.rd (by omega),rwithin_spec ⟨_,rfl,cnot ?_⟩⟩
  cases hw:wordOk (R.getD 13 0) with
  | false=>exact cf hw (bad 10 (by omega) hw)
  | true =>
   refine ct hw ⟨_,cell15 n2.rd (by omega),rwithin_spec ⟨_,rfl,cnot ?_⟩⟩
   cases hx:wordOk (R.getD 14 0) with
   | false=>exact cf hx (bad 11 (by omega) hx)
   | true =>
    refine ct hx (rMay_k1 hR ((all_words hR).mpr fun j hj=>?_) n2.rd hK)
    by_cases e:j<10
    ·exact q j e
    ·by_cases e':j=10
     ·subst e'; exact hw
     ·have:j=11:=by omega
      subst this; exact hx
theorem leB_snoc (k v:Nat):leBs (k+1) v=leBs k v++[UInt8.ofNat (v / 256 ^ k)]:=by
 rw [leBs,List.range_succ,List.map_append]; rfl
theorem low_spec {n:Int} {k:Nat} {h:Heap} {K:Value→Heap→Prop} (h0:0≤n) (h1:n≤9223372036854775807) (hk:k≤8)
  (hK:∀ a' c' h',Fr No h h'→Sl h' 1 a' k c' ((leBs k n.toNat).map bv) (From h.size)→K (.slice a' k c') h'):C.boleref11_low n (k:Int) h K:=by
 refine boleref11_low.ok ⟨fun m a l c i hh=>0≤i∧i≤k∧l=i.toNat∧0≤m∧m≤9223372036854775807∧m.toNat=n.toNat / 256 ^ i.toNat∧Fr No h hh∧Sl hh 1 a l c ((leBs i.toNat n.toNat).map bv) (From h.size),fun _ _ _ _ i _=>((k:Nat) - i).toNat,
  ⟨by omega,by omega,rfl,h0,h1,by show _=_ / 256 ^ 0; omega,Fr.refl _ _,Sl.nil _ _ _⟩,?_⟩
 rintro m a l c i h2 ⟨i0,i1,rfl,m0,m1,em,f2,s2⟩
 refine cd (fun hi=>?_) fun hi=>?_
 ·have hi:i<k:=hi
  refine New.intro fun h3 n3=>⟨[bv (UInt8.ofNat m.toNat)],rfl,cellsAll (by rw [n3.rd,bv_mod m0]),bv_one [UInt8.ofNat m.toNat],append_from (f2.new n3) (s2.fr n3.fr fun _ _ _ x=>x) rfl rfl (by show (i.toNat+1)*1≤_; omega) (by omega) fun a' c' h4 f4 s4=>?_⟩
  have ed:Int.tdiv m 256=m / 256:=Int.tdiv_eq_ediv_of_nonneg m0
  rw [ed,wrap_i64 (n:=m / 256) (by omega) (by omega),wrap_i64 (by omega) (by omega)]
  refine ⟨⟨by omega,by omega,by omega,by omega,by omega,?_,f4,?_⟩,falls (m:=k) hi⟩
  ·rw [show (i+1).toNat=i.toNat+1 by omega,Nat.pow_succ,← Nat.div_div_eq_div_mul,← em]; omega
  ·rw [show (i+1).toNat=i.toNat+1 by omega,leB_snoc,← em,List.map_append]; exact s4
 ·have hi:¬ i<k:=hi
  have:i.toNat=k:=by omega
  rw [this] at s2 ⊢
  exact hK a c h2 f2 s2
theorem low_app {n:Int} {k l c:Nat} {a:Option Addr} {xs:List UInt8} {h0 h:Heap} {K:Option Addr→Nat→Nat→Heap→Prop} (hn:0≤n) (hn':n≤9223372036854775807) (hk:k≤8) (hl:l+k≤1000) (f:Fr No h0 h)
  (s:Sl h 1 a l c (xs.map bv) (From h0.size)) (hK:∀ a' c' h',Fr No h0 h'→Sl h' 1 a' (l+k) c' ((xs++leBs k n.toNat).map bv) (From h0.size)→K a' (l+k) c' h') :
  C.boleref11_low n (k:Int) h fun r1 h4=>∃ (sA1:Option Addr) (sL1:Nat) (sC1:Nat),r1 = .slice sA1 sL1 sC1 ∧
   ∃ new1:List Value,List.length new1=sL1*1∧SlCells h4 sA1 new1∧(∀ v ∈ new1,v.oneCell'=true)∧AppendP ti5 5 a l c sL1 new1 h4 K:=by
 refine low_spec hn hn' hk fun a' c' h' f' s'=>⟨_,_,_,rfl,_,by rw [List.length_map,leB_length,Nat.mul_one],s'.cells,bv_one _,?_⟩
 refine append_from (f.no f') (s.fr f' fun _ _ _ x=>x) (by rw [List.length_map,leB_length]; show k=k*1; omega) rfl (by show (l+k)*1≤_; omega) (by omega) fun a2 c2 h2 f2 s2=>hK a2 c2 h2 f2 ?_
 rw [List.map_append]; exact s2
theorem rLaid_spec {R:List Int} {h:Heap} {K:Value→Heap→Prop} (hR:R.length=15) (hm:mayR R=true)
  (hK:∀ a' c' h',Fr No h h'→Sl h' 1 a' 64 c' ((encR R).map bv) (From h.size)→K (.slice a' 64 c') h'):C.boleref11_laid (ints R) h K:=by
 obtain ⟨k0,k1,l0,l1,z0,z1,hw⟩:=mayR_bounds hR hm
 have hx:∀ j,j<12→0≤R.getD (3+j) 0∧R.getD (3+j) 0≤4294967295:=fun j hj=>by
  have hj':3+j<R.length:=by omega
  have e:R.getD (3+j) 0=(R.drop 3)[j]'(by rw [List.length_drop]; omega):=by
   rw [List.getElem_drop,List.getD_eq_getElem?_getD,List.getElem?_eq_getElem hj']; rfl
  rw [e]; exact hw _ (List.getElem_mem _)
 have tk:∀ j,j<12→(R.drop 3).take (j+1)=(R.drop 3).take j++[R.getD (3+j) 0]:=fun j hj=>by
  have hj':3+j<R.length:=by omega
  rw [List.take_succ_eq_append_getElem (by rw [List.length_drop]; omega),List.getElem_drop,List.getD_eq_getElem?_getD,List.getElem?_eq_getElem hj']; rfl
 have fk:∀ j,j<12→flat4 ((R.drop 3).take (j+1))=flat4 ((R.drop 3).take j)++leBs 4 (R.getD (3+j) 0).toNat:=fun j hj=>by
  rw [tk j hj,flat4,List.flatMap_append]
  show _++(leBs 4 _++[])=_
  rw [List.append_nil,flat4]
 refine boleref11_laid.ok (New.intro fun h2 n2=>⟨_,cell15 n2.rd (by omega),New.intro fun h3 n3=>?_⟩)
 have s2:=n2.size
 have s3:=n3.size
 have F3:=n2.fr.new n3
 have kd:∀ {hq:Heap},Fr No h2 hq→rd hq h.size=ints R:=fun fq=>(fq.rd n2.own.lt fun x=>x).trans n2.rd
 have eK:(Value.int .u8 (IntKind.wrap .u8 (R.getD 0 0)))=bv (UInt8.ofNat (R.getD 0 0).toNat):=by
  rw [← bv_nat,Int.toNat_of_nonneg k0]
 have b3:Sl h3 1 (some ⟨h2.size,0,none⟩) 2 2 ((leBs 1 (R.getD 0 0).toNat++[0]).map bv) (From h2.size) :=
  Sl.made (zs:=[]) n3 (by rw [leB_one,eK]; rfl) (Nat.le_refl _) (by rw [leB_one]; rfl) (Nat.le_refl _) rfl
 refine ⟨_,cell15 (kd n3.fr) (by omega),low_app (k:=2) l0 (by omega) (by omega) (by omega) n3.fr b3 fun a5 c5 h5 f5 s5=>⟨_,cell15 (kd f5) (by omega),low_app (k:=4) z0 (by omega) (by omega) (by omega) f5 s5 fun a7 c7 h7 f7 s7=>?_⟩⟩
 generalize hH:(leBs 1 (R.getD 0 0).toNat++[0])++leBs 2 (R.getD 1 0).toNat++leBs 4 (R.getD 2 0).toNat=H at s7
 have eH:encR R=H++(flat4 (R.drop 3)++zeros 8):=by rw [encR,← hH]; simp only [List.append_assoc]
 clear hH
 refine ⟨fun a l c i hh=>0≤i∧i≤10∧l=8+4*i.toNat∧Fr No h2 hh∧Sl hh 1 a l c ((H++flat4 ((R.drop 3).take i.toNat)).map bv) (From h2.size),fun _ _ _ i _=>((10:Nat) - i).toNat,
  ⟨by omega,by omega,rfl,f7,by show Sl h7 1 _ _ _ ((H++[]).map bv) _; rw [List.append_nil]; exact s7⟩,?_⟩
 rintro a8 l8 c8 i h8 ⟨i0,i1,rfl,f8,s8⟩
 refine cd (fun hi=>?_) fun hi=>?_
 ·have hi:i<10:=hi
  have hb:=hx i.toNat (by omega)
  refine ⟨⟨i0,hi⟩,_,cell15' (kd f8) (by omega),low_app (k:=4) hb.1 (by omega) (by omega) (by omega) f8 s8 fun a9 c9 h9 f9 s9=>?_⟩
  rw [wrap_i64 (by omega) (by omega)]
  refine ⟨⟨by omega,by omega,by omega,f9,?_⟩,falls (m:=10) hi⟩
  rw [show (i+1).toNat=i.toNat+1 by omega,fk _ (by omega),← List.append_assoc]; exact s9
 ·have hi:¬ i<10:=hi
  have ei:i.toNat=10:=by omega
  rw [ei] at s8 ⊢
  refine ⟨_,cell15 (kd f8) (by omega),low_app (k:=4) (hx 10 (by omega)).1 (Int.le_trans (hx 10 (by omega)).2 (by decide)) (by omega) (by omega) f8 s8 fun a9 c9 h9 f9 s9=>?_⟩
  refine ⟨_,cell15 (kd f9) (by omega),low_app (k:=4) (hx 11 (by omega)).1 (Int.le_trans (hx 11 (by omega)).2 (by decide)) (by omega) (by omega) f9 s9 fun a10 c10 h10 f10 s10=>?_⟩
  refine New.intro fun h11 n11=>⟨(zeros 8).map bv,rfl,cellsAll n11.rd,bv_one _,append_from (f10.new n11) (s10.fr n11.fr fun _ _ _ x=>x) rfl rfl (by decide) (by decide) fun a12 c12 h12 f12 s12=>?_⟩
  refine hK a12 c12 h12 (n2.fr.no f12) ?_
  have e12:R.drop 3=(R.drop 3).take 12:=(List.take_of_length_le (by rw [List.length_drop]; omega)).symm
  rw [eH,e12,fk 11 (by omega),fk 10 (by omega)]
  rw [← List.map_append] at s12
  simp only [List.append_assoc] at s12 ⊢
  exact s12.mono fun b hb=>by have:h2.size≤b:=hb; show h.size≤b; omega
theorem rEncode_spec {R:List Int} {h:Heap} {K:Value→Heap→Prop} (hR:R.length=15) (hN:mayR R=false→∀ h',Fr No h h'→K (.tuple #[.slice none 0 0,.int .i64 111]) h')
  (hK:mayR R=true→∀ a' c' h',Fr No h h'→Sl h' 1 a' 64 c' ((encR R).map bv) (From h.size)→K (.tuple #[.slice a' 64 c',.int .i64 0]) h'):C.boleref11_Encode (ints R) h K:=by
 refine boleref11_Encode.ok (New.intro fun h2 n2=>⟨ints R,by rw [ints_length,hR],cellsAll n2.rd,rMay_spec hR fun h3 f3=>⟨_,rfl,cnot ?_⟩⟩)
 have s2:=n2.size
 have s3:=f3.size
 have F3:=n2.fr.no f3
 have r3:rd h3 h.size=ints R:=(f3.rd n2.own.lt fun x=>x).trans n2.rd
 cases hm:mayR R with
 | false=>exact hN hm h3 F3
 | true=>exact ct rfl ⟨ints R,by rw [ints_length,hR],cellsAll r3,rLaid_spec hR hm fun a' c' h4 f4 s4=>⟨_,_,_,rfl,hK hm a' c' h4 (F3.no f4) (s4.mono fun b hb=>by have:h3.size≤b:=hb; show h.size≤b; omega)⟩⟩
end Go.Proofs.YtiapingedfnlnaaGreatDoor.In
