/-
  TEXTS FOR filePlain_card: FiF TaA FiV FiW FiZ BnD FjX FjC FjD FjG FjE FjH FjI Fpl.
-/
import Derived.Test.YtcdpakjhjmchhaaGreatDoorGp5
namespace Go.Proofs.YtcdpakjhjmchhaaGreatDoor.Fi
open Go Go.Proofs Wx Hp W Ad Tm Spc Re Av Rg
open Hd (ints)
open In (Glo ints_length ints_one mayR decA)
open Ino (getM putM Cok getM_length)
open Bm (findM cutM addM allM pcellA write_un cutM_un addM_un setM walkA)
theorem Add_at {h:Heap} {F:Nat→Prop} {t d:Option Addr} {T T':TM} {n:Nat} {R R':List Int} {k v er:Int} {K:Value→Heap→Prop} (gl:Glo h) (dm:Dim n) (x:Tx h F t d T) (live:T.over=false) (hR:R.length=15) (g0:∀ b,b<1→¬ F b) (hu:T.undo.length<700000000) (e:addM T (geoN n) R k=(T',R',v,er))
  (hK:∀ h' F',Fr F h h'→Gw h F h' F'→Tx h' F' t d T'→K (.tuple #[.agg ⟨ints R'⟩,.int .i64 v,.int .i64 er]) h'):C.bmap_Add t (geoN n).v (ints R) k h K:=by
 refine Bm.Add_spec gl dm x live hR g0 hu ?_
 rw [e]; exact hK
structure Wj (hb0:Heap) (F:Nat→Prop) (t d:Option Addr) (g:G) (off:Nat) (s:Txt) (T:TM) (R:List Int) (xb lb:Nat) (L:Loop) (a:Nat) (hh:Heap) (F':Nat→Prop) (T':TM) (R':List Int) (k:Nat):Prop where
 fr:Fr (fun b=>F b∨b=xb∨b=lb) hb0 hh
 gw:Gw hb0 F hh F'
 x:Tx hh F' t d T'
 live:T'.over=false
 lR:R'.length=15
 rx:rd hh xb=ints R'
 ox:Own hh xb
 on:LoopOn hh lb L .ready none
 hk:s.length≤a+k
 eq:writeGo g off s s.length 0 T R=writeGo g off s k a T' R'
 un:T'.undo.length≤T.undo.length+10*a
 ha:a≤s.length
theorem Write_spec {h:Heap} {F:Nat→Prop} {t d:Option Addr} {T:TM} {n:Nat} {i off:Int} {s:Txt} {K:Value→Heap→Prop} (gl:Glo h) (dm:Dim n) (x:Tx h F t d T) (live:T.over=false) (g0:∀ b,b<1→¬ F b) (hu:T.undo.length<500000000) (ho2:off≤9223372036854775807) (hs2:s.length≤9223372036854775807)
  (hK:∀ h' F',Fr F h h'→Gw h F h' F'→Tx h' F' t d (writeF T (geoN n) i off s).1→K (.int .i64 (writeF T (geoN n) i off s).2) h'):C.file_Write t (geoN n).v i off (mkStr s) h K:=by
 have Flt:=fun b (hb:F b)=>x.lt hb
 have gl1:=gl.lt
 have same:∀ e h',Fr No h h'→writeF T (geoN n) i off s=(T,e)→K (.int .i64 e) h':=fun e h' f e0=>by
  rw [e0] at hK
  exact hK h' F (f.mono fun _ _ y=>y.elim) (Gw.refl f.size fun b hb=>x.lt hb) (x.no f)
 refine file_Write.ok (New.intro fun h2 n2=>New.intro fun h3 n3=>New.intro fun h4 n4=>New.intro fun h5 n5=>?_)
 have z2:=n2.size
 have z3:=n3.size
 have z4:=n4.size
 have z5:=n5.size
 have F5:Fr No h h5:=((n2.fr.new n3).new n4).new n5
 refine cd (fun hneg=>put_e n5.own n5.rd fun h6 d6=>⟨_,rdc d6.rd rfl,same 1 h6 (F5.did d6 fun hl=>by omega) (by unfold writeF; rw [if_pos hneg])⟩) fun hneg=>?_
 have rt5:rd h5 h.size=[.pointer t]:=(n5.at_ (by omega)).trans ((n4.at_ (by omega)).trans ((n3.at_ (by omega)).trans n2.rd))
 have rg5:rd h5 h2.size=(geoN n).v:=(n5.at_ (by omega)).trans ((n4.at_ (by omega)).trans n3.rd)
 have rs5:rd h5 h3.size=[.string (mkStr s)]:=(n5.at_ (by omega)).trans n4.rd
 have lR:=getF_length T (geoN n) i
 refine ⟨t,rdc rt5 rfl,(geoN n).v,rfl,cellsAll rg5,get_spec (gl.no F5) (x.no F5) (cok dm) fun h7 f7=>⟨_,_,rfl,NewRow.intro (by rw [ints_length,lR]) (ints_one _) rfl fun h9 n9=>?_⟩⟩
 have z7:=f7.size
 have z9:=n9.size
 have F9:Fr No h h9:=(F5.no f7).new n9
 have q9:∀ b,b<h5.size→rd h9 b=rd h5 b:=fun b hb=>(n9.at_ (by omega)).trans (f7.rd hb fun y=>y)
 refine put_e (n9.ow (f7.own (by omega) (fun y=>y) n5.own)) ((q9 _ (by omega)).trans n5.rd) fun h10 d10=>⟨_,rdc d10.rd rfl,?_⟩
 have z10:=d10.size
 have F10:Fr No h h10:=F9.did d10 fun hl=>by omega
 have q10:∀ b,b<h5.size→b≠h4.size→rd h10 b=rd h5 b:=fun b hb hn=>(d10.at_ (by omega) hn).trans (q9 b hb)
 have ret:∀ v,writeF T (geoN n) i off s=(T,v)→Put ⟨h4.size,0,none⟩ (.int .i64 v) h10 fun h9=>∃ (res:Int),cellOf h9 ⟨h4.size,0,none⟩=some (.int .i64 res)∧K (.int .i64 res) h9:=fun v hv =>
  put_e d10.own d10.rd fun h9 d9=>⟨_,rdc d9.rd rfl,same v h9 (F10.did d9 fun hl=>by omega) hv⟩
 refine cn (fun he=>⟨_,rdc d10.rd rfl,ret _ (by unfold writeF; rw [if_neg hneg,if_pos he])⟩) fun he=>?_
 have rs10:rd h10 h3.size=[.string (mkStr s)]:=(q10 _ (by omega) (by omega)).trans rs5
 have rt10:rd h10 h.size=[.pointer t]:=(q10 _ (by omega) (by omega)).trans rt5
 refine ⟨_,rdc rs10 rfl,?_⟩
 rw [show (mkStr s).size=s.length from rfl,wrap_i64 (n:=8459264 - off) (by omega) (by omega)]
 refine cd (fun hbig=>ret _ (by unfold writeF; rw [if_neg hneg,if_neg (fun y=>y he),if_pos hbig])) fun hbig=>⟨_,rdc rs10 rfl,?_⟩
 rw [toList_mkStr,toList_mkStr]
 by_cases hnil:s=[]
 ·exact ct (by rw [hnil]; rfl) (ret _ (by unfold writeF; rw [if_neg hneg,if_neg (fun y=>y he),if_neg hbig,if_pos hnil]))
 refine cf (by rw [beq_eq_false_iff_ne]; exact hnil) ?_
 have ec:writeF T (geoN n) i off s=undoM T (bodyW T (geoN n) i (getF T (geoN n) i).1 off.toNat s):=by unfold writeF; rw [if_neg hneg,if_neg (fun y=>y he),if_neg hbig,if_neg hnil]
 rw [ec] at hK
 clear same ret ec
 obtain ⟨ofs,eo⟩:∃ k:Nat,off=k:=⟨off.toNat,by omega⟩
 rw [eo,Int.toNat_natCast] at hK
 have hb:ofs+s.length≤8459264:=by omega
 have rx10:rd h10 h7.size=ints (getF T (geoN n) i).1:=(d10.at_ (by omega) (by omega)).trans n9.rd
 have ox10:Own h10 h7.size:=d10.ow n9.own
 clear rx10
 have rx10:rd h10 h7.size=ints (getF T (geoN n) i).1:=(d10.at_ (by omega) (by omega)).trans n9.rd
 generalize (getF T (geoN n) i).1=R at hK lR rx10 n9
 refine ⟨t,rdc rt10 rfl,undo_spec (x.no F10) fun ub tb mb h14 f14 l1 l2 l3 ud=>⟨_,[],_,rfl,_,rdc ((f14.rd (by omega) fun y=>y).trans rs10) rfl,?_⟩⟩
 have z14:=f14.size
 have lud:=ud.lt
 rw [eo,show (mkStr s).size=s.length from rfl]
 refine file_parts.ok (New.intro fun h15a n15a=>New.intro fun h15 n15=>⟨_,rfl,fun L rounds=>?_⟩)
 have z15a:=n15a.size
 have z15:=n15.size
 have F15:Fr No h h15:=((F10.no f14).new n15a).new n15
 have Fb:=beginL_fr h15 L
 have on0:=beginL_on h15 L
 have d0:=beginL_d h15 L
 have zb:(beginL h15 L).size=h15.size+2:=beginL_size _ _
 have F0:Fr No h (beginL h15 L):=F15.no Fb
 have f10b:Fr No h10 (beginL h15 L):=((f14.new n15a).new n15).no Fb
 have f14b:Fr No h14 (beginL h15 L):=((Fr.refl No h14).new n15a |>.new n15).no Fb
 have qb:∀ b,b<h10.size→rd (beginL h15 L) b=rd h10 b:=fun b hb=>f10b.rd hb fun y=>y
 have rt:rd (beginL h15 L) h.size=[.pointer t]:=(qb _ (by omega)).trans rt10
 have rg:rd (beginL h15 L) h2.size=(geoN n).v:=(qb _ (by omega)).trans ((q10 _ (by omega) (by omega)).trans rg5)
 have rs:rd (beginL h15 L) h3.size=[.string (mkStr s)]:=(qb _ (by omega)).trans rs10
 have re:rd (beginL h15 L) h4.size=[.int .i64 _]:=(qb _ (by omega)).trans d10.rd
 have oe:Own (beginL h15 L) h4.size:=f10b.own (by omega) (fun y=>y) d10.own
 have rx:rd (beginL h15 L) h7.size=ints R:=(qb _ (by omega)).trans rx10
 have ox:Own (beginL h15 L) h7.size:=f10b.own (by omega) (fun y=>y) ox10
 have rco:rd (beginL h15 L) h14.size=[.int .i64 (ofs:Int)]:=(Fb.rd (by omega) fun y=>y).trans ((n15.at_ (by omega)).trans n15a.rd)
 have rcn:rd (beginL h15 L) h15a.size=[.int .i64 (s.length:Int)]:=(Fb.rd (by omega) fun y=>y).trans n15.rd
 have udb:Ud (beginL h15 L) ub tb mb h4.size t T.mark.1:=ud.fr f14b (fun y=>y) (fun y=>y) fun y=>y
 have glb:=gl.no F0
 have xb:=x.no F0
 generalize hbe:beginL h15 L=hb0 at *
 obtain ⟨lb,el⟩:∃ lb,h15.size+1=lb:=⟨_,rfl⟩
 rw [el] at rounds on0 ⊢
 obtain ⟨db,ed⟩:∃ db,h15.size=db:=⟨_,rfl⟩
 rw [ed] at d0 ⊢
 obtain ⟨xbk,ex⟩:∃ xbk,h7.size=xbk:=⟨_,rfl⟩
 have hxb:h5.size≤xbk∧xbk<h14.size∧xbk≠ub∧xbk≠tb∧xbk≠mb:=by omega
 have nF:∀ b,h.size≤b→¬ F b:=fun b hb y=>by have:=Flt b y; omega
 show C.file_parts_c1 (.func (.yield lb) #[] #[]) (some ⟨h15a.size,0,none⟩) (some ⟨h14.size,0,none⟩) hb0 _
 -- what the call has about it when the loop is left
 have nG:∀ b,h.size≤b→b≠h7.size→b≠lb→b≠h4.size→b≠db→¬ (F b∨b=h7.size∨b=lb∨b=h4.size∨b=db):=fun b h1 h2 h3 h4 h5 y=>by
  rcases y with y|y
  ·exact nF b h1 y
  ·omega
 have mkEnv:∀ hh F' e,Fr (fun b=>F b∨b=h7.size∨b=lb∨b=h4.size∨b=db) hb0 hh→Gw hb0 F hh F'→Own hh h4.size→rd hh h4.size=[.int .i64 e]→Env h F t T.mark.1 (geoN n) h2.size h4.size ub tb mb hh F' e:=fun hh F' e f w o r=>by
  have n0:∀ b,h.size≤b→b<hb0.size→¬ F' b:=fun b h1 h2 y=>nF b h1 ((w.old b h2).mp y)
  refine ⟨gl1,g0,(F0.mono fun _ _ y=>y.elim).trans f fun b hb y=>?_,⟨fun b hb=>w.old b (by have:=F0.size; omega),w.lt⟩,glb.fr f fun b hb y=>?_,(f.rd (by omega) (nG _ (by omega) (by omega) (by omega) (by omega) (by omega))).trans rg,o,r,
   udb.fr f (nG _ (by omega) (by omega) (by omega) (by omega) (by omega)) (nG _ (by omega) (by omega) (by omega) (by omega) (by omega)) (nG _ (by omega) (by omega) (by omega) (by omega) (by omega)),
   ⟨n0 _ (by omega) (by omega),n0 _ (by omega) (by omega),n0 _ (by omega) (by omega),n0 _ (by omega) (by omega),n0 _ (by omega) (by omega)⟩,⟨by omega,by omega,by omega,by omega⟩,by omega⟩
  ·rcases y with y|y
   ·exact y
   ·omega
  ·rcases y with y|y
   ·exact g0 b hb y
   ·omega
 have fin:∀ h34 F' T' e,Fr (fun b=>F b∨b=h7.size∨b=lb∨b=h4.size) hb0 h34→Gw hb0 F h34 F'→Tx h34 F' t d T'→Own h34 h4.size→rd h34 h4.size=[.int .i64 e]→T'.undo.length<1000000000→undoM T (bodyW T (geoN n) i R ofs s)=(if e≠0 then (T'.back T.mark.1).1 else T',e) →
   EndD db h34 fun h35=>DCallsV Tryz.prog (.func (.func 109) ⟨[]⟩ ⟨undoV ub tb mb⟩) [] h35 fun h36=>∃ (res5:Int),cellOf h36 ⟨h4.size,0,none⟩=some (.int .i64 res5)∧K (.int .i64 res5) h36:=fun h34 F' T' e f w x' o r hu' he=>by
  rw [he] at hK
  have n0:∀ b,h.size≤b→b<hb0.size→¬ F' b:=fun b h1 h2 y=>nF b h1 ((w.old b h2).mp y)
  refine endD_intro ((f.same db (by omega) fun y=>?_).trans d0) fun h35 z35 f35=>?_
  ·rcases y with y|y
   ·exact nF _ (by omega) y
   ·omega
  have f':Fr (fun b=>F b∨b=h7.size∨b=lb∨b=h4.size∨b=db) hb0 h35:=(f.mono fun b _ y=>by rcases y with y|y|y|y <;> simp [y]).trans f35 fun b _ y => .inr (.inr (.inr (.inr y)))
  have E:=mkEnv h35 F' e f' ⟨w.old,fun b hb=>by rw [z35]; exact w.lt b hb⟩ (f35.own o.lt (by omega) o) ((f35.rd o.lt (by omega)).trans r)
  exact E.leave (x'.fr f35 fun b hb y=>n0 _ (by omega) (by omega) (y▸hb)) hu' fun h' f' g' x'=>hK h' F' f' g' x'
 -- the loop is left with an error
 have exitL:∀ h23 F' T' e,LoopOn h23 lb L .busy none→Fr (fun b=>F b∨b=h7.size∨b=lb∨b=h4.size) hb0 h23→Gw hb0 F h23 F'→Tx h23 F' t d T'→Own h23 h4.size→rd h23 h4.size=[.int .i64 e]→T'.undo.length<1000000000→undoM T (bodyW T (geoN n) i R ofs s)=(if e≠0 then (T'.back T.mark.1).1 else T',e) →
   SetL (setLoop h23 lb L .done (some .ret)) lb L .exhausted (some .ret) fun h37=>EndD db h37 fun h35=>DCallsV Tryz.prog (.func (.func 109) ⟨[]⟩ ⟨undoV ub tb mb⟩) [] h35 fun h36=>∃ (res5:Int),cellOf h36 ⟨h4.size,0,none⟩=some (.int .i64 res5)∧K (.int .i64 res5) h36:=fun h23 F' T' e on f w x' o r hu' he=>by
  have n0:∀ b,h.size≤b→b<hb0.size→¬ F' b:=fun b h1 h2 y=>nF b h1 ((w.old b h2).mp y)
  have t24:=turned (loop_lt on) L .done (some .ret)
  have z24:=t24.size
  have zl:=loop_lt on
  refine setL_intro (by omega) fun h37 t37=>?_
  have z37:=t37.size
  refine fin h37 F' T' e ((f.trans t24.fr fun b _ y => .inr (.inr (.inl y))).trans t37.fr fun b _ y => .inr (.inr (.inl y))) ⟨w.old,fun b hb=>by have:=w.lt b hb; omega⟩ ((x'.fr t24.fr fun b hb y=>n0 _ (by omega) (by omega) (y▸hb)).fr t37.fr fun b hb y=>n0 _ (by omega) (by omega) (y▸hb)) ?_ ?_ hu' he
  ·exact t37.fr.own (by have:=o.lt; omega) (by omega) (t24.fr.own o.lt (by omega) o)
  ·exact (t37.fr.rd (by have:=o.lt; omega) (by omega)).trans ((t24.fr.rd o.lt (by omega)).trans r)
 have bodyE:∀ T' R' e,e≠0→writeGo (geoN n) ofs s s.length 0 T R=((T',R'),e)→undoM T (bodyW T (geoN n) i R ofs s)=(if e≠0 then (T'.back T.mark.1).1 else T',e):=fun T' R' e he h=>by
  have eB:bodyW T (geoN n) i R ofs s=(T',e):=by unfold bodyW; rw [h,if_pos he]
  rw [eB,if_pos he]; exact if_pos he
 refine iter_spec (off:=ofs) (n:=s.length) (by omega) (fun a hh=>∃ F' T' R' k,Wj hb0 F t d (geoN n) ofs s T R h7.size lb L a hh F' T' R' k) (fun a hh J=>?_) (fun a hh h' J ha f' r' l'=>?_) ⟨F,T,R,s.length,Fr.refl _ _,Gw.refl (Nat.le_refl _) (fun b hb=>xb.lt hb),xb,live,lR,rx,ox,on0,by omega,rfl,by omega,Nat.zero_le _⟩ fun hh J=>?_
 ·obtain ⟨F',T',R',k,W⟩:=J
  have:=W.fr.size
  refine ⟨(W.fr.rd (by omega) fun y=>?_).trans rcn,(W.fr.rd (by omega) fun y=>?_).trans rco,by omega,by omega⟩
  ·rcases y with y|y
   ·exact nF _ (by omega) y
   ·omega
  ·rcases y with y|y
   ·exact nF _ (by omega) y
   ·omega
 ·-- a round
  obtain ⟨F',T',R',k,W⟩:=J
  have zf:=W.fr.size
  have zf':=f'.size
  have lF':=fun b (hb:F' b)=>W.x.lt hb
  obtain ⟨k,rfl⟩:∃ k',k=k'+1:=⟨k - 1,by have:=W.hk; omega⟩
  refine rounds (partV ofs s.length a) h' _ (loopOn_fr W.on f' fun y=>y) (NewRow.intro rfl (by intro v hv; simp only [partV,List.mem_cons,List.not_mem_nil,or_false] at hv; rcases hv with rfl|rfl|rfl|rfl <;> rfl) rfl fun h18 n18=>⟨loopOn_fr (loopOn_fr W.on f' fun y=>y) n18.fr fun y=>y,setL_intro (by have:=n18.size; omega) fun h19 t19=>?_⟩)
  have z18:=n18.size
  have z19:=t19.size
  have n0:∀ b,h.size≤b→b<hb0.size→¬ F' b:=fun b h1 h2 y=>nF b h1 ((W.gw.old b h2).mp y)
  have f19:Fr (fun b=>F b∨b=h7.size∨b=lb) hb0 h19:=((W.fr.no f').new n18).trans t19.fr fun b hb y => .inr (.inr y)
  have nH:∀ b,h.size≤b→b≠h7.size→b≠lb→¬ (F b∨b=h7.size∨b=lb):=fun b h1 h2 h3 y=>by
   rcases y with y|y
   ·exact nF b h1 y
   ·omega
  have q19:∀ b,h.size≤b→b<hb0.size→b≠h7.size→b≠lb→rd h19 b=rd hb0 b:=fun b h0 hb h1 h2=>f19.rd hb (nH b h0 h1 h2)
  have r19:rd h19 h'.size=partV ofs s.length a:=(t19.fr.rd (by omega) (by omega)).trans n18.rd
  have p19:rd h19 hh.size=rd h' hh.size:=(t19.fr.rd (by omega) (by omega)).trans (n18.at_ (by omega))
  have x19:Tx h19 F' t d T':=((W.x.no f').no n18.fr).fr t19.fr fun b hb y=>n0 _ (by omega) (by omega) (y▸hb)
  have gw19:Gw hb0 F h19 F':=⟨W.gw.old,fun b hb=>x19.lt hb⟩
  have gl19:Glo h19:=glb.fr f19 fun b hb y=>by
   rcases y with y|y
   ·exact g0 b hb y
   ·omega
  have low19:∀ b,b<1→¬ F' b:=fun b hb y=>g0 b hb ((W.gw.old b (by omega)).mp y)
  have rx19:rd h19 h7.size=ints R':=(t19.fr.rd (by omega) (by omega)).trans ((n18.at_ (by omega)).trans ((f'.rd (by omega) fun y=>y).trans W.rx))
  have ox19:Own h19 h7.size:=t19.fr.own (by omega) (by omega) (n18.ow (f'.own (by omega) (fun y=>y) W.ox))
  have un19:=W.un
  have ha2:=W.ha
  have lF19:∀ b,hh.size≤b→¬ F' b:=fun b hb y=>by have:=lF' b y; omega
  refine ⟨t,rdc ((q19 _ (by omega) (by omega) (by omega) (by omega)).trans rt) rfl,(geoN n).v,rfl,cellsAll ((q19 _ (by omega) (by omega) (by omega) (by omega)).trans rg),_,by rw [ints_length,W.lR],cellsAll rx19,_,rda r19 rfl,?_⟩
  obtain ⟨T2,R2,v,e,ea⟩:∃ T2 R2 v e,addM T' (geoN n) R' ((ofs+a) / 512:Nat)=(T2,R2,v,e):=⟨_,_,_,_,rfl⟩
  have l2:R2.length=15:=by have:=addM_length (T:=T') (g:=geoN n) (k:=((ofs+a) / 512:Nat)) W.lR; rw [ea] at this; exact this
  have un2:T2.undo.length≤T'.undo.length+9:=by have:=addM_un (T:=T') (g:=geoN n) (R:=R') (k:=((ofs+a) / 512:Nat)); rw [ea] at this; exact this
  have ew:=W.eq.trans (writeGo_add ha ea)
  refine Add_at gl19 dm x19 W.live W.lR low19 (by omega) ea fun h20 F2 f20 g20 x20=>⟨_,_,_,rfl,NewRow.intro (by rw [ints_length,l2]) (ints_one _) rfl fun h22 n22=>?_⟩
  have z20:=f20.size
  have z22:=n22.size
  have gw20:Gw hb0 F h20 F2:=gw19.trans g20 f19.size
  have n2F:∀ b,h.size≤b→b<hb0.size→¬ F2 b:=fun b h1 h2 y=>nF b h1 ((gw20.old b h2).mp y)
  have fF:∀ {G:Nat→Prop} {ha hb:Heap} {Fx:Nat→Prop},Fr (fun b=>F b∨b=h7.size∨b=lb) hb0 ha→Gw hb0 F ha Fx→Fr Fx ha hb→Fr (fun b=>F b∨b=h7.size∨b=lb) hb0 hb:=fun fa ga fb=>fa.trans fb fun b hb y => .inl ((ga.old b hb).mp y)
  have f20':Fr (fun b=>F b∨b=h7.size∨b=lb) hb0 h20:=f19.trans f20 fun b hb y => .inl ((gw19.old b hb).mp y)
  have f22:=f20'.new n22
  have q22:∀ b,h.size≤b→b<hb0.size→b≠h7.size→b≠lb→rd h22 b=rd hb0 b:=fun b h0 hb h1 h2=>f22.rd hb (nH b h0 h1 h2)
  have w22:∀ b,h.size≤b→b<hb0.size→b≠h7.size→b≠lb→Own hb0 b→Own h22 b:=fun b h0 hb h1 h2 o=>f22.own hb (nH b h0 h1 h2) o
  have x22:=x20.no n22.fr
  have gw22:Gw hb0 F h22 F2:=⟨gw20.old,fun b hb=>x22.lt hb⟩
  have on22:LoopOn h22 lb L .busy none:=loopOn_fr (loopOn_fr t19.on f20 (n0 _ (by omega) (by omega))) n22.fr fun y=>y
  have r22:rd h22 h'.size=partV ofs s.length a:=(n22.at_ (by omega)).trans ((f20.rd (by omega) (lF19 _ (by omega))).trans r19)
  have p22:rd h22 hh.size=rd h' hh.size:=(n22.at_ (by omega)).trans ((f20.rd (by omega) (lF19 _ (by omega))).trans p19)
  have stp:∀ {b:Nat},b=h4.size→(F b∨b=h7.size∨b=lb∨b=h4.size):=fun y => .inr (.inr (.inr y))
  have wid:∀ {hx:Heap},Fr (fun b=>F b∨b=h7.size∨b=lb) hb0 hx→Fr (fun b=>F b∨b=h7.size∨b=lb∨b=h4.size) hb0 hx:=fun f=>f.mono fun b _ y=>by rcases y with y|y|y <;> simp [y]
  -- an error
  have err:∀ hx Fx Tx' ex,ex≠0→Fr (fun b=>F b∨b=h7.size∨b=lb) hb0 hx→Gw hb0 F hx Fx→Tx hx Fx t d Tx'→LoopOn hx lb L .busy none→Tx'.undo.length<1000000000→(∃ Rx,writeGo (geoN n) ofs s s.length 0 T R=((Tx',Rx),ex))→∀ P:Heap→Prop,
    (∀ h23,LoopOn h23 lb L .busy none→(SetL (setLoop h23 lb L .done (some .ret)) lb L .exhausted (some .ret) fun h37=>EndD db h37 fun h35=>DCallsV Tryz.prog (.func (.func 109) ⟨[]⟩ ⟨undoV ub tb mb⟩) [] h35 fun h36=>∃ (res5:Int),cellOf h36 ⟨h4.size,0,none⟩=some (.int .i64 res5)∧K (.int .i64 res5) h36)→P h23) →
    Put ⟨h4.size,0,none⟩ (.int .i64 ex) hx P:=fun hx Fx Tx' ex he fx gx xx onx hux hw P hP=>by
   have n3:∀ b,h.size≤b→b<hb0.size→¬ Fx b:=fun b h1 h2 y=>nF b h1 ((gx.old b h2).mp y)
   refine put_e (fx.own (by omega) (nH _ (by omega) (by omega) (by omega)) oe) ((fx.rd (by omega) (nH _ (by omega) (by omega) (by omega))).trans re) fun h23 d23=>?_
   have z23:=d23.size
   have on23:=loopOn_fr onx d23.fr (by omega)
   obtain ⟨Rx,hw⟩:=hw
   exact hP h23 on23 (exitL h23 Fx Tx' ex on23 ((wid fx).trans d23.fr fun b _ y=>stp y) ⟨gx.old,fun b hb=>by rw [z23]; exact gx.lt b hb⟩ (xx.fr d23.fr fun b hb y=>n3 _ (by omega) (by omega) (y▸hb)) d23.own d23.rd hux (bodyE _ Rx _ he hw))
  refine cn (fun he=>?_) fun he=>?_
  ·rw [if_pos he] at ew
   exact err h22 F2 T2 e he f22 gw22 x22 on22 (by omega) ⟨R',ew⟩ _ fun h23 on hs=>⟨on,.inr ⟨rfl,.done,some .ret,setLoop_on (loop_lt on) L _ _,by decide,hs⟩⟩
  rw [if_neg (fun y=>y he)] at ew
  refine ⟨t,rdc ((q22 _ (by omega) (by omega) (by omega) (by omega)).trans rt) rfl,Tm.Read_spec x22 fun a1 l1 c1 h24 f24 hl s24=>⟨_,_,_,_,rfl,cn (fun hr=>?_) fun hr=>?_⟩⟩
  ·rw [if_pos hr] at ew
   exact err h24 F2 T2 _ hr (f22.no f24) ⟨gw22.old,fun b hb=>(x22.no f24).lt hb⟩ (x22.no f24) (loopOn_fr on22 f24 fun y=>y) (by omega) ⟨R',ew⟩ _ fun h23 on hs=>⟨on,.inr ⟨rfl,.done,some .ret,setLoop_on (loop_lt on) L _ _,by decide,hs⟩⟩
  rw [if_neg (fun y=>y hr)] at ew
  have hlen:(T2.read v).1.length=512:=Tx.readLen x22 hr
  obtain ⟨t1,t2⟩:=toP_gt (off:=ofs) ha
  have z24:=f24.size
  have hc:=s24.le
  have r24:rd h24 h'.size=partV ofs s.length a:=(f24.rd (by omega) fun y=>y).trans r22
  generalize hrd:(T2.read v).1=bs at hl s24 hlen ew
  obtain ⟨p0,ep,_⟩:=s24.get (by omega)
  subst ep
  obtain ⟨pb,po,sp⟩:=p0
  have esp:sp=none:=s24.2.1
  subst esp
  have hfrom:h22.size≤pb:=s24.2.2.1
  refine ⟨_,rda r24 rfl,_,rda r24 rfl,⟨by omega,by omega,by omega⟩,_,rdc ((f24.rd (by omega) fun y=>y).trans ((q22 _ (by omega) (by omega) (by omega) (by omega)).trans rs)) rfl,_,rda r24 rfl,⟨by omega,by show (a:Int)≤(s.length:Int); omega⟩,?_⟩
  rw [Int.toNat_natCast,Int.toNat_natCast,Int.toNat_natCast,if_neg (by omega),show (mkStr s).size=s.length from rfl,extract_mk]
  show CopyP _ (some (Addr.add ⟨pb,po,none⟩ _)) _ _ _ _
  rw [add_mk]
  obtain ⟨w24,l24⟩:=s24.wr
  have tn:toP ofs s.length a - (ofs+a) % 512≤s.length - a:=by unfold toP; omega
  have lnew:((s.drop a).take (toP ofs s.length a - (ofs+a) % 512)).length=toP ofs s.length a - (ofs+a) % 512:=by rw [List.length_take,List.length_drop]; omega
  refine copy_str rfl (m:=toP ofs s.length a - (ofs+a) % 512) (new:=(s.drop a).take (toP ofs s.length a - (ofs+a) % 512)) ?_ ?_ lnew w24 (by omega) fun h26 d26=>?_
  ·show min ((s.drop a).take (s.length - a)).length _=_
   rw [List.length_take,List.length_drop]; omega
  ·rw [toList_mkStr,List.take_take]
   congr 1; omega
  generalize (s.drop a).take (toP ofs s.length a - (ofs+a) % 512)=new at ew lnew d26
  have s26:Sl h26 1 (some ⟨pb,po,none⟩) l1 c1 ((putU bs ((ofs+a) % 512) new).map bv) (From h22.size):=by
   have:=s24.putAt (new:=new.map bv) (j:=(ofs+a) % 512) (by rw [List.length_map,lnew]; omega) d26
   rw [putU_put (by rw [hlen,lnew]; omega)] at this; exact this
  have z26:=d26.size
  have f26:Fr (fun b=>F b∨b=h7.size∨b=lb) hb0 h26:=(f22.no f24).did d26 fun y=>by omega
  have x26:Tx h26 F2 t d T2:=(x22.no f24).fr d26.fr fun b hb y=>by have:=x22.lt hb; omega
  have gw26:Gw hb0 F h26 F2:=⟨gw22.old,fun b hb=>x26.lt hb⟩
  have on26:LoopOn h26 lb L .busy none:=loopOn_fr (loopOn_fr on22 f24 fun y=>y) d26.fr (by omega)
  have un3:=write_un T2 v (putU bs ((ofs+a) % 512) new)
  refine ⟨t,rdc ((f26.rd (by omega) (nH _ (by omega) (by omega) (by omega))).trans rt) rfl,Tm.Write_spec x26 s26.str (by omega) (fun q eq y=>?_) (by omega) fun h27 F3 f27 g27 x27=>⟨_,rfl,?_⟩⟩
  ·cases eq
   have y:F2 pb:=y
   have:=x22.lt y
   omega
  have z27:=f27.size
  have gw27:Gw hb0 F h27 F3:=gw26.trans g27 f26.size
  have f27':Fr (fun b=>F b∨b=h7.size∨b=lb) hb0 h27:=f26.trans f27 fun b hb y => .inl ((gw26.old b hb).mp y)
  have on27:LoopOn h27 lb L .busy none:=loopOn_fr on26 f27 (n2F _ (by omega) (by omega))
  refine cn (fun hw=>?_) fun hw=>?_
  ·rw [if_pos hw] at ew
   exact err h27 F3 _ _ hw f27' gw27 x27 on27 (by omega) ⟨R',ew⟩ _ fun h23 on hs=>⟨on,.inr ⟨rfl,.done,some .ret,setLoop_on (loop_lt on) L _ _,by decide,hs⟩⟩
  rw [if_neg (fun y=>y hw)] at ew
  have nF2y:∀ b,h19.size≤b→h20.size≤b→¬ F2 b:=fun b _ h2 y=>by have:=x20.lt y; omega
  have y27:rd h27 h20.size=ints R2:=(f27.rd (by omega) fun y=>by have:=x20.lt y; omega).trans ((d26.at_ (by omega) (by omega)).trans ((f24.rd (by omega) fun y=>y).trans n22.rd))
  have n2x:¬ F2 h7.size:=n2F _ (by omega) (by omega)
  have n3F:∀ b,h.size≤b→b<hb0.size→¬ F3 b:=fun b h1 h2 y=>nF b h1 ((gw27.old b h2).mp y)
  have e7:rd h27 h7.size=ints R':=(f27.rd (by omega) n2x).trans ((d26.at_ (by omega) (by omega)).trans ((f24.rd (by omega) fun y=>y).trans ((n22.at_ (by omega)).trans ((f20.rd (by omega) (n0 _ (by omega) (by omega))).trans rx19))))
  have o7:Own h27 h7.size:=f27.own (by omega) n2x (d26.ow (f24.own (by omega) (fun y=>y) (n22.ow (f20.own (by omega) (n0 _ (by omega) (by omega)) ox19))))
  refine ⟨_,by rw [ints_length,l2],cellsAll y27,PutRow.intro o7 (by rw [ints_length,l2]) (ints_one _) (by rw [e7,ints_length,W.lR]; decide) fun h29 d29=>?_⟩
  have z29:=d29.size
  have on29:=loopOn_fr on27 d29.fr (by omega)
  have t30:=turned (loop_lt on29) L .ready none
  have z30:=t30.size
  have x30:Tx (setLoop h29 lb L .ready none) F3 t d _:=(x27.fr d29.fr fun b hb y=>n3F _ (by omega) (by omega) (y▸hb)).fr t30.fr fun b hb y=>n3F _ (by omega) (by omega) (y▸hb)
  obtain ⟨ov,_,_,_,_,ewr⟩:=TM.write_ok hw
  refine ⟨on29,.inl ⟨rfl,⟨F3,_,R2,k,?_,⟨gw27.old,fun b hb=>x30.lt hb⟩,x30,?_,l2,?_,?_,t30.on,?_,ew,?_,(nextA_gt ha).2⟩,?_⟩⟩
  ·exact (f27'.trans d29.fr fun b _ y => .inr (.inl y)).trans t30.fr fun b _ y => .inr (.inr y)
  ·rw [ewr]; exact ov
  ·refine (t30.fr.rd (by omega) (by omega)).trans (d29.rd.trans ?_)
   rw [e7]; exact put_all _ _ (by rw [ints_length,ints_length,l2,W.lR])
  ·exact t30.fr.own (by omega) (by omega) d29.own
  ·have:=(nextA_gt (off:=ofs) ha).1
   have:=W.hk
   omega
  ·have:=(nextA_gt (off:=ofs) ha).1
   omega
  ·refine (t30.fr.rd (by omega) (by omega)).trans ((d29.at_ (by omega) (by omega)).trans ((f27.rd (by omega) fun y=>?_).trans ((d26.at_ (by omega) (by omega)).trans ((f24.rd (by omega) fun y=>y).trans p22))))
   have hy:hh.size<h19.size:=by omega
   exact lF19 _ (Nat.le_refl _) ((g20.old _ hy).mp y)
 ·-- all is written
  obtain ⟨F',T',R',k,W⟩:=J
  have zf:=W.fr.size
  have ew:=W.eq.trans (writeGo_end (Nat.le_refl _) _)
  have n0:∀ b,h.size≤b→b<hb0.size→¬ F' b:=fun b h1 h2 y=>nF b h1 ((W.gw.old b h2).mp y)
  have nH:∀ b,h.size≤b→b≠h7.size→b≠lb→¬ (F b∨b=h7.size∨b=lb):=fun b h1 h2 h3 y=>by
   rcases y with y|y
   ·exact nF b h1 y
   ·omega
  refine ⟨.ready,none,W.on,by decide,pend_none (setL_intro (by omega) fun h31 t31=>?_)⟩
  have z31:=t31.size
  have f31:Fr (fun b=>F b∨b=h7.size∨b=lb) hb0 h31:=W.fr.trans t31.fr fun b _ y => .inr (.inr y)
  have rx31:rd h31 h7.size=ints R':=(t31.fr.rd (by omega) (by omega)).trans W.rx
  have ox31:Own h31 h7.size:=t31.fr.own (by omega) (by omega) W.ox
  have x31:Tx h31 F' t d T':=W.x.fr t31.fr fun b hb y=>n0 _ (by omega) (by omega) (y▸hb)
  refine ⟨_,rda rx31 (ints_at (by rw [W.lR]; decide)),_,rdc ((f31.rd (by omega) (nH _ (by omega) (by omega) (by omega))).trans rs) rfl,?_⟩
  have emx:(if (IntKind.wrap .i64 ((ofs:Int)+((mkStr s).size:Int)))>R'.getD (0+2) 0 then (IntKind.wrap .i64 ((ofs:Int)+((mkStr s).size:Int))) else R'.getD (0+2) 0)=max (R'.getD 2 0) ((ofs+s.length:Nat):Int):=by
   have e2:R'.getD (0+2) 0=R'.getD 2 0:=rfl
   rw [e2,show (mkStr s).size=s.length from rfl,wrap_i64 (by omega) (by omega)]
   split <;> omega
  rw [emx]
  refine Put.add ox31 (by rw [rx31,ints_length,W.lR]; decide) fun h32 d32=>?_
  have z32:=d32.size
  have rx32:rd h32 h7.size=ints (R'.set 2 (max (R'.getD 2 0) ((ofs+s.length:Nat):Int))):=by rw [d32.rd,rx31]; exact ints_set
  have f32:Fr (fun b=>F b∨b=h7.size∨b=lb) hb0 h32:=f31.trans d32.fr fun b _ y => .inr (.inl y)
  have x32:Tx h32 F' t d T':=x31.fr d32.fr fun b hb y=>n0 _ (by omega) (by omega) (y▸hb)
  have lS:(R'.set 2 (max (R'.getD 2 0) ((ofs+s.length:Nat):Int))).length=15:=by rw [List.length_set,W.lR]
  have eB:bodyW T (geoN n) i R ofs s=putM T' (geoN n) i (R'.set 2 (max (R'.getD 2 0) ((ofs+s.length:Nat):Int))):=by unfold bodyW; rw [ew]; exact if_neg (fun y=>y rfl)
  have gl32:Glo h32:=glb.fr f32 fun b hb y=>by
   rcases y with y|y
   ·exact g0 b hb y
   ·omega
  have un:=W.un
  have unp:=putM_un (T:=T') (g:=geoN n) (n:=i) (R:=R'.set 2 (max (R'.getD 2 0) ((ofs+s.length:Nat):Int)))
  have gw32:Gw hb0 F h32 F':=⟨W.gw.old,fun b hb=>x32.lt hb⟩
  refine ⟨t,rdc ((f32.rd (by omega) (nH _ (by omega) (by omega) (by omega))).trans rt) rfl,(geoN n).v,rfl,cellsAll ((f32.rd (by omega) (nH _ (by omega) (by omega) (by omega))).trans rg),_,by rw [ints_length,lS],cellsAll rx32,Ino.Put_spec gl32 x32 (cok dm) lS (by omega) fun h33 F3 f33 g33 x33=>⟨_,rfl,?_⟩⟩
  have z33:=f33.size
  have gw33:Gw hb0 F h33 F3:=gw32.trans g33 f32.size
  have f33':Fr (fun b=>F b∨b=h7.size∨b=lb) hb0 h33:=f32.trans f33 fun b hb y => .inl ((gw32.old b hb).mp y)
  have n3F:∀ b,h.size≤b→b<hb0.size→¬ F3 b:=fun b h1 h2 y=>nF b h1 ((gw33.old b h2).mp y)
  refine put_e (f33'.own (by omega) (nH _ (by omega) (by omega) (by omega)) oe) ((f33'.rd (by omega) (nH _ (by omega) (by omega) (by omega))).trans re) fun h34 d34=>?_
  have z34:=d34.size
  refine fin h34 F3 _ _ ((f33'.mono fun b _ y=>by rcases y with y|y|y <;> simp [y]).trans d34.fr fun b _ y => .inr (.inr (.inr y))) ⟨gw33.old,fun b hb=>by rw [z34]; exact gw33.lt b hb⟩ (x33.fr d34.fr fun b hb y=>n3F _ (by omega) (by omega) (y▸hb)) d34.own d34.rd (by omega) ?_
  rw [eB]
  unfold undoM
  split
  ·rfl
  ·rename_i hp
   have hp:(putM T' (geoN n) i (R'.set 2 (max (R'.getD 2 0) ((ofs+s.length:Nat):Int)))).2=0:=Classical.byContradiction hp
   exact Prod.ext rfl rfl
end Go.Proofs.YtcdpakjhjmchhaaGreatDoor.Fi
namespace Go.Proofs.YtcdpakjhjmchhaaGreatDoor.Tm
open Go Go.Proofs Wx Hp W Ad
def TM.ended (S:RD):TM:=⟨S,[],[],true⟩
theorem end_body {h:Heap} {b:Nat} {q x y z:Value} {K:Value→Heap→Prop} (o:Own h b) (e:rd h b=[q,x,y,z]) (hK:∀ h',Did b h h' [q,.map none,.slice none 0 0,.bool true]→K (.tuple #[]) h'):txn_Txn_end (some ⟨b,0,none⟩) K h:=by
 refine os (Put.add o (by rw [e]; show 1<4; omega) fun h2 d2=>?_)
 rw [e] at d2
 refine os (Put.add d2.own (by rw [d2.rd]; show 2<4; omega) fun h3 d3=>?_)
 rw [d2.rd] at d3
 refine os (Put.add d3.own (by rw [d3.rd]; show 3<4; omega) fun h4 d4=>?_)
 rw [d3.rd] at d4
 exact hK h4 ⟨by rw [d4.size,d3.size,d2.size],(d2.fr.trans d3.fr fun _ _ x=>x).trans d4.fr fun _ _ x=>x,d4.own,d4.rd⟩
theorem TxC.shut {h h7 h8:Heap} {F:Nat→Prop} {col:Nat→Nat} {d:Option Addr} {r:TR} {T:TM} {S:RD} {D:Nat→Prop} (X:TxC h col d r T) (hF:∀ b,F b↔1≤col b∧col b≤5) (f:Fr (fun b=>col b=5) h h7) (g:Gw h (fun b=>col b=5) h7 D) (A:DiskF h7 D d S)
  (d8:Did r.tb h7 h8 [.pointer d,.map none,.slice none 0 0,.bool true]):∃ F',Fr F h h8∧Gw h F h8 F'∧Tx h8 F' (some ⟨r.tb,0,none⟩) d (TM.ended S):=by
 have tl:=X.own.lt
 have s1:=X.sc
 have z7:=f.size
 have z8:=d8.size
 obtain ⟨col',k1,k2⟩:∃ col':Nat→Nat,(∀ b,D b→col' b=5)∧∀ b,¬ D b→col' b=if b<h.size∧col b≠5 then col b else 0 :=
  ⟨fun b=>@ite _ (D b) (Classical.propDecidable _) 5 (if b<h.size∧col b≠5 then col b else 0),fun b x=>if_pos x,fun b x=>if_neg x⟩
 have old:∀ b,b<h.size→col' b=col b:=fun b hb=>by
  by_cases x:D b
  ·rw [k1 b x]; exact ((g.old b hb).mp x).symm
  ·have:col b≠5:=fun e=>x ((g.old b hb).mpr e)
   rw [k2 b x,if_pos ⟨hb,this⟩]
 have five:∀ b,col' b=5↔D b:=fun b=>⟨fun e=>by
  by_cases x:D b
  ·exact x
  ·rw [k2 b x] at e
   split at e
   ·rename_i y; exact absurd e y.2
   ·exact absurd e (by decide),k1 b⟩
 have big:∀ b,h8.size≤b→col' b=0:=fun b hb=>by
  have x:¬ D b:=fun x=>by have:=A.lt x; omega
  rw [k2 b x,if_neg (by omega)]
 refine ⟨fun b=>1≤col' b∧col' b≤5,?_,⟨fun b hb=>by rw [old b hb]; exact (hF b).symm,fun b hb=>?_⟩,.inr ⟨col',r.tb,rfl,⟨big,(old _ tl).trans s1,d8.own,d8.rd,⟨rfl,rfl⟩,rfl,?_⟩,fun b=>Iff.rfl⟩⟩
 ·refine (f.mono fun b _ e=>(hF b).mpr ?_).trans d8.fr fun b _ e=>(hF b).mpr ?_
  ·have e:col b=5:=e; omega
  ·have e:b=r.tb:=e; subst e; omega
 ·rcases Nat.lt_or_ge b h8.size with x|x
  ·exact x
  ·rw [big b x] at hb; omega
 ·refine (A.fr d8.fr fun b hb e=>?_).iff five
  have e:b=r.tb:=e
  subst e
  have:=(g.old _ tl).mp hb
  have this:col r.tb=5:=this
  omega
theorem Abort_spec {h:Heap} {F:Nat→Prop} {t d:Option Addr} {T:TM} {K:Value→Heap→Prop} (x:Tx h F t d T) (hK:∀ h' F',Fr F h h'→Gw h F h' F'→Tx h' F' t d (TM.ended T.disk)→K (.tuple #[]) h'):C.txn_Txn_Abort t h K:=by
 have hlt:=fun b hb=>x.lt (b:=b) hb
 rcases x with ⟨col,r,rfl,X,hF⟩|⟨col,tb,rfl,X,hF⟩
 ·refine txn_Txn_Abort.ok (txn_Txn_end.ok (end_body X.own X.cell fun h2 d2=>⟨rfl,?_⟩))
  obtain ⟨F',f,g,y⟩:=X.shut hF (Fr.refl _ _) (Gw.refl (Nat.le_refl _) fun b hb=>X.dk.lt hb) X.dk d2
  exact hK h2 F' f g y
 ·refine txn_Txn_Abort.ok (txn_Txn_end.ok (end_body X.own X.cell fun h2 d2=>⟨rfl,?_⟩))
  have s1:=X.sc
  have f2:Fr F h h2:=d2.fr.mono fun b _ e=>by have e:b=tb:=e; subst e; exact (hF _).mpr (by omega)
  have z2:=d2.size
  exact hK h2 F f2 (Gw.refl f2.size hlt) (.inr ⟨col,tb,rfl,⟨fun b hb=>X.nrm b (by omega),s1,d2.own,d2.rd,⟨rfl,rfl⟩,rfl,X.dk.fr d2.fr fun b hb e=>by
   have e:b=tb:=e
   subst e
   have hb:col b=5:=hb
   omega⟩,hF⟩)
end Go.Proofs.YtcdpakjhjmchhaaGreatDoor.Tm
namespace Go.Proofs.YtcdpakjhjmchhaaGreatDoor.Fi
open Go Go.Proofs Wx Hp W Ad Tm Bt Spc Re Av
open Hd (ints)
open In (Glo ints_length ints_one mayR decA encR encR_length)
open Bm (num nS path many edge Z0 num_nil)
theorem cnt_one : ∀ m,cnt (fun s=>decide (s=0)) (m+1)=1
 | 0=>rfl
 | m+1=>by
  show cnt (fun s=>decide (s=0)) (m+1)+(if decide (m+1=0)=true then 1 else 0)=1
  rw [cnt_one m,if_neg (by simp)]
theorem first_facts {n:Nat} {L:Txt} (d:Dim n) (hn:n<4428) (I:Ib n (recs0.flatMap encR) (4096*((geoN n).inodes - 98)) L) :
  ∃ Z' T' R',writeF ⟨fresh (chunks L),[],[],false⟩ (geoN n) 2 3 [97,98,99]=(T',0)∧Fs n Z' T' 2 R' 3 filR∧readM T' (geoN n) 2 0 100=([0,0,0,97,98,99],0)∧blocksM T' (geoN n) 2=(1,0)∧T'.disk=fresh (chunks L)∧T'.undo.length≤100:=by
 have f0:=fs0 d hn I
 have hlo:=d.lo
 have hd:=d.data
 have hino:(geoN n).inodes=98+(n+4095) / 4096:=rfl
 have z:=num_nil (Z:=Z0 L) (R:=filR) fil_zero
 have m0:many (Z0 L) filR=0:=by
  unfold many
  exact cnt_none _ fun s hs=>decide_eq_false fun y=>y (z s hs)
 have ht:=f0.tot
 rw [m0] at ht
 obtain ⟨Z',T',R',ew,W⟩:=write_one (off:=3) (s:=[97,98,99]) d f0 (by decide) (by decide) (by decide) (by show 0+_+3<87; omega) (by omega)
 have ew:writeF ⟨fresh (chunks L),[],[],false⟩ (geoN n) 2 3 [97,98,99]=(T',0):=ew
 refine ⟨Z',T',R',ew,W.fs,?_,?_,?_,?_⟩
 ·have hr:=W.fs.read (off:=0) (m:=100) d
  have e1:R'.getD 2 0=6:=W.size
  rw [e1] at hr
  have e2:(min (((100:Nat):Int)) (6 - ((0:Nat):Int))).toNat=6:=by decide
  rw [e2] at hr
  have b0:∀ q,q<8459264→byteAt (Z0 L) filR q=0:=fun q hq=>by
   unfold byteAt pc
   rw [if_pos (z _ (by unfold nS; omega)),List.getD_eq_getElem?_getD,zeros,List.getElem?_replicate]
   split <;> rfl
  have b:∀ q,q<6→byteAt Z' R' q=[0,0,0,97,98,99].getD q 0:=fun q hq=>by
   rw [W.byt q (by omega),b0 q (by omega)]
   rcases (by omega:q=0∨q=1∨q=2∨q=3∨q=4∨q=5) with rfl|rfl|rfl|rfl|rfl|rfl <;> rfl
  have hb:bytesOf Z' R' 0 6=[0,0,0,97,98,99]:=by
   show [byteAt Z' R' (0+0),byteAt Z' R' (0+1),byteAt Z' R' (0+2),byteAt Z' R' (0+3),byteAt Z' R' (0+4),byteAt Z' R' (0+5)]=_
   rw [b (0+0) (by decide),b (0+1) (by decide),b (0+2) (by decide),b (0+3) (by decide),b (0+4) (by decide),b (0+5) (by decide)]
   rfl
  rw [hb] at hr
  exact hr
 ·have hb:=W.fs.blocks d
  have:many Z' R'=1:=by
   unfold many
   rw [← cnt_one 16651]
   refine cnt_congr fun x hx=>?_
   rw [decide_eq_decide,W.dom x hx]
   constructor
   ·rintro (h|⟨b,hb,h⟩)
    ·exact absurd (z x hx) h
    ·have hb:b<3:=hb
     rw [show (3+b) / 512=0 by omega] at h
     unfold path at h
     rw [if_pos (by decide),List.mem_singleton] at h; exact h
   ·rintro rfl
    exact .inr ⟨0,by decide,by decide⟩
  rw [this] at hb
  exact hb
 ·exact W.ext.disk
 ·have:T'.undo.length≤0+10*3+1:=W.un
  omega
end Go.Proofs.YtcdpakjhjmchhaaGreatDoor.Fi
namespace Go.Proofs.YtcdpakjhjmchhaaGreatDoor.Fi
open Go Go.Proofs Wx Hp W Ad Tm Bt Spc Re Av
open Hd (ints)
open In (Glo ints_length ints_one mayR decA encR encR_length)
theorem fresh_spec {n:Nat} {h:Heap} {K:Value→Heap→Prop} (gl:Glo h) (d:Dim n) (hn:n<4428)
  (hK:∀ tb dd F L h',Fr No h h'→Tx h' F (some ⟨tb,0,none⟩) dd ⟨fresh (chunks L),[],[],false⟩→Ib n (recs0.flatMap encR) (4096*((geoN n).inodes - 98)) L→(∀ b,F b→h.size≤b)→K (.tuple #[.pointer (some ⟨tb,0,none⟩),.agg ⟨(geoN n).v⟩]) h'):C.bolelaw12_fresh n h K:=by
 have gl1:=gl.lt
 refine bolelaw12_fresh.ok (New.intro fun h2 n2=>Spc.Geo_spec (by omega) fun h3 f3=>⟨_,rfl,NewRow.intro rfl (G.one _) rfl fun h5 n5=>⟨(geoN n).v,rfl,cellsAll n5.rd,rfl,rfl,rfl,New.intro fun h6 n6=>?_⟩⟩)
 have z2:=n2.size
 have z3:=f3.size
 have z5:=n5.size
 have z6:=n6.size
 have F6:Fr No h h6:=((n2.fr.no f3).new n5).new n6
 have hd0:∀ R ∈ recs0,∀ i,i<10→R.getD (3+i) 0=0:=fun R hR i hi=>by
  have:∀ R ∈ recs0,∀ i:Fin 10,R.getD (3+i.val) 0=0:=by decide
  exact this R hR ⟨i,hi⟩
 have Y6:SlCells h6 (some ⟨h5.size,0,none⟩) (recs0.flatMap ints):=cellsAll n6.rd
 refine image_spec (recs:=recs0) (rc:=3) ⟨d.lo,hn⟩ Y6 (by decide) (by decide) hd0 (by decide) fun ib L h7 f7 I o7 hib r7=>⟨_,_,_,rfl,?_⟩
 have z7:=f7.size
 have hL:=I.im.len
 have hlo:=d.lo
 have B7:StrAt h7 (some ⟨ib,0,none⟩) (512*n) L:=strAll r7 hL
 refine openF_spec B7 (Nat.le_refl _) (by omega) (fun y=>by exfalso; omega) fun _ _ _ q h8 D f8 hD A=>⟨_,_,rfl,cn (fun y=>absurd rfl y) fun _=>cf rfl ?_⟩
 have z8:=f8.size
 have F8:Fr No h h8:=(F6.no f7).no f8
 unfold bolelaw12_fresh.k1
 refine Tm.Begin_spec A fun tb h12 F f12 g12 x12=>⟨_,rfl,cf rfl ?_⟩
 have z12:=f12.size
 obtain ⟨Z',T',R',ew,fs,er,eb,ed,eu⟩:=first_facts d hn I
 have F12:Fr No h h12:=F8.no f12
 have lowF:∀ b,F b→h7.size≤b:=fun b hb=>by
  rcases g12.new hb with y|y
  ·exact hD b y
  ·omega
 have rg12:rd h12 h3.size=(geoN n).v:=(f12.rd (by omega) fun y=>y).trans ((f8.rd (by omega) fun y=>y).trans ((f7.rd (by omega) fun y=>y).trans ((n6.at_ (by omega)).trans n5.rd)))
 have nm:∀ {h':Heap} {G:Nat→Prop},Fr G h12 h'→(∀ b,G b→h7.size≤b)→rd h' h3.size=(geoN n).v∧rd h' h.size=z25∧Own h' h.size:=fun f hG=>by
  have r0:rd h12 h.size=z25:=(f12.rd (by omega) fun y=>y).trans ((f8.rd (by omega) fun y=>y).trans ((f7.rd (by omega) fun y=>y).trans ((n6.at_ (by omega)).trans ((n5.at_ (by omega)).trans ((f3.rd (by omega) fun y=>y).trans n2.rd)))))
  have o0:Own h12 h.size:=f12.own (by omega) (fun y=>y) (f8.own (by omega) (fun y=>y) (f7.own (by omega) (fun y=>y) (n6.ow (n5.ow (f3.own (by omega) (fun y=>y) n2.own)))))
  exact ⟨(f.rd (by omega) fun y=>by have:=hG _ y; omega).trans rg12,(f.rd (by omega) fun y=>by have:=hG _ y; omega).trans r0,f.own (by omega) (fun y=>by have:=hG _ y; omega) o0⟩
 refine ⟨(geoN n).v,rfl,cellsAll rg12,Write_spec (gl.no F12) d x12 rfl (fun b hb y=>by have:=lowF b y; omega) (by show 0<500000000; decide) (by decide) (by decide) fun h14 F' f14 g14 x14=>⟨_,rfl,?_⟩⟩
 rw [ew] at x14 ⊢
 refine cn (fun y=>absurd rfl y) fun _=>?_
 unfold bolelaw12_fresh.k2
 have z14:=f14.size
 have lowF':∀ b,F' b→h7.size≤b:=fun b hb=>by
  rcases g14.new hb with y|y
  ·exact lowF b y
  ·omega
 have F14:Fr No h h14:=F12.trans f14 fun b hb y=>by have:=lowF b y; omega
 refine ⟨(geoN n).v,rfl,cellsAll (nm f14 lowF).1,Read_spec (gl.no F14) d x14 fun h17 f17=>⟨_,_,rfl,?_⟩⟩
 have z17:=f17.size
 rw [er]
 obtain ⟨al1,al2⟩:=all_len fs.av fs.w
 have ml:=many_le Z' R'
 have eg:getF T' (geoN n) 2=(R',0):=fs.get d
 refine ⟨(geoN n).v,rfl,cellsAll (nm (f14.no f17) lowF).1,Blocks_spec (gl.no (F14.no f17)) (x14.no f17) (cok d) (fun _=>by show (Bm.allM T' (geoN n) (getF T' (geoN n) 2).1).1.length+(Bm.allM T' (geoN n) (getF T' (geoN n) 2).1).2.1.length<1000000000000; rw [eg]; show (Bm.allM T' (geoN n) R').1.length+(Bm.allM T' (geoN n) R').2.1.length<1000000000000; omega) fun h18 f18=>⟨_,_,rfl,cn (fun y=>absurd rfl y) fun _=>?_⟩⟩
 rw [eb]
 have z18:=f18.size
 refine cf (by rw [toList_mkStr,beq_self_eq_true]; rfl) (cn (fun y=>absurd rfl y) fun _=>cn (fun y=>absurd rfl y) fun _=>?_)
 unfold bolelaw12_fresh.k3
 have x18:=(x14.no f17).no f18
 refine Tm.Abort_spec x18 fun h24 F2 f24 g24 x24=>⟨rfl,?_⟩
 have z24:=f24.size
 have lowF2:∀ b,F2 b→h7.size≤b:=fun b hb=>by
  rcases g24.new hb with y|y
  ·exact lowF' b y
  ·omega
 have f1224:Fr (fun b=>h7.size≤b) h12 h24:=(((f14.mono fun b _ y=>lowF b y).no f17).no f18).trans f24 fun b _ y=>lowF' b y
 obtain ⟨D2,A2,hD2⟩:=x24.dk
 have edk:(TM.ended T'.disk).disk=fresh (chunks L):=ed
 rw [edk] at A2
 refine ⟨(geoN n).v,rfl,cellsAll (nm f1224 fun _ y=>y).1,Tm.Begin_spec A2 fun tb2 h25 F3 f25 g25 x25=>⟨_,rfl,⟨rfl,cellsAll (nm (f1224.no f25) fun _ y=>y).1⟩,?_⟩⟩
 have z25:=f25.size
 obtain ⟨_,r0,o0⟩:=nm (f1224.no f25) fun _ y=>y
 refine PutRow.intro o0 rfl (G.one _) (by rw [r0]; exact Nat.le_refl _) fun h26 d26=>⟨(geoN n).v,rfl,cellsAll (by rw [d26.rd,r0]; exact put_all _ _ rfl),?_⟩
 have lowF3:∀ b,F3 b→h7.size≤b:=fun b hb=>by
  rcases g25.new hb with y|y
  ·exact lowF2 b (hD2 b y)
  ·omega
 exact hK tb2 _ F3 L h26 (((F12.trans f1224 fun b hb y=>by have y:h7.size≤b:=y; omega).no f25).did d26 fun hl=>by omega) (x25.fr d26.fr fun b hb y=>by have:=lowF3 b hb; omega) I fun b hb=>by have:=lowF3 b hb; omega
end Go.Proofs.YtcdpakjhjmchhaaGreatDoor.Fi
namespace Go.Proofs.YtcdpakjhjmchhaaGreatDoor.Fi
open Go Go.Proofs Wx Hp W Ad Tm Bt Spc Re Av
open Hd (ints)
open In (Glo mayR encR)
open Bm (num nS Tight path many edge Z0 num_nil data_sub)
theorem ends0 (Z:Nat→Txt):Ends Z filR:=by
 have z:=num_nil (Z:=Z) (R:=filR) fil_zero
 refine ⟨fun x hx h=>absurd (z x (by unfold nS; omega)) h,fun q hq _=>?_⟩
 unfold byteAt pc
 rw [if_pos (z _ (by unfold nS; omega)),List.getD_eq_getElem?_getD,zeros,List.getElem?_replicate]
 split <;> rfl
end Go.Proofs.YtcdpakjhjmchhaaGreatDoor.Fi
namespace Go.Proofs.YtcdpakjhjmchhaaGreatDoor.Bm
open Go Go.Proofs Wx Hp W Ad Tm Bt Spc Re Av Rm
open Hd (ints)
open In (Glo ints_length ints_one)
theorem free_as {h:Heap} {F:Nat→Prop} {t d:Option Addr} {T:TM} {n:Nat} {Z:Nat→Txt} {K:Value→Heap→Prop} (dm:Dim n) (x:Tx h F t d T) (a:Av n Z T)
  (hK:∀ h',Fr No h h'→K (.tuple #[.int .i64 (frees n Z:Nat),.int .i64 0]) h'):C.space_Free t (geoN n).v h K:=by
 have hd:=dm.data
 have hhi:=dm.hi
 have hino:(geoN n).inodes=98+(n+4095) / 4096:=rfl
 refine Spc.Free_spec x (geoN_ok dm.hi) (by show 98≤(geoN n).inodes; omega) (fun k _ h2 hb=>absurd (by rw [a.z k (by omega)]) hb) fun h' f=>?_
 rw [a.cntZ dm]; exact hK h' f
end Go.Proofs.YtcdpakjhjmchhaaGreatDoor.Bm
namespace Go.Proofs.YtcdpakjhjmchhaaGreatDoor.Bm
open Go Go.Proofs Wx Hp W Ad Tm Bt Spc Re Av Rm
open Hd (ints)
open In (Glo ints_length ints_one)
end Go.Proofs.YtcdpakjhjmchhaaGreatDoor.Bm
namespace Go.Proofs.YtcdpakjhjmchhaaGreatDoor.Bm
open Go Go.Proofs Wx Hp W Ad Tm Bt Spc Re Av Rm
open Hd (ints)
open In (Glo ints_length ints_one)
end Go.Proofs.YtcdpakjhjmchhaaGreatDoor.Bm
namespace Go.Proofs.YtcdpakjhjmchhaaGreatDoor.Fi
open Go Go.Proofs Wx Hp W Ad Tm Bt Spc Re Av
open Hd (ints)
open In (Glo ints_length ints_one mayR decA encR encR_length)
open Bm (num nS path many edge Z0 num_nil)
structure Ly (n:Nat) (h1:Heap) (gb:Nat) (t d:Option Addr) (hh:Heap) (F:Nat→Prop) (T:TM):Prop where
 fr:Fr No h1 hh
 gl:Glo h1
 lo:h1.size≤gb
 rg:rd hh gb=(geoN n).v
 x:Tx hh F t d T
 nf:¬ F gb
 fl:∀ b,F b→h1.size≤b
section
variable {n : Nat} {h1 hh h' : Heap} {gb : Nat} {t d : Option Addr} {F F' : Nat → Prop} {T T' : TM}
theorem Ly.lt (c:Ly n h1 gb t d hh F T):gb<hh.size:=rd_lt (o:=0) (v := .int .i64 (geoN n).blocks) (by rw [c.rg]; rfl)
theorem Ly.glo (c:Ly n h1 gb t d hh F T):Glo hh:=c.gl.no c.fr
theorem Ly.g0 (c:Ly n h1 gb t d hh F T):∀ b,b<1→¬ F b:=fun b hb y=>by have:=c.fl b y; have:=c.gl.lt; omega
theorem Ly.no (c:Ly n h1 gb t d hh F T) (f:Fr No hh h'):Ly n h1 gb t d h' F T :=
 { c with fr:=c.fr.no f,rg:=(f.rd c.lt fun y=>y).trans c.rg,x:=c.x.no f }
theorem Ly.call (c:Ly n h1 gb t d hh F T) (f:Fr F hh h') (g:Gw hh F h' F') (x:Tx h' F' t d T'):Ly n h1 gb t d h' F' T':=by
 have s:=c.fr.size
 refine ⟨c.fr.trans f fun b hb y=>by have:=c.fl b y; omega,c.gl,c.lo,(f.rd c.lt c.nf).trans c.rg,x,fun y=>c.nf ((g.old _ c.lt).mp y),fun b y=>?_⟩
 rcases g.new y with y|y
 ·exact c.fl b y
 ·omega
theorem Ly.did (c:Ly n h1 gb t d hh F T) {b:Nat} {cs:List Value} (dd:Did b hh h' cs) (hb:h1.size≤b) (hn:b≠gb) (hF:¬ F b):Ly n h1 gb t d h' F T :=
 { c with fr:=c.fr.did dd fun y=>by omega,rg:=(dd.at_ c.lt fun y=>hn y.symm).trans c.rg,x:=c.x.fr dd.fr fun x hx y=>hF (y▸hx) }
theorem Ly.readC (c:Ly n h1 gb t d hh F T) (dm:Dim n) {i off size e:Int} {s:Txt} (h:readM T (geoN n) i off size=(s,e)) {k:Value→Heap→Prop} (hK:∀ h',Ly n h1 gb t d h' F T→Fr No hh h'→k (.tuple #[.string (mkStr s),.int .i64 e]) h') :
  C.file_Read t (geoN n).v i off size hh k :=
 Read_spec c.glo dm c.x fun h' f=>by rw [h]; exact hK h' (c.no f) f
theorem Ly.read (c:Ly n h1 gb t d hh F T) (dm:Dim n) {i off size e:Int} {s:Txt} (h:readM T (geoN n) i off size=(s,e)) {k:Value→Heap→Prop} (hK:∀ h',Ly n h1 gb t d h' F T→Fr No hh h'→k (.tuple #[.string (mkStr s),.int .i64 e]) h') :
  ∃ cs:List Value,List.length cs=5∧Cells hh ⟨gb,0,none⟩ cs∧C.file_Read t cs i off size hh k :=
 ⟨(geoN n).v,rfl,cellsAll c.rg,c.readC dm h hK⟩
theorem Ly.writeC (c:Ly n h1 gb t d hh F T) (dm:Dim n) (live:T.over=false) (hu:T.undo.length<500000000) {i off e:Int} {s:Txt} {T':TM} (h:writeF T (geoN n) i off s=(T',e)) (ho:off≤9223372036854775807) (hs:s.length≤9223372036854775807) {k:Value→Heap→Prop}
  (hK:∀ h' F',Ly n h1 gb t d h' F' T'→Fr F hh h'→Gw hh F h' F'→k (.int .i64 e) h'):C.file_Write t (geoN n).v i off (mkStr s) hh k :=
 Write_spec c.glo dm c.x live c.g0 hu ho hs fun h' F' f g x=>by rw [h] at x ⊢; exact hK h' F' (c.call f g x) f g
theorem Ly.cutC (c:Ly n h1 gb t d hh F T) (dm:Dim n) (live:T.over=false) (hu:T.undo.length<500000000) {i size e:Int} {T':TM} (h:cutF T (geoN n) i size=(T',e)) {k:Value→Heap→Prop}
  (hK:∀ h' F',Ly n h1 gb t d h' F' T'→Fr F hh h'→Gw hh F h' F'→k (.int .i64 e) h'):C.file_Cut t (geoN n).v i size hh k :=
 Cut_spec c.glo dm c.x live c.g0 (by omega) fun h' F' f g x=>by rw [h] at x ⊢; exact hK h' F' (c.call f g x) f g
theorem Ly.blocks (c:Ly n h1 gb t d hh F T) (dm:Dim n) {i a e:Int} (h:blocksM T (geoN n) i=(a,e)) (hl:(getF T (geoN n) i).2=0→(Bm.allM T (geoN n) (getF T (geoN n) i).1).1.length+(Bm.allM T (geoN n) (getF T (geoN n) i).1).2.1.length<1000000000000) {k:Value→Heap→Prop}
  (hK:∀ h',Ly n h1 gb t d h' F T→Fr No hh h'→k (.tuple #[.int .i64 a,.int .i64 e]) h') :
  ∃ cs:List Value,List.length cs=5∧Cells hh ⟨gb,0,none⟩ cs∧C.file_Blocks t cs i hh k :=
 ⟨(geoN n).v,rfl,cellsAll c.rg,Blocks_spec c.glo c.x (cok dm) hl fun h' f=>by rw [h]; exact hK h' (c.no f) f⟩
end
theorem fresh_ly {n:Nat} {h:Heap} {K:Value→Heap→Prop} (gl:Glo h) (d:Dim n) (hn:n<4428) {ti:Nat} {k:Option Addr→Heap→Heap→Prop}
  (hK:∀ tb dd F L h2 h4,h.size≤h2.size→Ly n h h2.size (some ⟨tb,0,none⟩) dd h4 F ⟨fresh (chunks L),[],[],false⟩→Ib n (recs0.flatMap encR) (4096*((geoN n).inodes - 98)) L→k (some ⟨tb,0,none⟩) h2 h4) :
  C.bolelaw12_fresh n h fun r1 h2=>∃ (q1:Option Addr) (cs1:List Value),r1 = .tuple #[.pointer q1,.agg ⟨cs1⟩]∧NewRow z25 ti cs1 5 h2 fun h4=>bif (Option.isNone q1) then K (.bool false) h4 else k q1 h2 h4 :=
 fresh_spec gl d hn fun tb dd F L h2 f2 x2 I hF=>⟨_,_,rfl,NewRow.intro rfl (G.one _) rfl fun h4 n4=>cf rfl (hK tb dd F L h2 h4 f2.size ⟨f2.new n4,gl,f2.size,n4.rd,x2.no n4.fr,fun y=>absurd (x2.lt y) (Nat.lt_irrefl _),hF⟩ I)⟩
theorem rep_u8 (m:Nat):repCells z5 m=(List.replicate m (0:UInt8)).map bv:=by
 rw [List.map_replicate]; exact Spc.rep_one _ m
section
variable {h1 hh : Heap} {gb : Nat} {t d : Option Addr} {F : Nat → Prop} {L : Txt}
theorem mk_app (a b:Txt):mkStr a++mkStr b=mkStr (a++b):=by
 apply ByteArray.ext
 rw [ByteArray.data_append]
 simp [mkStr]
theorem mk_size (a:Txt):(mkStr a).size=a.length:=by simp [mkStr,ByteArray.size]
end
end Go.Proofs.YtcdpakjhjmchhaaGreatDoor.Fi
namespace Go.Proofs.YtcdpakjhjmchhaaGreatDoor.Fi
open Go Go.Proofs Wx Hp W Ad Tm Bt Spc Re Av
open Hd (ints)
def pieceV (p:Int×Txt):List Value:=[.int .i64 p.1,.string (mkStr p.2)]
def pcsV (ps:Ps):List Value:=ps.flatMap pieceV
def plV (sz:Int) (a:Option Addr) (l c:Nat):List Value:=[.int .i64 sz,.slice a l c]
theorem piece_one (p:Int×Txt):∀ v ∈ pieceV p,v.oneCell'=true:=one2 rfl rfl
theorem pl_one (sz:Int) (a:Option Addr) (l c:Nat):∀ v ∈ plV sz a l c,v.oneCell'=true:=one2 rfl rfl
theorem pcsV_len (ps:Ps):(pcsV ps).length=ps.length*2:=flat_length pieceV 2 ps fun _ _=>rfl
theorem pcs_at {h:Heap} {a:Option Addr} {ps:Ps} {i:Nat} (X:SlCells h a (pcsV ps)) (hi:i<ps.length):∃ p,a=some p∧Cells h (p.add (i*2)) (pieceV ps[i]):=by
 cases a with
 | none =>
  have X:pcsV ps=[]:=X
  have:=pcsV_len ps
  rw [X] at this
  exact absurd this (by simp; omega)
 | some p =>
  have X:Cells h p (pcsV ps):=X
  refine ⟨p,rfl,?_⟩
  have:=Cells.part X (i*2) 2
  unfold pcsV at this
  rw [flat_part pieceV 2 ps (fun _ _=>rfl) i hi] at this; exact this
theorem atP_drop {ps:Ps} {m:Nat} (hm:m<ps.length) (k:Int):atP (ps.drop m) k=if ps[m].1=k then ps[m].2 else atP (ps.drop (m+1)) k:=by
 rw [List.drop_eq_getElem_cons hm]; rfl
theorem atP_spec {sz k:Int} {a:Option Addr} {c:Nat} {ps:Ps} {h:Heap} {K:Value→Heap→Prop} (X:SlCells h a (pcsV ps)) (hl:ps.length≤140737488355328) (hK:∀ h',Fr No h h'→K (.string (mkStr (atP ps k))) h') :
  C.bolelaw12_Plain_at (plV sz a ps.length c) k h K:=by
 refine bolelaw12_Plain_at.ok (New.intro fun h2 n2=>⟨_,_,_,rda n2.rd rfl,?_⟩)
 refine ⟨fun i hh=>∃ m:Nat,i=m∧m≤ps.length∧Fr No h hh∧atP (ps.drop m) k=atP ps k,fun i _=>((ps.length:Int) - i).toNat,⟨0,rfl,Nat.zero_le _,n2.fr,rfl⟩,?_⟩
 rintro i h3 ⟨m,ei,hm,f3,em⟩
 refine cd (fun hlt=>⟨⟨by omega,hlt⟩,?_⟩) fun hlt=>⟨by decide,New.intro fun h6 n6=>⟨zeros,strAll (n6.rd.trans rep_zeros) List.length_replicate,?_⟩⟩
 ·have hm':m<ps.length:=by omega
  obtain ⟨p,rfl,cp⟩:=pcs_at (SlCells.fr f3 X fun _ _ y=>y) hm'
  have ein:i.toNat=m:=by omega
  refine os ⟨pieceV ps[m],rfl,by rw [ein]; exact cp,NewRow.intro rfl (piece_one _) rfl fun h5 n5=>⟨_,rda n5.rd rfl,ce (fun he=>⟨_,rda n5.rd rfl,?_⟩) fun he=>?_⟩⟩
  ·have:=hK h5 (f3.new n5)
   rw [← em,atP_drop hm',if_pos he] at this; exact this
  ·rw [wrap_i64 (by omega) (by omega)]
   exact ⟨⟨m+1,by omega,by omega,f3.new n5,by rw [← em,atP_drop hm',if_neg he]⟩,falls hlt⟩
 ·have:m=ps.length:=by omega
  have e0:atP ps k=zeros:=by rw [← em,this,List.drop_length]; rfl
  have:=hK h6 (f3.new n6)
  rw [e0] at this; exact this
structure Rw (n0:Nat) (hh:Heap) (qb:Nat) (sz:Int) (qs:Ps) (a:Option Addr) (c:Nat):Prop where
 r:rd hh qb=plV sz a qs.length c
 own:Own hh qb
 s:Sl hh 2 a qs.length c (pcsV qs) (From n0)
theorem Rw.no {n0 qb c:Nat} {hh h':Heap} {sz:Int} {qs:Ps} {a:Option Addr} (R:Rw n0 hh qb sz qs a c) (f:Fr No hh h'):Rw n0 h' qb sz qs a c :=
 ⟨(f.rd R.own.lt fun y=>y).trans R.r,f.own R.own.lt (fun y=>y) R.own,R.s.fr f fun _ _ _ y=>y⟩
theorem Rw.did {n0 qb c b:Nat} {hh h':Heap} {sz:Int} {qs:Ps} {a:Option Addr} {cs:List Value} (R:Rw n0 hh qb sz qs a c) (d:Did b hh h' cs) (h1:b≠qb) (h2:b<n0):Rw n0 h' qb sz qs a c :=
 ⟨(d.at_ R.own.lt fun y=>h1 y.symm).trans R.r,d.ow R.own,R.s.fr d.fr fun x _ hx y=>by have hx:n0≤x:=hx; have y:x=b:=y; omega⟩
theorem Rw.did2 {n0 qb c b:Nat} {hh h':Heap} {sz:Int} {qs:Ps} {a:Option Addr} {cs:List Value} (R:Rw n0 hh qb sz qs a c) (d:Did b hh h' cs) (h1:b≠qb) (_:n0≤b) (h3:∀ p,a=some p→p.block<b):Rw n0 h' qb sz qs a c:=by
 refine ⟨(d.at_ R.own.lt fun y=>h1 y.symm).trans R.r,d.ow R.own,?_⟩
 have s:=R.s
 cases a with
 | none=>exact ⟨s.1,s.2⟩
 | some p =>
  obtain ⟨s0,s1,s2,s3,s4,s5,s6⟩:=s
  have hb:=h3 p rfl
  exact ⟨s0,s1,s2,d.ow s3,s4,by rw [d.at_ s3.lt (by omega)]; exact s5,by rw [d.at_ s3.lt (by omega)]; exact s6⟩
theorem Rw.push {n0 qb c:Nat} {hh:Heap} {sz:Int} {qs:Ps} {a:Option Addr} (R:Rw n0 hh qb sz qs a c) (hq:qb<n0) (hn:n0≤hh.size) (hl:qs.length<1000000) (p:Int×Txt) {k:Heap→Prop}
  (hk:∀ h' a' c',Fr (fun b=>n0≤b∨b=qb) hh h'→Rw n0 h' qb sz (qs++[p]) a' c'→k h') :
  New (pieceV p) 182 hh fun h9=>∃ new1:List Value,List.length new1=1*2∧SlCells h9 (some ⟨hh.size,0,none⟩) new1∧(∀ v ∈ new1,v.oneCell'=true) ∧
   AppendP ti182 182 a qs.length c 1 new1 h9 fun sA3 sL3 sC3 h10=>Put (Addr.add ⟨qb,0,none⟩ 1) (.slice sA3 sL3 sC3) h10 k:=by
 refine New.intro fun h9 n9=>⟨pieceV p,rfl,cellsAll n9.rd,piece_one p,?_⟩
 have R9:=R.no n9.fr
 have z9:=n9.size
 refine append_own R9.s rfl rfl ?_ (by omega) fun a' c' h10 f10 s10=>?_
 ·show (qs.length+1)*_≤_
  have b24:ti182.bytes≤64:=(by decide)
  have:=Nat.mul_le_mul (show qs.length+1≤1000001 from (by omega)) b24
  exact Nat.le_trans this (by decide)
 have nq:¬ From n0 qb:=fun y=>by have y:n0≤qb:=y; omega
 have o10:=f10.own R9.own.lt nq R9.own
 have r10:=(f10.rd R9.own.lt nq).trans R9.r
 refine Put.add o10 (by rw [r10]; show 0+1<2; decide) fun h11 d11=>?_
 have s11:Sl h10 2 a' (qs.length+1) c' (pcsV (qs++[p])) (From n0):=by
  have e:pcsV qs++pieceV p=pcsV (qs++[p]):=by unfold pcsV; rw [List.flatMap_append,List.flatMap_singleton]
  rw [← e]
  exact s10.mono fun b hb=>hb.elim id fun y=>by show n0≤b; omega
 refine hk h11 a' c' ?_ ⟨?_,d11.own,?_⟩
 ·exact ((n9.fr.mono (G:=fun b=>n0≤b∨b=qb) fun _ _ y=>y.elim).trans f10 fun b _ y => .inl y).did d11 fun _ => .inr rfl
 ·rw [d11.rd,r10,List.length_append]; rfl
 ·rw [List.length_append]
  exact s11.fr d11.fr fun x _ hx y=>by have hx:n0≤x:=hx; have y:x=qb:=y; omega
theorem put_spec {sz k:Int} {a:Option Addr} {c:Nat} {ps:Ps} {s:Txt} {h:Heap} {K:Value→Heap→Prop} (X:SlCells h a (pcsV ps)) (hl:ps.length<100000)
  (hK:∀ a' c' h',Fr No h h'→Sl h' 2 a' (putP ps k s).length c' (pcsV (putP ps k s)) (From h.size)→K (.agg ⟨plV sz a' (putP ps k s).length c'⟩) h'):C.bolelaw12_Plain_put (plV sz a ps.length c) k (mkStr s) h K:=by
 refine bolelaw12_Plain_put.ok (New.intro fun h2 n2=>New.intro fun h3 n3=>⟨sz,rda ((n3.at_ n2.own.lt).trans n2.rd) rfl,NewRow.intro rfl (one2 rfl rfl) rfl fun h5 n5=>?_⟩)
 have z2:=n2.size
 have z3:=n3.size
 have z5:=n5.size
 have F5:Fr No h h5:=(n2.fr.new n3).new n5
 have rp:rd h5 h.size=plV sz a ps.length c:=(n5.at_ (by omega)).trans ((n3.at_ n2.own.lt).trans n2.rd)
 refine ⟨_,_,_,rda rp rfl,?_⟩
 have ff:∀ {hx hy:Heap},Fr No h hx→Fr (fun b=>h5.size≤b∨b=h3.size) hx hy→Fr No h hy:=fun f g=>f.trans g fun b hb y=>by omega
 refine ⟨fun i hh=>∃ (m:Nat) (a':Option Addr) (c':Nat),i=m∧m≤ps.length∧Fr No h hh∧h5.size≤hh.size∧Rw h5.size hh h3.size sz ((ps.take m).filter fun p=>decide (p.1≠k)) a' c'∧Own hh h2.size∧(rd hh h2.size).length=2,fun i _=>((ps.length:Int) - i).toNat,
  ⟨0,none,0,rfl,Nat.zero_le _,F5,Nat.le_refl _,⟨n5.rd,n5.own,Sl.nil _ _ _⟩,n5.ow n3.own,by rw [n5.at_ (by omega),n3.rd]; rfl⟩,?_⟩
 rintro i h6 ⟨m,a',c',ei,hm,f6,le6,R6,o6,l6⟩
 have lq:((ps.take m).filter fun p=>decide (p.1≠k)).length≤m:=Nat.le_trans (List.length_filter_le _ _) (by rw [List.length_take]; omega)
 refine cd (fun hlt=>⟨⟨by omega,hlt⟩,?_⟩) fun hlt=>?_
 ·have hm':m<ps.length:=by omega
  obtain ⟨p,rfl,cp⟩:=pcs_at (SlCells.fr f6 X fun _ _ y=>y) hm'
  have ein:i.toNat=m:=by omega
  have et:ps.take (m+1)=ps.take m++[ps[m]]:=take_snoc ps m hm'
  refine os ⟨pieceV ps[m],rfl,by rw [ein]; exact cp,NewRow.intro rfl (piece_one _) rfl fun h8 n8=>⟨_,rda n8.rd rfl,?_⟩⟩
  have z8:=n8.size
  have R8:=R6.no n8.fr
  rw [wrap_i64 (by omega) (by omega)]
  refine cn (fun he=>⟨_,_,_,rda R8.r rfl,pieceV ps[m],rfl,cellsAll n8.rd,rfl,R8.push (by omega) (by omega) (by omega) ps[m] fun h11 a2 c2 f11 R11=>⟨⟨m+1,a2,c2,by omega,by omega,ff (f6.new n8) f11,by have:=f11.size; omega,?_,f11.own (by have:=o6.lt; omega) (by omega) (n8.ow o6),?_⟩,falls hlt⟩⟩) fun he=>⟨⟨m+1,a',c',by omega,by omega,f6.new n8,by omega,?_,n8.ow o6,by rw [n8.at_ o6.lt]; exact l6⟩,falls hlt⟩
  ·have:((ps.take (m+1)).filter fun p=>decide (p.1≠k))=((ps.take m).filter fun p=>decide (p.1≠k))++[ps[m]]:=by
    rw [et,List.filter_append,List.filter_cons,if_pos (decide_eq_true he),List.filter_nil]
   rw [this]; exact R11
  ·rw [f11.rd (by have:=o6.lt; omega) (by omega),n8.at_ o6.lt]; exact l6
  ·have:((ps.take (m+1)).filter fun p=>decide (p.1≠k))=((ps.take m).filter fun p=>decide (p.1≠k)):=by
    rw [et,List.filter_append,List.filter_cons,if_neg (by rw [decide_eq_true_eq]; exact fun y=>y he),List.filter_nil,List.append_nil]
   rw [this]; exact R8
 ·have:m=ps.length:=by omega
  subst this
  rw [List.take_length] at R6 lq
  refine ⟨_,_,_,rda R6.r rfl,rfl,R6.push (by omega) le6 (by omega) (k,s) fun h14 a2 c2 f14 R14=>?_⟩
  have z14:=f14.size
  have lt2:=o6.lt
  refine ⟨_,rfl,cellsAll R14.r,PutRow.intro (f14.own lt2 (by omega) o6) rfl (pl_one _ _ _ _) (by rw [f14.rd lt2 (by omega),l6]; decide) fun h15 d15=>⟨plV sz a2 ((ps.filter fun p=>decide (p.1≠k))++[(k,s)]).length c2,rfl,cellsAll (by rw [d15.rd]; exact put_all _ _ (by rw [f14.rd lt2 (by omega),l6]; rfl)),?_⟩⟩
  have e:(ps.filter fun p=>decide (p.1≠k))++[(k,s)]=putP ps k s:=rfl
  have R15:=R14.did d15 (by omega) (by omega)
  rw [e] at R15 ⊢
  exact hK a2 c2 h15 ((ff f6 f14).did d15 fun y=>by omega) (R15.s.mono fun b hb=>by have hb:h5.size≤b:=hb; show h.size≤b; omega)
theorem blocks_spec {sz:Int} {a:Option Addr} {c:Nat} {ps:Ps} {h:Heap} {K:Value→Heap→Prop} (X:SlCells h a (pcsV ps)) (hl:ps.length<100000) (hr:∀ p ∈ ps,0≤p.1∧p.1<16522)
  (hK:∀ h',Fr No h h'→K (.int .i64 (blocksP ps:Nat)) h'):C.bolelaw12_Plain_blocks (plV sz a ps.length c) h K:=by
 refine bolelaw12_Plain_blocks.ok (New.intro fun h2 n2=>⟨_,_,_,rda n2.rd rfl,_,_,_,rda n2.rd rfl,?_⟩)
 have z2:=n2.size
 refine ⟨fun one ta tl tc i hh=>∃ m:Nat,i=m∧m≤ps.length∧Fr No h hh∧one=oneP (ps.take m)∧tl=(tabsP (ps.take m)).length∧tl≤m∧Sl hh 1 ta tl tc (ints (tabsP (ps.take m))) (From h2.size),fun _ _ _ _ i _=>((ps.length:Int) - i).toNat,
  ⟨0,rfl,Nat.zero_le _,n2.fr,rfl,rfl,Nat.le_refl _,Sl.nil _ _ _⟩,?_⟩
 rintro one ta tl tc i h3 ⟨m,ei,hm,f3,eo,el,lm,s3⟩
 refine cd (fun hlt=>⟨⟨by omega,hlt⟩,?_⟩) fun hlt=>?_
 ·have hm':m<ps.length:=by omega
  obtain ⟨p,rfl,cp⟩:=pcs_at (SlCells.fr f3 X fun _ _ y=>y) hm'
  have ein:i.toNat=m:=by omega
  have et:ps.take (m+1)=ps.take m++[ps[m]]:=take_snoc ps m hm'
  obtain ⟨r0,r1⟩:=hr ps[m] (List.getElem_mem hm')
  have eo1:oneP (ps.take (m+1))=(one || (decide (10≤ps[m].1) && decide (ps[m].1<138))):=by rw [et,eo]; unfold oneP; rw [List.any_append,List.any_cons,List.any_nil,Bool.or_false]
  have et1:tabsP (ps.take (m+1))=if ps[m].1<138 then tabsP (ps.take m) else if (ps[m].1 - 138) / 128 ∈ tabsP (ps.take m) then tabsP (ps.take m) else tabsP (ps.take m)++[(ps[m].1 - 138) / 128]:=by rw [et]; unfold tabsP; rw [List.foldl_append]; rfl
  refine os ⟨pieceV ps[m],rfl,by rw [ein]; exact cp,NewRow.intro rfl (piece_one _) rfl fun h5 n5=>⟨_,rda n5.rd rfl,?_⟩⟩
  have z5:=n5.size
  have s5:=s3.fr n5.fr fun _ _ _ y=>y
  rw [wrap_i64 (n:=i+1) (by omega) (by omega)]
  refine cd (fun c1=>⟨⟨m+1,by omega,by omega,f3.new n5,?_,?_,by omega,?_⟩,falls hlt⟩) fun c1=>⟨_,rda n5.rd rfl,cd (fun c2=>⟨⟨m+1,by omega,by omega,f3.new n5,?_,?_,by omega,?_⟩,falls hlt⟩) fun c2=>?_⟩
  ·rw [eo1,decide_eq_false (show ¬ 10≤ps[m].1 by omega),Bool.false_and,Bool.or_false]
  ·rw [et1,if_pos (by omega)]; exact el
  ·rw [et1,if_pos (by omega)]; exact s5
  ·rw [eo1,decide_eq_true (show 10≤ps[m].1 by omega),decide_eq_true c2,Bool.and_self,Bool.or_true]
  ·rw [et1,if_pos c2]; exact el
  ·rw [et1,if_pos c2]; exact s5
  have ed:IntKind.wrap .i64 (Int.tdiv (IntKind.wrap .i64 (ps[m].1 - 138)) 128)=(ps[m].1 - 138) / 128:=by
   rw [wrap_i64 (n:=ps[m].1 - 138) (by omega) (by omega),Int.tdiv_eq_ediv_of_nonneg (by omega),wrap_i64 (by omega) (by omega)]
  rw [if_neg c2] at et1
  refine ⟨fun there j hh=>∃ q:Nat,j=q∧q≤tl∧hh=h5∧there=decide ((ps[m].1 - 138) / 128 ∈ (tabsP (ps.take m)).take q),fun _ j _=>((tl:Int) - j).toNat,⟨0,rfl,Nat.zero_le _,rfl,by simp⟩,?_⟩
  rintro there j hh ⟨q,ej,hq,rfl,eth⟩
  refine cd (fun hjt=>⟨⟨by omega,hjt⟩,?_⟩) fun hjt=>?_
  ·have hq':q<(tabsP (ps.take m)).length:=by omega
   obtain ⟨p3,rfl,cp3⟩:=Hd.ints_get s5.cells hq'
   have ejn:j.toNat=q:=by omega
   have etq:(tabsP (ps.take m)).take (q+1)=(tabsP (ps.take m)).take q++[(tabsP (ps.take m))[q]]:=take_snoc _ q hq'
   have etd:decide ((ps[m].1 - 138) / 128 ∈ (tabsP (ps.take m)).take (q+1))=(there || decide ((tabsP (ps.take m))[q]=(ps[m].1 - 138) / 128)):=by
    rw [etq,eth,← Bool.decide_or,decide_eq_decide,List.mem_append,List.mem_singleton]
    exact ⟨fun y=>y.imp id Eq.symm,fun y=>y.imp id Eq.symm⟩
   rw [wrap_i64 (n:=j+1) (by omega) (by omega)]
   refine os ⟨(tabsP (ps.take m))[q],by rw [ejn]; exact cp3,cs (fun ht=>⟨⟨q+1,by omega,by omega,rfl,by rw [etd,ht]; rfl⟩,falls hjt⟩) fun ht=>⟨_,rda n5.rd rfl,?_⟩⟩
   rw [ed]
   refine ⟨⟨q+1,by omega,by omega,rfl,?_⟩,falls hjt⟩
   rw [etd,ht,Bool.false_or]
   exact Bool.eq_iff_iff.mpr (by rw [beq_iff_eq,decide_eq_true_eq])
  ·have:q=(tabsP (ps.take m)).length:=by omega
   rw [this,List.take_length] at eth
   refine cnot (cs (fun ht=>?_) fun ht=>?_)
   ·have hmem:(ps[m].1 - 138) / 128 ∈ tabsP (ps.take m):=of_decide_eq_true (eth.symm.trans ht)
    rw [if_pos hmem] at et1
    refine ⟨⟨m+1,by omega,by omega,f3.new n5,?_,by rw [et1]; exact el,by omega,by rw [et1]; exact s5⟩,falls hlt⟩
    rw [eo1,decide_eq_false c2,Bool.and_false,Bool.or_false]
   ·have hmem:¬ (ps[m].1 - 138) / 128 ∈ tabsP (ps.take m):=of_decide_eq_false (eth.symm.trans ht)
    rw [if_neg hmem] at et1
    refine ⟨_,rda n5.rd rfl,New.intro fun h7 n7=>⟨_,rfl,cellsAll n7.rd,by intro v hv; rw [List.mem_singleton.mp hv]; rfl,?_⟩⟩
    rw [ed]
    have z7:=n7.size
    refine append_own (s5.fr n7.fr fun _ _ _ y=>y) rfl rfl ?_ (by omega) fun a' c' h8 f8 s8=>⟨⟨m+1,by omega,by omega,?_,?_,?_,by omega,?_⟩,falls hlt⟩
    ·show (tl+1)*8≤_; omega
    ·exact ((f3.new n5).new n7).trans f8 fun b hb y=>by have y:h2.size≤b:=y; omega
    ·rw [eo1,decide_eq_false c2,Bool.and_false,Bool.or_false]
    ·rw [et1,List.length_append,List.length_singleton,el]
    ·rw [et1]
     have e:ints (tabsP (ps.take m))++[.int .i64 ((ps[m].1 - 138) / 128)]=ints (tabsP (ps.take m)++[(ps[m].1 - 138) / 128]):=by unfold Hd.ints; rw [List.map_append]; rfl
     rw [← e]
     exact s8.mono fun b hb=>hb.elim id fun y=>by have:=f3.size; show h2.size≤b; omega
 ·have:m=ps.length:=by omega
  subst this
  rw [List.take_length] at eo el
  have hb:=hK h3 f3
  unfold blocksP at hb
  have k1:∀ (x:Nat),x≤ps.length+1→K (.int .i64 ((x+(if tabsP ps=[] then 0 else 1+(tabsP ps).length):Nat))) h3→bolelaw12_Plain_blocks.k1 tl h3 (x:Int) K:=fun x hx hk=>by
   unfold bolelaw12_Plain_blocks.k1
   refine cd (fun h0=>?_) fun h0=>?_
   ·have hne:tabsP ps≠[]:=fun y=>by rw [y] at el; have:tl=0:=el; omega
    rw [if_neg hne] at hk
    rw [wrap_i64 (n:=(x:Int)+1) (by omega) (by omega),wrap_i64 (by omega) (by omega)]
    have e:(x:Int)+1+(tl:Int)=((x+(1+(tabsP ps).length):Nat):Int):=by omega
    rw [e]; exact hk
   ·have he:tabsP ps=[]:=List.length_eq_zero_iff.mp (by omega)
    rw [if_pos he,Nat.add_zero] at hk; exact hk
  refine cs (fun h1=>?_) fun h1=>?_
  ·rw [← eo,h1,if_pos rfl] at hb
   rw [wrap_i64 (by omega) (by omega)]
   exact k1 (ps.length+1) (Nat.le_refl _) hb
  ·rw [← eo,h1,if_neg (by decide),Nat.add_zero] at hb
   exact k1 ps.length (by omega) hb
theorem bytes_spec {sz:Int} {a:Option Addr} {c off m:Nat} {ps:Ps} {h:Heap} {K:Value→Heap→Prop} (X:SlCells h a (pcsV ps)) (hl:ps.length<100000) (hr:∀ p ∈ ps,p.2.length=512) (h0:0≤sz) (h1:sz≤8459264) (ho:off≤8459264) (hm:m≤10000)
  (hK:∀ h',Fr No h h'→K (.string (mkStr ((List.range (min (m:Int) (sz - off)).toNat).map fun i=>(atP ps (((off+i) / 512:Nat):Int)).getD ((off+i) % 512) 0))) h'):C.bolelaw12_Plain_bytes (plV sz a ps.length c) off m h K:=by
 refine bolelaw12_Plain_bytes.ok (New.intro fun h2 n2=>?_)
 have z2:=n2.size
 refine ⟨fun ba bl bc i hh=>∃ j:Nat,i=((off+j:Nat):Int)∧j≤(min (m:Int) (sz - off)).toNat∧bl=j∧Fr No h hh∧h2.size≤hh.size∧rd hh h.size=plV sz a ps.length c∧Sl hh 1 ba bl bc (((List.range j).map fun i=>(atP ps (((off+i) / 512:Nat):Int)).getD ((off+i) % 512) 0).map bv) (From h2.size),fun _ _ _ i _=>(8470000 - i).toNat+100000,
  ⟨0,rfl,Nat.zero_le _,rfl,n2.fr,Nat.le_refl _,n2.rd,Sl.nil _ _ _⟩,?_⟩
 rintro ba bl bc i h3 ⟨j,ei,hj,rfl,f3,le3,r3,s3⟩
 have fin:¬ bl<(min (m:Int) (sz - off)).toNat→∃ bs2:List UInt8,StrAt h3 ba bl bs2∧K (.string (mkStr bs2)) h3:=fun hn=>by
  have:bl=(min (m:Int) (sz - off)).toNat:=by omega
  refine ⟨_,s3.str,?_⟩
  rw [this]; exact hK h3 f3
 have ew:IntKind.wrap .i64 ((off:Int)+(m:Int))=(off:Int)+m:=wrap_i64 (by omega) (by omega)
 refine ⟨_,rda r3 rfl,cd (fun h5=>?_) fun h5=>fin (by omega)⟩
 rw [ew]
 refine cd (fun h6=>?_) fun h6=>fin (by omega)
 unfold bolelaw12_Plain_bytes.k1
 have e1:IntKind.wrap .i64 (Int.tdiv i 512)=(((off+bl) / 512:Nat):Int):=by rw [Int.tdiv_eq_ediv_of_nonneg (by omega),wrap_i64 (by omega) (by omega)]; omega
 have e2:Int.tmod i 512=(((off+bl) % 512:Nat):Int):=by rw [Int.tmod_eq_emod_of_nonneg (by omega)]; omega
 have la:=atP_len hr (((off+bl) / 512:Nat):Int)
 rw [e1,e2]
 refine ⟨_,rfl,cellsAll r3,atP_spec (SlCells.fr f3 X fun _ _ y=>y) (by omega) fun h4 f4=>⟨_,rfl,⟨by omega,by rw [mk_size,la]; omega⟩,(atP ps (((off+bl) / 512:Nat):Int)).getD ((off+bl) % 512) 0,?_,New.intro fun h5 n5=>⟨_,rfl,cellsAll n5.rd,by intro v hv; rw [List.mem_singleton.mp hv]; rfl,?_⟩⟩⟩
 ·rw [toList_mkStr,Int.toNat_natCast,List.getD_eq_getElem?_getD,List.getElem?_eq_getElem (by omega)]; rfl
 have z4:=f4.size
 have z5:=n5.size
 have lt3:h.size<h3.size:=by omega
 refine append_own (s3.fr (f4.new n5) fun _ _ _ y=>y) rfl rfl (by show (bl+1)*1≤_; omega) (by omega) fun a' c' h6 f6 s6=>⟨⟨bl+1,?_,by omega,rfl,?_,by have:=f6.size; omega,?_,?_⟩,?_⟩
 ·rw [wrap_i64 (by omega) (by omega)]; omega
 ·exact ((f3.no f4).new n5).trans f6 fun b hb y=>by have y:h2.size≤b:=y; omega
 ·exact (f6.rd (by omega) fun y=>by have y:h2.size≤h.size:=y; omega).trans ((n5.at_ (by omega)).trans ((f4.rd lt3 fun y=>y).trans r3))
 ·rw [List.range_succ,List.map_append,List.map_append]
  exact s6.mono fun b hb=>hb.elim id fun y=>by show h2.size≤b; omega
 ·rw [wrap_i64 (by omega) (by omega)]
  show (8470000 - (i+1)).toNat+100000<(8470000 - i).toNat+100000
  omega
end Go.Proofs.YtcdpakjhjmchhaaGreatDoor.Fi
namespace Go.Proofs.YtcdpakjhjmchhaaGreatDoor.Fi
open Go Go.Proofs Wx Hp W Ad Tm Bt Spc Re Av
open Hd (ints)
theorem withGo_end {off a:Nat} {S:Txt} {qs:Ps} (h:S.length≤a):∀ k,withGo off S k a qs=qs
 | 0=>rfl
 | k+1=>by unfold withGo; rw [if_pos h]
theorem putP_len (ps:Ps) (k:Int) (s:Txt):(putP ps k s).length≤ps.length+1:=by
 unfold putP
 rw [List.length_append,List.length_singleton]
 have:=List.length_filter_le (fun p:Int×Txt=>decide (p.1≠k)) ps
 omega
theorem putP_good {ps:Ps} {k:Int} {s:Txt} (h:∀ p ∈ ps,p.2.length=512) (hs:s.length=512):∀ p ∈ putP ps k s,p.2.length=512:=fun p hp=>by
 unfold putP at hp
 rcases List.mem_append.mp hp with hp|hp
 ·exact h p (List.mem_filter.mp hp).1
 ·rw [List.mem_singleton.mp hp]; exact hs
def editV (other cut:Bool) (off:Int) (S:Txt):List Value:=[.bool other,.bool cut,.int .i64 off,.string (mkStr S)]
def nextE (p:Int×Ps) (cut:Bool) (off:Nat) (S:Txt):Int×Ps:=if cut=true then nextC p off else nextW p off S
structure Wg (h:Heap) (eb rb qb:Nat) (ev:List Value) (sz:Int) (ps:Ps) (a0:Option Addr) (off:Nat) (S:Txt) (a:Nat) (hh:Heap) (qs:Ps) (qa:Option Addr) (qc:Nat):Prop where
 fr:Fr No h hh
 ev:rd hh eb=ev
 lt:h.size≤eb∧eb<rb∧rb<qb
 or_:Own hh rb
 lr:(rd hh rb).length=2
 q:rd hh qb=plV sz qa qs.length qc
 oq:Own hh qb
 s:SlCells hh qa (pcsV qs)
 wh:(∀ p,qa=some p→qb<p.block)∨(qa=a0∧qs=ps)
 ln:qs.length≤ps.length+a
 gd:∀ p ∈ qs,p.2.length=512
 eq:∃ k,S.length≤a+k∧withGo off S k a qs=withGo off S S.length 0 ps
theorem with_k2 {h h2 h3 h4 hh:Heap} {sz:Int} {ps qs:Ps} {a0 qa:Option Addr} {qc off a:Nat} {S:Txt} {other cut:Bool} {n7:Int} {I:Int→Heap→Prop} {M:Int→Heap→Nat} {K:Value→Heap→Prop} (w:Wg h h2.size h3.size h4.size (editV other cut off S) sz ps a0 off S a hh qs qa qc) (ha:a<S.length) (hp:ps.length<90000) (ho:off<300000) (hS:S.length≤4000)
  (h24:h2.size+1≤h3.size) (en:n7=((toP off S.length a - (off+a) % 512:Nat):Int)) (hI:∀ h' qs' qa' qc',Wg h h2.size h3.size h4.size (editV other cut off S) sz ps a0 off S (nextA off S.length a) h' qs' qa' qc'→I ((nextA off S.length a:Nat):Int) h'∧M ((nextA off S.length a:Nat):Int) h'<M (a:Int) hh) :
  bolelaw12_Plain_with.k2 h2 h4 (a:Int) hh I M (off:Int) (off:Int) n7 K:=by
 obtain ⟨t1,t2⟩:=toP_gt (off:=off) ha
 obtain ⟨x1,x2⟩:=nextA_gt (off:=off) ha
 have la:=w.ln
 obtain ⟨l1,l2,l3⟩:=w.lt
 have qlt:=w.oq.lt
 have e1:IntKind.wrap .i64 (Int.tdiv (IntKind.wrap .i64 ((off:Int)+(a:Int))) 512)=(((off+a) / 512:Nat):Int):=by
  rw [wrap_i64 (n:=(off:Int)+(a:Int)) (by omega) (by omega),Int.tdiv_eq_ediv_of_nonneg (by omega),wrap_i64 (by omega) (by omega)]; omega
 have e2:Int.tmod (IntKind.wrap .i64 ((off:Int)+(a:Int))) 512=(((off+a) % 512:Nat):Int):=by
  rw [wrap_i64 (n:=(off:Int)+(a:Int)) (by omega) (by omega),Int.tmod_eq_emod_of_nonneg (by omega)]; omega
 have e3:IntKind.wrap .i64 ((a:Int)+n7)=((nextA off S.length a:Nat):Int):=by
  rw [en,wrap_i64 (by omega) (by omega)]; unfold nextA; omega
 have e4:IntKind.wrap .i64 ((((off+a) % 512:Nat):Int)+n7)=((toP off S.length a:Nat):Int):=by
  rw [en,wrap_i64 (by omega) (by omega)]; omega
 have lat:=atP_len w.gd (((off+a) / 512:Nat):Int)
 have t3:toP off S.length a≤(off+a) % 512+(S.length - a):=by unfold toP; omega
 unfold bolelaw12_Plain_with.k2
 rw [e1,e2,e3,e4]
 refine ⟨_,rfl,cellsAll w.q,atP_spec w.s (by omega) fun h20 f20=>⟨_,rfl,_,rfl,cellsAll ((f20.rd qlt fun y=>y).trans w.q),by rw [mk_size,lat]; omega,mkStr S,rda ((f20.rd (by omega) fun y=>y).trans w.ev) rfl,by rw [mk_size]; omega,?_⟩⟩
 have ew:ByteArray.extract (mkStr (atP qs (((off+a) / 512:Nat):Int))) 0 (Int.toNat (((off+a) % 512:Nat):Int))++ByteArray.extract (mkStr S) (Int.toNat (a:Int)) (Int.toNat ((nextA off S.length a:Nat):Int))=mkStr ((atP qs (((off+a) / 512:Nat):Int)).take ((off+a) % 512)++(S.drop a).take (toP off S.length a - (off+a) % 512)):=by
  rw [extract_mk,extract_mk,mk_app,Int.toNat_natCast,Int.toNat_natCast,Int.toNat_natCast,List.drop_zero,Nat.sub_zero]
  have:nextA off S.length a - a=toP off S.length a - (off+a) % 512:=by unfold nextA; omega
  rw [this]
 have ez:ByteArray.extract (mkStr (atP qs (((off+a) / 512:Nat):Int))) (Int.toNat ((toP off S.length a:Nat):Int)) (mkStr (atP qs (((off+a) / 512:Nat):Int))).size=mkStr ((atP qs (((off+a) / 512:Nat):Int)).drop (toP off S.length a)):=by
  rw [extract_mk,mk_size,Int.toNat_natCast,List.take_of_length_le (by rw [List.length_drop]; omega)]
 refine ⟨?_,by rw [mk_size,lat]; omega,?_,?_⟩
 ·rw [extract_mk,extract_mk,mk_size,mk_size,List.length_take,List.length_take,List.length_drop,List.length_drop]; omega
 ·rw [ew,ez,mk_size,mk_size,List.length_append,List.length_take,List.length_take,List.length_drop,List.length_drop]; omega
 rw [ew,ez,mk_app]
 have enp:(atP qs (((off+a) / 512:Nat):Int)).take ((off+a) % 512)++(S.drop a).take (toP off S.length a - (off+a) % 512)++(atP qs (((off+a) / 512:Nat):Int)).drop (toP off S.length a)=newP off a S (atP qs (((off+a) / 512:Nat):Int)):=rfl
 rw [enp]
 refine put_spec (SlCells.fr f20 w.s fun _ _ y=>y) (by omega) fun a' c' h21 f21 s21=>⟨_,rfl,?_⟩
 have f2:=f20.no f21
 have oq2:=f2.own qlt (fun y=>y) w.oq
 have rq2:=(f2.rd qlt fun y=>y).trans w.q
 refine PutRow.intro oq2 rfl (pl_one _ _ _ _) (by rw [rq2]; exact Nat.le_refl _) fun h22 d22=>hI h22 (putP qs (((off+a) / 512:Nat):Int) (newP off a S (atP qs (((off+a) / 512:Nat):Int)))) a' c' ?_
 have z20:=f20.size
 have z21:=f21.size
 have hsz:=w.fr.size
 obtain ⟨k,hk,ek⟩:=w.eq
 refine ⟨(w.fr.no f2).did d22 fun y=>by omega,(d22.at_ (by omega) (by omega)).trans ((f2.rd (by omega) fun y=>y).trans w.ev),w.lt,d22.ow (f2.own w.or_.lt (fun y=>y) w.or_),?_,?_,d22.own,SlCells.fr d22.fr s21.cells fun p ep y=>?_,?_,?_,putP_good w.gd (newP_len ha lat),k - 1,by omega,?_⟩
 ·rw [d22.at_ (by omega) (by omega),f2.rd (by omega) fun y=>y]; exact w.lr
 ·rw [d22.rd,rq2]; exact put_all _ _ rfl
 ·subst ep
  have:=s21.2.2.1
  have this:h20.size≤p.block:=this
  have y:p.block=h4.size:=y
  omega
 ·left
  rintro p rfl
  have:=s21.2.2.1
  have this:h20.size≤p.block:=this
  omega
 ·have:=putP_len qs (((off+a) / 512:Nat):Int) (newP off a S (atP qs (((off+a) / 512:Nat):Int)))
  omega
 ·obtain ⟨k',rfl⟩:∃ k',k=k'+1:=⟨k - 1,by omega⟩
  rw [← ek,Nat.add_sub_cancel]
  conv=>rhs; unfold withGo
  rw [if_neg (by omega)]
theorem with_spec {sz:Int} {a:Option Addr} {c off:Nat} {ps:Ps} {S:Txt} {other cut:Bool} {h:Heap} {K:Value→Heap→Prop} (X:SlCells h a (pcsV ps)) (hp:ps.length<90000) (hr:∀ p ∈ ps,0≤p.1∧p.1<16522∧p.2.length=512) (ho:off<300000) (hS:S.length≤4000)
  (hK:∀ a' c' h',Fr No h h'→SlCells h' a' (pcsV (nextE (sz,ps) cut off S).2)→((∀ p,a'=some p→h.size≤p.block)∨(a'=a∧(nextE (sz,ps) cut off S).2=ps))→K (.agg ⟨plV (nextE (sz,ps) cut off S).1 a' (nextE (sz,ps) cut off S).2.length c'⟩) h') :
  C.bolelaw12_Plain_with (plV sz a ps.length c) (editV other cut off S) h K:=by
 refine bolelaw12_Plain_with.ok (New.intro fun h2 n2=>New.intro fun h3 n3=>New.intro fun h4 n4=>⟨cut,rda ((n4.at_ n3.own.lt).trans n3.rd) rfl,?_⟩)
 have z2:=n2.size
 have z3:=n3.size
 have z4:=n4.size
 have F4:Fr No h h4:=(n2.fr.new n3).new n4
 have re4:rd h4 h2.size=editV other cut off S:=(n4.at_ n3.own.lt).trans n3.rd
 have rp4:rd h4 h.size=plV sz a ps.length c:=(n4.at_ (by omega)).trans ((n3.at_ (by omega)).trans n2.rd)
 refine cs (fun hc=>?_) fun hc=>?_
 ·-- cut
  subst hc
  refine ⟨off,rda re4 rfl,NewRow.intro rfl (one2 rfl rfl) rfl fun h6 n6=>⟨_,_,_,rda ((n6.at_ (by omega)).trans rp4) rfl,?_⟩⟩
  have z6:=n6.size
  have ff:∀ {hx hy:Heap},Fr No h hx→Fr (fun b=>h6.size≤b∨b=h4.size) hx hy→Fr No h hy:=fun f g=>f.trans g fun b hb y=>by omega
  refine ⟨fun i hh=>∃ (m:Nat) (a':Option Addr) (c':Nat),i=m∧m≤ps.length∧Fr No h hh∧h6.size≤hh.size∧Rw h6.size hh h4.size off (cutP off (ps.take m)) a' c'∧Own hh h3.size∧(rd hh h3.size).length=2∧rd hh h2.size=editV other true off S,fun i _=>((ps.length:Int) - i).toNat,
   ⟨0,none,0,rfl,Nat.zero_le _,F4.new n6,Nat.le_refl _,⟨n6.rd,n6.own,Sl.nil _ _ _⟩,n6.ow n4.own,by rw [n6.at_ n4.own.lt,n4.rd]; rfl,(n6.at_ (by omega)).trans re4⟩,?_⟩
  rintro i h7 ⟨m,a',c',ei,hm,f7,le7,R7,o7,l7,re7⟩
  have lq:(cutP off (ps.take m)).length≤m:=Nat.le_trans (List.length_filterMap_le _ _) (by rw [List.length_take]; omega)
  refine cd (fun hlt=>⟨⟨by omega,hlt⟩,?_⟩) fun hlt=>?_
  ·have hm':m<ps.length:=by omega
   obtain ⟨p,rfl,cp⟩:=pcs_at (SlCells.fr f7 X fun _ _ y=>y) hm'
   have ein:i.toNat=m:=by omega
   have et:ps.take (m+1)=ps.take m++[ps[m]]:=take_snoc ps m hm'
   have ec:cutP off (ps.take (m+1))=cutP off (ps.take m)++(cut1 off ps[m]).toList:=by
    rw [et]; unfold cutP; rw [List.filterMap_append,List.filterMap_cons]
    cases cut1 off ps[m] <;> rfl
   obtain ⟨r0,r1,r2⟩:=hr ps[m] (List.getElem_mem hm')
   refine os ⟨pieceV ps[m],rfl,by rw [ein]; exact cp,NewRow.intro rfl (piece_one _) rfl fun h9 n9=>?_⟩
   have z9:=n9.size
   have o9:=n9.ow o7
   have lt7:=o7.lt
   have l9:(rd h9 h3.size).length=2:=by rw [n9.at_ lt7]; exact l7
   have re9:rd h9 h2.size=editV other true off S:=(n9.at_ (by omega)).trans re7
   have R9:=R7.no n9.fr
   rw [wrap_i64 (n:=i+1) (by omega) (by omega)]
   refine ⟨off,rda re9 rfl,_,rda n9.rd rfl,?_⟩
   have ew:IntKind.wrap .i64 ((off:Int) - IntKind.wrap .i64 (512*ps[m].1))=(off:Int) - 512*ps[m].1:=by
    rw [wrap_i64 (n:=512*ps[m].1) (by omega) (by omega),wrap_i64 (by omega) (by omega)]
   rw [ew]
   have fin:∀ (hx:Heap) (q:Int×Txt),cut1 off ps[m]=some q→Fr No h hx→h9.size≤hx.size→rd hx h7.size=pieceV q→Rw h6.size hx h4.size off (cutP off (ps.take m)) a' c'→Own hx h3.size→(rd hx h3.size).length=2→rd hx h2.size=editV other true off S →
     bolelaw12_Plain_with.k1 h4 i h7 (fun i hh=>∃ (m:Nat) (a':Option Addr) (c':Nat),i=m∧m≤ps.length∧Fr No h hh∧h6.size≤hh.size∧Rw h6.size hh h4.size off (cutP off (ps.take m)) a' c'∧Own hh h3.size∧(rd hh h3.size).length=2∧rd hh h2.size=editV other true off S) (fun i _=>((ps.length:Int) - i).toNat) hx K:=fun hx q e1 fx lex rx Rx ox lx ex=>by
    unfold bolelaw12_Plain_with.k1
    rw [wrap_i64 (n:=i+1) (by omega) (by omega)]
    refine ⟨_,_,_,rda Rx.r rfl,pieceV q,rfl,cellsAll rx,rfl,Rx.push (by omega) (by omega) (by omega) q fun h11 a2 c2 f11 R11=>⟨⟨m+1,a2,c2,by omega,by omega,ff fx f11,by have:=f11.size; omega,?_,f11.own (by omega) (by omega) ox,by rw [f11.rd (by omega) (by omega)]; exact lx,(f11.rd (by omega) (by omega)).trans ex⟩,falls hlt⟩⟩
    rw [ec,e1]; exact R11
   refine cd (fun c0=>⟨⟨m+1,a',c',by omega,by omega,f7.new n9,by omega,?_,o9,l9,re9⟩,falls hlt⟩) fun c0=>cd (fun c5=>?_) fun c5=>?_
   ·have:cut1 off ps[m]=none:=by unfold cut1; rw [if_pos c0]
    rw [ec,this,Option.toList_none,List.append_nil]; exact R9
   ·obtain ⟨x,ex⟩:∃ x:Nat,(off:Int) - 512*ps[m].1=x:=⟨((off:Int) - 512*ps[m].1).toNat,by omega⟩
    rw [ex] at c5 c0 ⊢
    have e5:IntKind.wrap .i64 (512 - (x:Int))=((512 - x:Nat):Int):=by rw [wrap_i64 (by omega) (by omega)]; omega
    rw [e5,Int.toNat_natCast,Int.toNat_natCast]
    refine ⟨_,rda n9.rd rfl,by rw [mk_size]; omega,⟨by omega,by omega,by omega,by omega⟩,New.intro fun h10 n10=>⟨rda ((n10.at_ (by omega)).trans n9.rd) rfl,List.replicate (512 - x) 0,strAll (n10.rd.trans (rep_u8 _)) List.length_replicate,?_,?_⟩⟩
    ·rw [extract_mk,mk_size,mk_size,List.length_take,List.length_replicate]; omega
    ·have z10:=n10.size
     refine Put.add (n10.ow n9.own) (by rw [n10.at_ (by omega),n9.rd]; show 0+1<2; decide) fun h11 d11=>?_
     have z11:=d11.size
     have r10:rd h10 h7.size=pieceV ps[m]:=(n10.at_ (by omega)).trans n9.rd
     refine fin h11 (ps[m].1,ps[m].2.take x++List.replicate (512 - x) 0) ?_ (((f7.new n9).new n10).did d11 fun y=>by have:=f7.size; omega) (by omega) ?_ ((R9.no n10.fr).did2 d11 (by omega) (by omega) fun p ep=>by subst ep; exact R7.s.lt) (d11.ow (n10.ow o9)) ?_ ?_
     ·unfold cut1; rw [ex,if_neg (by omega),if_pos (by omega),Int.toNat_natCast]
     ·rw [d11.rd,r10,extract_mk,mk_app]; rfl
     ·rw [d11.at_ (by omega) (by omega),n10.at_ (by omega)]; exact l9
     ·rw [d11.at_ (by omega) (by omega),n10.at_ (by omega)]; exact re9
   ·exact fin h9 ps[m] (by unfold cut1; rw [if_neg c0,if_neg c5]) (f7.new n9) (Nat.le_refl _) n9.rd R9 o9 l9 re9
  ·have:m=ps.length:=by omega
   subst this
   rw [List.take_length] at R7
   have lt7:=o7.lt
   refine ⟨_,rfl,cellsAll R7.r,PutRow.intro o7 rfl (pl_one _ _ _ _) (by rw [l7]; decide) fun h16 d16=>⟨plV off a' (cutP off ps).length c',rfl,cellsAll (by rw [d16.rd]; exact put_all _ _ (by rw [l7]; rfl)),?_⟩⟩
   refine hK a' c' h16 (f7.did d16 fun y=>by omega) (R7.did d16 (by omega) (by omega)).s.cells (.inl fun p ep=>?_)
   subst ep
   have:=R7.s.2.2.1
   have this:h6.size≤p.block:=this
   omega
 ·-- written
  subst hc
  refine ⟨_,rfl,cellsAll rp4,NewRow.intro rfl (pl_one _ _ _ _) rfl fun h18 n18=>?_⟩
  have z18:=n18.size
  have W0:Wg h h2.size h3.size h4.size (editV other false off S) sz ps a off S 0 h18 ps a c:=⟨F4.new n18,(n18.at_ (by omega)).trans re4,by omega,n18.ow n4.own,by rw [n18.at_ n4.own.lt,n4.rd]; rfl,n18.rd,n18.own,SlCells.fr (F4.new n18) X fun _ _ y=>y,.inr ⟨rfl,rfl⟩,Nat.le_refl _,fun p hp=>(hr p hp).2.2,S.length,by omega,rfl⟩
  refine ⟨fun i hh=>∃ (m:Nat) (qs:Ps) (qa:Option Addr) (qc:Nat),i=m∧m≤S.length∧Wg h h2.size h3.size h4.size (editV other false off S) sz ps a off S m hh qs qa qc,fun i _=>((S.length:Int) - i).toNat,⟨0,ps,a,c,rfl,Nat.zero_le _,W0⟩,?_⟩
  rintro i h19 ⟨m,qs,qa,qc,ei,hm,w⟩
  obtain ⟨l1,l2,l3⟩:=w.lt
  subst ei
  refine ⟨mkStr S,rda w.ev rfl,?_⟩
  rw [mk_size]
  refine cd (fun hlt=>⟨off,rda w.ev rfl,off,rda w.ev rfl,mkStr S,rda w.ev rfl,?_⟩) fun hlt=>⟨mkStr S,rda w.ev rfl,?_⟩
  ·have hm':m<S.length:=by omega
   obtain ⟨x1,x2⟩:=nextA_gt (off:=off) hm'
   obtain ⟨t1,t2⟩:=toP_gt (off:=off) hm'
   rw [mk_size]
   have e2:Int.tmod (IntKind.wrap .i64 ((off:Int)+(m:Int))) 512=(((off+m) % 512:Nat):Int):=by
    rw [wrap_i64 (n:=(off:Int)+(m:Int)) (by omega) (by omega),Int.tmod_eq_emod_of_nonneg (by omega)]; omega
   rw [e2,wrap_i64 (n:=512 - (((off+m) % 512:Nat):Int)) (by omega) (by omega),wrap_i64 (n:=(S.length:Int) - (m:Int)) (by omega) (by omega)]
   have go:∀ n7:Int,n7=((toP off S.length m - (off+m) % 512:Nat):Int)→bolelaw12_Plain_with.k2 h2 h4 (m:Int) h19 (fun i hh=>∃ (m:Nat) (qs:Ps) (qa:Option Addr) (qc:Nat),i=m∧m≤S.length∧Wg h h2.size h3.size h4.size (editV other false off S) sz ps a off S m hh qs qa qc) (fun i _=>((S.length:Int) - i).toNat) (off:Int) (off:Int) n7 K:=fun n7 e7 =>
    with_k2 w hm' hp ho hS (by omega) e7 fun h' qs' qa' qc' w'=>⟨⟨_,qs',qa',qc',rfl,x2,w'⟩,by show ((S.length:Int) - ((nextA off S.length m:Nat):Int)).toNat<((S.length:Int) - (m:Int)).toNat; omega⟩
   refine cd (fun c0=>⟨mkStr S,rda w.ev rfl,?_⟩) fun c0=>go _ ?_
   ·rw [mk_size]
    rw [wrap_i64 (n:=(S.length:Int) - (m:Int)) (by omega) (by omega)]
    refine go _ ?_
    unfold toP; omega
   ·unfold toP; omega
  ·obtain ⟨k,_,ek⟩:=w.eq
   rw [withGo_end (by omega)] at ek
   have lt3:=w.or_.lt
   rw [mk_size]
   have e2:(nextW (sz,ps) off S).2=qs:=ek.symm
   have out:∀ (sz':Int) (hx:Heap),Fr No h hx→Fr (fun b=>b=h4.size) h19 hx→(nextW (sz,ps) off S).1=sz'→rd hx h4.size=plV sz' qa qs.length qc →
     ∃ cs8:List Value,List.length cs8=2∧Cells hx ⟨h4.size,0,none⟩ cs8∧PutRow ⟨h3.size,0,none⟩ cs8 2 hx fun h24=>∃ res2:List Value,List.length res2=2∧Cells h24 ⟨h3.size,0,none⟩ res2∧K (.agg ⟨res2⟩) h24:=fun sz' hx fx gx es rx=>by
    have n34:¬ h3.size=h4.size:=by omega
    have lx:(rd hx h3.size).length=2:=by rw [gx.rd lt3 n34]; exact w.lr
    refine ⟨_,rfl,cellsAll rx,PutRow.intro (gx.own lt3 n34 w.or_) rfl (pl_one _ _ _ _) (by rw [lx]; decide) fun h24 d24=>⟨plV sz' qa qs.length qc,rfl,cellsAll (by rw [d24.rd]; exact put_all _ _ (by rw [lx]; rfl)),?_⟩⟩
    have k:=hK qa qc h24 (fx.did d24 fun y=>by omega)
    have en:nextE (sz,ps) false off S=nextW (sz,ps) off S:=rfl
    rw [en,e2,es] at k
    rcases w.wh with hw|⟨hw,hq⟩
    ·refine k (SlCells.fr d24.fr (SlCells.fr gx w.s fun p ep y=>?_) fun p ep y=>?_) (.inl fun p ep=>?_)
     ·have:=hw p ep; have y:p.block=h4.size:=y; omega
     ·have:=hw p ep; have y:p.block=h3.size:=y; omega
     ·have:=hw p ep; omega
    ·refine k ?_ (.inr ⟨hw,hq⟩)
     rw [hw,hq]
     exact SlCells.fr (fx.did d24 fun y=>by omega) X fun _ _ y=>y
   have e1:(nextW (sz,ps) off S).1=if 0<S.length∧((off+S.length:Nat):Int)>sz then ((off+S.length:Nat):Int) else sz:=rfl
   refine cd (fun c0=>⟨off,rda w.ev rfl,mkStr S,rda w.ev rfl,sz,rda w.q rfl,?_⟩) fun c0=>out sz h19 w.fr (Fr.refl _ _) (by rw [e1,if_neg (by omega)]) w.q
   rw [mk_size,wrap_i64 (n:=(off:Int)+(S.length:Int)) (by omega) (by omega)]
   refine cd (fun c1=>⟨off,rda w.ev rfl,mkStr S,rda w.ev rfl,?_⟩) fun c1=>out sz h19 w.fr (Fr.refl _ _) (by rw [e1,if_neg (by omega)]) w.q
   rw [mk_size,wrap_i64 (n:=(off:Int)+(S.length:Int)) (by omega) (by omega)]
   refine Put.add w.oq (by rw [w.q]; show 0+0<2; decide) fun h23 d23=>?_
   refine out ((off+S.length:Nat):Int) h23 (w.fr.did d23 fun y=>by omega) d23.fr (by rw [e1,if_pos (by omega)]) ?_
   rw [d23.rd,w.q]
   have:(off:Int)+(S.length:Int)=((off+S.length:Nat):Int):=by omega
   rw [this]; rfl
end Go.Proofs.YtcdpakjhjmchhaaGreatDoor.Fi
namespace Go.Proofs.YtcdpakjhjmchhaaGreatDoor.Fi
open Go Go.Proofs Wx Hp W Ad Tm Bt Spc Re Av
open Hd (ints)
open In (Glo ints_length ints_one mayR decA encR encR_length)
open Bm (num nS path many edge Z0 num_nil free_as)
theorem Mod_spec {v:Int} {m:Nat} {h:Heap} {K:Value→Heap→Prop} (hm:0<m) (hm2:m≤9223372036854775807) (hK:∀ x:Nat,x<m→(x:Int)=v % m→K (.int .i64 (x:Int)) h):C.bolelaw12_mod v (m:Nat) h K:=by
 have h1:=Int.emod_lt_of_pos v (b:=(m:Int)) (by omega)
 have h0:=Int.emod_nonneg v (b:=(m:Int)) (by omega)
 have fin:∀ x:Int,x=v % m→K (.int .i64 x) h:=fun x e=>by
  have:=hK (v % (m:Int)).toNat (by omega) (by omega)
  rw [e]
  rw [show (((v % (m:Int)).toNat:Nat):Int)=v % (m:Int) by omega] at this
  exact this
 refine bolelaw12_mod.ok ?_
 unfold bolelaw12_mod
 rw [if_neg (by omega)]
 have e1:Int.tmod v m=if 0≤v∨v % m=0 then v % m else v % m - m:=by
  rw [Int.tmod_eq_emod]
  by_cases c:0≤v∨(m:Int)∣v
  ·rw [if_pos c,if_pos (c.imp id fun y=>Int.emod_eq_zero_of_dvd y)]; omega
  ·rw [if_neg c,if_neg (fun y=>c (y.imp id fun z=>Int.dvd_of_emod_eq_zero z))]; simp
 rw [e1]
 by_cases c:0≤v∨v % (m:Int)=0
 ·rw [if_pos c]
  exact cf (decide_eq_false (by omega)) (fin _ rfl)
 ·rw [if_neg c]
  refine ct (decide_eq_true (by omega)) ?_
  rw [wrap_i64 (by omega) (by omega)]
  exact fin _ (by omega)
theorem blk_lt {Z:Nat→Txt} {T:TM} {R:List Int} {n i j:Nat} {S:List Int} (f:Fs n Z T i R j S) (d:Dim n):(getF T (geoN n) i).2=0→(Bm.allM T (geoN n) (getF T (geoN n) i).1).1.length+(Bm.allM T (geoN n) (getF T (geoN n) i).1).2.1.length<1000000000000:=fun _=>by
 rw [f.get d]
 show (Bm.allM T (geoN n) R).1.length+(Bm.allM T (geoN n) R).2.1.length<1000000000000
 have:=(all_len f.av f.w).2
 have:=many_le Z R
 omega
section
variable {h1 hh : Heap} {t d : Option Addr} {F : Nat → Prop}
end
end Go.Proofs.YtcdpakjhjmchhaaGreatDoor.Fi
namespace Go.Proofs.YtcdpakjhjmchhaaGreatDoor.Fi
open Go Go.Proofs Wx Hp W Ad Tm Bt Spc Re Av
open Hd (ints)
open In (Glo mayR encR)
open Bm (num nS many free_as Z0)
theorem pcs_keep {hh h':Heap} {G:Nat→Prop} {a:Option Addr} {ps:Ps} (s:SlCells hh a (pcsV ps)) (f:Fr G hh h') (h:∀ x,a=some x→ps≠[]→¬ G x.block):SlCells h' a (pcsV ps):=by
 by_cases e:ps=[]
 ·subst e
  cases a with
  | none=>rfl
  | some x=>exact Cells.nil _ _
 ·exact SlCells.fr f s fun x ex=>h x ex e
theorem pcs_lt {hh:Heap} {a:Option Addr} {ps:Ps} (s:SlCells hh a (pcsV ps)) {x:Addr} (e:a=some x) (h:ps≠[]):x.block<hh.size:=by
 subst e
 obtain ⟨p,r,rfl⟩:∃ p r,ps=p::r:=by
  cases ps with
  | nil=>exact absurd rfl h
  | cons p r=>exact ⟨p,r,rfl⟩
 have c:cellOf hh (x.add 0)=some (.int .i64 p.1):=s 0 _ rfl
 obtain ⟨_,e⟩:=cellOf_some c
 exact rd_lt e
structure PcB (h1 hh:Heap) (F:Nat→Prop) (nb:Nat) (a:Option Addr) (ps:Ps):Prop where
 s:SlCells hh a (pcsV ps)
 b:∀ x,a=some x→ps≠[]→h1.size≤x.block∧x.block≠nb∧¬ F x.block
section
variable {h1 hh h' : Heap} {F F' : Nat → Prop} {nb : Nat} {a : Option Addr} {ps : Ps}
theorem PcB.no (c:PcB h1 hh F nb a ps) (f:Fr No hh h'):PcB h1 h' F nb a ps:=⟨SlCells.fr f c.s fun _ _ y=>y,c.b⟩
theorem PcB.call (c:PcB h1 hh F nb a ps) (f:Fr F hh h') (g:Gw hh F h' F'):PcB h1 h' F' nb a ps :=
 ⟨pcs_keep c.s f fun x e h=>(c.b x e h).2.2,fun x e h=>⟨(c.b x e h).1,(c.b x e h).2.1,fun y=>(c.b x e h).2.2 ((g.old _ (pcs_lt c.s e h)).mp y)⟩⟩
theorem PcB.did {cs:List Value} (c:PcB h1 hh F nb a ps) (d:Did nb hh h' cs):PcB h1 h' F nb a ps:=⟨pcs_keep c.s d.fr fun x e h y=>(c.b x e h).2.1 y,c.b⟩
end
def nowV (v:Nat→Int×Ps) (a:Nat→Option Addr) (c:Nat→Nat):List Value:=plV (v 0).1 (a 0) (v 0).2.length (c 0)++plV (v 1).1 (a 1) (v 1).2.length (c 1)
theorem now_one (v:Nat→Int×Ps) (a:Nat→Option Addr) (c:Nat→Nat) {k:Nat} (hk:k<2):((nowV v a c).drop (0+k*2)).take 2=plV (v k).1 (a k) (v k).2.length (c k):=by
 rcases (by omega:k=0∨k=1) with rfl|rfl <;> rfl
structure Mm (h1:Heap) (gb nb:Nat) (hh:Heap) (F:Nat→Prop) (v:Nat→Int×Ps) (a:Nat→Option Addr) (c:Nat→Nat):Prop where
 r:rd hh nb=nowV v a c
 o:Own hh nb
 lo:h1.size≤nb
 ne:nb≠gb
 nf:¬ F nb
 b:∀ k,k<2→PcB h1 hh F nb (a k) (v k).2
section
variable {h1 hh h' : Heap} {F F' : Nat → Prop} {gb nb : Nat} {v : Nat → Int × Ps} {a : Nat → Option Addr} {c : Nat → Nat}
theorem Mm.no (m:Mm h1 gb nb hh F v a c) (f:Fr No hh h'):Mm h1 gb nb h' F v a c :=
 ⟨(f.rd m.o.lt fun y=>y).trans m.r,f.own m.o.lt (fun y=>y) m.o,m.lo,m.ne,m.nf,fun k hk=>(m.b k hk).no f⟩
theorem Mm.call (m:Mm h1 gb nb hh F v a c) (f:Fr F hh h') (g:Gw hh F h' F'):Mm h1 gb nb h' F' v a c :=
 ⟨(f.rd m.o.lt m.nf).trans m.r,f.own m.o.lt m.nf m.o,m.lo,m.ne,fun y=>m.nf ((g.old _ m.o.lt).mp y),fun k hk=>(m.b k hk).call f g⟩
theorem Mm.cells (m:Mm h1 gb nb hh F v a c) {k:Nat} (hk:k<2):Cells hh (Addr.add ⟨nb,0,none⟩ (k*2)) (plV (v k).1 (a k) (v k).2.length (c k)):=cellsa m.r (by rw [show (plV (v k).1 (a k) (v k).2.length (c k)).length=2 from rfl]; exact now_one v a c hk)
end
structure Md (n:Nat) (Z:Nat→Txt) (T:TM) (R:Nat→List Int) (v:Nat→Int×Ps):Prop where
 fs:Fs n Z T 2 (R 0) 3 (R 1)
 p:∀ k,k<2→Pf Z (R k) (v k)
section
variable {n : Nat} {Z : Nat → Txt} {T : TM} {R : Nat → List Int} {v : Nat → Int × Ps}
theorem Md.at_ (m:Md n Z T R v) {k:Nat} (hk:k<2):Fs n Z T (2+k) (R k) (3 - k) (R (1 - k)):=by
 rcases (by omega:k=0∨k=1) with rfl|rfl
 ·exact m.fs
 ·exact m.fs.sym
theorem Md.len (m:Md n Z T R v) {k:Nat} (hk:k<2):(v k).2.length<90000:=by
 have P:=(m.p k hk).P
 have:=nodup_len (m:=(List.range 16522).map fun i:Nat=>((i:Nat):Int)) P.nd fun x hx=>by
  obtain ⟨p,hp,rfl⟩:=List.mem_map.mp hx
  obtain ⟨h0,h1,_⟩:=P.rng p hp
  exact List.mem_map.mpr ⟨p.1.toNat,List.mem_range.mpr (by omega),by omega⟩
 rw [List.length_map,List.length_map,List.length_range] at this
 omega
theorem Md.blocks (m:Md n Z T R v) {k:Nat} (hk:k<2):blocksP (v k).2=many Z (R k):=(m.p k hk).blocks (m.at_ hk).tg
theorem Md.set (_:Md n Z T R v) {Z':Nat→Txt} {T':TM} {R':List Int} {w:Int×Ps} {k:Nat} (hk:k<2) (f:Fs n Z' T' (2+k) R' (3 - k) (R (1 - k))) (a:Pf Z' R' w) (b:Pf Z' (R (1 - k)) (v (1 - k))) :
  Md n Z' T' (fun x=>if x=k then R' else R x) (fun x=>if x=k then w else v x):=by
 rcases (by omega:k=0∨k=1) with rfl|rfl
 ·refine ⟨f,fun x hx=>?_⟩
  rcases (by omega:x=0∨x=1) with rfl|rfl
  ·exact a
  ·exact b
 ·refine ⟨f.sym,fun x hx=>?_⟩
  rcases (by omega:x=0∨x=1) with rfl|rfl
  ·exact b
  ·exact a
end
def PlI (n:Nat) (h1:Heap) (gb nb:Nat) (t d:Option Addr):Int→Heap→Prop:=fun i hh =>
 ∃ (m:Nat) (F:Nat→Prop) (T:TM) (Z:Nat→Txt) (R:Nat→List Int) (v:Nat→Int×Ps) (a:Nat→Option Addr) (c:Nat→Nat),i=m∧m≤24∧T.undo.length≤100000*m∧T.put.length≤1000000∧Ly n h1 gb t d hh F T∧Mm h1 gb nb hh F v a c∧Md n Z T R v
def PlM : Int→Heap→Nat:=fun i _=>(24 - i).toNat
def plTail (h3:Heap) (q1:Option Addr) (h5:Heap) (nA n5:Int) (h7:Heap) (I1:Int→Heap→Prop) (M1:Int→Heap→Nat) (hx:Heap) (K:Value→Heap→Prop):Prop :=
 ∃ cs14:List Value,List.length cs14=5∧Cells hx ⟨h3.size,0,none⟩ cs14 ∧
 C.file_Blocks q1 cs14 2 hx fun r14 h31 =>
 ∃ (n16:Int) (n17:Int),r14 = .tuple #[.int .i64 n16,.int .i64 n17] ∧
 ∃ cs15:List Value,List.length cs15=5∧Cells h31 ⟨h3.size,0,none⟩ cs15 ∧
 C.file_Blocks q1 cs15 3 h31 fun r15 h32 =>
 ∃ (n18:Int) (n19:Int),r15 = .tuple #[.int .i64 n18,.int .i64 n19] ∧
 ∃ cs16:List Value,List.length cs16=5∧Cells h32 ⟨h3.size,0,none⟩ cs16 ∧
 C.space_Free q1 cs16 h32 fun r16 h33 =>
 ∃ (n20:Int) (n21:Int),r16 = .tuple #[.int .i64 n20,.int .i64 n21] ∧
 bif (n17 != 0) then (
 K (.bool false) h33) else (
 bif (n19 != 0) then (
 K (.bool false) h33) else (
 bif (n21 != 0) then (
 K (.bool false) h33) else (
 (0≤(0:Int)∧0<(2:Int)) ∧
 ∃ cs17:List Value,List.length cs17=2∧Cells h33 (Addr.add ⟨h5.size,0,none⟩ ((Int.toNat 0)*2)) cs17 ∧
 C.bolelaw12_Plain_blocks cs17 h33 fun r17 h34 =>
 ∃ (n22:Int),r17 = .int .i64 n22 ∧
 bif (n16 != n22) then (
 K (.bool false) h34) else (
 (0≤(1:Int)∧1<(2:Int)) ∧
 ∃ cs18:List Value,List.length cs18=2∧Cells h34 (Addr.add ⟨h5.size,0,none⟩ ((Int.toNat 1)*2)) cs18 ∧
 C.bolelaw12_Plain_blocks cs18 h34 fun r18 h35 =>
 ∃ (n23:Int),r18 = .int .i64 n23 ∧
 bif (n18 != n23) then (
 K (.bool false) h35) else (
 bif (n20 != (IntKind.wrap .i64 ((IntKind.wrap .i64 (nA - n16)) - n18))) then (
 K (.bool false) h35) else (
 I1 (IntKind.wrap .i64 (n5+1)) h35∧M1 (IntKind.wrap .i64 (n5+1)) h35<M1 n5 h7))))))
section
variable {n m : Nat} {h1 hh h3 h5 h7 : Heap} {F : Nat → Prop} {t d : Option Addr} {T : TM} {Z : Nat → Txt} {R : Nat → List Int} {v : Nat → Int × Ps} {a : Nat → Option Addr} {c : Nat → Nat} {K : Value → Heap → Prop}
theorem Mm.blocks (w:Mm h1 h3.size h5.size hh F v a c) (md:Md n Z T R v) {k:Nat} (hk:k<2) {k1:Value→Heap→Prop} (hK:∀ h',Fr No hh h'→k1 (.int .i64 (many Z (R k):Nat)) h') :
  C.bolelaw12_Plain_blocks (plV (v k).1 (a k) (v k).2.length (c k)) hh k1 :=
 blocks_spec (w.b k hk).s (by have:=md.len hk; omega) (fun p hp=>⟨((md.p k hk).P.rng p hp).1,((md.p k hk).P.rng p hp).2.1⟩) fun h' f=>by rw [md.blocks hk]; exact hK h' f
theorem tail_spec (dm:Dim n) (hn:n≤187) (ly:Ly n h1 h3.size t d hh F T) (w:Mm h1 h3.size h5.size hh F v a c) (md:Md n Z T R v) (hm:m<24) (hu:T.undo.length≤100000*(m+1)) (hp:T.put.length≤1000000) :
  plTail h3 t h5 ((n:Int) - ((geoN n).data:Nat)) (m:Int) h7 (PlI n h1 h3.size h5.size t d) PlM hh K:=by
 have f0:=md.fs
 have f1:Fs n Z T 3 (R 1) 2 (R 0):=md.fs.sym
 have tot:=f0.tot
 have hd:=dm.data
 unfold plTail
 refine ly.blocks dm (f0.blocks dm) (blk_lt f0 dm) fun h31 c31 f31=>⟨_,_,rfl,c31.blocks dm (f1.blocks dm) (blk_lt f1 dm) fun h32 c32 f32=>⟨_,_,rfl,_,rfl,cellsAll c32.rg,free_as dm c32.x f0.av fun h33 f33=>⟨_,_,rfl,cn (fun y=>absurd rfl y) fun _=>cn (fun y=>absurd rfl y) fun _=>cn (fun y=>absurd rfl y) fun _=>⟨by decide,plV (v 0).1 (a 0) (v 0).2.length (c 0),rfl,?_⟩⟩⟩⟩
 have w33:=((w.no f31).no f32).no f33
 refine ⟨w33.cells (k:=0) (by decide),w33.blocks md (k:=0) (by decide) fun h34 f34=>⟨_,rfl,cn (fun y=>absurd rfl y) fun _=>⟨by decide,plV (v 1).1 (a 1) (v 1).2.length (c 1),rfl,(w33.no f34).cells (k:=1) (by decide),(w33.no f34).blocks md (k:=1) (by decide) fun h35 f35=>⟨_,rfl,cn (fun y=>absurd rfl y) fun _=>?_⟩⟩⟩⟩
 rw [wrap_i64 (n:=(n:Int) - ((geoN n).data:Nat) - (many Z (R 0):Nat)) (by omega) (by omega),wrap_i64 (n:=(n:Int) - ((geoN n).data:Nat) - (many Z (R 0):Nat) - (many Z (R 1):Nat)) (by omega) (by omega),wrap_i64 (n:=(m:Int)+1) (by omega) (by omega)]
 refine cn (fun y=>absurd (by omega) y) fun _=>⟨⟨m+1,F,T,Z,R,v,a,c,by omega,by omega,hu,hp,(c32.no f33).no (f34.no f35),w33.no (f34.no f35),md⟩,by show (24 - ((m:Int)+1)).toNat<(24 - (m:Int)).toNat; omega⟩
end
end Go.Proofs.YtcdpakjhjmchhaaGreatDoor.Fi
namespace Go.Proofs.YtcdpakjhjmchhaaGreatDoor.Fi
open Go Go.Proofs Wx Hp W Ad Tm Bt Spc Re Av
open Hd (ints)
open In (Glo mayR encR)
open Bm (num nS many free_as Z0)
theorem tabsP_le (ps:Ps):(tabsP ps).length≤ps.length:=by
 have:∀ (ps:Ps) (tb:List Int),(ps.foldl (fun tb p=>if p.1<138 then tb else if (p.1 - 138) / 128 ∈ tb then tb else tb++[(p.1 - 138) / 128]) tb).length≤tb.length+ps.length:=by
  intro ps
  induction ps with
  | nil=>intro tb; exact Nat.le_refl _
  | cons p r ih =>
   intro tb
   rw [List.foldl_cons,List.length_cons]
   refine Nat.le_trans (ih _) ?_
   split
   ·omega
   ·split
    ·omega
    ·rw [List.length_append,List.length_singleton]; omega
 have:=this ps []
 simpa [tabsP] using this
theorem blocksP_le (ps:Ps):blocksP ps≤2*ps.length+2:=by
 have:=tabsP_le ps
 unfold blocksP
 split <;> split <;> omega
theorem PlA.len {ps:Ps} {B:Nat→UInt8} {D:Nat→Prop} (P:PlA ps B D):ps.length<90000:=by
 have:=nodup_len (m:=(List.range 16522).map fun i:Nat=>((i:Nat):Int)) P.nd fun x hx=>by
  obtain ⟨p,hp,rfl⟩:=List.mem_map.mp hx
  obtain ⟨h0,h1,_⟩:=P.rng p hp
  exact List.mem_map.mpr ⟨p.1.toNat,List.mem_range.mpr (by omega),by omega⟩
 rw [List.length_map,List.length_map,List.length_range] at this
 omega
theorem now_put (v:Nat→Int×Ps) (a:Nat→Option Addr) (c:Nat→Nat) {k:Nat} (hk:k<2) (w:Int×Ps) (aw:Option Addr) (cw:Nat) :
  put (nowV v a c) (0+k*2) (plV w.1 aw w.2.length cw)=nowV (fun x=>if x=k then w else v x) (fun x=>if x=k then aw else a x) (fun x=>if x=k then cw else c x):=by
 rcases (by omega:k=0∨k=1) with rfl|rfl <;> rfl
section
variable {n m k : Nat} {h1 hh h3 h5 h7 : Heap} {F : Nat → Prop} {t d : Option Addr} {T : TM} {Z : Nat → Txt} {R : Nat → List Int} {v : Nat → Int × Ps} {a : Nat → Option Addr} {c : Nat → Nat} {K : Value → Heap → Prop}
theorem Mm.set (w:Mm h1 h3.size h5.size hh F v a c) (hk:k<2) {h':Heap} {nw:Int×Ps} {aw:Option Addr} {cw:Nat} (b:PcB h1 hh F h5.size aw nw.2) (d':Did h5.size hh h' (put (rd hh h5.size) (0+k*2) (plV nw.1 aw nw.2.length cw))) :
  Mm h1 h3.size h5.size h' F (fun x=>if x=k then nw else v x) (fun x=>if x=k then aw else a x) (fun x=>if x=k then cw else c x):=by
 refine ⟨by rw [d'.rd,w.r]; exact now_put v a c hk nw aw cw,d'.own,w.lo,w.ne,w.nf,fun x hx=>?_⟩
 by_cases e:x=k
 ·show PcB h1 h' F h5.size (if x=k then aw else a x) (if x=k then nw else v x).2
  rw [if_pos e,if_pos e]; exact b.did d'
 ·show PcB h1 h' F h5.size (if x=k then aw else a x) (if x=k then nw else v x).2
  rw [if_neg e,if_neg e]; exact (w.b x hx).did d'
theorem plain_k5 {nx cn:Nat} {an:Option Addr} {nw:Int×Ps} {B:Nat→UInt8} {D:Nat→Prop} {e:Int} (dm:Dim n) (hn:n≤187) (hk:k<2) (ly:Ly n h1 h3.size t d hh F T) (w:Mm h1 h3.size h5.size hh F v a c) (hm:m<24) (hu:T.undo.length≤100000*(m+1)) (hp:T.put.length≤1000000)
  (rx:rd hh nx=plV nw.1 an nw.2.length cn) (sx:PcB h1 hh F h5.size an nw.2) (P:PlA nw.2 B D) (hq:(v (1 - k)).2.length<90000∧∀ p ∈ (v (1 - k)).2,0≤p.1∧p.1<16522)
  (alt:(e=0∧(∃ R',Md n Z T R' (fun x=>if x=k then nw else v x))∧blocksP nw.2+blocksP (v (1 - k)).2≤n - (geoN n).data)∨(e=60∧60<(Av.ks T).length∧Md n Z T R v)∨(e=90∧Md n Z T R v∧n - (geoN n).data<blocksP nw.2+blocksP (v (1 - k)).2)) :
  bolelaw12_FilePlain.k5 h3 t h5 n ((geoN n).data:Nat) (m:Int) h7 (PlI n h1 h3.size h5.size t d) PlM (k:Int) (some ⟨nx,0,none⟩) e hh K:=by
 have hd:=dm.data
 have lP:=P.len
 have b1:=blocksP_le nw.2
 have b2:=blocksP_le (v (1 - k)).2
 have ek:IntKind.wrap .i64 (1 - (k:Int))=((1 - k:Nat):Int):=by rw [wrap_i64 (by omega) (by omega)]; omega
 have hk1:1 - k<2:=by omega
 unfold bolelaw12_FilePlain.k5
 rw [ek,Int.toNat_natCast]
 refine os ⟨plV nw.1 an nw.2.length cn,rfl,cellsAll rx,by omega,plV (v (1 - k)).1 (a (1 - k)) (v (1 - k)).2.length (c (1 - k)),rfl,w.cells hk1,blocks_spec sx.s (by omega) (fun p hp=>⟨(P.rng p hp).1,(P.rng p hp).2.1⟩) fun h28 f28=>⟨_,rfl,⟨rfl,(w.no f28).cells hk1⟩,blocks_spec ((w.no f28).b (1 - k) hk1).s (by omega) hq.2 fun h29 f29=>⟨_,rfl,?_⟩⟩⟩
 rw [wrap_i64 (n:=((blocksP nw.2:Nat):Int)+((blocksP (v (1 - k)).2:Nat):Int)) (by omega) (by omega),wrap_i64 (n:=(n:Int) - ((geoN n).data:Nat)) (by omega) (by omega)]
 have ly2:=ly.no (f28.no f29)
 have w2:=w.no (f28.no f29)
 have ltx:nx<hh.size:=rd_lt (o:=0) (by rw [rx]; rfl)
 have rx2:rd h29 nx=plV nw.1 an nw.2.length cn:=((f28.no f29).rd ltx fun y=>y).trans rx
 rcases alt with ⟨rfl,⟨R',md⟩,fit⟩|⟨rfl,h60,md⟩|⟨rfl,md,fit⟩
 ·refine ct (decide_eq_true (by omega)) (ct rfl (os ⟨plV nw.1 an nw.2.length cn,rfl,cellsAll rx2,by omega,?_⟩))
  rw [Int.toNat_natCast]
  refine PutRow.add w2.o rfl (pl_one _ _ _ _) (by rw [w2.r]; show 0+k*2+2≤4; omega) fun h30 d30=>?_
  have w3:=w2.set hk (sx.no (f28.no f29)) d30
  have ly3:=ly2.did d30 w.lo w.ne w.nf
  have tl:plTail h3 t h5 ((n:Int) - ((geoN n).data:Nat)) (m:Int) h7 (PlI n h1 h3.size h5.size t d) PlM h30 K:=tail_spec dm hn ly3 w3 md hm hu hp
  exact tl
 ·have tail:∀ hx,Fr No h29 hx→plTail h3 t h5 ((n:Int) - ((geoN n).data:Nat)) (m:Int) h7 (PlI n h1 h3.size h5.size t d) PlM hx K:=fun hx f=>tail_spec dm hn (ly2.no f) (w2.no f) md hm hu hp
  have lk:(Av.ks T).length=T.put.length:=List.length_map ..
  have wr:∀ {k1:Value→Heap→Prop},(∀ (a:Option Addr) (l c:Nat) (h':Heap),Fr No h29 h'→(60:Int)<(l:Int)→k1 (.slice a l c) h')→C.txn_Txn_Written t h29 k1:=fun H=>Written_spec ly2.x hp fun a l c h' f el s=>H a l c h' f (by omega)
  refine cd (fun fit=>cf rfl (ct (decide_eq_true fit) (ct rfl (wr fun a l c h' f hl=>⟨_,_,_,rfl,ct (decide_eq_true hl) (tail h' f)⟩)))) fun fit=>?_
  exact cf (decide_eq_false fit) (cf (decide_eq_false fit) (ct rfl (cf rfl (wr fun a l c h' f hl=>⟨_,_,_,rfl,cf (decide_eq_false (by omega)) (tail h' f)⟩))))
 ·have tail:plTail h3 t h5 ((n:Int) - ((geoN n).data:Nat)) (m:Int) h7 (PlI n h1 h3.size h5.size t d) PlM h29 K:=tail_spec dm hn ly2 w2 md hm hu hp
  have nf:¬ (((blocksP nw.2:Nat):Int)+((blocksP (v (1 - k)).2:Nat):Int)≤(n:Int) - ((geoN n).data:Nat)):=by omega
  exact cf (decide_eq_false nf) (cf (decide_eq_false nf) (cf (decide_eq_false nf) (cf rfl tail)))
end
end Go.Proofs.YtcdpakjhjmchhaaGreatDoor.Fi
namespace Go.Proofs.YtcdpakjhjmchhaaGreatDoor.Fi
open Go Go.Proofs Wx Hp W Ad Tm Bt Spc Re Av
open Hd (ints)
open In (Glo mayR encR)
open Bm (num nS many free_as Z0)
theorem put_le {n:Nat} {Z:Nat→Txt} {T:TM} (a:Av n Z T):T.put.length≤n:=by
 have:=nodup_len (m:=(List.range n).map fun i:Nat=>((i:Nat):Int)) a.keys fun x hx=>by
  obtain ⟨h0,h1⟩:=a.rng x hx
  exact List.mem_map.mpr ⟨x.toNat,List.mem_range.mpr (by omega),by omega⟩
 rw [List.length_map,List.length_range] at this
 have lk:(Av.ks T).length=T.put.length:=List.length_map ..
 omega
structure EdI where
 other:Bool
 cut:Bool
 off:Int
 s:Txt
def EdI.v (e:EdI):List Value:=[.bool e.other,.bool e.cut,.int .i64 e.off,.string (mkStr e.s)]
theorem ed_one (e:EdI):∀ v ∈ e.v,v.oneCell'=true:=by
 intro v hv; simp only [EdI.v,List.mem_cons,List.not_mem_nil,or_false] at hv; rcases hv with rfl|rfl|rfl|rfl <;> rfl
theorem ed_at {h:Heap} {a:Option Addr} {es:List EdI} {i:Nat} (X:SlCells h a (es.flatMap EdI.v)) (hi:i<es.length):∃ p,a=some p∧Cells h (p.add (i*4)) es[i].v:=by
 have lf:=flat_length EdI.v 4 es fun _ _=>rfl
 cases a with
 | none =>
  have X:es.flatMap EdI.v=[]:=X
  rw [X] at lf
  exact absurd lf (by simp; omega)
 | some p =>
  have X:Cells h p (es.flatMap EdI.v):=X
  refine ⟨p,rfl,?_⟩
  have:=Cells.part X (i*4) 4
  rw [flat_part EdI.v 4 es (fun _ _=>rfl) i hi] at this; exact this
theorem next_pla {p:Int×Ps} {B:Nat→UInt8} {D:Nat→Prop} (P:PlA p.2 B D) {cut:Bool} {off:Nat} {S:Txt} (h:off+S.length≤8459264):∃ B' D',PlA (nextE p cut off S).2 B' D':=by
 unfold nextE
 split
 ·exact ⟨_,_,P.cut⟩
 ·exact ⟨_,_,P.write h⟩
section
variable {n m k off : Nat} {h1 hh h3 h5 h7 : Heap} {F : Nat → Prop} {t d : Option Addr} {T : TM} {Z : Nat → Txt} {R : Nat → List Int} {v : Nat → Int × Ps} {a : Nat → Option Addr} {c : Nat → Nat} {K : Value → Heap → Prop} {S : Txt} {other cut : Bool}
theorem plain_k4 {nx cn:Nat} {an:Option Addr} (dm:Dim n) (hn:n≤187) (hk:k<2) (ly:Ly n h1 h3.size t d hh F T) (w:Mm h1 h3.size h5.size hh F v a c) (md:Md n Z T R v) (hm:m<24) (hu:T.undo.length≤100000*m) (ho:off<300000) (hS:S.length≤4000)
  (re:rd hh h7.size=editV other cut off S) (rx:rd hh nx=plV (nextE (v k) cut off S).1 an (nextE (v k) cut off S).2.length cn) (nF:¬ F nx) (sx:PcB h1 hh F h5.size an (nextE (v k) cut off S).2) :
  bolelaw12_FilePlain.k4 h3 t h5 n ((geoN n).data:Nat) (m:Int) h7 (PlI n h1 h3.size h5.size t d) PlM (k:Int) (some ⟨nx,0,none⟩) hh K:=by
 have ek:IntKind.wrap .i64 (2+(k:Int))=((2+k:Nat):Int):=by rw [wrap_i64 (by omega) (by omega)]; omega
 have hk1:1 - k<2:=by omega
 have fk:=md.at_ hk
 have pk:=md.p k hk
 have pj:=md.p (1 - k) hk1
 obtain ⟨B',D',P'⟩:=next_pla pk.P (cut:=cut) (off:=off) (S:=S) (by omega)
 have ltx:nx<hh.size:=rd_lt (o:=0) (by rw [rx]; rfl)
 have hp:T.put.length≤1000000:=by have:=put_le md.fs.av; omega
 have hq:(v (1 - k)).2.length<90000∧∀ p ∈ (v (1 - k)).2,0≤p.1∧p.1<16522:=⟨pj.P.len,fun p hp=>⟨(pj.P.rng p hp).1,(pj.P.rng p hp).2.1⟩⟩
 have live:=md.fs.av.live
 have old:∀ {e:Int} {h':Heap} {F':Nat→Prop},Ly n h1 h3.size t d h' F' T→Fr F hh h'→Gw hh F h' F'→((e=60∧60<(Av.ks T).length∧Md n Z T R v)∨(e=90∧Md n Z T R v∧n - (geoN n).data<blocksP (nextE (v k) cut off S).2+blocksP (v (1 - k)).2)) →
   bolelaw12_FilePlain.k5 h3 t h5 n ((geoN n).data:Nat) (m:Int) h7 (PlI n h1 h3.size h5.size t d) PlM (k:Int) (some ⟨nx,0,none⟩) e h' K:=fun c' f g alt =>
  plain_k5 (Z:=Z) (R:=R) dm hn hk c' (w.call f g) hm (by omega) hp ((f.rd ltx nF).trans rx) (sx.call f g) P' hq (.inr alt)
 have new:∀ {Z':Nat→Txt} {T':TM} {R':List Int} {h':Heap} {F':Nat→Prop},Ly n h1 h3.size t d h' F' T'→Fr F hh h'→Gw hh F h' F'→Fs n Z' T' (2+k) R' (3 - k) (R (1 - k))→Pf Z' R' (nextE (v k) cut off S)→Pf Z' (R (1 - k)) (v (1 - k))→T'.undo.length≤T.undo.length+100000→blocksP (nextE (v k) cut off S).2+blocksP (v (1 - k)).2≤n - (geoN n).data →
   bolelaw12_FilePlain.k5 h3 t h5 n ((geoN n).data:Nat) (m:Int) h7 (PlI n h1 h3.size h5.size t d) PlM (k:Int) (some ⟨nx,0,none⟩) 0 h' K:=fun {Z'} {T'} {R'} {h'} {F'} c' f g fs pa pb un fit =>
  plain_k5 (Z:=Z') (R:=R) dm hn hk c' (w.call f g) hm (by omega) (by have:=put_le fs.av; omega) ((f.rd ltx nF).trans rx) (sx.call f g) P' hq (.inl ⟨rfl,⟨_,md.set hk fs pa pb⟩,fit⟩)
 unfold bolelaw12_FilePlain.k4
 rw [ek]
 refine ⟨cut,rda re rfl,cs (fun hc=>?_) fun hc=>?_⟩
 ·subst hc
  refine ⟨_,rfl,cellsAll ly.rg,off,rda re rfl,?_⟩
  rcases edit_cut (sz:=off) dm fk pk pj ho with ⟨Z',T',R',ec,fs,pa,pb,un,fit⟩|⟨ec,h60⟩
  ·exact ly.cutC dm live (by omega) ec fun h' F' c' f g=>⟨_,rfl,new c' f g fs pa pb un fit⟩
  ·exact ly.cutC dm live (by omega) ec fun h' F' c' f g=>⟨_,rfl,old c' f g (.inl ⟨rfl,h60,md⟩)⟩
 ·subst hc
  refine ⟨_,rfl,cellsAll ly.rg,off,rda re rfl,mkStr S,rda re rfl,?_⟩
  rcases edit_write (off:=off) (s:=S) dm hn fk pk pj ho hS with ⟨Z',T',R',ec,fs,pa,pb,un,fit⟩|⟨ec,h60⟩|⟨ec,fit⟩
  ·exact ly.writeC dm live (by omega) ec (by omega) (by omega) fun h' F' c' f g=>⟨_,rfl,new c' f g fs pa pb un fit⟩
  ·exact ly.writeC dm live (by omega) ec (by omega) (by omega) fun h' F' c' f g=>⟨_,rfl,old c' f g (.inl ⟨rfl,h60,md⟩)⟩
  ·exact ly.writeC dm live (by omega) ec (by omega) (by omega) fun h' F' c' f g=>⟨_,rfl,old c' f g (.inr ⟨rfl,md,fit⟩)⟩
theorem plain_k3 (dm:Dim n) (hn:n≤187) (hk:k<2) (ly:Ly n h1 h3.size t d h7 F T) (w:Mm h1 h3.size h5.size h7 F v a c) (md:Md n Z T R v) (hm:m<24) (hu:T.undo.length≤100000*m) (ho:off<300000) (hS:S.length≤4000)
  (f:Fr No h7 hh) (hlt:h7.size<hh.size) (re:rd hh h7.size=editV other cut off S) :
  bolelaw12_FilePlain.k3 h3 t h5 n ((geoN n).data:Nat) (m:Int) h7 (PlI n h1 h3.size h5.size t d) PlM hh (k:Int) K:=by
 have w2:=w.no f
 have pk:=md.p k hk
 have z1:=ly.fr.size
 have Flt:=fun b (hb:F b)=>ly.x.lt hb
 unfold bolelaw12_FilePlain.k3
 rw [Int.toNat_natCast]
 -- the next row's pieces
 have pc:∀ {hx hy:Heap} {a':Option Addr},h7.size≤hx.size→SlCells hy a' (pcsV (nextE (v k) cut off S).2)→((∀ p,a'=some p→hx.size≤p.block)∨(a'=a k∧(nextE (v k) cut off S).2=(v k).2))→PcB h1 hy F h5.size a' (nextE (v k) cut off S).2:=fun {hx} {hy} {a'} lx s wh=>by
  refine ⟨s,fun x ex hne=>?_⟩
  rcases wh with wh|⟨rfl,e2⟩
  ·have:=wh x ex
   exact ⟨by omega,by have:=w.o.lt; omega,fun y=>by have:=Flt _ y; omega⟩
  ·exact (w.b k hk).b x ex (by rw [← e2]; exact hne)
 refine ⟨by omega,plV (v k).1 (a k) (v k).2.length (c k),rfl,w2.cells hk,_,rfl,cellsAll re,?_,New.intro fun h115 n115=>?_⟩
 ·refine with_spec (w2.b k hk).s pk.P.len pk.P.rng ho hS fun a' c' h22 f22 s22 wh=>⟨_,rfl,New.intro fun h23 n23=>?_⟩
  have z22:=f22.size
  have z23:=n23.size
  have f23:Fr No hh h23:=f22.new n23
  refine ⟨⟨rfl,(w2.no f23).cells hk⟩,⟨rfl,cellsAll ((f23.rd hlt fun y=>y).trans re)⟩,PutRow.intro n23.own rfl (pl_one _ _ _ _) (by rw [n23.rd]; decide) fun h24 d24=>?_⟩
  have f24:Fr No h7 h24:=(f.no f23).did d24 fun y=>by omega
  refine plain_k4 dm hn hk (ly.no f24) (w.no f24) md hm hu ho hS ((d24.at_ (by omega) (by omega)).trans ((f23.rd hlt fun y=>y).trans re)) (by rw [d24.rd,n23.rd]; exact put_all _ _ rfl) (fun y=>by have:=Flt _ y; omega) (pc (hx:=hh) f.size (pcs_keep (SlCells.fr n23.fr s22 fun _ _ y=>y) d24.fr fun x ex hne y=>?_) wh)
  have:=pcs_lt s22 ex hne
  have y:x.block=h22.size:=y
  omega
 ·have z115:=n115.size
  have f115:=f.new n115
  refine ⟨⟨rfl,(w.no f115).cells hk⟩,⟨rfl,cellsAll ((n115.at_ hlt).trans re)⟩,with_spec ((w.no f115).b k hk).s pk.P.len pk.P.rng ho hS fun a' c' h22 f22 s22 wh=>⟨_,rfl,?_⟩⟩
  have z22:=f22.size
  have lx:hh.size<h115.size:=by omega
  refine PutRow.intro (f22.own lx (fun y=>y) n115.own) rfl (pl_one _ _ _ _) (by rw [f22.rd lx fun y=>y,n115.rd]; decide) fun h24 d24=>?_
  have f24:Fr No h7 h24:=(f115.no f22).did d24 fun y=>by have:=f.size; omega
  refine plain_k4 dm hn hk (ly.no f24) (w.no f24) md hm hu ho hS ((d24.at_ (by omega) (by omega)).trans ((f22.rd (by omega) fun y=>y).trans ((n115.at_ hlt).trans re))) (by rw [d24.rd,f22.rd lx fun y=>y,n115.rd]; exact put_all _ _ rfl) (fun y=>by have:=Flt _ y; have:=f.size; omega) (pc (hx:=h115) f115.size (pcs_keep s22 d24.fr fun x ex hne y=>?_) wh)
  have y:x.block=hh.size:=y
  rcases wh with wh|⟨ea,e2⟩
  ·have:=wh x ex; omega
  ·have:=pcs_lt (w2.b k hk).s (ea▸ex) (by rw [← e2]; exact hne)
   omega
theorem plain_k1 {off1 size1:Int} {i:Int} (dm:Dim n) (h:PlI n h1 h3.size h5.size t d i hh) (hK:∀ h',Fr No h1 h'→K (.bool true) h'):bolelaw12_FilePlain.k1 off1 size1 h3 t h5 hh K:=by
 obtain ⟨m,F,T,Z,R,v,a,c,_,_,_,_,ly,w,md⟩:=h
 unfold bolelaw12_FilePlain.k1
 refine Mod_spec (m:=300000) (by decide) (by decide) fun off ho _=>⟨_,rfl,Mod_spec (m:=6000) (by decide) (by decide) fun sz hs _=>⟨_,rfl,?_⟩⟩
 refine ⟨fun i hx=>∃ j:Nat,i=j∧j≤2∧Ly n h1 h3.size t d hx F T∧Mm h1 h3.size h5.size hx F v a c,fun i _=>(2 - i).toNat,⟨0,rfl,by decide,ly,w⟩,?_⟩
 rintro i hx ⟨j,rfl,hj,lx,wx⟩
 refine cd (fun hlt=>?_) fun hlt=>hK hx lx.fr
 have hk:j<2:=by omega
 have ej:IntKind.wrap .i64 (2+(j:Int))=((2+j:Nat):Int):=by rw [wrap_i64 (by omega) (by omega)]; omega
 have fk:=md.at_ hk
 have pk:=md.p j hk
 obtain ⟨_,_,s0,s1⟩:=fk.fi
 have er1:=fk.read (off:=off) (m:=sz) dm
 have er2:=fk.read (off:=0) (m:=3000) dm
 have same:∀ (o m:Nat),(List.range (min (m:Int) ((v j).1 - o)).toNat).map (fun i=>(atP (v j).2 (((o+i) / 512:Nat):Int)).getD ((o+i) % 512) 0)=bytesOf Z (R j) o (min (m:Int) ((R j).getD 2 0 - o)).toNat:=fun o m=>by
  rw [pk.sz]
  unfold bytesOf
  refine List.map_congr_left fun x hx=>?_
  have:=List.mem_range.mp hx
  exact pk.P.byt (o+x) (by omega)
 rw [ej,Int.toNat_natCast]
 refine lx.read dm er1 fun h14 c14 f14=>⟨_,_,rfl,c14.read dm er2 fun h15 c15 f15=>⟨_,_,rfl,cn (fun y=>absurd rfl y) fun _=>cn (fun y=>absurd rfl y) fun _=>⟨by omega,plV (v j).1 (a j) (v j).2.length (c j),rfl,?_⟩⟩⟩
 have w15:=(wx.no f14).no f15
 have ln:=pk.P.len
 refine ⟨w15.cells hk,bytes_spec (w15.b j hk).s (by omega) (fun p hp=>(pk.P.rng p hp).2.2) (by rw [pk.sz]; exact s0) (by rw [pk.sz]; exact s1) (by omega) (by omega) fun h16 f16=>⟨_,rfl,?_⟩⟩
 rw [same off sz]
 refine cf (by rw [beq_self_eq_true]; rfl) ⟨by omega,plV (v j).1 (a j) (v j).2.length (c j),rfl,(w15.no f16).cells hk,bytes_spec (m:=3000) (off:=0) ((w15.no f16).b j hk).s (by omega) (fun p hp=>(pk.P.rng p hp).2.2) (by rw [pk.sz]; exact s0) (by rw [pk.sz]; exact s1) (by omega) (by omega) fun h17 f17=>⟨_,rfl,?_⟩⟩
 rw [same 0 3000]
 refine cf (by rw [beq_self_eq_true]; rfl) ?_
 rw [wrap_i64 (by omega) (by omega)]
 exact ⟨⟨j+1,by omega,by omega,c15.no (f16.no f17),w15.no (f16.no f17)⟩,by show (2 - ((j:Int)+1)).toNat<(2 - (j:Int)).toNat; omega⟩
theorem plain_k2 {S:Txt} {other cut:Bool} (dm:Dim n) (hn:n≤187) (ly:Ly n h1 h3.size t d h7 F T) (w:Mm h1 h3.size h5.size h7 F v a c) (md:Md n Z T R v) (hm:m<24) (hu:T.undo.length≤100000*m) (ho:off<300000) (hS:S.length≤4000)
  (f:Fr No h7 hh) (hlt:h7.size<hh.size) (re:rd hh h7.size=editV other cut off S) :
  bolelaw12_FilePlain.k2 h3 t h5 n ((geoN n).data:Nat) (m:Int) h7 (PlI n h1 h3.size h5.size t d) PlM hh K:=by
 unfold bolelaw12_FilePlain.k2
 exact ⟨other,rda re rfl,cs (fun _=>plain_k3 (k:=1) dm hn (by decide) ly w md hm hu ho hS f hlt re) fun _=>plain_k3 (k:=0) dm hn (by decide) ly w md hm hu ho hS f hlt re⟩
end
theorem FilePlain_spec {n1 off1 size1:Int} {ea:Option Addr} {el ec:Nat} {es:List EdI} {h:Heap} {K:Value→Heap→Prop} (gl:Glo h) (X:SlCells h ea (es.flatMap EdI.v)) (hel:es.length=el) (_:el≤140737488355328)
  (hK:∀ h',Fr No h h'→K (.bool true) h'):C.bolelaw12_FilePlain n1 ea el ec off1 size1 h K:=by
 refine bolelaw12_FilePlain.ok (Mod_spec (m:=60) (by decide) (by decide) fun x hx _=>⟨_,rfl,?_⟩)
 have en:IntKind.wrap .i64 (128+(x:Int))=((128+x:Nat):Int):=by rw [wrap_i64 (by omega) (by omega)]; omega
 rw [en]
 have dm:Dim (128+x):=⟨by omega,by omega⟩
 have hn:128+x≤187:=by omega
 generalize 128+x=n at dm hn ⊢
 refine fresh_ly gl dm (by omega) fun tb dd F L h3 h5 _ ly I=>New.intro fun h6 n6=>?_
 have z6:=n6.size
 have ly6:=ly.no n6.fr
 have ltg:=ly.lt
 have zf:=ly.fr.size
 have w6:Mm h h3.size h5.size h6 F (fun _=>(0,[])) (fun _=>none) (fun _=>0):=⟨n6.rd,n6.own,by omega,by omega,fun y=>by have:=ly.x.lt y; omega,fun k _=>⟨rfl,fun x ex=>by cases ex⟩⟩
 have m0:Md n (Z0 L) ⟨fresh (chunks L),[],[],false⟩ (fun _=>filR) (fun _=>(0,[])):=⟨fs0 dm (by omega) I,fun k _=>⟨ends0 _,PlA.nil (fun q hq=>(ends0 (Z0 L)).byt q hq (by show (0:Int)≤q; omega)) fun k hk y=>y (Bm.num_nil fil_zero k (by unfold nS; omega)),rfl⟩⟩
 refine ⟨_,rda ly6.rg rfl,_,rda ly6.rg rfl,PlI n h h3.size h5.size (some ⟨tb,0,none⟩) dd,PlM,⟨0,F,_,_,_,_,_,_,rfl,by decide,Nat.zero_le _,Nat.zero_le _,ly6,w6,m0⟩,?_⟩
 intro i h7 H
 refine cd (fun hlt=>?_) fun _=>plain_k1 dm H hK
 have H0:=H
 obtain ⟨m,F7,T,Z,R,v,a,c,ei,hm,hu,hp,ly7,w7,md⟩:=H
 subst ei
 have hmx:m<es.length:=by omega
 obtain ⟨p,rfl,cp⟩:=ed_at (SlCells.fr ly7.fr X fun _ _ y=>y) hmx
 refine ⟨by omega,os ⟨es[m].v,rfl,by rw [Int.toNat_natCast]; exact cp,NewRow.intro rfl (ed_one _) rfl fun h9 n9=>cd (fun _=>plain_k1 dm ⟨m,F7,T,Z,R,v,a,c,rfl,hm,hu,hp,ly7.no n9.fr,w7.no n9.fr,md⟩ hK) fun h24=>⟨_,rda n9.rd rfl,Mod_spec (m:=300000) (by decide) (by decide) fun off ho _=>⟨_,rfl,Put.add n9.own (by rw [n9.rd]; show 0+2<4; decide) fun h19 d19=>?_⟩⟩⟩⟩
 have z9:=n9.size
 have z19:=d19.size
 have f19:Fr No h7 h19:=n9.fr.did d19 fun y=>by omega
 have r19:rd h19 h7.size=editV es[m].other es[m].cut off es[m].s:=by rw [d19.rd,n9.rd]; rfl
 refine ⟨_,rda r19 rfl,?_⟩
 rw [mk_size]
 refine cd (fun h4=>⟨_,rda r19 rfl,by rw [mk_size]; omega,Put.add d19.own (by rw [r19]; show 0+3<4; decide) fun h20 d20=>?_⟩) fun h4=>plain_k2 dm hn ly7 w7 md (by omega) hu ho (by omega) f19 (by omega) r19
 have z20:=d20.size
 have r20:rd h20 h7.size=editV es[m].other es[m].cut off (es[m].s.take 4000):=by
  rw [d20.rd,r19,extract_mk]; rfl
 exact plain_k2 dm hn ly7 w7 md (by omega) hu ho (by rw [List.length_take]; omega) (f19.did d20 fun y=>by omega) (by omega) r20
end Go.Proofs.YtcdpakjhjmchhaaGreatDoor.Fi
namespace Go.Proofs.YtcdpakjhjmchhaaGreatDoor
open Go Go.ChangeShapes Go.WideShapes Go.ChangeAt Go.RowKit Go.Proofs.YtcdpakjhjmchhaaGreatDoor.Wx Go.Proofs.YtcdpakjhjmchhaaGreatDoor.Hp Go.Proofs.YtcdpakjhjmchhaaGreatDoor.Gl
theorem Tryz.cellsEdit : Tryz.prog.cellsOf 95=4:=by kernel_rfl
theorem Tryz.bytesEdit : Tryz.prog.bytesOf 95=32:=by kernel_rfl
theorem Tryz.cellsStr : Tryz.prog.cellsOf 9=1:=by kernel_rfl
set_option maxRecDepth 100000 in
theorem one_edit {H:Type} {enc:TypeId×Value→H} {W:World} (n:Nat) (cs:List Value) (y:DataW H×List MemPlace) (h:DataW.trod enc Tryz.prog W 0 (fun _=>true) true n 95 cs=some y):∃ x:Fi.EdI,cs=x.v:=by
 obtain ⟨y0,y1,y2,y3,k,_,hl,h0,h1,h2,h3⟩:=Go.Joins.trod_struct4 Tryz.underlying95 h
 rw [Tryz.cellsEdit] at hl
 simp only [Tryz.cellsBool,Tryz.cellsInt,Tryz.cellsStr] at h0 h1 h2 h3
 match cs,hl with
 | [a,b,c,d],_ =>
  obtain ⟨n0,e0,_⟩:=DataW.trod_bool Tryz.underlying4 h0
  obtain ⟨n1,e1,_⟩:=DataW.trod_bool Tryz.underlying4 h1
  obtain ⟨n2,e2,_,_⟩:=DataW.trod_int Tryz.underlying3 h2
  obtain ⟨l,e3,_⟩:=inner_text Tryz.underlying9 h3
  have e0:a = .bool n0:=by simpa using e0
  have e1:b = .bool n1:=by simpa using e1
  have e2:c = .int .i64 n2:=by simpa using e2
  have e3:d = .string (mkStr l):=by simpa using e3
  exact ⟨⟨n0,n1,n2,l⟩,by rw [e0,e1,e2,e3]; rfl⟩
theorem laid_met (os:Os):laidMet Tryz.prog Rows.filePlainRow.laid ((laidWorld os).forCall (fun _ _=>0) ⟨#[],#[.int .i64 0,.slice none 0 0,.int .i64 0,.int .i64 0],[]⟩).memory :=
 laidMet_of_run' 8 (by kernel_rfl) (by kernel_rfl)
theorem reads (os:Os) {H:Type} (enc:TypeId×Value→H):∃ places,DataW.whole enc Tryz.prog ((laidWorld os).forCall (fun _ _=>0) ⟨#[],#[.int .i64 0,.slice none 0 0,.int .i64 0,.int .i64 0],[]⟩).memory Tryz.f9.params.toList Rows.filePlainSpec.vars false #[Value.int .i64 0,.slice none 0 0,.int .i64 0,.int .i64 0].toList 8=some ([.lit (.int .i64 0),.nil,.lit (.int .i64 0),.lit (.int .i64 0)],[],places) :=
 ⟨[],by kernel_rfl⟩
set_option maxRecDepth 100000 in
theorem fpl_lifted (os:Os) (started:os.Started) (H:Type) (enc:TypeId×Value→H) (F:Stop.Interp) :
  ReturnsInHanded {} Tryz.checked os 9 .any ((OpenSpec.ofChange Rows.filePlainSpec).preRow enc Tryz.prog Tryz.f9 Rows.filePlainRow.domain false Rows.filePlainRow.laid) (((OpenSpec.ofChange Rows.filePlainSpec).at F).post enc Tryz.prog Tryz.f9 false true false false):=by
 obtain ⟨places,hx⟩:=reads os enc
 refine lifted_row (C:=Tryz.checked) (P:=Tryz.prog) (s:=Rows.filePlainSpec) (tb:=4) rfl Tryz.own started (by kernel_rfl) Tryz.func9
  (witness_row_at (enc:=enc) (C:=Tryz.checked) false (laidWorld os) #[.int .i64 0,.slice none 0 0,.int .i64 0,.int .i64 0] rfl (by kernel_rfl) (by kernel_rfl) (by kernel_rfl)
   (OpenSpec.preRow_of_cond 8 hx (by kernel_rfl) (fun k hk=>by cases hk) (by kernel_rfl) (laid_met os)))
  Tryz.laidOut (by kernel_rfl) (by kernel_rfl) Tryz.underlying4 rfl ?_ ?_
 ·intro ds hl
  rw [Tryz.params9] at hl
  match ds,hl with
  | [_,_,_,_],_=>exact ⟨rfl,rfl,rfl⟩
 ·intro W base args ds ps hval hA hsz hL
  rw [Tryz.params9] at hA hval hsz
  obtain ⟨v0,v1,v2,v3,d0,d1,d2,d3,p0,p1,p2,p3,rfl,rfl,rfl,h0,h1,h2,h3⟩:=trodAll_four hA
  obtain ⟨n0,rfl,rfl,rfl,w0⟩:=open_int Tryz.underlying3 (hval 0 3 v0 rfl rfl) h0
  obtain ⟨a1,il,ic,xs,rfl,B1,hy1,hlc1,room1⟩:=open_row (α:=Fi.EdI) Fi.EdI.v (fun _=>rfl) Tryz.underlying89 Tryz.cellsEdit (hval 1 89 v1 rfl rfl) h1 one_edit
  have m1:=light_room (light_arg hsz (j:=1) rfl rfl) Tryz.underlying89 room1
  rw [Tryz.bytesEdit] at m1
  obtain ⟨n2,rfl,rfl,rfl,w2⟩:=open_int Tryz.underlying3 (hval 2 3 v2 rfl rfl) h2
  obtain ⟨n3,rfl,rfl,rfl,w3⟩:=open_int Tryz.underlying3 (hval 3 3 v3 rfl rfl) h3
  exact Fi.FilePlain_spec (table1 hL) B1 hy1 (by omega) true_mk
theorem fpl_said : Rows.FilePlainSaid :=
 OpenClaim.holds_of_cond 9 Tryz.f9 rfl rfl rfl rfl rfl rfl rfl ⟨rfl,rfl,rfl,rfl,rfl⟩ rfl rfl rfl rfl rfl (by kernel_rfl) Tryz.func9 (by kernel_rfl)
  (of_decide_eq_true (by kernel_rfl)) (by unfold Func.isWrapper; first|(rw [if_pos (by decide +kernel)]; kernel_rfl)|(rw [if_neg (by decide +kernel)]; exact ⟨rfl,rfl⟩))
  (fun os started H enc _ F=>by rw [OpenClaim.pre_eq_preRow]; exact fpl_lifted os started H enc F)
theorem fpl_plain (f : FuncId) (fn : Func) (hf : Tryz.pinned.checked.prog.funcNamed "bole/bolelaw12.FilePlain" = some f) (hfn : Tryz.pinned.checked.prog.funcs[f]? = some fn) :
  false=Tryz.pinned.checked.prog.looks []∧∀ (j:Nat) t,fn.params[j]?=some t→Tryz.pinned.checked.prog.wantsStandIn t=false:=by
 obtain rfl : f = 9 := Option.some.inj ((show Tryz.prog.funcNamed "bole/bolelaw12.FilePlain" = some 9 by kernel_rfl).symm.trans hf) |>.symm
 obtain rfl:fn=Tryz.f9:=(Option.some.inj (Tryz.func9.symm.trans hfn)).symm
 refine ⟨by kernel_rfl,fun j t ht=>?_⟩
 rw [Tryz.params9] at ht
 have:=Array.mem_of_getElem? ht
 have:t=3∨t=89:=by
  simp at this
  rcases this with h|h|h<;>simp [h]
 rcases this with rfl|rfl
 ·exact (show Tryz.prog.wantsStandIn 3=false by kernel_rfl)
 ·exact (show Tryz.prog.wantsStandIn 89=false by kernel_rfl)
theorem filePlain_card : Rows.FilePlainCardSaid :=
 Claim7.holds_tied_plain_at .later [] _ _ _ _ fpl_said (fun _ h=>by cases h) (by kernel_rfl) (fun _ h=>by cases h) filePlain_row_tie rfl ⟨rfl,rfl⟩ (by kernel_rfl) rfl fpl_plain (by kernel_rfl)
end Go.Proofs.YtcdpakjhjmchhaaGreatDoor
