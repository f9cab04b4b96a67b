/-
  TEXTS FOR filePlain_card: BmR BmU FiC BwL FiB FiD FiE BmO BnA FiP FiQ FiR FiS InN FiG FiT FiY FjA FiU FjB.
-/
import Derived.Shelf.Spec.BuilderWrite
import Derived.Ground.NamesProg
import Derived.Test.YtcdpakjhjmchhaaGreatDoorProg
import Derived.Test.YtcdpakjhjmchhaaGreatDoorGp4
namespace Go.Proofs.YtcdpakjhjmchhaaGreatDoor.Bm
open Go Go.Proofs Wx Hp W Ad Tm Bt Spc Re Av
def rowN (f:Nat→Nat):Nat→Nat→List (Int×Int)
 | _,0=>[]
 | k,m+1=>(if f k=0 then [] else [((k:Int),(f k:Int))])++rowN f (k+1) m
def tabN (f:Nat→Nat):Nat→Nat→List Int
 | _,0=>[]
 | k,m+1=>(if f k=0 then [] else [(f k:Int)])++tabN f (k+1) m
theorem rowN_zero {f:Nat→Nat}:∀ (m k:Nat),(∀ j,j<m→f (k+j)=0)→rowN f k m=[]
 | 0,_,_=>rfl
 | m+1,k,h=>by
  have h0:=h 0 (by omega)
  rw [Nat.add_zero] at h0
  show (if f k=0 then [] else _)++rowN f (k+1) m=[]
  rw [if_pos h0,rowN_zero m (k+1) fun j hj=>by have:=h (j+1) (by omega); rwa [show k+(j+1)=k+1+j by omega] at this]; rfl
theorem rowN_add {f:Nat→Nat}:∀ (a k b:Nat),rowN f k (a+b)=rowN f k a++rowN f (k+a) b
 | 0,k,b=>by rw [Nat.zero_add]; rfl
 | a+1,k,b=>by
  rw [show a+1+b=(a+b)+1 by omega]
  show (if f k=0 then [] else _)++rowN f (k+1) (a+b)=((if f k=0 then [] else _)++rowN f (k+1) a)++_
  rw [rowN_add a (k+1) b,List.append_assoc,show k+1+a=k+(a+1) by omega]
theorem own_go {g:G} {f:Nat→Nat} {dO:DoM} {b:Nat} (hd:∀ S i v,dO S i v=ownA g S ((b+i:Nat):Int) v):∀ (vs:List Int) (i:Nat) (S:AllS),(∀ j (hj:j<vs.length),vs[j]=(f (b+i+j):Int))→(∀ j,j<vs.length→f (b+i+j)≠0→lookM g (f (b+i+j):Int)=0) →
  eachGo dO vs i S=(⟨S.L++rowN f (b+i) vs.length,S.M⟩,0)
 | [],i,S,_,_=>by show (S,(0:Int))=(⟨S.L++[],S.M⟩,0); rw [List.append_nil]
 | v::r,i,S,h1,h2=>by
  have hv:v=(f (b+i):Int):=h1 0 (Nat.succ_pos _)
  have ih:=fun S'=>own_go hd r (i+1) S' (fun j hj=>by
   have:=h1 (j+1) (Nat.succ_lt_succ hj)
   rw [show b+i+(j+1)=b+(i+1)+j by omega] at this
   exact this) (fun j hj hne=>by
   have:=h2 (j+1) (Nat.succ_lt_succ hj)
   rw [show b+i+(j+1)=b+(i+1)+j by omega] at this
   exact this hne)
  rw [eachGo_cons,hd,List.length_cons]
  show _=(AllS.mk (S.L++((if f (b+i)=0 then [] else _)++rowN f (b+i+1) r.length)) S.M,(0:Int))
  by_cases h0:f (b+i)=0
  ·have e:ownA g S ((b+i:Nat):Int) v=(S,0):=by unfold ownA; rw [if_pos (by omega)]
   rw [e,if_neg (fun z=>z rfl),ih S,if_pos h0]; rfl
  ·have l0:=h2 0 (Nat.succ_pos _) h0
   have l0:lookM g (f (b+i):Int)=0:=l0
   have e:ownA g S ((b+i:Nat):Int) v=(⟨S.L++[(((b+i:Nat):Int),v)],S.M⟩,0):=by unfold ownA; rw [if_neg (by omega),hv,l0]
   rw [e,if_neg (fun z=>z rfl),ih,if_neg h0,hv]
   show (AllS.mk (S.L++[(((b+i:Nat):Int),(f (b+i):Int))]++rowN f (b+(i+1)) r.length) S.M,(0:Int))=_
   rw [List.append_assoc]; rfl
theorem each_ok {n:Nat} {Z:Nat→Txt} {R:List Int} {T:TM} {dO:DoM} {b q:Nat} {S:AllS} (a:Av n Z T) (w:Wf n Z R) (hd:∀ S i v,dO S i v=ownA (geoN n) S ((b+i:Nat):Int) v) (hq:q<nS) (hb:∀ j,j<128→b+j<nS∧par (b+j)=some (q,j)) :
  eachM T (geoN n) dO (num Z R q:Nat) S=(⟨S.L++rowN (num Z R) b 128,S.M++tabN (num Z R) q 1⟩,0):=by
 have ch:∀ j,j<128→num Z R (b+j)=sub Z (num Z R q) j:=fun j hj=>num_some (hb j hj).2 (hb j hj).1
 unfold eachM
 show _=(AllS.mk _ (S.M++((if num Z R q=0 then [] else _)++[])),(0:Int))
 by_cases h0:num Z R q=0
 ·rw [if_pos (by omega),if_pos h0,rowN_zero 128 b fun j hj=>by rw [ch j hj,h0]; rfl,List.append_nil,List.append_nil,List.append_nil]
 ·have ru:=w.rng q hq h0
  rw [if_neg (by omega),if_neg (fun z=>z (look_ok ru.1 ru.2.1)),a.z _ ru.2.1,if_neg (fun z=>z rfl),if_neg h0]
  have lk:∀ j,j<(numsL (Z (num Z R q))).length→num Z R (b+0+j)≠0→lookM (geoN n) (num Z R (b+0+j):Int)=0:=fun j hj hne=>by
   rw [numsL_len] at hj
   rw [Nat.add_zero] at hne ⊢
   have r2:=w.rng _ (hb j hj).1 hne
   exact look_ok r2.1 r2.2.1
  have g:=own_go (f:=num Z R) hd (numsL (Z (num Z R q))) 0 ⟨S.L,S.M++[((num Z R q:Nat):Int)]⟩ (fun j hj=>by
   rw [numsL_get hj]
   rw [numsL_len] at hj
   rw [Nat.add_zero,ch j hj]
   unfold sub
   rw [if_neg h0]) lk
  rw [numsL_len,Nat.add_zero] at g
  rw [g,List.append_nil]
theorem two_go {n:Nat} {Z:Nat→Txt} {R:List Int} {T:TM} (a:Av n Z T) (w:Wf n Z R):∀ (vs:List Int) (i:Nat) (S:AllS),i+vs.length≤128→(∀ j (hj:j<vs.length),vs[j]=(num Z R (16524+i+j):Int)) →
  eachGo (twoD T (geoN n)) vs i S=(⟨S.L++rowN (num Z R) (138+128*i) (128*vs.length),S.M++tabN (num Z R) (16524+i) vs.length⟩,0)
 | [],i,S,_,_=>by show (S,(0:Int))=(AllS.mk (S.L++[]) (S.M++[]),0); rw [List.append_nil,List.append_nil]
 | v::r,i,S,hl,h1=>by
  rw [List.length_cons] at hl
  have hv:v=(num Z R (16524+i):Int):=h1 0 (Nat.succ_pos _)
  have ih:=fun S'=>two_go a w r (i+1) S' (by omega) (fun j hj=>by
   have:=h1 (j+1) (Nat.succ_lt_succ hj)
   rw [show 16524+i+(j+1)=16524+(i+1)+j by omega] at this
   exact this)
  have ed:twoD T (geoN n) S i v=(⟨S.L++rowN (num Z R) (138+128*i) 128,S.M++tabN (num Z R) (16524+i) 1⟩,0):=by
   show eachM T (geoN n) (inD (geoN n) i) v S=_
   rw [hv]
   refine each_ok a w (fun S j v=>?_) (by unfold nS; omega) fun j hj=>⟨by unfold nS; omega,?_⟩
   ·show ownA (geoN n) S (138+(i:Int)*128+j) v=_
    rw [show 138+(i:Int)*128+j=((138+128*i+j:Nat):Int) by omega]
   ·unfold par
    rw [if_neg (by omega),if_neg (by omega),if_pos (by omega),show 16524+(138+128*i+j - 138) / 128=16524+i by omega,show (138+128*i+j - 138) % 128=j by omega]
  rw [eachGo_cons,ed,if_neg (fun z=>z rfl),ih,List.length_cons,show 128*(r.length+1)=128+128*r.length by omega,rowN_add,show 138+128*i+128=138+128*(i+1) by omega]
  show (AllS.mk ((S.L++rowN (num Z R) (138+128*i) 128)++_) ((S.M++((if num Z R (16524+i)=0 then [] else _)++[]))++_),(0:Int))=(AllS.mk (S.L++(_++_)) (S.M++((if num Z R (16524+i)=0 then [] else _)++_)),(0:Int))
  rw [List.append_assoc,List.append_assoc,List.append_nil]; rfl
theorem allS_ok {n:Nat} {Z:Nat→Txt} {R:List Int} {T:TM} (a:Av n Z T) (w:Wf n Z R):allM T (geoN n) R=(rowN (num Z R) 0 16522,tabN (num Z R) 16522 1++(tabN (num Z R) 16523 1++if num Z R 16523=0 then [] else tabN (num Z R) 16524 128),0):=by
 have rl:=w.rl
 have dirs:eachGo (dirD (geoN n)) ((R.drop 3).take 10) 0 ⟨[],[]⟩=(⟨rowN (num Z R) 0 10,[]⟩,0):=by
  have hl:((R.drop 3).take 10).length=10:=by rw [List.length_take,List.length_drop,rl]; rfl
  have g:=own_go (g:=geoN n) (f:=num Z R) (dO:=dirD (geoN n)) (b:=0) (fun S i v=>by show ownA _ S (i:Int) v=_; rw [Nat.zero_add]) ((R.drop 3).take 10) 0 ⟨[],[]⟩ (fun j hj=>by
   have h0:par (0+0+j)=none:=by unfold par; rw [if_pos (by omega)]
   rw [← root_num w (by unfold nS; omega) h0]
   unfold root
   rw [if_pos (by omega),List.getElem_take,List.getElem_drop,List.getD_eq_getElem?_getD,List.getElem?_eq_getElem (by omega)]
   show _=R[3+(0+0+j)]
   congr 1; omega) (fun j hj hne=>by
   have r2:=w.rng _ (by unfold nS; omega) hne
   exact look_ok r2.1 r2.2.1)
  rw [hl] at g
  exact g
 have r13:R.getD 13 0=(num Z R 16522:Nat):=by
  have:=root_num w (s:=16522) (by decide) (by decide)
  unfold root at this
  rw [if_neg (by decide),if_pos rfl] at this; exact this
 have r14:R.getD 14 0=(num Z R 16523:Nat):=by
  have:=root_num w (s:=16523) (by decide) (by decide)
  unfold root at this
  rw [if_neg (by decide),if_neg (by decide)] at this; exact this
 have one:∀ S,eachM T (geoN n) (oneD (geoN n)) (R.getD 13 0) S=(⟨S.L++rowN (num Z R) 10 128,S.M++tabN (num Z R) 16522 1⟩,0):=fun S=>by
  rw [r13]
  refine each_ok a w (fun S j v=>?_) (by decide) fun j hj=>⟨by unfold nS; omega,?_⟩
  ·show ownA (geoN n) S (10+(j:Int)) v=_
   rw [show 10+(j:Int)=((10+j:Nat):Int) by omega]
  ·unfold par
   rw [if_neg (by omega),if_pos (by omega),show 10+j - 10=j by omega]
 have two:∀ S,eachM T (geoN n) (twoD T (geoN n)) (R.getD 14 0) S=(⟨S.L++rowN (num Z R) 138 16384,S.M++(tabN (num Z R) 16523 1++if num Z R 16523=0 then [] else tabN (num Z R) 16524 128)⟩,0):=fun S=>by
  rw [r14]
  have pt:∀ p,p<128→num Z R (16524+p)=sub Z (num Z R 16523) p:=fun p hp=>num_some (par_table hp) (by unfold nS; omega)
  unfold eachM
  show _=(AllS.mk _ (S.M++(((if num Z R 16523=0 then [] else _)++[])++_)),(0:Int))
  by_cases h0:num Z R 16523=0
  ·rw [if_pos (by omega),if_pos h0,if_pos h0,rowN_zero 16384 138 fun j hj=>?_]
   ·simp only [List.append_nil]
   ·have e:par (138+j)=some (16524+j / 128,j % 128):=by
     unfold par
     rw [if_neg (by omega),if_neg (by omega),if_pos (by omega),Nat.add_sub_cancel_left]
    rw [num_some e (by unfold nS; omega),pt (j / 128) (by omega),h0]; rfl
  ·have ru:=w.rng 16523 (by decide) h0
   rw [if_neg (by omega),if_neg (fun z=>z (look_ok ru.1 ru.2.1)),a.z _ ru.2.1,if_neg (fun z=>z rfl),if_neg h0,if_neg h0]
   have g:=two_go a w (numsL (Z (num Z R 16523))) 0 ⟨S.L,S.M++[((num Z R 16523:Nat):Int)]⟩ (by rw [numsL_len]; decide) (fun j hj=>by
    rw [numsL_get hj]
    rw [numsL_len] at hj
    rw [Nat.add_zero,pt j hj]
    unfold sub
    rw [if_neg h0])
   rw [numsL_len] at g
   rw [g,List.append_nil,← List.append_assoc]
 have sum:rowN (num Z R) 0 16522=(rowN (num Z R) 0 10++rowN (num Z R) 10 128)++rowN (num Z R) 138 16384:=by
  rw [show 16522=10+(128+16384) by rfl,rowN_add,rowN_add,← List.append_assoc]
 have es:allS T (geoN n) R=(⟨rowN (num Z R) 0 16522,tabN (num Z R) 16522 1++(tabN (num Z R) 16523 1++if num Z R 16523=0 then [] else tabN (num Z R) 16524 128)⟩,0):=by
  unfold allS
  rw [dirs,if_neg (fun z=>z rfl),one,if_neg (fun z=>z rfl),two,sum]; rfl
 unfold allM
 rw [es,if_neg (fun z=>z rfl)]
end Go.Proofs.YtcdpakjhjmchhaaGreatDoor.Bm
namespace Go.Proofs.YtcdpakjhjmchhaaGreatDoor.Bm
open Go Go.Proofs Wx Hp W Ad Tm Bt Spc Re Av
def Z0 (L:Txt):Nat→Txt:=fun k=>(L.drop (k*512)).take 512
theorem fresh_av {n:Nat} {L:Txt} (hL:L.length=512*n):Av n (Z0 L) ⟨fresh (chunks L),[],[],false⟩:=by
 have hn:(chunks L).length=n:=by rw [chunks_length,hL]; omega
 refine ⟨rfl,hn,fun k hk=>?_,fun k hk=>by unfold Z0; rw [List.length_take,List.length_drop,hL]; omega,List.nodup_nil,fun x hx=>(by cases hx)⟩
 have hN:TM.N ⟨fresh (chunks L),[],[],false⟩=n:=hn
 rw [TM.read_live rfl,hN,if_neg (by omega),TM.get_none rfl,if_neg (by intro y; cases y)]
 have:readAt (fresh (chunks L)) ((k:Nat):Int).toNat=Z0 L k:=by
  show (chunks L).getD k []=_
  rw [List.getD_eq_getElem?_getD,List.getElem?_eq_getElem (by omega),Option.getD_some,chunks_get]; rfl
 rw [this]
theorem bitAt_chunk (L:Txt) (k t:Nat) (ht:t<4096):bitAt (Z0 L k) t=bitAt L (4096*k+t):=by
 unfold bitAt Z0
 rw [List.getD_eq_getElem?_getD,List.getElem?_take,if_pos (by omega),List.getElem?_drop,← List.getD_eq_getElem?_getD,show k*512+t / 8=(4096*k+t) / 8 by omega,show t % 8=(4096*k+t) % 8 by omega]
theorem Im.bit {n:Nat} {U:Nat→Bool} {L:Txt} (a:Im n U L) (_:128≤n∧n<4428) {j:Nat} (hj:j<n):Av.bit (Z0 L) j=U j:=by
 have hino:(geoN n).inodes=98+(n+4095) / 4096:=rfl
 rw [← a.bits j (by omega)]
 unfold Av.bit
 rw [bitAt_chunk _ _ _ (Nat.mod_lt _ (by decide))]
 congr 1; omega
theorem num_nil {Z:Nat→Txt} {R:List Int} (h:∀ i,3≤i→i<15→R.getD i 0=0):∀ s,s<nS→num Z R s=0:=by
 refine slots (fun s hs e=>?_) fun s q p hs e ih=>?_
 ·rw [num_none e]
  have b:=par_none e
  have:root R s=0:=by
   unfold root
   split
   ·exact h _ (by omega) (by omega)
   ·split
    ·exact h _ (by omega) (by omega)
    ·exact h _ (by omega) (by omega)
  rw [this]; rfl
 ·rw [num_some e hs,ih]; rfl
theorem wf_nil {n:Nat} {Z:Nat→Txt} {R:List Int} (hl:R.length=15) (h:∀ i,3≤i→i<15→R.getD i 0=0):Wf n Z R :=
 ⟨hl,fun i h1 h2=>by rw [h i h1 h2]; exact Int.le_refl _,fun s hs h0=>absurd (num_nil h s hs) h0,fun s s' hs _ h0 _=>absurd (num_nil h s hs) h0⟩
theorem mem_rowN {f:Nat→Nat} {x:Int×Int}:∀ (m k:Nat),x ∈ rowN f k m↔∃ j,k≤j∧j<k+m∧f j≠0∧x=((j:Int),(f j:Int))
 | 0,k=>by
  constructor
  ·intro h; cases h
  ·rintro ⟨j,h1,h2,_⟩; omega
 | m+1,k=>by
  show x ∈ (if f k=0 then [] else [((k:Int),(f k:Int))])++rowN f (k+1) m↔_
  rw [List.mem_append,mem_rowN m (k+1)]
  constructor
  ·rintro (h|⟨j,h1,h2,h3,h4⟩)
   ·split at h
    ·cases h
    ·rename_i h0
     exact ⟨k,Nat.le_refl _,by omega,h0,List.mem_singleton.mp h⟩
   ·exact ⟨j,by omega,by omega,h3,h4⟩
  ·rintro ⟨j,h1,h2,h3,h4⟩
   by_cases e:j=k
   ·subst e
    rw [if_neg h3]; exact .inl (List.mem_singleton.mpr h4)
   ·exact .inr ⟨j,by omega,by omega,h3,h4⟩
theorem rowN_lt {f:Nat→Nat}:∀ (m k:Nat),(rowN f k m).Pairwise fun x y=>x.1<y.1
 | 0,_=>List.Pairwise.nil
 | m+1,k=>by
  show ((if f k=0 then [] else [((k:Int),(f k:Int))])++rowN f (k+1) m).Pairwise _
  rw [List.pairwise_append]
  refine ⟨?_,rowN_lt m (k+1),fun x hx y hy=>?_⟩
  ·split
   ·exact List.Pairwise.nil
   ·exact List.pairwise_singleton _ _
  ·obtain ⟨j,h1,_,_,rfl⟩:=(mem_rowN m (k+1)).mp hy
   split at hx
   ·cases hx
   ·rw [List.mem_singleton.mp hx]; show (k:Int)<(j:Int); omega
end Go.Proofs.YtcdpakjhjmchhaaGreatDoor.Bm
namespace Go.Proofs.YtcdpakjhjmchhaaGreatDoor.Bm
open Go Go.Proofs Wx Hp W Ad Tm Bt Spc Re Av
def loS (q:Nat):Nat:=if q=16522 then 10 else if q=16523 then 138 else 138+128*(q - 16524)
def hiS (q:Nat):Nat:=if q=16522 then 138 else if q=16523 then 16522 else 138+128*(q - 16524)+128
def ch (q p:Nat):Nat:=if q=16522 then 10+p else if q=16523 then 16524+p else 138+128*(q - 16524)+p
theorem lo_tab (p:Nat):loS (16524+p)=138+128*p:=by unfold loS; rw [if_neg (by omega),if_neg (by omega),Nat.add_sub_cancel_left]
theorem hi_tab (p:Nat):hiS (16524+p)=138+128*p+128:=by unfold hiS; rw [if_neg (by omega),if_neg (by omega),Nat.add_sub_cancel_left]
theorem ch_tab (r p:Nat):ch (16524+r) p=138+128*r+p:=by unfold ch; rw [if_neg (by omega),if_neg (by omega),Nat.add_sub_cancel_left]
theorem ch_one (p:Nat):ch 16522 p=10+p:=rfl
theorem ch_two (p:Nat):ch 16523 p=16524+p:=rfl
theorem tab_cases {q:Nat} (h1:16522≤q) (h2:q<nS):q=16522∨q=16523∨∃ r,r<128∧q=16524+r:=by
 unfold nS at h2
 by_cases a:q=16522
 ·exact .inl a
 ·by_cases b:q=16523
  ·exact .inr (.inl b)
  ·exact .inr (.inr ⟨q - 16524,by omega,by omega⟩)
theorem ch_par {q p:Nat} (h1:16522≤q) (h2:q<nS) (hp:p<128):par (ch q p)=some (q,p)∧ch q p<nS:=by
 rcases tab_cases h1 h2 with rfl|rfl|⟨r,hr,rfl⟩
 ·rw [ch_one]
  refine ⟨?_,by unfold nS; omega⟩
  unfold par
  rw [if_neg (by omega),if_pos (by omega),Nat.add_sub_cancel_left]
 ·rw [ch_two]
  exact ⟨par_table hp,by unfold nS; omega⟩
 ·rw [ch_tab]
  refine ⟨?_,by unfold nS; omega⟩
  unfold par
  rw [if_neg (by omega),if_neg (by omega),if_pos (by omega),show (138+128*r+p - 138) / 128=r by omega,show (138+128*r+p - 138) % 128=p by omega]
theorem par_ch {s q p:Nat} (h:par s=some (q,p)) (hs:s<nS):ch q p=s∧p<128∧16522≤q∧q<nS:=by
 have a:=par_up h hs
 have b:=par_ne h hs
 refine ⟨?_,a.1,b.2.2,b.2.1⟩
 rcases a.2 with ⟨rfl,e⟩|⟨rfl,e⟩|⟨h1,h2,e⟩
 ·rw [ch_one,e]
 ·rw [ch_two,e]
 ·rcases tab_cases b.2.2 b.2.1 with rfl|rfl|⟨r,_,rfl⟩
  ·omega
  ·omega
  ·rw [ch_tab]; omega
theorem ch_num {Z:Nat→Txt} {R:List Int} {q p:Nat} (h1:16522≤q) (h2:q<nS) (hp:p<128):num Z R (ch q p)=sub Z (num Z R q) p:=by
 obtain ⟨a,b⟩:=ch_par h1 h2 hp
 exact num_some a b
theorem ch_num' {Z:Nat→Txt} {R:List Int} {q p:Nat} (h1:16522≤q) (h2:q<nS) (hp:p<128) (h0:num Z R q≠0):num Z R (ch q p)=num4 (Z (num Z R q)) p:=by
 rw [ch_num h1 h2 hp]; unfold sub; rw [if_neg h0]
def Sub (q s:Nat):Prop:=s=q∨(16522≤q∧loS q≤s∧s<hiS q)∨(q=16523∧16524≤s∧s<nS)
theorem sub_leaf {c s:Nat} (h:c<16522):Sub c s↔s=c:=by unfold Sub; omega
theorem sub_one {s:Nat}:Sub 16522 s↔s=16522∨(10≤s∧s<138):=by
 have e1:loS 16522=10:=rfl
 have e2:hiS 16522=138:=rfl
 unfold Sub; rw [e1,e2]; omega
theorem sub_two {s:Nat}:Sub 16523 s↔s=16523∨(138≤s∧s<16522)∨(16524≤s∧s<nS):=by
 have e1:loS 16523=138:=rfl
 have e2:hiS 16523=16522:=rfl
 unfold Sub; rw [e1,e2]; omega
theorem sub_tab {r s:Nat}:Sub (16524+r) s↔s=16524+r∨(138+128*r≤s∧s<138+128*r+128):=by
 unfold Sub; rw [lo_tab,hi_tab]; omega
theorem sub_split {q s:Nat} (h1:16522≤q) (h2:q<nS):Sub q s↔s=q∨∃ j,j<128∧Sub (ch q j) s:=by
 rcases tab_cases h1 h2 with rfl|rfl|⟨r,hr,rfl⟩
 ·rw [sub_one]
  constructor
  ·rintro (h|h)
   ·exact .inl h
   ·exact .inr ⟨s - 10,by omega,by rw [ch_one,sub_leaf (by omega)]; omega⟩
  ·rintro (h|⟨j,hj,h⟩)
   ·exact .inl h
   ·rw [ch_one,sub_leaf (by omega)] at h; omega
 ·rw [sub_two]
  constructor
  ·rintro (h|h|h)
   ·exact .inl h
   ·exact .inr ⟨(s - 138) / 128,by omega,by rw [ch_two,sub_tab]; omega⟩
   ·exact .inr ⟨s - 16524,by unfold nS at h; omega,by rw [ch_two,sub_tab]; omega⟩
  ·rintro (h|⟨j,hj,h⟩)
   ·exact .inl h
   ·rw [ch_two,sub_tab] at h; unfold nS; omega
 ·rw [sub_tab]
  constructor
  ·rintro (h|h)
   ·exact .inl h
   ·exact .inr ⟨s - (138+128*r),by omega,by rw [ch_tab,sub_leaf (by omega)]; omega⟩
  ·rintro (h|⟨j,hj,h⟩)
   ·exact .inl h
   ·rw [ch_tab,sub_leaf (by omega)] at h; omega
theorem sub_inj {q i j s:Nat} (h1:16522≤q) (h2:q<nS) (hi:i<128) (hj:j<128) (a:Sub (ch q i) s) (b:Sub (ch q j) s):i=j:=by
 rcases tab_cases h1 h2 with rfl|rfl|⟨r,hr,rfl⟩
 ·rw [ch_one,sub_leaf (by omega)] at a b; omega
 ·rw [ch_two,sub_tab] at a b; omega
 ·rw [ch_tab,sub_leaf (by omega)] at a b; omega
theorem sub_not {q i:Nat} (h1:16522≤q) (h2:q<nS) (hi:i<128):¬ Sub (ch q i) q:=by
 rcases tab_cases h1 h2 with rfl|rfl|⟨r,hr,rfl⟩
 ·rw [ch_one,sub_leaf (by omega)]; omega
 ·rw [ch_two,sub_tab]; omega
 ·rw [ch_tab,sub_leaf (by omega)]; omega
theorem sub_self (q:Nat):Sub q q := .inl rfl
theorem sub_lt {q s:Nat} (h1:q<nS) (h:Sub q s):s<nS:=by
 rcases Nat.lt_or_ge q 16522 with h2|h2
 ·rw [sub_leaf h2] at h; omega
 ·rcases tab_cases h2 h1 with rfl|rfl|⟨r,hr,rfl⟩
  ·rw [sub_one] at h; unfold nS; omega
  ·rw [sub_two] at h; unfold nS at *; omega
  ·rw [sub_tab] at h; unfold nS; omega
theorem sub_data {q s:Nat} (h1:16522≤q) (h2:q<nS) (h:Sub q s) (hs:s<16522):loS q≤s∧s<hiS q:=by
 rcases tab_cases h1 h2 with rfl|rfl|⟨r,hr,rfl⟩
 ·rw [sub_one] at h; show 10≤s∧s<138; omega
 ·rw [sub_two] at h; show 138≤s∧s<16522; omega
 ·rw [sub_tab] at h; rw [lo_tab,hi_tab]; omega
theorem data_sub {q s:Nat} (h1:16522≤q) (h2:q<nS) (h:loS q≤s) (h':s<hiS q):Sub q s∧s<16522:=by
 refine ⟨.inr (.inl ⟨h1,h,h'⟩),?_⟩
 rcases tab_cases h1 h2 with rfl|rfl|⟨r,hr,rfl⟩
 ·have:s<138:=h'; omega
 ·exact h'
 ·rw [hi_tab] at h'; omega
theorem sub_zero {Z:Nat→Txt} {R:List Int} {q:Nat} (hq:q<nS) (h0:num Z R q=0):∀ s,Sub q s→num Z R s=0:=by
 intro s h
 rcases Nat.lt_or_ge q 16522 with h1|h1
 ·rw [sub_leaf h1] at h; rw [h]; exact h0
 ·rcases (sub_split h1 hq).mp h with rfl|⟨j,hj,h⟩
  ·exact h0
  ·obtain ⟨e,hc⟩:=ch_par h1 hq hj
   have hz:num Z R (ch q j)=0:=by rw [num_some e hc,h0]; exact if_pos rfl
   rcases Nat.lt_or_ge (ch q j) 16522 with h2|h2
   ·rw [sub_leaf h2] at h; rw [h]; exact hz
   ·rcases (sub_split h2 hc).mp h with rfl|⟨i,hi,h⟩
    ·exact hz
    ·obtain ⟨e',hc'⟩:=ch_par h2 hc hi
     have:ch (ch q j) i<16522:=by
      rcases tab_cases h1 hq with rfl|rfl|⟨r,hr,rfl⟩
      ·rw [ch_one] at h2; omega
      ·rw [ch_two,ch_tab]; omega
      ·rw [ch_tab] at h2; omega
     rw [sub_leaf this] at h
     rw [h,num_some e' hc',hz]; exact if_pos rfl
def Tight (Z:Nat→Txt) (R:List Int):Prop:=∀ q,16522≤q→q<nS→num Z R q≠0→∃ x,loS q≤x∧x<hiS q∧num Z R x≠0
def Dk (Z:Nat→Txt) (R:List Int) (k s:Nat):Prop:=(s<16522→k≤s)∧(16522≤s→∀ x,loS s≤x→x<hiS s→x<k→num Z R x=0)
theorem dk_data {Z:Nat→Txt} {R:List Int} {k s:Nat} (h:s<16522):Dk Z R k s↔k≤s:=⟨fun a=>a.1 h,fun a=>⟨fun _=>a,fun y=>by omega⟩⟩
theorem dk_tab {Z:Nat→Txt} {R:List Int} {k s:Nat} (h:16522≤s):Dk Z R k s↔∀ x,loS s≤x→x<hiS s→x<k→num Z R x=0:=⟨fun a=>a.2 h,fun a=>⟨fun y=>by omega,fun _=>a⟩⟩
theorem dk_ch {Z:Nat→Txt} {R:List Int} {k q:Nat} (h1:16522≤q) (h2:q<nS):Dk Z R k q↔∀ j,j<128→num Z R (ch q j)≠0→Dk Z R k (ch q j):=by
 rw [dk_tab h1]
 constructor
 ·intro h j hj h0
  obtain ⟨e,hc⟩:=ch_par h1 h2 hj
  rcases Nat.lt_or_ge (ch q j) 16522 with h3|h3
  ·rw [dk_data h3]
   rcases Nat.lt_or_ge (ch q j) k with h4|h4
   ·have sd:=sub_data h1 h2 ((sub_split h1 h2).mpr (.inr ⟨j,hj,sub_self _⟩)) h3
    exact absurd (h _ sd.1 sd.2 h4) h0
   ·exact h4
  ·rw [dk_tab h3]
   intro x a b c
   obtain ⟨sx,hx⟩:=data_sub h3 hc a b
   have sd:=sub_data h1 h2 ((sub_split h1 h2).mpr (.inr ⟨j,hj,sx⟩)) hx
   exact h x sd.1 sd.2 c
 ·intro h x a b c
  obtain ⟨sx,hx⟩:=data_sub h1 h2 a b
  rcases (sub_split h1 h2).mp sx with rfl|⟨j,hj,sj⟩
  ·omega
  ·obtain ⟨e,hc⟩:=ch_par h1 h2 hj
   by_cases h0:num Z R (ch q j)=0
   ·exact sub_zero hc h0 x sj
   ·have hD:=h j hj h0
    rcases Nat.lt_or_ge (ch q j) 16522 with h3|h3
    ·rw [sub_leaf h3] at sj
     rw [dk_data h3] at hD
     omega
    ·rw [dk_tab h3] at hD
     have sd:=sub_data h3 hc sj hx
     exact hD x sd.1 sd.2 c
theorem dk_low {Z:Nat→Txt} {R:List Int} {k c:Nat} (tg:Tight Z R) (hc:c<nS) (hk:∀ x,Sub c x→x<16522→x<k):∀ s,Sub c s→num Z R s≠0→¬ Dk Z R k s:=by
 intro s h h0 hD
 have hs:=sub_lt hc h
 rcases Nat.lt_or_ge s 16522 with h1|h1
 ·have:=hk s h h1
  rw [dk_data h1] at hD
  omega
 ·obtain ⟨x,a,b,e⟩:=tg s h1 hs h0
  rw [dk_tab h1] at hD
  obtain ⟨sx,hx⟩:=data_sub h1 hs a b
  refine e (hD x a b (hk x ?_ hx))
  rcases Nat.lt_or_ge c 16522 with h2|h2
  ·rw [sub_leaf h2] at h; omega
  ·rcases (sub_split h2 hc).mp h with rfl|⟨j,hj,sj⟩
   ·exact sx
   ·refine (sub_split h2 hc).mpr (.inr ⟨j,hj,?_⟩)
    obtain ⟨e',hc'⟩:=ch_par h2 hc hj
    have:16522≤ch c j:=by
     rcases Nat.lt_or_ge (ch c j) 16522 with h3|h3
     ·rw [sub_leaf h3] at sj; omega
     ·exact h3
    have e2:ch c j=s:=by
     rcases tab_cases h2 hc with rfl|rfl|⟨r,hr,rfl⟩
     ·rw [ch_one] at this; omega
     ·rw [ch_two] at this ⊢ sj
      rw [sub_tab] at sj; omega
     ·rw [ch_tab] at this; omega
    rw [e2]; exact sx
structure Ct (n k:Nat) (Z:Nat→Txt) (R:List Int) (E P:Nat→Prop) (Z':Nat→Txt):Prop where
 bits:∀ j,98+j / 4096<(geoN n).inodes→(bit Z' j=true↔bit Z j=true∧∀ s,s<nS→E s→Dk Z R k s→num Z R s≠0→num Z R s≠j)
 tabs:∀ q p,16522≤q→q<nS→num Z R q≠0→¬ P q→p<128→¬ (E q∧Dk Z R k q)→(E (ch q p)∧Dk Z R k (ch q p)→num4 (Z' (num Z R q)) p=0)∧(¬ (E (ch q p)∧Dk Z R k (ch q p))→num4 (Z' (num Z R q)) p=num4 (Z (num Z R q)) p)
 pend:∀ q p,16522≤q→q<nS→P q→num Z R q≠0→p<128→num4 (Z' (num Z R q)) p=num4 (Z (num Z R q)) p
 cont:∀ b,b<n→(geoN n).inodes≤b→(∀ q,16522≤q→q<nS→num Z R q≠0→b≠num Z R q)→Z' b=Z b
theorem Ct.nil (n k:Nat) (Z:Nat→Txt) (R:List Int):Ct n k Z R (fun _=>False) (fun _=>False) Z :=
 ⟨fun _ _=>⟨fun h=>⟨h,fun _ _ y=>y.elim⟩,fun h=>h.1⟩,fun _ _ _ _ _ _ _ _=>⟨fun y=>y.1.elim,fun _=>rfl⟩,fun _ _ _ _ y=>y.elim,fun _ _ _ _=>rfl⟩
theorem Ct.grow {n k:Nat} {Z Z':Nat→Txt} {R:List Int} {E E' P:Nat→Prop} (c:Ct n k Z R E P Z') (h1:∀ s,E s→E' s) (h2:∀ s,s<nS→E' s→¬ E s→num Z R s≠0→¬ Dk Z R k s):Ct n k Z R E' P Z':=by
 refine ⟨fun j hj=>?_,fun q p a b h0 hP hp hq=>?_,c.pend,c.cont⟩
 ·rw [c.bits j hj]
  constructor
  ·rintro ⟨a,b⟩
   refine ⟨a,fun s hs e hD h0=>?_⟩
   by_cases he:E s
   ·exact b s hs he hD h0
   ·exact absurd hD (h2 s hs e he h0)
  ·rintro ⟨a,b⟩
   exact ⟨a,fun s hs e=>b s hs (h1 s e)⟩
 ·obtain ⟨t1,t2⟩:=c.tabs q p a b h0 hP hp fun y=>hq ⟨h1 _ y.1,y.2⟩
  refine ⟨fun y=>?_,fun y=>t2 fun z=>y ⟨h1 _ z.1,z.2⟩⟩
  by_cases he:E (ch q p)
  ·exact t1 ⟨he,y.2⟩
  ·rw [t2 fun z=>he z.1,← ch_num' a b hp h0]
   by_cases hz:num Z R (ch q p)=0
   ·exact hz
   ·exact absurd y.2 (h2 _ (ch_par a b hp).2 y.1 he hz)
theorem Ct.iff {n k:Nat} {Z Z':Nat→Txt} {R:List Int} {E E' P:Nat→Prop} (c:Ct n k Z R E P Z') (h:∀ s,s<nS→(E s↔E' s)):Ct n k Z R E' P Z':=by
 refine ⟨fun j hj=>?_,fun q p a b h0 hP hp hq=>?_,c.pend,c.cont⟩
 ·rw [c.bits j hj]
  exact ⟨fun x=>⟨x.1,fun s hs e=>x.2 s hs ((h s hs).mpr e)⟩,fun x=>⟨x.1,fun s hs e=>x.2 s hs ((h s hs).mp e)⟩⟩
 ·have:=c.tabs q p a b h0 hP hp (by rw [h q b]; exact hq)
  rw [h _ (ch_par a b hp).2] at this; exact this
theorem Ct.iffP {n k:Nat} {Z Z':Nat→Txt} {R:List Int} {E P P':Nat→Prop} (c:Ct n k Z R E P Z') (h:∀ s,P s↔P' s):Ct n k Z R E P' Z' :=
 ⟨c.bits,fun q p a b h0 hP hp hq=>c.tabs q p a b h0 (fun y=>hP ((h q).mp y)) hp hq,fun q p a b y=>c.pend q p a b ((h q).mpr y),c.cont⟩
theorem Ct.wait {n k:Nat} {Z Z':Nat→Txt} {R:List Int} {E P:Nat→Prop} (c:Ct n k Z R E P Z') {q:Nat} (h1:16522≤q) (h2:q<nS) (hE:¬ E q) (hc:∀ p,p<128→¬ E (ch q p)):Ct n k Z R E (fun x=>P x∨x=q) Z':=by
 refine ⟨c.bits,fun q' p a b h0 hP=>c.tabs q' p a b h0 fun y=>hP (.inl y),fun q' p a b hP h0 hp=>?_,c.cont⟩
 rcases hP with hP|rfl
 ·exact c.pend q' p a b hP h0 hp
 ·by_cases hP:P q'
  ·exact c.pend q' p a b hP h0 hp
  ·exact (c.tabs q' p h1 h2 h0 hP hp fun y=>hE y.1).2 fun y=>hc p hp y.1
theorem Ct.give {n k:Nat} {Z Z':Nat→Txt} {R:List Int} {E P:Nat→Prop} (c:Ct n k Z R E P Z') (d:Dim n) (hl:∀ k,k<n→(Z' k).length=512) (w:Wf n Z R) {s:Nat} (hs:s<nS) (h0:num Z R s≠0) (hE:¬ E s) (hD:Dk Z R k s) (hp:∀ q p,par s=some (q,p)→P q∨(E q∧Dk Z R k q)) :
  bit Z' (num Z R s)=true∧Ct n k Z R (fun x=>E x∨x=s) (fun x=>P x∧x≠s) (setZ Z' (num Z R s) false):=by
 obtain ⟨r1,r2,r3⟩:=w.rng s hs h0
 obtain ⟨m1,m2,m3,m4⟩:=d.map r2
 have hb:∀ j,bit (setZ Z' (num Z R s) false) j=if j=num Z R s then false else bit Z' j:=bit_setZ (hl _ m4) false
 have hne:∀ b,(geoN n).inodes≤b→setZ Z' (num Z R s) false b=Z' b:=fun b h=>setZ_ne (by omega)
 have ti:∀ q,q<nS→num Z R q≠0→(geoN n).inodes≤num Z R q:=fun q a b=>by have:=(w.rng q a b).1; omega
 refine ⟨(c.bits _ m2).mpr ⟨r3,fun s' h1 h2 _ h4 e=>hE (w.inj s' s h1 hs h4 e▸h2)⟩,⟨fun j hj=>?_,fun q p a b h1 hP hp' hq=>?_,fun q p a b hP h1 hp'=>by rw [hne _ (ti q b h1)]; exact c.pend q p a b hP.1 h1 hp',fun b a e f=>by rw [hne _ e]; exact c.cont b a e f⟩⟩
 ·rw [hb]
  by_cases e:j=num Z R s
  ·rw [if_pos e]
   exact ⟨fun y=>(by cases y),fun y=>absurd e.symm (y.2 s hs (.inr rfl) hD h0)⟩
  ·rw [if_neg e,c.bits j hj]
   refine ⟨fun y=>⟨y.1,fun s' h1 h2 h3 h4=>?_⟩,fun y=>⟨y.1,fun s' h1 h2=>y.2 s' h1 (.inl h2)⟩⟩
   rcases h2 with h2|rfl
   ·exact y.2 s' h1 h2 h3 h4
   ·exact fun z=>e z.symm
 ·have qs:q≠s:=fun e=>hq ⟨.inr e,e▸hD⟩
  have hP:¬ P q:=fun y=>hP ⟨y,qs⟩
  have t:=c.tabs q p a b h1 hP hp' fun y=>hq ⟨.inl y.1,y.2⟩
  have cs:ch q p≠s:=fun e=>by
   rcases hp q p (by rw [← e]; exact (ch_par a b hp').1) with y|y
   ·exact hP y
   ·exact hq ⟨.inl y.1,y.2⟩
  rw [hne _ (ti q b h1)]
  refine ⟨fun y=>t.1 ⟨y.1.resolve_right cs,y.2⟩,fun y=>t.2 fun z=>y ⟨.inl z.1,z.2⟩⟩
theorem Ct.write {n k:Nat} {Z Z':Nat→Txt} {R:List Int} {E P:Nat→Prop} {b:Txt} (c:Ct n k Z R E P Z') (d:Dim n) (w:Wf n Z R) {q:Nat} (h1:16522≤q) (h2:q<nS) (h0:num Z R q≠0)
  (hb:∀ p,p<128→(E (ch q p)∧Dk Z R k (ch q p)→num4 b p=0)∧(¬ (E (ch q p)∧Dk Z R k (ch q p))→num4 b p=num4 (Z (num Z R q)) p)):Ct n k Z R E (fun x=>P x∧x≠q) (up Z' (num Z R q) b):=by
 obtain ⟨r1,r2,r3⟩:=w.rng q h2 h0
 have hd:=d.data
 have ne:∀ q',q'<nS→num Z R q'≠0→q'≠q→num Z R q'≠num Z R q:=fun q' a e f y=>f (w.inj q' q a h2 e y)
 refine ⟨fun j hj=>?_,fun q' p a e h3 hP hp hq=>?_,fun q' p a e hP h3 hp=>?_,fun x a e f=>?_⟩
 ·rw [bit_up (by have:=(d.map r2).2.2.1; omega)]; exact c.bits j hj
 ·by_cases hqq:q'=q
  ·subst hqq
   rw [up_at]; exact hb p hp
  ·rw [up_ne _ _ (ne q' e h3 hqq)]
   exact c.tabs q' p a e h3 (fun y=>hP ⟨y,hqq⟩) hp hq
 ·rw [up_ne _ _ (ne q' e h3 hP.2)]; exact c.pend q' p a e hP.1 h3 hp
 ·rw [up_ne _ _ (f q h1 h2 h0)]; exact c.cont x a e f
theorem Ct.stay {n k:Nat} {Z Z':Nat→Txt} {R:List Int} {E P:Nat→Prop} (c:Ct n k Z R E P Z') {q:Nat} (hP:P q) (hz:∀ p,p<128→E (ch q p)→Dk Z R k (ch q p)→num Z R (ch q p)=0):Ct n k Z R E (fun x=>P x∧x≠q) Z':=by
 refine ⟨c.bits,fun q' p a e h3 hP' hp hq=>?_,fun q' p a e hP' h3 hp=>c.pend q' p a e hP'.1 h3 hp,c.cont⟩
 by_cases hqq:q'=q
 ·subst hqq
  have t:=c.pend q' p a e hP h3 hp
  refine ⟨fun y=>?_,fun _=>t⟩
  rw [t,← ch_num' a e hp h3]
  exact hz p hp y.1 y.2
 ·exact c.tabs q' p a e h3 (fun y=>hP' ⟨y,hqq⟩) hp hq
end Go.Proofs.YtcdpakjhjmchhaaGreatDoor.Bm
namespace Go.Proofs.YtcdpakjhjmchhaaGreatDoor.Bm
open Go Go.Proofs Wx Hp W Ad Tm Bt Spc Re Av
theorem nz60 {x:Int} (e:x=60):x≠0:=by rw [e]; decide
theorem nz90 {x:Int} (e:x=90):x≠0:=by rw [e]; decide
def KsOk (Tb T:TM) (W:List Int):Prop:=∀ x ∈ ks T,x ∈ ks Tb∨x ∈ W
theorem KsOk.len {Tb T:TM} {W:List Int} (a:KsOk Tb T W) (nd:(ks T).Nodup):(ks T).length≤(ks Tb).length+W.length:=Bm.keys_le nd a
structure Cx (n k:Nat) (Z:Nat→Txt) (R:List Int) (W:List Int):Prop where
 d:Dim n
 w:Wf n Z R
 tg:Tight Z R
 map:∀ j,j<n→((98+j / 4096:Nat):Int) ∈ W
 one:((num Z R 16522:Nat):Int) ∈ W
 two:((num Z R 16523:Nat):Int) ∈ W
 tab:((num Z R (16524+(k - 138) / 128):Nat):Int) ∈ W
structure St (n k:Nat) (Z:Nat→Txt) (R W:List Int) (E P:Nat→Prop) (T0 Tb:TM) (Z':Nat→Txt) (T:TM):Prop where
 a:Av n Z' T
 c:Ct n k Z R E P Z'
 x:Ext T0 T
 ks:KsOk Tb T W
theorem St.iff {n k:Nat} {Z Z':Nat→Txt} {R W:List Int} {E E' P P':Nat→Prop} {T0 Tb T:TM} (s:St n k Z R W E P T0 Tb Z' T) (h:∀ s,s<nS→(E s↔E' s)) (hp:∀ s,P s↔P' s):St n k Z R W E' P' T0 Tb Z' T :=
 ⟨s.a,(s.c.iff h).iffP hp,s.x,s.ks⟩
theorem St.grow {n k:Nat} {Z Z':Nat→Txt} {R W:List Int} {E E' P:Nat→Prop} {T0 Tb T:TM} (s:St n k Z R W E P T0 Tb Z' T) (h1:∀ s,E s→E' s) (h2:∀ s,s<nS→E' s→¬ E s→num Z R s≠0→¬ Dk Z R k s):St n k Z R W E' P T0 Tb Z' T :=
 ⟨s.a,s.c.grow h1 h2,s.x,s.ks⟩
def Som (k:Nat) (Z:Nat→Txt) (R:List Int):Prop:=∃ x,x<nS∧num Z R x≠0∧Dk Z R k x
inductive Out (n k:Nat) (Z:Nat→Txt) (R W:List Int) (E P:Nat→Prop) (T0 Tb:TM) (s:Nat) (T:TM) (r:TM×Bool×Int):Prop where
 | ok (Z':Nat→Txt):r.2.2=0→(r.2.1=true↔Dk Z R k s)→St n k Z R W (fun x=>E x∨Sub s x) P T0 Tb Z' r.1→((∀ x,Sub s x→num Z R x≠0→¬ Dk Z R k x)→r.1=T)→Out n k Z R W E P T0 Tb s T r
 | full:r.2.2=60→Ext T0 r.1→(96≤(Av.ks Tb).length+W.length∧Som k Z R)→Out n k Z R W E P T0 Tb s T r
theorem give_ext {T0 T:TM} (e:Ext T0 T) (g:G) (i:Int):Ext T0 (Spc.give T g i).1:=by
 unfold Spc.give
 split
 ·exact e
 ·split
  ·exact e
  ·split
   ·exact e
   ·exact setBit_ext e _ _ _
theorem give_ok {n k:Nat} {Z Z':Nat→Txt} {R W:List Int} {E P:Nat→Prop} {T0 Tb T:TM} (C:Cx n k Z R W) (st:St n k Z R W E P T0 Tb Z' T) {s:Nat} (hs:s<nS) (h0:num Z R s≠0) (hE:¬ E s) (hD:Dk Z R k s) (hp:∀ q p,par s=some (q,p)→P q∨(E q∧Dk Z R k q)) :
  ((Spc.give T (geoN n) (num Z R s:Nat)).2=0∧St n k Z R W (fun x=>E x∨x=s) (fun x=>P x∧x≠s) T0 Tb (setZ Z' (num Z R s) false) (Spc.give T (geoN n) (num Z R s:Nat)).1) ∨
   ((Spc.give T (geoN n) (num Z R s:Nat)).2=60∧Ext T0 (Spc.give T (geoN n) (num Z R s:Nat)).1∧(96≤(Av.ks Tb).length+W.length∧Som k Z R)):=by
 obtain ⟨r1,r2,r3⟩:=C.w.rng s hs h0
 obtain ⟨b1,c1⟩:=st.c.give C.d st.a.len C.w hs h0 hE hD hp
 rcases st.a.give C.d r1 r2 b1 with ⟨e,a',k'⟩|⟨e,h96⟩
 ·refine .inl ⟨e,a',c1,give_ext st.x _ _,fun x hx=>?_⟩
  rcases (k' x).mp hx with hx|hx
  ·exact st.ks x hx
  ·exact .inr (hx▸C.map _ r2)
 ·refine .inr ⟨by rw [e],give_ext st.x _ _,?_,s,hs,h0,hD⟩
  have:=st.ks.len st.a.keys
  omega
theorem giveF_give {n k:Nat} {Z:Nat→Txt} {R W:List Int} (C:Cx n k Z R W) {s:Nat} (hs:s<nS) (h0:num Z R s≠0) (T:TM):giveF T (geoN n) (num Z R s:Nat)=Spc.give T (geoN n) (num Z R s:Nat):=by
 obtain ⟨r1,r2,r3⟩:=C.w.rng s hs h0
 unfold giveF
 rw [if_neg fun y=>y (look_ok r1 r2)]
theorem leaf_ok {n k:Nat} {Z Z':Nat→Txt} {R W:List Int} {E P:Nat→Prop} {T0 Tb T:TM} (C:Cx n k Z R W) (st:St n k Z R W E P T0 Tb Z' T) {s:Nat} (hs:s<16522) (h0:num Z R s≠0) (hE:¬ E s) (hk:k≤s) (hP:∀ x,P x→16522≤x) (hp:∀ q p,par s=some (q,p)→P q) (i:Nat) :
  Out n k Z R W E P T0 Tb s T (leafD (geoN n) T i (num Z R s:Nat)):=by
 have hn:s<nS:=by unfold nS; omega
 have hD:Dk Z R k s:=(dk_data hs).mpr hk
 have eg:leafD (geoN n) T i (num Z R s:Nat)=((Spc.give T (geoN n) (num Z R s:Nat)).1,true,(Spc.give T (geoN n) (num Z R s:Nat)).2):=by
  show ((giveF T (geoN n) (num Z R s:Nat)).1,true,(giveF T (geoN n) (num Z R s:Nat)).2)=_
  rw [giveF_give C hn h0]
 rw [eg]
 rcases give_ok C st hn h0 hE hD (fun q p e => .inl (hp q p e)) with ⟨e,st'⟩|⟨e,x,h⟩
 ·refine .ok _ e ⟨fun _=>hD,fun _=>rfl⟩ (st'.iff (fun x _=>by rw [sub_leaf hs]) fun x=>⟨fun y=>y.1,fun y=>⟨y,fun z=>by have:=hP x y; omega⟩⟩) fun h=>absurd hD (h s (sub_self s) h0)
 ·exact .full e x h
structure GoI (k:Nat) (Z:Nat→Txt) (R:List Int) (q i:Nat) (S:CutS):Prop where
 len:S.b.length=512
 b:∀ p,p<128→(p<i∧Dk Z R k (ch q p)→num4 S.b p=0)∧(¬ (p<i∧Dk Z R k (ch q p))→num4 S.b p=num4 (Z (num Z R q)) p)
 left:S.left=true↔∃ j,j<i∧num Z R (ch q j)≠0∧¬ Dk Z R k (ch q j)
 turned:S.turned=true↔∃ j,j<i∧num Z R (ch q j)≠0∧Dk Z R k (ch q j)
theorem GoI.zero {k:Nat} {Z:Nat→Txt} {R:List Int} {q i:Nat} {S:CutS} (I:GoI k Z R q i S) (h1:16522≤q) (h2:q<nS) (h0:num Z R q≠0) (hi:i<128) (hz:num Z R (ch q i)=0):GoI k Z R q (i+1) S:=by
 refine ⟨I.len,fun p hp=>?_,?_,?_⟩
 ·obtain ⟨b1,b2⟩:=I.b p hp
  by_cases e:p=i
  ·subst e
   have b2:=b2 fun y=>absurd y.1 (Nat.lt_irrefl _)
   have e0:num4 (Z (num Z R q)) p=0:=by rw [← ch_num' h1 h2 hp h0]; exact hz
   exact ⟨fun _=>b2.trans e0,fun _=>b2⟩
  ·exact ⟨fun y=>b1 ⟨by omega,y.2⟩,fun y=>b2 fun z=>y ⟨by omega,z.2⟩⟩
 ·rw [I.left]
  refine ⟨fun ⟨j,a,b⟩=>⟨j,by omega,b⟩,fun ⟨j,a,b⟩=>⟨j,?_,b⟩⟩
  by_cases e:j=i
  ·subst e; exact absurd hz b.1
  ·omega
 ·rw [I.turned]
  refine ⟨fun ⟨j,a,b⟩=>⟨j,by omega,b⟩,fun ⟨j,a,b⟩=>⟨j,?_,b⟩⟩
  by_cases e:j=i
  ·subst e; exact absurd hz b.1
  ·omega
theorem GoI.step {k:Nat} {Z:Nat→Txt} {R:List Int} {q i:Nat} {S:CutS} {gone:Bool} {T':TM} (I:GoI k Z R q i S) (hi:i<128) (hz:num Z R (ch q i)≠0) (hg:gone=true↔Dk Z R k (ch q i)) :
  GoI k Z R q (i+1) ⟨T',if gone=true then set4 S.b i 0 else S.b,S.left || !gone,S.turned || gone⟩:=by
 refine ⟨?_,fun p hp=>?_,?_,?_⟩
 ·show (if gone=true then set4 S.b i 0 else S.b).length=512
  split
  ·exact set4_length I.len hi
  ·exact I.len
 ·obtain ⟨b1,b2⟩:=I.b p hp
  show (_→num4 (if gone=true then set4 S.b i 0 else S.b) p=0)∧(_→num4 (if gone=true then set4 S.b i 0 else S.b) p=_)
  by_cases hgt:gone=true
  ·rw [if_pos hgt,num4_set I.len hi hp (by decide)]
   by_cases e:p=i
   ·rw [if_pos e]
    exact ⟨fun _=>rfl,fun y=>absurd ⟨by omega,e▸hg.mp hgt⟩ y⟩
   ·rw [if_neg e]
    exact ⟨fun y=>b1 ⟨by omega,y.2⟩,fun y=>b2 fun z=>y ⟨by omega,z.2⟩⟩
  ·rw [if_neg hgt]
   have hnd:¬ Dk Z R k (ch q i):=fun y=>hgt (hg.mpr y)
   refine ⟨fun y=>b1 ⟨?_,y.2⟩,fun y=>b2 fun z=>y ⟨by omega,z.2⟩⟩
   by_cases e:p=i
   ·exact absurd (e▸y.2) hnd
   ·omega
 ·show (S.left || !gone)=true↔_
  rw [Bool.or_eq_true,I.left]
  constructor
  ·rintro (⟨j,a,b⟩|y)
   ·exact ⟨j,by omega,b⟩
   ·refine ⟨i,by omega,hz,fun z=>?_⟩
    rw [hg.mpr z] at y; cases y
  ·rintro ⟨j,a,b,c⟩
   by_cases e:j=i
   ·right
    cases hgt:gone with
    | true=>exact absurd (e▸hg.mp hgt) c
    | false=>rfl
   ·exact .inl ⟨j,by omega,b,c⟩
 ·show (S.turned || gone)=true↔_
  rw [Bool.or_eq_true,I.turned]
  constructor
  ·rintro (⟨j,a,b⟩|y)
   ·exact ⟨j,by omega,b⟩
   ·exact ⟨i,by omega,hz,hg.mp y⟩
  ·rintro ⟨j,a,b,c⟩
   by_cases e:j=i
   ·exact .inr (hg.mpr (e▸c))
   ·exact .inl ⟨j,by omega,b,c⟩
def Ei (q:Nat) (E:Nat→Prop) (i:Nat):Nat→Prop:=fun s=>E s∨∃ j,j<i∧Sub (ch q j) s
theorem ei_succ (q:Nat) (E:Nat→Prop) (i s:Nat):(Ei q E i s∨Sub (ch q i) s)↔Ei q E (i+1) s:=by
 unfold Ei
 constructor
 ·rintro ((y|⟨j,a,b⟩)|y)
  ·exact .inl y
  ·exact .inr ⟨j,by omega,b⟩
  ·exact .inr ⟨i,by omega,y⟩
 ·rintro (y|⟨j,a,b⟩)
  ·exact .inl (.inl y)
  ·by_cases e:j=i
   ·subst e; exact .inr b
   ·exact .inl (.inr ⟨j,by omega,b⟩)
theorem cutGo_ok {n k:Nat} {Z:Nat→Txt} {R W:List Int} {E P:Nat→Prop} {T0 Tb:TM} (C:Cx n k Z R W) {q:Nat} (h1:16522≤q) (h2:q<nS) (h0:num Z R q≠0) {from_:Int} {dM:DropM} (hE:∀ s,Sub q s→¬ E s)
  (hlow:∀ i:Nat,i<128→(i:Int)<from_→∀ s,Sub (ch q i) s→num Z R s≠0→¬ Dk Z R k s)
  (hd:∀ i:Nat,i<128→from_≤i→num Z R (ch q i)≠0→∀ (E':Nat→Prop) Z' T',(∀ s,Sub (ch q i) s→¬ E' s)→St n k Z R W E' P T0 Tb Z' T'→Out n k Z R W E' P T0 Tb (ch q i) T' (dM T' i (num Z R (ch q i):Nat))) :
  ∀ (l:List Int) (i:Nat) (S:CutS) (Z':Nat→Txt),i+l.length=128→(∀ j (hj:j<l.length),l[j]=((num Z R (ch q (i+j)):Nat):Int))→St n k Z R W (Ei q E i) P T0 Tb Z' S.T→GoI k Z R q i S →
   ((cutGo dM from_ l i S).2=60∧Ext T0 (cutGo dM from_ l i S).1.T∧(96≤(Av.ks Tb).length+W.length∧Som k Z R)) ∨
   ((cutGo dM from_ l i S).2=0∧∃ Z'',St n k Z R W (Ei q E 128) P T0 Tb Z'' (cutGo dM from_ l i S).1.T∧GoI k Z R q 128 (cutGo dM from_ l i S).1∧((∀ x,Sub q x→num Z R x≠0→¬ Dk Z R k x)→(cutGo dM from_ l i S).1.T=S.T))
 | [],i,S,Z',hi,_,st,I=>by
  have:i=128:=hi
  subst this
  exact .inr ⟨rfl,Z',st,I,fun _=>rfl⟩
 | v::r,i,S,Z',hi,hv,st,I=>by
  rw [List.length_cons] at hi
  have ev:v=((num Z R (ch q i):Nat):Int):=hv 0 (Nat.succ_pos _)
  have hv':∀ j (hj:j<r.length),r[j]=((num Z R (ch q (i+1+j)):Nat):Int):=fun j hj=>by
   have:=hv (j+1) (Nat.succ_lt_succ hj)
   rw [show i+(j+1)=i+1+j by omega] at this
   exact this
  have hi128:i<128:=by omega
  have hc:=(ch_par h1 h2 hi128).2
  have hEc:∀ s,Sub (ch q i) s→¬ Ei q E i s:=fun s hs y=>by
   rcases y with y|⟨j,hj,y⟩
   ·exact hE s ((sub_split h1 h2).mpr (.inr ⟨i,hi128,hs⟩)) y
   ·have:=sub_inj h1 h2 hi128 (show j<128 by omega) hs y
    omega
  rw [cutGo_cons]
  by_cases hz:num Z R (ch q i)=0
  ·rw [if_pos (by omega)]
   refine cutGo_ok C h1 h2 h0 hE hlow hd r (i+1) S Z' (by omega) hv' (st.grow (fun s y=>(ei_succ q E i s).mp (.inl y)) fun s hs y hn hz'=>?_) (I.zero h1 h2 h0 hi128 hz)
   rcases (ei_succ q E i s).mpr y with y|y
   ·exact absurd y hn
   ·exact absurd (sub_zero hc hz s y) hz'
  ·rw [if_neg (by omega)]
   by_cases hf:(i:Int)<from_
   ·rw [if_pos hf]
    have hl:=hlow i hi128 hf
    have I':=I.step (T':=S.T) (gone:=false) hi128 hz ⟨fun y=>(by cases y),fun y=>absurd y (hl _ (sub_self _) hz)⟩
    rw [Bool.not_false,Bool.or_true,Bool.or_false,if_neg (fun y=>by cases y)] at I'
    exact cutGo_ok C h1 h2 h0 hE hlow hd r (i+1) { S with left:=true } Z' (by omega) hv' (st.grow (fun s y=>(ei_succ q E i s).mp (.inl y)) fun s hs y hn hz'=>by
     rcases (ei_succ q E i s).mpr y with y|y
     ·exact absurd y hn
     ·exact hl s y hz') I'
   ·rw [if_neg hf,ev]
    rcases hd i hi128 (by omega) hz (Ei q E i) Z' S.T hEc st with ⟨Z'',e1,e2,st',e4⟩|⟨e1,e2,e3⟩
    ·rw [if_neg (fun y=>y e1)]
     have I':=I.step (T':=(dM S.T i (num Z R (ch q i):Nat)).1) hi128 hz e2
     rcases cutGo_ok C h1 h2 h0 hE hlow hd r (i+1) _ Z'' (by omega) hv' (st'.iff (fun s _=>ei_succ q E i s) fun _=>Iff.rfl) I' with y|⟨y1,Z3,y2,y3,y4⟩
     ·exact .inl y
     ·refine .inr ⟨y1,Z3,y2,y3,fun h=>(y4 h).trans (e4 fun x hx=>h x ((sub_split h1 h2).mpr (.inr ⟨i,hi128,hx⟩)))⟩
    ·rw [if_pos (nz60 e1)]
     exact .inl ⟨e1,e2,e3⟩
theorem cutT_ok {n k:Nat} {Z Z':Nat→Txt} {R W:List Int} {E P:Nat→Prop} {T0 Tb T:TM} (C:Cx n k Z R W) {q:Nat} (h1:16522≤q) (h2:q<nS) (h0:num Z R q≠0) {from_:Int} {dM:DropM} (hE:∀ s,Sub q s→¬ E s) (hP:¬ P q) (hpar:∀ q' p,par q=some (q',p)→P q')
  (hW:∀ i j,i<128→j<128→num Z R (ch q i)≠0→¬ Dk Z R k (ch q i)→num Z R (ch q j)≠0→Dk Z R k (ch q j)→((num Z R q:Nat):Int) ∈ W)
  (hlow:∀ i:Nat,i<128→(i:Int)<from_→∀ s,Sub (ch q i) s→num Z R s≠0→¬ Dk Z R k s)
  (hd:∀ i:Nat,i<128→from_≤i→num Z R (ch q i)≠0→∀ (E':Nat→Prop) Z' T',(∀ s,Sub (ch q i) s→¬ E' s)→St n k Z R W E' (fun x=>P x∨x=q) T0 Tb Z' T'→Out n k Z R W E' (fun x=>P x∨x=q) T0 Tb (ch q i) T' (dM T' i (num Z R (ch q i):Nat)))
  (st:St n k Z R W E P T0 Tb Z' T):Out n k Z R W E P T0 Tb q T ((cutT dM T (geoN n) (num Z R q:Nat) from_).1,!(cutT dM T (geoN n) (num Z R q:Nat) from_).2.1,(cutT dM T (geoN n) (num Z R q:Nat) from_).2.2):=by
 obtain ⟨r1,r2,r3⟩:=C.w.rng q h2 h0
 have hdat:=C.d.data
 have hEc:∀ p,p<128→¬ E (ch q p):=fun p hp=>hE _ ((sub_split h1 h2).mpr (.inr ⟨p,hp,sub_self _⟩))
 have cw:=st.c.wait h1 h2 (hE q (sub_self q)) hEc
 have st0:St n k Z R W (Ei q E 0) (fun x=>P x∨x=q) T0 Tb Z' T:=⟨st.a,cw.iff fun s _=>⟨.inl,fun y=>y.elim id fun ⟨j,a,_⟩=>by omega⟩,st.x,st.ks⟩
 have hb:∀ p,p<128→num4 (Z' (num Z R q)) p=num4 (Z (num Z R q)) p:=fun p hp=>cw.pend q p h1 h2 (.inr rfl) h0 hp
 have I0:GoI k Z R q 0 ⟨T,Z' (num Z R q),false,false⟩:=⟨st.a.len _ r2,fun p hp=>⟨fun y=>(by omega),fun _=>hb p hp⟩,⟨fun y=>(by cases y),fun ⟨j,a,_⟩=>by omega⟩,⟨fun y=>(by cases y),fun ⟨j,a,_⟩=>by omega⟩⟩
 unfold cutT
 rw [if_neg (fun y=>y (look_ok r1 r2)),st.a.z _ r2,if_neg (fun y=>y rfl)]
 have G:=cutGo_ok C h1 h2 h0 hE hlow hd (numsL (Z' (num Z R q))) 0 ⟨T,Z' (num Z R q),false,false⟩ Z' (by rw [numsL_len]) (fun j hj=>by
  have hj':j<128:=by rw [numsL_len] at hj; exact hj
  rw [numsL_get hj,hb j hj',Nat.zero_add,ch_num' h1 h2 hj' h0]) st0 I0
 show Out n k Z R W E P T0 Tb q T ((cutEnd (geoN n) (num Z R q:Nat) (cutGo dM from_ (numsL (Z' (num Z R q))) 0 ⟨T,Z' (num Z R q),false,false⟩)).1,!(cutEnd (geoN n) (num Z R q:Nat) (cutGo dM from_ (numsL (Z' (num Z R q))) 0 ⟨T,Z' (num Z R q),false,false⟩)).2.1,(cutEnd (geoN n) (num Z R q:Nat) (cutGo dM from_ (numsL (Z' (num Z R q))) 0 ⟨T,Z' (num Z R q),false,false⟩)).2.2)
 generalize cutGo dM from_ (numsL (Z' (num Z R q))) 0 ⟨T,Z' (num Z R q),false,false⟩=c at G
 have e128:∀ s,(Ei q E 128 s∨s=q)↔(E s∨Sub q s):=fun s=>by
  rw [sub_split h1 h2]
  unfold Ei
  constructor
  ·rintro ((y|y)|y)
   ·exact .inl y
   ·exact .inr (.inr y)
   ·exact .inr (.inl y)
  ·rintro (y|y|y)
   ·exact .inl (.inl y)
   ·exact .inr y
   ·exact .inl (.inr y)
 have ep:∀ s,((P s∨s=q)∧s≠q)↔P s:=fun s=>⟨fun y=>y.1.resolve_right y.2,fun y=>⟨.inl y,fun e=>hP (e▸y)⟩⟩
 have hnE:¬ Ei q E 128 q:=by
  rintro (y|⟨j,hj,y⟩)
  ·exact hE q (sub_self q) y
  ·exact sub_not h1 h2 hj y
 unfold cutEnd
 rcases G with ⟨e1,e2,e3⟩|⟨e1,Z'',st',I,nf⟩
 ·rw [if_pos (nz60 e1)]
  exact .full e1 e2 e3
 rw [if_neg (fun y=>y e1)]
 have Dq:Dk Z R k q↔c.1.left=false:=by
  rw [dk_ch h1 h2]
  constructor
  ·intro h
   cases hl:c.1.left with
   | false=>rfl
   | true =>
    obtain ⟨j,a,b,e⟩:=I.left.mp hl
    exact absurd (h j a b) e
  ·intro h j a b
   refine Classical.byContradiction fun e=>?_
   rw [I.left.mpr ⟨j,a,b,e⟩] at h; cases h
 cases hl:c.1.left with
 | false =>
  rw [if_pos rfl]
  have hD:=Dq.mpr hl
  rcases give_ok C st' h2 h0 hnE hD (fun q' p e => .inl (.inl (hpar q' p e))) with ⟨e,st2⟩|⟨e,x,h⟩
  ·refine .ok _ e ⟨fun _=>hD,fun _=>rfl⟩ (st2.iff (fun s _=>e128 s) ep) fun h=>absurd hD (h q (sub_self q) h0)
  ·exact .full e x h
 | true =>
  rw [if_neg (fun y=>by cases y)]
  have hD:¬ Dk Z R k q:=fun y=>by rw [Dq.mp y] at hl; cases hl
  have Eq:∀ p,p<128→Ei q E 128 (ch q p):=fun p hp => .inr ⟨p,hp,sub_self _⟩
  have gro:∀ {P':Nat→Prop} {Z3:Nat→Txt} {T3:TM},St n k Z R W (Ei q E 128) P' T0 Tb Z3 T3→St n k Z R W (fun x=>E x∨Sub q x) P' T0 Tb Z3 T3:=fun s3=>s3.grow (fun s y=>(e128 s).mp (.inl y)) fun s hs y hn hz=>by
   rcases (e128 s).mpr y with y|y
   ·exact absurd y hn
   ·exact y▸hD
  cases ht:c.1.turned with
  | false =>
   rw [if_neg (fun y=>by cases y)]
   have c3:=st'.c.stay (q:=q) (.inr rfl) fun p hp _ hDp=>Classical.byContradiction fun z=>by rw [I.turned.mpr ⟨p,hp,z,hDp⟩] at ht; cases ht
   exact .ok Z'' rfl ⟨fun y=>(by cases y),fun y=>absurd y hD⟩ (gro ⟨st'.a,c3.iffP ep,st'.x,st'.ks⟩) nf
  | true =>
   rw [if_pos rfl]
   obtain ⟨j,hj,j0,jD⟩:=I.turned.mp ht
   obtain ⟨i,hi,i0,iD⟩:=I.left.mp hl
   have hw:=hW i j hi hj i0 iD j0 jD
   have bp:∀ p,p<128→(Ei q E 128 (ch q p)∧Dk Z R k (ch q p)→num4 c.1.b p=0)∧(¬ (Ei q E 128 (ch q p)∧Dk Z R k (ch q p))→num4 c.1.b p=num4 (Z (num Z R q)) p):=fun p hp =>
    ⟨fun y=>(I.b p hp).1 ⟨hp,y.2⟩,fun y=>(I.b p hp).2 fun z=>y ⟨Eq p hp,z.2⟩⟩
   have c3:=st'.c.write C.d C.w h1 h2 h0 bp
   rcases st'.a.write_full (i:=num Z R q) (bs:=c.1.b) (by omega) r2 I.len with e|⟨e,h96,_⟩
   ·refine .ok _ e ⟨fun y=>(by cases y),fun y=>absurd y hD⟩ (gro ⟨st'.a.write (by omega) r2 I.len e,c3.iffP ep,st'.x.write _ _,fun x hx=>?_⟩) fun h=>?_
    ·rcases (write_keys e x).mp hx with hx|hx
     ·exact st'.ks x hx
     ·exact .inr (hx▸hw)
    ·exact absurd jD (h _ ((sub_split h1 h2).mpr (.inr ⟨j,hj,sub_self _⟩)) j0)
   ·refine .full (by show (c.1.T.write _ _).2=60; rw [e]) (st'.x.write _ _) ⟨?_,ch q j,(ch_par h1 h2 hj).2,j0,jD⟩
    have:=st'.ks.len st'.a.keys
    omega
end Go.Proofs.YtcdpakjhjmchhaaGreatDoor.Bm
namespace Go.Proofs.YtcdpakjhjmchhaaGreatDoor.Bm
open Go Go.Proofs Wx Hp W Ad Tm Bt Spc Re Av
structure Rt (k:Nat) (Z:Nat→Txt) (R:List Int) (E:Nat→Prop) (R':List Int):Prop where
 len:R'.length=15
 head:∀ i,i<3→R'.getD i 0=R.getD i 0
 root:∀ s,s<nS→par s=none→(E s∧Dk Z R k s→Bm.root R' s=0)∧(¬ (E s∧Dk Z R k s)→Bm.root R' s=Bm.root R s)
theorem Rt.grow {n k:Nat} {Z:Nat→Txt} {R R':List Int} {E E':Nat→Prop} (w:Wf n Z R) (r:Rt k Z R E R') (h1:∀ s,E s→E' s) (h2:∀ s,s<nS→par s=none→E' s→¬ E s→num Z R s≠0→¬ Dk Z R k s):Rt k Z R E' R':=by
 refine ⟨r.len,r.head,fun s hs hp=>?_⟩
 obtain ⟨a,b⟩:=r.root s hs hp
 refine ⟨fun y=>?_,fun y=>b fun z=>y ⟨h1 s z.1,z.2⟩⟩
 by_cases he:E s
 ·exact a ⟨he,y.2⟩
 ·rw [b fun z=>he z.1,root_num w hs hp]
  by_cases h0:num Z R s=0
  ·rw [h0]; rfl
  ·exact absurd y.2 (h2 s hs hp y.1 he h0)
theorem Rt.iff {k:Nat} {Z:Nat→Txt} {R R':List Int} {E E':Nat→Prop} (r:Rt k Z R E R') (h:∀ s,s<nS→par s=none→(E s↔E' s)):Rt k Z R E' R' :=
 ⟨r.len,r.head,fun s hs hp=>by rw [← h s hs hp]; exact r.root s hs hp⟩
theorem root_dir {R:List Int} {i:Nat} (hi:i<10):root R i=R.getD (3+i) 0:=if_pos hi
theorem root_one (R:List Int):root R 16522=R.getD 13 0:=rfl
theorem root_two (R:List Int):root R 16523=R.getD 14 0:=rfl
theorem setRoot_head {R:List Int} {s:Nat} {v:Int} {i:Nat} (hl:R.length=15) (_:s<10∨s=16522∨s=16523) (hi:i<3):(setRoot R s v).getD i 0=R.getD i 0:=by
 unfold setRoot
 split
 ·rw [getD_set _ _ _ _ _ (by omega),if_neg (by omega)]
 ·split
  ·rw [getD_set _ _ _ _ _ (by omega),if_neg (by omega)]
  ·rw [getD_set _ _ _ _ _ (by omega),if_neg (by omega)]
theorem setRoot_len {R:List Int} {s:Nat} {v:Int}:(setRoot R s v).length=R.length:=by
 unfold setRoot
 split
 ·exact List.length_set
 ·split
  ·exact List.length_set
  ·exact List.length_set
theorem Rt.set {k:Nat} {Z:Nat→Txt} {R R':List Int} {E:Nat→Prop} (r:Rt k Z R E R') {s:Nat} (hp:par s=none) (hD:Dk Z R k s):Rt k Z R (fun x=>E x∨x=s) (setRoot R' s 0):=by
 refine ⟨setRoot_len.trans r.len,fun i hi=>(setRoot_head r.len (par_none hp) hi).trans (r.head i hi),fun x hx hpx=>?_⟩
 rw [root_set r.len hp hpx]
 obtain ⟨a,b⟩:=r.root x hx hpx
 by_cases e:x=s
 ·rw [if_pos e]
  exact ⟨fun _=>rfl,fun y=>absurd ⟨.inr e,e▸hD⟩ y⟩
 ·rw [if_neg e]
  exact ⟨fun y=>a ⟨y.1.resolve_right e,y.2⟩,fun y=>b fun z=>y ⟨.inl z.1,z.2⟩⟩
abbrev No' : Nat→Prop:=fun _=>False
theorem dirGo_ok {n k:Nat} {Z:Nat→Txt} {R W:List Int} {T0 Tb:TM} (C:Cx n k Z R W):∀ (m i:Nat) (T:TM) (R':List Int) (Z':Nat→Txt),i+m=10→k≤i→St n k Z R W (fun s=>s<i) No' T0 Tb Z' T→Rt k Z R (fun s=>s<i) R' →
  ((dirGo (geoN n) (List.range' i m) T R').2=60∧Ext T0 (dirGo (geoN n) (List.range' i m) T R').1.1∧(96≤(Av.ks Tb).length+W.length∧Som k Z R)) ∨
  ((dirGo (geoN n) (List.range' i m) T R').2=0∧∃ Z'',St n k Z R W (fun s=>s<10) No' T0 Tb Z'' (dirGo (geoN n) (List.range' i m) T R').1.1∧Rt k Z R (fun s=>s<10) (dirGo (geoN n) (List.range' i m) T R').1.2 ∧
   ((∀ x,x<10→num Z R x≠0→¬ Dk Z R k x)→(dirGo (geoN n) (List.range' i m) T R').1=(T,R')))
 | 0,i,T,R',Z',hi,_,st,rt=>by
  have:i=10:=hi
  subst this
  exact .inr ⟨rfl,Z',st,rt,fun _=>rfl⟩
 | m+1,i,T,R',Z',hi,hk,st,rt=>by
  have hi10:i<10:=by omega
  have hs:i<nS:=by unfold nS; omega
  have hp:par i=none:=by unfold par; rw [if_pos hi10]
  have ev:R'.getD (3+i) 0=((num Z R i:Nat):Int):=by
   rw [← root_dir hi10,(rt.root i hs hp).2 (fun y=>absurd y.1 (Nat.lt_irrefl _)),root_num C.w hs hp]
  rw [show List.range' i (m+1)=i::List.range' (i+1) m from rfl]
  unfold dirGo
  rw [ev]
  by_cases h0:num Z R i=0
  ·rw [if_pos (by omega)]
   exact dirGo_ok C m (i+1) T R' Z' (by omega) (by omega) (st.grow (fun s y=>by have y:s<i:=y; show s<i+1; omega) fun s _ y hn hz=>by
    have y:s<i+1:=y
    have hn:¬ s<i:=hn
    have:s=i:=by omega
    exact absurd (this▸h0) hz) (rt.grow C.w (fun s y=>by have y:s<i:=y; show s<i+1; omega) fun s _ _ y hn hz=>by
    have y:s<i+1:=y
    have hn:¬ s<i:=hn
    have:s=i:=by omega
    exact absurd (this▸h0) hz)
  ·rw [if_neg (by omega),giveF_give C hs h0]
   have hD:Dk Z R k i:=(dk_data (by omega)).mpr hk
   rcases give_ok C st hs h0 (Nat.lt_irrefl _) hD (fun q p e=>by rw [hp] at e; cases e) with ⟨e,st'⟩|⟨e,x,h⟩
   ·rw [if_neg (fun y=>y e)]
    have es:R'.set (3+i) 0=setRoot R' i 0:=by unfold setRoot; rw [if_pos hi10]
    rw [es]
    have lt:∀ s,(s<i∨s=i)↔s<i+1:=fun s=>by omega
    rcases dirGo_ok C m (i+1) _ _ _ (by omega) (by omega) (st'.iff (fun s _=>lt s) fun _=>⟨fun y=>y.1,fun y=>y.elim⟩) ((rt.set hp hD).iff fun s _ _=>lt s) with y|⟨y1,Z3,y2,y3,y4⟩
    ·exact .inl y
    ·exact .inr ⟨y1,Z3,y2,y3,fun h=>absurd hD (h i hi10 h0)⟩
   ·rw [if_pos (nz60 e)]
    exact .inl ⟨e,x,h⟩
theorem rootEnd_ok {n k:Nat} {Z:Nat→Txt} {R R' W:List Int} {E P:Nat→Prop} {T0 Tb T:TM} (_:Cx n k Z R W) {q i:Nat} (hq:q=16522∧i=13∨q=16523∧i=14) (rt:Rt k Z R E R') (hE:¬ E q) {c:TM×Bool×Int} (o:Out n k Z R W E P T0 Tb q T (c.1,!c.2.1,c.2.2)) (h0:num Z R q≠0) :
  ((rootEnd i R' c).2=60∧Ext T0 (rootEnd i R' c).1.1∧(96≤(Av.ks Tb).length+W.length∧Som k Z R)) ∨
  ((rootEnd i R' c).2=0∧∃ Z'',St n k Z R W (fun s=>E s∨Sub q s) P T0 Tb Z'' (rootEnd i R' c).1.1∧Rt k Z R (fun s=>E s∨Sub q s) (rootEnd i R' c).1.2∧((∀ x,Sub q x→num Z R x≠0→¬ Dk Z R k x)→(rootEnd i R' c).1=(T,R'))):=by
 have hp:par q=none:=by rcases hq with ⟨rfl,_⟩|⟨rfl,_⟩ <;> rfl
 have sr:∀ s,Sub q s→par s=none→s=q:=fun s hs e=>by
  have b:=par_none e
  rcases hq with ⟨rfl,_⟩|⟨rfl,_⟩
  ·rw [sub_one] at hs; omega
  ·rw [sub_two] at hs; omega
 unfold rootEnd
 rcases o with ⟨Z'',e1,e2,st',e4⟩|⟨e1,e2,e3⟩
 ·have e1:c.2.2=0:=e1
  have e2:(!c.2.1)=true↔Dk Z R k q:=e2
  rw [if_neg (fun y=>y e1)]
  refine .inr ⟨rfl,Z'',st',?_,fun h=>?_⟩
  ·show Rt k Z R _ (if c.2.1=true then R' else R'.set i 0)
   cases hl:c.2.1 with
   | true =>
    rw [if_pos rfl]
    have hD:¬ Dk Z R k q:=fun y=>by have:=e2.mpr y; rw [hl] at this; cases this
    refine ⟨rt.len,rt.head,fun s hs hps=>?_⟩
    obtain ⟨a,b⟩:=rt.root s hs hps
    refine ⟨fun y=>a ⟨?_,y.2⟩,fun y=>b fun z=>y ⟨.inl z.1,z.2⟩⟩
    rcases y.1 with z|z
    ·exact z
    ·exact absurd (sr s z hps▸y.2) hD
   | false =>
    rw [if_neg (fun y=>by cases y)]
    have hD:Dk Z R k q:=e2.mp (by rw [hl]; rfl)
    have es:R'.set i 0=setRoot R' q 0:=by rcases hq with ⟨rfl,rfl⟩|⟨rfl,rfl⟩ <;> rfl
    rw [es]
    refine (rt.set hp hD).iff fun s _ hps=>⟨fun y=>y.elim .inl fun z => .inr (z▸sub_self _),fun y=>y.elim .inl fun z => .inr (sr s z hps)⟩
  ·have hD:¬ Dk Z R k q:=h q (sub_self q) h0
   have hl:c.2.1=true:=by
    cases hl:c.2.1 with
    | true=>rfl
    | false=>exact absurd (e2.mp (by rw [hl]; rfl)) hD
   show (c.1,if c.2.1=true then R' else R'.set i 0)=(T,R')
   rw [if_pos hl]
   have:c.1=T:=e4 h
   rw [this]
 ·have e1:c.2.2=60:=e1
  rw [if_pos (nz60 e1)]
  exact .inl ⟨e1,e2,e3⟩
def E1 : Nat→Prop:=fun s=>s<10
def E2 : Nat→Prop:=fun s=>E1 s∨Sub 16522 s
def E3 : Nat→Prop:=fun s=>E2 s∨Sub 16523 s
theorem oneM_ok {n k:Nat} {Z Z':Nat→Txt} {R R' W:List Int} {T0 Tb T:TM} (C:Cx n k Z R W) (st:St n k Z R W E1 No' T0 Tb Z' T) (rt:Rt k Z R E1 R') :
  ((oneM (geoN n) k T R').2=60∧Ext T0 (oneM (geoN n) k T R').1.1∧(96≤(Av.ks Tb).length+W.length∧Som k Z R)) ∨
  ((oneM (geoN n) k T R').2=0∧∃ Z'',St n k Z R W E2 No' T0 Tb Z'' (oneM (geoN n) k T R').1.1∧Rt k Z R E2 (oneM (geoN n) k T R').1.2∧((∀ x,x<nS→num Z R x≠0→¬ Dk Z R k x)→(oneM (geoN n) k T R').1=(T,R'))):=by
 have hq:16522<nS:=by decide
 have hnE:∀ s,Sub 16522 s→¬ E1 s:=fun s h y=>by rw [sub_one] at h; have y:s<10:=y; omega
 have ev:R'.getD 13 0=((num Z R 16522:Nat):Int):=by
  rw [← root_one,(rt.root 16522 hq rfl).2 (fun y=>hnE _ (sub_self _) y.1),root_num C.w hq rfl]
 have skip:(∀ s,Sub 16522 s→num Z R s≠0→¬ Dk Z R k s)→∃ Z'',St n k Z R W E2 No' T0 Tb Z'' T∧Rt k Z R E2 R':=fun h =>
  ⟨Z',st.grow (fun s y => .inl y) (fun s _ y hn hz=>h s (y.resolve_left hn) hz),rt.grow C.w (fun s y => .inl y) fun s _ _ y hn hz=>h s (y.resolve_left hn) hz⟩
 unfold oneM
 rw [ev]
 by_cases hc:(k:Int)<138∧((num Z R 16522:Nat):Int)≠0
 ·rw [if_pos hc]
  have h0:num Z R 16522≠0:=fun y=>hc.2 (by rw [y]; rfl)
  have o:=cutT_ok C (Nat.le_refl 16522) hq h0 (from_:=(k:Int) - 10) (dM:=leafD (geoN n)) hnE (fun y=>y) (fun q' p e=>by cases e) (fun _ _ _ _ _ _ _ _=>C.one) (fun i hi hf s hs _ hD=>by
   rw [ch_one,sub_leaf (by omega)] at hs
   rw [hs,dk_data (by omega)] at hD
   omega) (fun i hi hf hz E' Z3 T' hE' st'=>by
   rw [ch_one] at hz hE' ⊢
   refine leaf_ok C st' (by omega) hz (hE' _ (sub_self _)) (by omega) (fun x y=>y.elim (fun z=>z.elim) fun z=>by omega) (fun q p e=>?_) i
   have:=(ch_par (Nat.le_refl 16522) hq hi).1
   rw [ch_one] at this
   rw [this] at e; cases e; exact .inr rfl) st
  rcases rootEnd_ok C (.inl ⟨rfl,rfl⟩) rt (hnE _ (sub_self _)) o h0 with y|⟨y1,Z3,y2,y3,y4⟩
  ·exact .inl y
  ·exact .inr ⟨y1,Z3,y2,y3,fun h=>y4 fun x hx=>h x (sub_lt hq hx)⟩
 ·rw [if_neg hc]
  have sk:∀ s,Sub 16522 s→num Z R s≠0→¬ Dk Z R k s:=by
   by_cases h0:num Z R 16522=0
   ·exact fun s hs hz=>absurd (sub_zero hq h0 s hs) hz
   ·exact dk_low C.tg hq fun x hx _=>by
     rw [sub_one] at hx
     have:¬ (k:Int)<138:=fun y=>hc ⟨y,by omega⟩
     omega
  obtain ⟨Z3,y2,y3⟩:=skip sk
  exact .inr ⟨rfl,Z3,y2,y3,fun _=>rfl⟩
theorem twoM_ok {n k:Nat} {Z Z':Nat→Txt} {R R' W:List Int} {T0 Tb T:TM} (C:Cx n k Z R W) (st:St n k Z R W E2 No' T0 Tb Z' T) (rt:Rt k Z R E2 R') :
  ((twoM (geoN n) k T R').2=60∧Ext T0 (twoM (geoN n) k T R').1.1∧(96≤(Av.ks Tb).length+W.length∧Som k Z R)) ∨
  ((twoM (geoN n) k T R').2=0∧∃ Z'',St n k Z R W E3 No' T0 Tb Z'' (twoM (geoN n) k T R').1.1∧Rt k Z R E3 (twoM (geoN n) k T R').1.2∧((∀ x,x<nS→num Z R x≠0→¬ Dk Z R k x)→(twoM (geoN n) k T R').1=(T,R'))):=by
 have hq:16523<nS:=by decide
 have hnE:∀ s,Sub 16523 s→¬ E2 s:=fun s h y=>by
  rw [sub_two] at h
  rcases y with y|y
  ·have y:s<10:=y; omega
  ·rw [sub_one] at y; omega
 have ev:R'.getD 14 0=((num Z R 16523:Nat):Int):=by
  rw [← root_two,(rt.root 16523 hq rfl).2 (fun y=>hnE _ (sub_self _) y.1),root_num C.w hq rfl]
 have skip:(∀ s,Sub 16523 s→num Z R s≠0→¬ Dk Z R k s)→∃ Z'',St n k Z R W E3 No' T0 Tb Z'' T∧Rt k Z R E3 R':=fun h =>
  ⟨Z',st.grow (fun s y => .inl y) (fun s _ y hn hz=>h s (y.resolve_left hn) hz),rt.grow C.w (fun s y => .inl y) fun s _ _ y hn hz=>h s (y.resolve_left hn) hz⟩
 unfold twoM
 rw [ev]
 by_cases hc:(k:Int)<16522∧((num Z R 16523:Nat):Int)≠0
 ·rw [if_pos hc]
  have h0:num Z R 16523≠0:=fun y=>hc.2 (by rw [y]; rfl)
  have hf:firstM k=((k - 138:Nat):Int):=by
   unfold firstM
   split <;> omega
  have o:=cutT_ok C (show 16522≤16523 by decide) hq h0 (from_:=firstM k / 128) (dM:=tabD (geoN n) (firstM k)) hnE (fun y=>y) (fun q' p e=>by cases e) (fun _ _ _ _ _ _ _ _=>C.two) (fun i hi hfi=>by
   rw [hf] at hfi
   rw [ch_two]
   exact dk_low C.tg (by unfold nS; omega) fun x hx hx2=>by rw [sub_tab] at hx; omega) (fun i hi hfi hz E' Z3 T' hE' st'=>by
   rw [hf] at hfi
   rw [ch_two] at hz hE' ⊢
   have hqi:16524+i<nS:=by unfold nS; omega
   have pi:par (16524+i)=some (16523,i):=par_table hi
   refine cutT_ok C (show 16522≤16524+i by omega) hqi hz (from_:=firstM k - 128*(i:Int)) (dM:=leafD (geoN n)) hE' (fun y=>y.elim (fun z=>z) fun z=>by omega) (fun q' p e=>by rw [pi] at e; cases e; exact .inr rfl) (fun a b ha hb _ a1 _ b1=>?_) (fun a ha hfa s hs _ hD=>?_) (fun a ha hfa hza E3 Z4 T3 hE3 st3=>?_) st'
   ·rw [ch_tab] at a1 b1
    rw [dk_data (by omega)] at a1 b1
    have:i=(k - 138) / 128:=by omega
    rw [this]; exact C.tab
   ·rw [hf] at hfa
    rw [ch_tab,sub_leaf (by omega)] at hs
    rw [hs,dk_data (by omega)] at hD
    omega
   ·rw [hf] at hfa
    have pc:=(ch_par (show 16522≤16524+i by omega) hqi ha).1
    rw [ch_tab] at hza hE3 pc ⊢
    exact leaf_ok C st3 (by omega) hza (hE3 _ (sub_self _)) (by omega) (fun x (y:(No' x∨x=16523)∨x=16524+i)=>y.elim (fun z=>z.elim (fun w=>w.elim) fun w=>by omega) fun z=>by omega) (fun q p e=>by rw [pc] at e; cases e; exact .inr rfl) a) st
  rcases rootEnd_ok C (.inr ⟨rfl,rfl⟩) rt (hnE _ (sub_self _)) o h0 with y|⟨y1,Z3,y2,y3,y4⟩
  ·exact .inl y
  ·exact .inr ⟨y1,Z3,y2,y3,fun h=>y4 fun x hx=>h x (sub_lt hq hx)⟩
 ·rw [if_neg hc]
  have sk:∀ s,Sub 16523 s→num Z R s≠0→¬ Dk Z R k s:=by
   by_cases h0:num Z R 16523=0
   ·exact fun s hs hz=>absurd (sub_zero hq h0 s hs) hz
   ·exact dk_low C.tg hq fun x hx hx2=>by
     have:¬ (k:Int)<16522:=fun y=>hc ⟨y,by omega⟩
     omega
  obtain ⟨Z3,y2,y3⟩:=skip sk
  exact .inr ⟨rfl,Z3,y2,y3,fun _=>rfl⟩
theorem e3_all {s:Nat} (hs:s<nS):E3 s:=by
 unfold nS at hs
 by_cases h1:s<10
 ·exact .inl (.inl h1)
 ·by_cases h2:s<138∨s=16522
  ·exact .inl (.inr (sub_one.mpr (by omega)))
  ·exact .inr (sub_two.mpr (by unfold nS; omega))
structure Cutd (n k:Nat) (Z:Nat→Txt) (R:List Int) (Z':Nat→Txt) (R':List Int):Prop where
 w:Wf n Z' R'
 tg:Tight Z' R'
 gone:∀ s,s<nS→Dk Z R k s→num Z' R' s=0
 kept:∀ s,s<nS→¬ Dk Z R k s→num Z' R' s=num Z R s
 bits:∀ j,98+j / 4096<(geoN n).inodes→(bit Z' j=true↔bit Z j=true∧∀ s,s<nS→Dk Z R k s→num Z R s≠0→num Z R s≠j)
 head:∀ i,i<3→R'.getD i 0=R.getD i 0
 cont:∀ b,b<n→(geoN n).inodes≤b→(∀ q,16522≤q→q<nS→num Z R q≠0→b≠num Z R q)→Z' b=Z b
theorem cutd_of {n k:Nat} {Z Z':Nat→Txt} {R R' W:List Int} (C:Cx n k Z R W) (c:Ct n k Z R E3 No' Z') (rt:Rt k Z R E3 R'):Cutd n k Z R Z' R':=by
 have w:=C.w
 have N:∀ s,s<nS→(Dk Z R k s→num Z' R' s=0)∧(¬ Dk Z R k s→num Z' R' s=num Z R s):=by
  refine slots (fun s hs e=>?_) fun s q p hs e ih=>?_
  ·rw [num_none e,num_none e]
   obtain ⟨a,b⟩:=rt.root s hs e
   exact ⟨fun y=>by rw [a ⟨e3_all hs,y⟩]; rfl,fun y=>by rw [b fun z=>y z.2]⟩
  ·obtain ⟨rfl,hp,h1,h2⟩:=par_ch e hs
   rw [num_some e hs]
   by_cases hD:Dk Z R k q
   ·rw [ih.1 hD]
    refine ⟨fun _=>rfl,fun y=>?_⟩
    show 0=_
    exact (Classical.byContradiction fun z=>y ((dk_ch h1 h2).mp hD p hp fun t=>z t.symm))
   ·rw [ih.2 hD]
    by_cases h0:num Z R q=0
    ·rw [ch_num h1 h2 hp,h0]; exact ⟨fun _=>rfl,fun _=>rfl⟩
    ·obtain ⟨a,b⟩:=c.tabs q p h1 h2 h0 (fun y=>y) hp fun y=>hD y.2
     unfold sub
     rw [if_neg h0,ch_num' h1 h2 hp h0]
     exact ⟨fun y=>a ⟨e3_all hs,y⟩,fun y=>b fun z=>y z.2⟩
 have bits:∀ j,98+j / 4096<(geoN n).inodes→(bit Z' j=true↔bit Z j=true∧∀ s,s<nS→Dk Z R k s→num Z R s≠0→num Z R s≠j):=fun j hj=>by
  rw [c.bits j hj]
  exact ⟨fun y=>⟨y.1,fun s hs=>y.2 s hs (e3_all hs)⟩,fun y=>⟨y.1,fun s hs _=>y.2 s hs⟩⟩
 have nd:∀ s,s<nS→num Z' R' s≠0→¬ Dk Z R k s:=fun s hs h y=>h ((N s hs).1 y)
 have rr:∀ s,s<nS→par s=none→0≤root R' s:=fun s hs e=>by
  obtain ⟨a,b⟩:=rt.root s hs e
  by_cases hD:Dk Z R k s
  ·rw [a ⟨e3_all hs,hD⟩]; exact Int.le_refl _
  ·rw [b fun z=>hD z.2,root_num w hs e]; omega
 refine ⟨⟨rt.len,fun i h1 h2=>?_,fun s hs h0=>?_,fun s s' hs hs' h0 e=>?_⟩,fun q h1 h2 h0=>?_,fun s hs=>(N s hs).1,fun s hs=>(N s hs).2,bits,rt.head,c.cont⟩
 ·by_cases e:i<13
  ·have:=rr (i - 3) (by unfold nS; omega) (by unfold par; rw [if_pos (by omega)])
   rw [root_dir (by omega),show 3+(i - 3)=i by omega] at this; exact this
  ·by_cases e:i=13
   ·subst e; exact rr 16522 (by decide) rfl
   ·have:i=14:=by omega
    subst this; exact rr 16523 (by decide) rfl
 ·have hD:=nd s hs h0
  have es:=(N s hs).2 hD
  rw [es] at h0 ⊢
  obtain ⟨r1,r2,r3⟩:=w.rng s hs h0
  refine ⟨r1,r2,(bits _ (C.d.map r2).2.1).mpr ⟨r3,fun s' hs' hD' h0' e=>hD (w.inj s' s hs' hs h0' e▸hD')⟩⟩
 ·have hD:=nd s hs h0
  have hD':=nd s' hs' (e▸h0)
  rw [(N s hs).2 hD,(N s' hs').2 hD'] at e
  rw [(N s hs).2 hD] at h0
  exact w.inj s s' hs hs' h0 e
 ·have hD:=nd q h2 h0
  rw [dk_tab h1] at hD
  obtain ⟨x,hx⟩:=Classical.not_forall.mp hD
  obtain ⟨a,hx⟩:=Classical.not_forall.mp hx
  obtain ⟨b,hx⟩:=Classical.not_forall.mp hx
  obtain ⟨e,hx⟩:=Classical.not_forall.mp hx
  obtain ⟨sx,hx2⟩:=data_sub h1 h2 a b
  refine ⟨x,a,b,?_⟩
  rw [(N x (by unfold nS; omega)).2 (by rw [dk_data hx2]; omega)]; exact hx
theorem cutS_ok {n k:Nat} {Z:Nat→Txt} {R W:List Int} {T0 T:TM} (C:Cx n k Z R W) (a:Av n Z T) (x:Ext T0 T) :
  ((cutS (geoN n) k T R).2=60∧Ext T0 (cutS (geoN n) k T R).1.1∧(96≤(Av.ks T).length+W.length∧Som k Z R)) ∨
  ((cutS (geoN n) k T R).2=0∧∃ Z',Av n Z' (cutS (geoN n) k T R).1.1∧Cutd n k Z R Z' (cutS (geoN n) k T R).1.2∧Ext T0 (cutS (geoN n) k T R).1.1∧KsOk T (cutS (geoN n) k T R).1.1 W∧((∀ x,x<nS→num Z R x≠0→¬ Dk Z R k x)→(cutS (geoN n) k T R).1=(T,R))):=by
 have st0:St n k Z R W No' No' T0 T Z T:=⟨a,Ct.nil n k Z R,x,fun x hx => .inl hx⟩
 have rt0:Rt k Z R No' R:=⟨C.w.rl,fun _ _=>rfl,fun s _ _=>⟨fun y=>y.1.elim,fun _=>rfl⟩⟩
 have dirs:((dirGo (geoN n) (dirsM k) T R).2=60∧Ext T0 (dirGo (geoN n) (dirsM k) T R).1.1∧(96≤(Av.ks T).length+W.length∧Som k Z R)) ∨
  ((dirGo (geoN n) (dirsM k) T R).2=0∧∃ Z'',St n k Z R W (fun s=>s<10) No' T0 T Z'' (dirGo (geoN n) (dirsM k) T R).1.1∧Rt k Z R (fun s=>s<10) (dirGo (geoN n) (dirsM k) T R).1.2 ∧
   ((∀ x,x<10→num Z R x≠0→¬ Dk Z R k x)→(dirGo (geoN n) (dirsM k) T R).1=(T,R))):=by
  have ed:dirsM k=List.range' k (10 - k):=rfl
  have low:∀ m,m≤k→m<16522→∀ s,s<m→¬ Dk Z R k s:=fun m h1 h2 s hs hD=>by rw [dk_data (by omega)] at hD; omega
  by_cases hk:k<10
  ·rw [ed]
   exact dirGo_ok C (10 - k) k T R Z (by omega) (Nat.le_refl _) (st0.grow (fun s y=>y.elim) fun s _ y _ _=>low k (Nat.le_refl _) (by omega) s y) (rt0.grow C.w (fun s y=>y.elim) fun s _ _ y _ _=>low k (Nat.le_refl _) (by omega) s y)
  ·rw [ed,show 10 - k=0 by omega]
   exact .inr ⟨rfl,Z,st0.grow (fun s y=>y.elim) fun s _ y _ _=>low 10 (by omega) (by omega) s y,rt0.grow C.w (fun s y=>y.elim) fun s _ _ y _ _=>low 10 (by omega) (by omega) s y,fun _=>rfl⟩
 unfold cutS
 rcases dirs with ⟨e,h⟩|⟨e,Z1,st1,rt1,nf1⟩
 ·rw [if_pos (nz60 e)]
  exact .inl ⟨e,h⟩
 rw [if_neg (fun y=>y e)]
 rcases oneM_ok C st1 rt1 with ⟨e2,h⟩|⟨e2,Z2,st2,rt2,nf2⟩
 ·rw [if_pos (nz60 e2)]
  exact .inl ⟨e2,h⟩
 rw [if_neg (fun y=>y e2)]
 rcases twoM_ok C st2 rt2 with ⟨e3,h⟩|⟨e3,Z3,st3,rt3,nf3⟩
 ·exact .inl ⟨e3,h⟩
 refine .inr ⟨e3,Z3,st3.a,cutd_of C st3.c rt3,st3.x,st3.ks,fun h=>?_⟩
 rw [nf3 h]
 show ((oneM (geoN n) k (dirGo (geoN n) (dirsM k) T R).1.1 (dirGo (geoN n) (dirsM k) T R).1.2).1.1,(oneM (geoN n) k (dirGo (geoN n) (dirsM k) T R).1.1 (dirGo (geoN n) (dirsM k) T R).1.2).1.2)=(T,R)
 have e1:=nf1 fun x hx=>h x (by unfold nS; omega)
 have e2':=nf2 h
 rw [e1] at e2' ⊢
 rw [e2']
end Go.Proofs.YtcdpakjhjmchhaaGreatDoor.Bm
namespace Go.Proofs.YtcdpakjhjmchhaaGreatDoor.Bm
open Go Go.Proofs Wx Hp W Ad Tm Bt Spc Re Av
def wOf (k:Nat) (Z:Nat→Txt) (R:List Int):List Int:=[98,99,100,101,((num Z R 16522:Nat):Int),((num Z R 16523:Nat):Int),((num Z R (16524+(k - 138) / 128):Nat):Int)]
theorem cx_of {n k:Nat} {Z:Nat→Txt} {R:List Int} (d:Dim n) (w:Wf n Z R) (tg:Tight Z R):Cx n k Z R (wOf k Z R):=by
 have hhi:=d.hi
 refine ⟨d,w,tg,fun j hj=>?_,by simp [wOf],by simp [wOf],by simp [wOf]⟩
 have:j / 4096=0∨j / 4096=1∨j / 4096=2∨j / 4096=3:=by omega
 rcases this with e|e|e|e <;> rw [e] <;> simp [wOf]
theorem cut_ok {n k:Nat} {Z:Nat→Txt} {R:List Int} {T:TM} (d:Dim n) (a:Av n Z T) (w:Wf n Z R) (tg:Tight Z R) (hk:k≤16522) :
  (cutM T (geoN n) R k=(T,z15,60)∧96≤(ks T).length+7∧Som k Z R) ∨
  ∃ T' R' Z',cutM T (geoN n) R k=(T',R',0)∧Av n Z' T'∧Cutd n k Z R Z' R'∧Ext T T'∧KsOk T T' (wOf k Z R)∧((∀ x,x<nS→num Z R x≠0→¬ Dk Z R k x)→T'=T∧R'=R):=by
 unfold cutM
 rw [if_neg (by omega)]
 rcases cutS_ok (cx_of (k:=k) d w tg) a (Ext.refl T) with ⟨e,x,h⟩|⟨e,Z',a',c',x',k',nf⟩
 ·rw [if_pos (nz60 e),x.back a.live,e]
  exact .inl ⟨rfl,h⟩
 ·rw [if_neg (fun y=>y e)]
  refine .inr ⟨_,_,Z',rfl,a',c',x',k',fun h=>?_⟩
  have:=nf h
  rw [this]; exact ⟨rfl,rfl⟩
theorem add_ok {n k:Nat} {Z:Nat→Txt} {R:List Int} {T:TM} (d:Dim n) (a:Av n Z T) (w:Wf n Z R) (hk:k<16522) :
  (addM T (geoN n) R k=(T,z15,0,60)∧96≤(ks T).length+9)∨(addM T (geoN n) R k=(T,z15,0,90)∧frees n Z<miss Z R (path k)) ∨
  ∃ T' R' Z',addM T (geoN n) R k=(T',R',((num Z' R' k:Nat):Int),0)∧Av n Z' T'∧Added n Z R none (path k) Z' R'∧(miss Z R (path k)=0→T'=T)∧(∀ x ∈ ks T',x ∈ ks T∨x<(geoN n).inodes∨∃ s ∈ path k,x=((num Z' R' s:Nat):Int))∧(∀ x ∈ ks T,x ∈ ks T')∧∀ s ∈ path k,num Z R s=0→((num Z' R' s:Nat):Int) ∈ ks T':=by
 obtain ⟨c,e⟩:=path_chain hk
 unfold addM
 rw [if_neg (by omega),Int.toNat_natCast,← e]
 have hl:(path k).length≤3:=by
  unfold path
  split
  ·simp
  ·split <;> simp
 obtain ⟨o,x⟩:=walkA_ok d (path k) none Z T T R a w c (fun q y=>by cases y) (Ext.refl T)
 have ea:at_ Z R none=0:=rfl
 rw [ea] at o x
 rcases o with ⟨Z',e1,a',ad,nf,kk,lk1,lk2⟩|⟨e1,h⟩|⟨e1,h⟩
 ·rw [if_neg (fun y=>y (by rw [e1]))]
  refine .inr (.inr ⟨_,_,Z',?_,a',ad,nf,fun x hx=>?_,lk1,lk2⟩)
  ·rw [e1,path_last]; rfl
  ·rcases kk x hx with h|h|h|⟨q,h,_⟩
   ·exact .inl h
   ·exact .inr (.inl h)
   ·exact .inr (.inr h)
   ·cases h
 ·rw [if_pos (nz60 (by rw [e1])),x.back a.live,e1]
  exact .inl ⟨rfl,by omega⟩
 ·rw [if_pos (nz90 (by rw [e1])),x.back a.live,e1]
  exact .inr (.inl ⟨rfl,h⟩)
theorem path_under {k q:Nat} (hk:k<16522) (h:q ∈ path k) (hq:16522≤q):loS q≤k∧k<hiS q:=by
 unfold path at h
 split at h
 ·rw [List.mem_singleton] at h; omega
 ·split at h
  ·simp only [List.mem_cons,List.not_mem_nil,or_false] at h
   rcases h with rfl|rfl
   ·show 10≤k∧k<138; omega
   ·omega
  ·simp only [List.mem_cons,List.not_mem_nil,or_false] at h
   rcases h with rfl|rfl|rfl
   ·show 138≤k∧k<16522; omega
   ·rw [lo_tab,hi_tab]; omega
   ·omega
theorem under_path {k q:Nat} (h1:16522≤q) (h2:q<nS) (a:loS q≤k) (b:k<hiS q):q ∈ path k:=by
 unfold path
 rcases tab_cases h1 h2 with rfl|rfl|⟨r,hr,rfl⟩
 ·have a:10≤k:=a
  have b:k<138:=b
  rw [if_neg (by omega),if_pos b]; simp
 ·have a:138≤k:=a
  have b:k<16522:=b
  rw [if_neg (by omega),if_neg (by omega)]; simp
 ·rw [lo_tab] at a
  rw [hi_tab] at b
  rw [if_neg (by omega),if_neg (by omega),show (k - 138) / 128=r by omega]; simp
theorem path_self (k:Nat):k ∈ path k:=List.mem_of_getLast? (path_last k)
theorem path_data {k s:Nat} (h:s ∈ path k) (hs:s<16522):s=k:=by
 unfold path at h
 split at h
 ·exact List.mem_singleton.mp h
 ·split at h
  ·simp only [List.mem_cons,List.not_mem_nil,or_false] at h; omega
  ·simp only [List.mem_cons,List.not_mem_nil,or_false] at h; omega
theorem Added.tight {n k:Nat} {Z Z':Nat→Txt} {R R':List Int} (a:Added n Z R none (path k) Z' R') (hk:k<16522) (tg:Tight Z R):Tight Z' R':=by
 intro q h1 h2 h0
 by_cases hq:q ∈ path k
 ·obtain ⟨b,c⟩:=path_under hk hq h1
  exact ⟨k,b,c,a.got k (path_self k)⟩
 ·rw [a.off q h2 hq] at h0
  obtain ⟨x,b,c,hx⟩:=tg q h1 h2 h0
  have hx2:=(data_sub h1 h2 b c).2
  refine ⟨x,b,c,?_⟩
  by_cases hp:x ∈ path k
  ·exact a.got x hp
  ·rw [a.off x (by unfold nS; omega) hp]; exact hx
theorem tight_nil {Z:Nat→Txt} {R:List Int} (h:∀ i,3≤i→i<15→R.getD i 0=0):Tight Z R:=fun q _ h2 h0=>absurd (num_nil h q h2) h0
theorem Added.data {n k:Nat} {Z Z':Nat→Txt} {R R':List Int} (a:Added n Z R none (path k) Z' R') {s:Nat} (hs:s<16522) (hne:s≠k):num Z' R' s=num Z R s :=
 a.off s (by unfold nS; omega) fun h=>hne (path_data h hs)
theorem cnt_img (f:Nat→Nat) (n:Nat):∀ m,(∀ s,s<m→f s≠0→f s<n)→(∀ s s',s<m→s'<m→f s≠0→f s=f s'→s=s')→cnt (fun j=>@decide (∃ s,s<m∧f s≠0∧f s=j) (Classical.propDecidable _)) n=cnt (fun s=>decide (f s≠0)) m
 | 0,_,_=>cnt_zero fun j _=>by
  rw [decide_eq_false_iff_not]
  rintro ⟨s,h,_⟩; omega
 | m+1,h1,h2=>by
  have ih:=cnt_img f n m (fun s hs=>h1 s (by omega)) fun s s' hs hs'=>h2 s s' (by omega) (by omega)
  show _=cnt (fun s=>decide (f s≠0)) m+(if decide (f m≠0)=true then 1 else 0)
  rw [← ih]
  by_cases h0:f m=0
  ·rw [if_neg (by rw [decide_eq_true_eq]; exact fun y=>y h0)]
   refine cnt_congr fun j _=>?_
   rw [decide_eq_decide]
   refine ⟨fun ⟨s,a,b,c⟩=>⟨s,?_,b,c⟩,fun ⟨s,a,b⟩=>⟨s,by omega,b⟩⟩
   by_cases e:s=m
   ·subst e; exact absurd h0 b
   ·omega
  ·rw [if_pos (decide_eq_true h0)]
   have:=cnt_upd (p:=fun j=>@decide (∃ s,s<m∧f s≠0∧f s=j) (Classical.propDecidable _)) (q:=fun j=>@decide (∃ s,s<m+1∧f s≠0∧f s=j) (Classical.propDecidable _)) (i:=f m) (fun j hj=>by
    rw [decide_eq_decide]
    refine ⟨fun ⟨s,a,b⟩=>⟨s,by omega,b⟩,fun ⟨s,a,b,c⟩=>⟨s,?_,b,c⟩⟩
    by_cases e:s=m
    ·subst e; exact absurd c.symm hj
    ·omega) (by
    rw [decide_eq_false_iff_not]
    rintro ⟨s,a,b,c⟩
    have:=h2 s m (by omega) (by omega) b c
    omega) (@decide_eq_true _ (Classical.propDecidable _) ⟨m,by omega,h0,rfl⟩) n
   rw [if_pos (h1 m (by omega) h0)] at this
   exact this
def Used (Z:Nat→Txt) (R:List Int) (j:Nat):Prop:=∃ s,s<nS∧num Z R s≠0∧num Z R s=j
theorem cnt_or {p q:Nat→Bool} (h:∀ j,p j=true→q j=true→False):∀ m,cnt (fun j=>p j || q j) m=cnt p m+cnt q m
 | 0=>rfl
 | m+1=>by
  show cnt (fun j=>p j || q j) m+(if (p m || q m)=true then 1 else 0)=cnt p m+(if p m=true then 1 else 0)+(cnt q m+(if q m=true then 1 else 0))
  rw [cnt_or h m]
  have:=h m
  cases hp:p m <;> cases hq:q m
  ·rfl
  ·show _+1=_+0+(_+1); omega
  ·show _+1=_+1+(_+0); omega
  ·exact (this hp hq).elim
theorem many_used {n:Nat} {Z:Nat→Txt} {R:List Int} (w:Wf n Z R):cnt (fun j=>@decide (Used Z R j) (Classical.propDecidable _)) n=many Z R :=
 cnt_img (num Z R) n nS (fun s hs h0=>(w.rng s hs h0).2.1) w.inj
theorem frees_many {n:Nat} {Z Z':Nat→Txt} {R R':List Int} (w:Wf n Z R) (w':Wf n Z' R') (h:∀ j,j<n→(isFree n Z' j=true∨Used Z' R' j↔isFree n Z j=true∨Used Z R j)):frees n Z'+many Z' R'=frees n Z+many Z R:=by
 have dis:∀ {Z:Nat→Txt} {R:List Int},Wf n Z R→∀ j,isFree n Z j=true→@decide (Used Z R j) (Classical.propDecidable _)=true→False:=fun w j h1 h2=>by
  obtain ⟨s,hs,h0,e⟩:=@of_decide_eq_true _ (Classical.propDecidable _) h2
  have:=(w.rng s hs h0).2.2
  rw [e,(isFree_iff.mp h1).2.2] at this; cases this
 rw [← many_used w,← many_used w',frees,frees,← cnt_or (dis w),← cnt_or (dis w')]
 refine cnt_congr fun j hj=>?_
 rw [Bool.eq_iff_iff,Bool.or_eq_true,Bool.or_eq_true,@decide_eq_true_iff _ (Classical.propDecidable _),@decide_eq_true_iff _ (Classical.propDecidable _)]
 exact h j hj
theorem Cutd.frees {n k:Nat} {Z Z':Nat→Txt} {R R':List Int} (c:Cutd n k Z R Z' R') (d:Dim n) (w:Wf n Z R):Av.frees n Z'+many Z' R'=Av.frees n Z+many Z R:=by
 refine frees_many w c.w fun j hj=>?_
 constructor
 ·rintro (h|⟨s,hs,h0,e⟩)
  ·obtain ⟨f1,f2,f3⟩:=isFree_iff.mp h
   cases hb:bit Z j with
   | false=>exact .inl (isFree_iff.mpr ⟨f1,f2,hb⟩)
   | true =>
    refine .inr (Classical.byContradiction fun y=>?_)
    have:=(c.bits j (d.map hj).2.1).mpr ⟨hb,fun s hs _ h0 e=>y ⟨s,hs,h0,e⟩⟩
    rw [f3] at this; cases this
  ·have hD:¬ Dk Z R k s:=fun y=>h0 (c.gone s hs y)
   have es:=c.kept s hs hD
   rw [es] at h0 e
   exact .inr ⟨s,hs,h0,e⟩
 ·rintro (h|⟨s,hs,h0,e⟩)
  ·obtain ⟨f1,f2,f3⟩:=isFree_iff.mp h
   refine .inl (isFree_iff.mpr ⟨f1,f2,?_⟩)
   cases hb:bit Z' j with
   | false=>rfl
   | true =>
    have:=((c.bits j (d.map hj).2.1).mp hb).1
    rw [f3] at this; cases this
  ·by_cases hD:Dk Z R k s
   ·obtain ⟨r1,r2,r3⟩:=w.rng s hs h0
    refine .inl (isFree_iff.mpr ⟨by omega,hj,?_⟩)
    cases hb:bit Z' j with
    | false=>rfl
    | true=>exact absurd e (((c.bits j (d.map hj).2.1).mp hb).2 s hs hD h0)
   ·have es:=c.kept s hs hD
    exact .inr ⟨s,hs,by rw [es]; exact h0,es.trans e⟩
theorem roots_num {n:Nat} {Z:Nat→Txt} {R:List Int} (w:Wf n Z R):(∀ i,i<10→R.getD (3+i) 0=((num Z R i:Nat):Int))∧R.getD 13 0=((num Z R 16522:Nat):Int)∧R.getD 14 0=((num Z R 16523:Nat):Int) :=
 ⟨fun i hi=>by rw [← root_dir hi]; exact root_num w (by unfold nS; omega) (by unfold par; rw [if_pos hi]),root_num w (s:=16522) (by decide) rfl,root_num w (s:=16523) (by decide) rfl⟩
end Go.Proofs.YtcdpakjhjmchhaaGreatDoor.Bm
namespace Go.Proofs.YtcdpakjhjmchhaaGreatDoor.Bm
open Go Go.Proofs Wx Hp W Ad Tm Bt Spc Re Av
theorem walkA_un (g:G):∀ (l:List (Nat×Nat)) (T:TM) (R:List Int) (a:Int),(∀ s ∈ l,StOk s)→(walkA g l T R a).1.1.undo.length≤T.undo.length+3*l.length
 | [],T,R,a,_=>Nat.le_add_right _ _
 | s::r,T,R,a,h=>by
  have ih:=fun T' R' a'=>walkA_un g r T' R' a' fun x hx=>h x (List.mem_cons_of_mem _ hx)
  have nx:∀ (TR:TM×List Int) (nu er:Int),TR.1.undo.length≤T.undo.length+3→(nextM g TR nu er (walkA g r)).1.1.undo.length≤T.undo.length+3*(r.length+1):=fun TR nu er hle=>by
   unfold nextM
   split
   ·show TR.1.undo.length≤_; omega
   ·split
    ·show TR.1.undo.length≤_; omega
    ·split
     ·show TR.1.undo.length≤_; omega
     ·have:=ih TR.1 TR.2 nu; omega
  rw [walkA_cons,List.length_cons]
  split
  ·exact nx _ _ _ (holeM_un (h s (List.mem_cons_self ..)))
  ·exact nx (T,R) _ _ (Nat.le_add_right _ _)
theorem back_un (T:TM) (m:Int):(T.back m).1.undo.length≤T.undo.length:=by
 unfold TM.back
 split
 ·exact Nat.le_refl _
 ·split
  ·exact Nat.le_refl _
  ·show (T.undo.take _).length≤_
   rw [List.length_take]; omega
theorem addM_un {T:TM} {g:G} {R:List Int} {k:Int}:(addM T g R k).1.undo.length≤T.undo.length+9:=by
 unfold addM
 split
 ·exact Nat.le_add_right _ _
 ·rename_i hk
  have hl:(wayM k.toNat).length≤3:=by
   unfold wayM
   split
   ·simp
   ·split <;> simp
  have:=walkA_un g (wayM k.toNat) T R 0 (wayM_ok (by omega))
  split
  ·have hb:=back_un (walkA g (wayM k.toNat) T R 0).1.1 T.undo.length
   exact Nat.le_trans hb (by omega)
  ·exact Nat.le_trans this (by omega)
theorem dirGo_un (g:G):∀ (l:List Nat) (T:TM) (R:List Int),(dirGo g l T R).1.1.undo.length≤T.undo.length+l.length
 | [],T,R=>Nat.le_refl _
 | i::r,T,R=>by
  rw [List.length_cons]
  unfold dirGo
  split
  ·have:=dirGo_un g r T R; omega
  ·have h1:=giveF_un T g (R.getD (3+i) 0)
   split
   ·show (giveF T g (R.getD (3+i) 0)).1.undo.length≤_; omega
   ·have:=dirGo_un g r (giveF T g (R.getD (3+i) 0)).1 (R.set (3+i) 0); omega
theorem rootEnd_un (i:Nat) (R:List Int) (C:TM×Bool×Int):(rootEnd i R C).1.1=C.1:=by
 unfold rootEnd; split <;> rfl
theorem cutS_un (g:G) (k:Int) (T:TM) (R:List Int):(cutS g k T R).1.1.undo.length≤T.undo.length+16700+(10 - k.toNat):=by
 have h1:=dirGo_un g (dirsM k) T R
 have hl:(dirsM k).length=10 - k.toNat:=List.length_range'
 have h2:∀ (T':TM) (R':List Int),(oneM g k T' R').1.1.undo.length≤T'.undo.length+129:=fun T' R'=>by
  unfold oneM
  split
  ·rw [rootEnd_un]; exact cutT_un (leafD_un g)
  ·exact Nat.le_add_right _ _
 have h3:∀ (T':TM) (R':List Int),(twoM g k T' R').1.1.undo.length≤T'.undo.length+16513:=fun T' R'=>by
  unfold twoM
  split
  ·rw [rootEnd_un]; exact cutT_un (tabD_un g (firstM k))
  ·exact Nat.le_add_right _ _
 unfold cutS
 split
 ·omega
 ·have a:=h2 (dirGo g (dirsM k) T R).1.1 (dirGo g (dirsM k) T R).1.2
  split
  ·omega
  ·have b:=h3 (oneM g k (dirGo g (dirsM k) T R).1.1 (dirGo g (dirsM k) T R).1.2).1.1 (oneM g k (dirGo g (dirsM k) T R).1.1 (dirGo g (dirsM k) T R).1.2).1.2
   omega
theorem cutM_un {T:TM} {g:G} {R:List Int} {k:Int}:(cutM T g R k).1.undo.length≤T.undo.length+16710:=by
 have h:=cutS_un g k T R
 unfold cutM
 split
 ·exact Nat.le_add_right _ _
 ·split
  ·have hb:=back_un (cutS g k T R).1.1 T.undo.length
   exact Nat.le_trans hb (by omega)
  ·exact Nat.le_trans h (by omega)
end Go.Proofs.YtcdpakjhjmchhaaGreatDoor.Bm
namespace Go.Proofs.YtcdpakjhjmchhaaGreatDoor.Fi
open Go Go.Proofs Wx Hp W Ad Tm Spc Re Av Rg
open Hd (ints)
open In (Glo ints_length ints_one)
open Ino (getM putM Cok getM_length)
open Bm (findM cutM addM allM pcellA write_un cutM_un)
def toP (off n a:Nat):Nat:=min 512 ((off+a) % 512+n - a)
def partV (off n a:Nat):List Value:=[.int .i64 ((off+a) / 512:Nat),.int .i64 ((off+a) % 512:Nat),.int .i64 (toP off n a:Nat),.int .i64 (a:Nat)]
def nextA (off n a:Nat):Nat:=a+(toP off n a - (off+a) % 512)
theorem toP_gt {off n a:Nat} (h:a<n):(off+a) % 512<toP off n a∧toP off n a≤512:=by
 unfold toP; omega
theorem nextA_gt {off n a:Nat} (h:a<n):a<nextA off n a∧nextA off n a≤n:=by
 unfold nextA toP; omega
theorem hv_yield {P:Program} {l:Nat} {args:List Value} {h:Heap} {k:Value→Heap→Prop} (y:YCalls P l args h k):HCallsV P (.func (.yield l) #[] #[]) args h k:=y
theorem iter_spec {l cn co:Nat} {off n:Nat} {h:Heap} {K:Value→Heap→Prop} (ho:off+n≤1000000000) (J:Nat→Heap→Prop)
  (hc:∀ a hh,J a hh→rd hh cn=[.int .i64 (n:Nat)]∧rd hh co=[.int .i64 (off:Nat)]∧cn<hh.size∧co<hh.size)
  (hY:∀ a hh h',J a hh→a<n→Fr No hh h'→rd h' hh.size=partV off n a→hh.size<h'.size →
   YCalls Tryz.prog l [.agg ⟨partV off n a⟩] h' fun v h''=>(v = .bool true∧J (nextA off n a) h''∧rd h'' hh.size=rd h' hh.size)∨(v = .bool false∧K (.tuple #[]) h''))
  (h0:J 0 h) (hK:∀ hh,J n hh→K (.tuple #[]) hh):C.file_parts_c1 (.func (.yield l) #[] #[]) (some ⟨cn,0,none⟩) (some ⟨co,0,none⟩) h K:=by
 refine file_parts_c1.ok ⟨fun i hh=>∃ a:Nat,i=a∧a≤n∧J a hh,fun i _=>(n - i).toNat,⟨0,rfl,Nat.zero_le _,h0⟩,?_⟩
 rintro i h2 ⟨a,ei,ha,hJ⟩
 obtain ⟨rn,ro,ln,lo⟩:=hc a h2 hJ
 refine os ⟨_,rdc rn rfl,cd (fun hlt=>?_) fun hlt=>?_⟩
 ·have hlt':a<n:=by omega
  obtain ⟨t1,t2⟩:=toP_gt (off:=off) hlt'
  obtain ⟨x1,x2⟩:=nextA_gt (off:=off) hlt'
  refine os ⟨_,rdc ro rfl,os ⟨_,rdc ro rfl,NewRow.intro rfl (by intro v hv; simp only [List.mem_cons,List.not_mem_nil,or_false] at hv; rcases hv with rfl|rfl|rfl|rfl <;> rfl) rfl fun h4 n4=>?_⟩⟩
  have z4:=n4.size
  have e1:Int.tdiv ((off:Int)+i) 512=((off+a) / 512:Nat):=by rw [Int.tdiv_eq_ediv_of_nonneg (by omega)]; omega
  have e2:Int.tmod ((off:Int)+i) 512=((off+a) % 512:Nat):=by rw [Int.tmod_eq_emod_of_nonneg (by omega)]; omega
  have r4:=n4.rd
  rw [wrap_i64 (n:=(off:Int)+i) (by omega) (by omega),e1,e2,wrap_i64 (by omega) (by omega),ei] at r4
  refine ⟨_,rda r4 rfl,os ⟨_,rdc ((n4.at_ ln).trans rn) rfl,Put.add n4.own (by rw [r4]; show 2<4; decide) fun h5 d5=>?_⟩⟩
  have r5:rd h5 h2.size=partV off n a:=by
   rw [d5.rd,r4]
   have e3:(if (IntKind.wrap .i64 ((IntKind.wrap .i64 ((((off+a) % 512:Nat):Int)+(n:Nat))) - i))<512 then (IntKind.wrap .i64 ((IntKind.wrap .i64 ((((off+a) % 512:Nat):Int)+(n:Nat))) - i)) else 512)=((toP off n a:Nat):Int):=by
    rw [wrap_i64 (n:=(((off+a) % 512:Nat):Int)+(n:Nat)) (by omega) (by omega),wrap_i64 (by omega) (by omega)]
    unfold toP
    split <;> omega
   rw [e3]; rfl
  have f5:Fr No h2 h5:=n4.fr.did d5 fun hl=>by omega
  have z5:=d5.size
  refine ⟨_,rfl,cellsAll r5,hv_yield (ycalls_mono (hY a h2 h5 hJ hlt' f5 r5 (by omega)) fun v h6 hv=>?_)⟩
  rcases hv with ⟨rfl,hJ6,r6⟩|⟨rfl,hk⟩
  ·have r6:=r6.trans r5
   refine ⟨true,rfl,cnot (ct rfl ⟨_,rda r6 rfl,_,rda r6 rfl,?_⟩)⟩
   have e6:IntKind.wrap .i64 (i+(IntKind.wrap .i64 (((toP off n a:Nat):Int) - (((off+a) % 512:Nat):Int))))=((nextA off n a:Nat):Int):=by
    rw [wrap_i64 (n:=((toP off n a:Nat):Int) - _) (by omega) (by omega)]
    unfold nextA at x1 x2 ⊢
    rw [wrap_i64 (by omega) (by omega)]
    omega
   rw [e6]
   exact ⟨⟨_,rfl,x2,hJ6⟩,by show ((n:Int) - ((nextA off n a:Nat):Int)).toNat<((n:Int) - i).toNat; omega⟩
  ·exact ⟨false,rfl,cnot (cf rfl hk)⟩
 ·have:a=n:=by omega
  subst this
  exact hK h2 hJ
def undoM (T:TM) (r:TM×Int):TM×Int:=if r.2≠0 then ((r.1.back T.mark.1).1,r.2) else r
def cutB (T:TM) (g:G) (i:Int) (R:List Int) (size:Int):TM×Int :=
 if size<R.getD 2 0 then
  if (cutM T g R ((size+511) / 512)).2.2≠0 then ((cutM T g R ((size+511) / 512)).1,(cutM T g R ((size+511) / 512)).2.2) else
  if (wipeM (cutM T g R ((size+511) / 512)).1 g (cutM T g R ((size+511) / 512)).2.1 size).2≠0 then wipeM (cutM T g R ((size+511) / 512)).1 g (cutM T g R ((size+511) / 512)).2.1 size else
   putM (wipeM (cutM T g R ((size+511) / 512)).1 g (cutM T g R ((size+511) / 512)).2.1 size).1 g i ((cutM T g R ((size+511) / 512)).2.1.set 2 size)
 else putM T g i (R.set 2 size)
def cutF (T:TM) (g:G) (i size:Int):TM×Int:=if size<0 then (T,1) else if (getF T g i).2≠0 then (T,(getF T g i).2) else if size>8459264 then (T,120) else if size=(getF T g i).1.getD 2 0 then (T,0) else
 undoM T (cutB T g i (getF T g i).1 size)
theorem wipeM_un {T:TM} {g:G} {R:List Int} {size:Int}:(wipeM T g R size).1.undo.length≤T.undo.length+1:=by
 unfold wipeM
 split
 ·exact Nat.le_add_right _ _
 ·split
  ·exact Nat.le_add_right _ _
  ·split
   ·exact Nat.le_add_right _ _
   ·split
    ·exact Nat.le_add_right _ _
    ·exact write_un _ _ _
theorem putM_un {T:TM} {g:G} {n:Int} {R:List Int}:(putM T g n R).1.undo.length≤T.undo.length+1:=by
 unfold putM
 split
 ·exact Nat.le_add_right _ _
 ·split
  ·exact Nat.le_add_right _ _
  ·split
   ·exact Nat.le_add_right _ _
   ·exact write_un _ _ _
theorem dirGo_len (g:G):∀ (l:List Nat) (T:TM) (R:List Int),(Bm.dirGo g l T R).1.2.length=R.length
 | [],_,_=>rfl
 | i::r,T,R=>by
  unfold Bm.dirGo
  split
  ·exact dirGo_len g r T R
  ·split
   ·rfl
   ·rw [dirGo_len g r]; exact List.length_set
theorem rootEnd_len (i:Nat) (R:List Int) (C:TM×Bool×Int):(Bm.rootEnd i R C).1.2.length=R.length:=by
 unfold Bm.rootEnd
 split
 ·rfl
 ·show (if C.2.1=true then R else R.set i 0).length=_
  split
  ·rfl
  ·exact List.length_set
theorem oneM_len (g:G) (k:Int) (T:TM) (R:List Int):(Bm.oneM g k T R).1.2.length=R.length:=by
 unfold Bm.oneM
 split
 ·exact rootEnd_len _ _ _
 ·rfl
theorem twoM_len (g:G) (k:Int) (T:TM) (R:List Int):(Bm.twoM g k T R).1.2.length=R.length:=by
 unfold Bm.twoM
 split
 ·exact rootEnd_len _ _ _
 ·rfl
theorem cutM_length {T:TM} {g:G} {R:List Int} {k:Int} (hR:R.length=15):(cutM T g R k).2.1.length=15:=by
 unfold cutM
 split
 ·rfl
 ·split
  ·rfl
  ·show (Bm.cutS g k T R).1.2.length=15
   unfold Bm.cutS
   split
   ·rw [dirGo_len,hR]
   ·split
    ·rw [oneM_len,dirGo_len,hR]
    ·rw [twoM_len,oneM_len,dirGo_len,hR]
theorem cok {n:Nat} (d:Dim n):Cok (geoN n):=⟨geoN_ok d.hi,by have:=d.hi; show 8*(n / 64)≤_; omega⟩
theorem put_e {h:Heap} {eb:Nat} {e0 e:Int} {k:Heap→Prop} (w:Own h eb) (r:rd h eb=[.int .i64 e0]) (H:∀ h',Did eb h h' [.int .i64 e]→k h'):Put ⟨eb,0,none⟩ (.int .i64 e) h k :=
 Put.intro w (by rw [r]; exact Nat.zero_lt_one) fun h' d=>by rw [r] at d; exact H h' d
structure Env (h:Heap) (F:Nat→Prop) (t:Option Addr) (m:Int) (g:G) (gb eb ub tb mb:Nat) (hh:Heap) (F':Nat→Prop) (e:Int):Prop where
 h1:1≤h.size
 g0:∀ b,b<1→¬ F b
 fr:Fr F h hh
 gw:Gw h F hh F'
 gl:Glo hh
 rg:rd hh gb=g.v
 oe:Own hh eb
 re:rd hh eb=[.int .i64 e]
 ud:Ud hh ub tb mb eb t m
 nf:¬ F' gb∧¬ F' eb∧¬ F' ub∧¬ F' tb∧¬ F' mb
 ne:gb≠eb∧ub≠eb∧tb≠eb∧mb≠eb
 le:h.size≤eb
section
variable {h hh h' : Heap} {F F' F'' : Nat → Prop} {t : Option Addr} {m : Int} {g : G} {gb eb ub tb mb : Nat} {e : Int}
theorem Env.lg (E:Env h F t m g gb eb ub tb mb hh F' e):gb<hh.size:=rd_lt (o:=0) (by rw [E.rg]; rfl)
theorem Env.low (E:Env h F t m g gb eb ub tb mb hh F' e):∀ b,b<1→¬ F' b:=fun b hb y=>by
 rcases E.gw.new y with y|y
 ·exact E.g0 b hb y
 ·have:=E.h1; omega
theorem Env.step (E:Env h F t m g gb eb ub tb mb hh F' e) (f:Fr F' hh h') (w:Gw hh F' h' F''):Env h F t m g gb eb ub tb mb h' F'' e:=by
 obtain ⟨n1,n2,n3,n4,n5⟩:=E.nf
 obtain ⟨l3,l4,l5⟩:=E.ud.lt
 obtain ⟨a1,a2,a3,a4⟩:=stay f w E.lg n1
 obtain ⟨b1,b2,b3,b4⟩:=stay f w E.oe.lt n2
 exact ⟨E.h1,E.g0,E.fr.trans f fun b hb y=>(E.gw.old b hb).mp y,E.gw.trans w E.fr.size,E.gl.fr f E.low,a1.trans E.rg,b4 E.oe,b1.trans E.re,E.ud.fr f n3 n4 n5,⟨a2,b2,(stay f w l3 n3).2.1,(stay f w l4 n4).2.1,(stay f w l5 n5).2.1⟩,E.ne,E.le⟩
theorem Env.did (E:Env h F t m g gb eb ub tb mb hh F' e) {b:Nat} {cs:List Value} (d:Did b hh h' cs) (hb:h.size≤b) (n1:gb≠b) (n2:eb≠b) (n3:ub≠b) (n4:tb≠b) (n5:mb≠b):Env h F t m g gb eb ub tb mb h' F' e:=by
 have z:=d.size
 have:=E.h1
 exact ⟨E.h1,E.g0,E.fr.did d fun y=>by omega,⟨E.gw.old,fun x hx=>by rw [z]; exact E.gw.lt x hx⟩,E.gl.fr d.fr fun x hx y=>by omega,(d.at_ E.lg n1).trans E.rg,d.ow E.oe,(d.at_ E.oe.lt n2).trans E.re,E.ud.fr d.fr n3 n4 n5,E.nf,E.ne,E.le⟩
theorem Env.set (E:Env h F t m g gb eb ub tb mb hh F' e) {v:Int} (d:Did eb hh h' [.int .i64 v]):Env h F t m g gb eb ub tb mb h' F' v:=by
 have z:=d.size
 have:=E.h1
 have:=E.le
 obtain ⟨a1,a2,a3,a4⟩:=E.ne
 exact ⟨E.h1,E.g0,E.fr.did d fun y=>by omega,⟨E.gw.old,fun x hx=>by rw [z]; exact E.gw.lt x hx⟩,E.gl.fr d.fr fun x hx y=>by omega,(d.at_ E.lg a1).trans E.rg,d.own,d.rd,E.ud.fr d.fr a2 a3 a4,E.nf,E.ne,E.le⟩
theorem Env.leave (E:Env h F t m g gb eb ub tb mb hh F' e) {d:Option Addr} {T':TM} {K:Value→Heap→Prop} (x:Tx hh F' t d T') (hu:T'.undo.length<1000000000)
  (hK:∀ h',Fr F h h'→Gw h F h' F'→Tx h' F' t d (if e≠0 then (T'.back m).1 else T')→K (.int .i64 e) h') :
  DCallsV Tryz.prog (.func (.func 109) ⟨[]⟩ ⟨undoV ub tb mb⟩) [] hh fun h17=>∃ (res:Int),cellOf h17 ⟨eb,0,none⟩=some (.int .i64 res)∧K (.int .i64 res) h17 :=
 undo_D x E.ud E.re hu fun h2 f2 x2=>by
  have w:Gw hh F' h2 F':=Gw.refl f2.size fun b hb=>x.lt hb
  have E2:=E.step f2 w
  exact ⟨_,rdc E2.re rfl,hK h2 E2.fr E2.gw x2⟩
end
theorem Cut_k1 {h h2 h5 hh:Heap} {F F':Nat→Prop} {t d:Option Addr} {T':TM} {n:Nat} {i size m e:Int} {R:List Int} {ub tb mb:Nat} {K:Value→Heap→Prop} (dm:Dim n) (E:Env h F t m (geoN n) h.size h2.size ub tb mb hh F' e) (x:Tx hh F' t d T') (hR:R.length=15)
  (rx:rd hh h5.size=ints R) (ox:Own hh h5.size) (nx:¬ F' h5.size) (hx:h.size<h5.size) (h25:h2.size<h5.size) (n3:ub≠h5.size) (n4:tb≠h5.size) (n5:mb≠h5.size) (hu:T'.undo.length<900000000)
  (hK:∀ h' F'',Fr F h h'→Gw h F h' F''→Tx h' F'' t d (if (putM T' (geoN n) i (R.set 2 size)).2≠0 then ((putM T' (geoN n) i (R.set 2 size)).1.back m).1 else (putM T' (geoN n) i (R.set 2 size)).1)→K (.int .i64 (putM T' (geoN n) i (R.set 2 size)).2) h') :
  file_Cut.k1 t i size h h2 h5 109 [] (undoV ub tb mb) hh K:=by
 unfold file_Cut.k1
 refine Put.add ox (by rw [rx,ints_length,hR]; decide) fun h23 d23=>?_
 have E23:=E.did d23 (Nat.le_of_lt hx) (by omega) (by omega) n3 n4 n5
 have x23:Tx h23 F' t d T':=x.fr d23.fr fun b hb y=>nx (y▸hb)
 have r23:rd h23 h5.size=ints (R.set 2 size):=by rw [d23.rd,rx]; exact ints_set
 have lR:(R.set 2 size).length=15:=by rw [List.length_set,hR]
 have un:=putM_un (T:=T') (g:=geoN n) (n:=i) (R:=R.set 2 size)
 refine ⟨(geoN n).v,rfl,cellsAll E23.rg,_,by rw [ints_length,lR],cellsAll r23,Ino.Put_spec E23.gl x23 (cok dm) lR (by omega) fun h24 F24 f24 g24 x24=>⟨_,rfl,?_⟩⟩
 have E24:=E23.step f24 g24
 refine put_e E24.oe E24.re fun h25 d25=>?_
 have E25:=E24.set d25
 exact E25.leave (x24.fr d25.fr fun b hb y=>E24.nf.2.1 (y▸hb)) (by omega) fun h' f' g' x'=>hK h' F24 f' g' x'
theorem Cut_spec {h:Heap} {F:Nat→Prop} {t d:Option Addr} {T:TM} {n:Nat} {i size:Int} {K:Value→Heap→Prop} (gl:Glo h) (dm:Dim n) (x:Tx h F t d T) (live:T.over=false) (g0:∀ b,b<1→¬ F b) (hu:T.undo.length<800000000)
  (hK:∀ h' F',Fr F h h'→Gw h F h' F'→Tx h' F' t d (cutF T (geoN n) i size).1→K (.int .i64 (cutF T (geoN n) i size).2) h'):C.file_Cut t (geoN n).v i size h K:=by
 have Flt:=fun b (hb:F b)=>x.lt hb
 have gl1:=gl.lt
 have same:∀ e h',Fr No h h'→cutF T (geoN n) i size=(T,e)→K (.int .i64 e) h':=fun e h' f e0=>by
  rw [e0] at hK
  exact hK h' F (f.mono fun _ _ y=>y.elim) (Gw.refl f.size fun b hb=>x.lt hb) (x.no f)
 refine file_Cut.ok (New.intro fun h2 n2=>New.intro fun h3 n3=>?_)
 have z2:=n2.size
 have z3:=n3.size
 have F3:=n2.fr.new n3
 refine cd (fun hneg=>put_e n3.own n3.rd fun h4 d4=>⟨_,rdc d4.rd rfl,same 1 h4 (F3.did d4 fun hl=>by omega) (by unfold cutF; rw [if_pos hneg])⟩) fun hneg=>?_
 have lR:=getF_length T (geoN n) i
 refine ⟨(geoN n).v,rfl,cellsAll ((n3.at_ n2.own.lt).trans n2.rd),get_spec (gl.no F3) (x.no F3) (cok dm) fun h5 f5=>⟨_,_,rfl,NewRow.intro (by rw [ints_length,lR]) (ints_one _) rfl fun h7 n7=>?_⟩⟩
 have z5:=f5.size
 have z7:=n7.size
 have F7:Fr No h h7:=(F3.no f5).new n7
 have o7:Own h7 h2.size:=n7.ow (f5.own (by omega) (fun y=>y) n3.own)
 have e7:rd h7 h2.size=[.int .i64 0]:=(n7.at_ (by omega)).trans ((f5.rd (by omega) fun y=>y).trans n3.rd)
 refine put_e o7 e7 fun h8 d8=>⟨_,rdc d8.rd rfl,?_⟩
 have z8:=d8.size
 have F8:Fr No h h8:=F7.did d8 fun hl=>by omega
 have ret:∀ v,cutF T (geoN n) i size=(T,v)→Put ⟨h2.size,0,none⟩ (.int .i64 v) h8 fun h9=>∃ (res:Int),cellOf h9 ⟨h2.size,0,none⟩=some (.int .i64 res)∧K (.int .i64 res) h9:=fun v hv =>
  put_e d8.own d8.rd fun h9 d9=>⟨_,rdc d9.rd rfl,same v h9 (F8.did d9 fun hl=>by omega) hv⟩
 refine cn (fun he=>⟨_,rdc d8.rd rfl,ret _ (by unfold cutF; rw [if_neg hneg,if_pos he])⟩) fun he=>cd (fun hbig=>ret _ (by unfold cutF; rw [if_neg hneg,if_neg (fun y=>y he),if_pos hbig])) fun hbig=>?_
 have rx8:rd h8 h5.size=ints (getF T (geoN n) i).1:=(d8.at_ (by omega) (by omega)).trans n7.rd
 refine ⟨_,rda rx8 (ints_at (by rw [lR]; decide)),ce (fun hsz=>ret _ (by unfold cutF; rw [if_neg hneg,if_neg (fun y=>y he),if_neg hbig,if_pos hsz])) fun hsz=>?_⟩
 have ec:cutF T (geoN n) i size=undoM T (cutB T (geoN n) i (getF T (geoN n) i).1 size):=by unfold cutF; rw [if_neg hneg,if_neg (fun y=>y he),if_neg hbig,if_neg hsz]
 rw [ec] at hK
 clear same ret ec
 generalize (getF T (geoN n) i).1=R at hK lR rx8 n7 hsz ⊢
 refine undo_spec (x.no F8) fun ub tb mb h12 f12 l1 l2 l3 ud=>⟨_,[],_,rfl,?_⟩
 have z12:=f12.size
 have F12:=F8.no f12
 have rx12:rd h12 h5.size=ints R:=(f12.rd (by omega) fun y=>y).trans rx8
 have ox12:Own h12 h5.size:=f12.own (by omega) (fun y=>y) (d8.ow n7.own)
 have E12:Env h F t T.mark.1 (geoN n) h.size h2.size ub tb mb h12 F _:=⟨gl1,g0,F12.mono fun _ _ y=>y.elim,Gw.refl F12.size Flt,gl.no F12,
  (f12.rd (by omega) fun y=>y).trans ((d8.at_ (by omega) (by omega)).trans ((n7.at_ (by omega)).trans ((f5.rd (by omega) fun y=>y).trans ((n3.at_ n2.own.lt).trans n2.rd)))),f12.own (by omega) (fun y=>y) d8.own,(f12.rd (by omega) fun y=>y).trans d8.rd,ud,
  ⟨fun y=>by have:=Flt _ y; omega,fun y=>by have:=Flt _ y; omega,fun y=>by have:=Flt _ y; omega,fun y=>by have:=Flt _ y; omega,fun y=>by have:=Flt _ y; omega⟩,⟨by omega,by omega,by omega,by omega⟩,by omega⟩
 have x12:=x.no F12
 have nx12:¬ F h5.size:=fun y=>by have:=Flt _ y; omega
 refine ⟨_,rda rx12 (ints_at (by rw [lR]; decide)),cd (fun hlt=>?_) fun hlt=>?_⟩
 ·-- shorter
  have e1:IntKind.wrap .i64 (Int.tdiv (IntKind.wrap .i64 ((IntKind.wrap .i64 (size+512)) - 1)) 512)=(size+511) / 512:=by
   rw [wrap_i64 (n:=size+512) (by omega) (by omega),wrap_i64 (n:=size+512 - 1) (by omega) (by omega),Int.tdiv_eq_ediv_of_nonneg (by omega),wrap_i64 (by omega) (by omega)]
   congr 1; omega
  rw [e1]
  have un:=cutM_un (T:=T) (g:=geoN n) (R:=R) (k:=(size+511) / 512)
  refine ⟨(geoN n).v,rfl,cellsAll E12.rg,_,by rw [ints_length,lR],cellsAll rx12,Bm.Cut_spec E12.gl (geoN_ok dm.hi) x12 live lR g0 (by omega) fun h13 F13 f13 g13 x13=>⟨_,_,rfl,?_⟩⟩
  have E13:=E12.step f13 g13
  obtain ⟨s1,s2,s3,s4⟩:=stay f13 g13 (by omega) nx12
  have lC:(cutM T (geoN n) R ((size+511) / 512)).2.1.length=15:=cutM_length lR
  refine PutRow.intro (s4 ox12) (by rw [ints_length,lC]) (ints_one _) (by rw [s1,rx12,ints_length,lR]; decide) fun h14 d14=>?_
  have z14:=d14.size
  have E14:=E13.did d14 (by omega) (by omega) (by omega) (by omega) (by omega) (by omega)
  have x14:Tx h14 F13 t d _:=x13.fr d14.fr fun b hb y=>s2 (y▸hb)
  have r14:rd h14 h5.size=ints (cutM T (geoN n) R ((size+511) / 512)).2.1:=by rw [d14.rd,s1,rx12]; exact put_all _ _ (by rw [ints_length,ints_length,lC,lR])
  refine put_e E14.oe E14.re fun h15 d15=>⟨_,rdc d15.rd rfl,?_⟩
  have E15:=E14.set d15
  have x15:Tx h15 F13 t d _:=x14.fr d15.fr fun b hb y=>E14.nf.2.1 (y▸hb)
  refine cn (fun hc=>⟨_,rdc d15.rd rfl,put_e E15.oe E15.re fun h16 d16=>?_⟩) fun hc=>?_
  ·have E16:=E15.set d16
   have ec:undoM T (cutB T (geoN n) i R size)=(((cutM T (geoN n) R ((size+511) / 512)).1.back T.mark.1).1,(cutM T (geoN n) R ((size+511) / 512)).2.2):=by
    have eB:cutB T (geoN n) i R size=((cutM T (geoN n) R ((size+511) / 512)).1,(cutM T (geoN n) R ((size+511) / 512)).2.2):=by unfold cutB; rw [if_pos hlt,if_pos hc]
    rw [eB]; exact if_pos hc
   rw [ec] at hK
   refine E16.leave (x15.fr d16.fr fun b hb y=>E15.nf.2.1 (y▸hb)) (by omega) fun h' f' g' x'=>?_
   rw [if_pos hc] at x'
   exact hK h' F13 f' g' x'
  have r15:rd h15 h5.size=_:=(d15.at_ (by omega) (by omega)).trans r14
  have o15:Own h15 h5.size:=d15.ow d14.own
  have z15:=d15.size
  have uw:=wipeM_un (T:=(cutM T (geoN n) R ((size+511) / 512)).1) (g:=geoN n) (R:=(cutM T (geoN n) R ((size+511) / 512)).2.1) (size:=size)
  refine ⟨(geoN n).v,rfl,cellsAll E15.rg,_,by rw [ints_length,lC],cellsAll r15,wipe_spec E15.gl x15 lC (by omega) (by omega) (by omega) fun h18 F18 f18 g18 x18=>⟨_,rfl,?_⟩⟩
  have E18:=E15.step f18 g18
  obtain ⟨q1,q2,q3,q4⟩:=stay f18 g18 (by omega) s2
  refine put_e E18.oe E18.re fun h19 d19=>⟨_,rdc d19.rd rfl,?_⟩
  have z18:=f18.size
  have z19:=d19.size
  have E19:=E18.set d19
  have x19:Tx h19 F18 t d _:=x18.fr d19.fr fun b hb y=>E18.nf.2.1 (y▸hb)
  refine cn (fun hw=>⟨_,rdc d19.rd rfl,put_e E19.oe E19.re fun h20 d20=>?_⟩) fun hw=>?_
  ·have E20:=E19.set d20
   have ec:undoM T (cutB T (geoN n) i R size)=(((wipeM (cutM T (geoN n) R ((size+511) / 512)).1 (geoN n) (cutM T (geoN n) R ((size+511) / 512)).2.1 size).1.back T.mark.1).1,(wipeM (cutM T (geoN n) R ((size+511) / 512)).1 (geoN n) (cutM T (geoN n) R ((size+511) / 512)).2.1 size).2):=by
    have eB:cutB T (geoN n) i R size=wipeM (cutM T (geoN n) R ((size+511) / 512)).1 (geoN n) (cutM T (geoN n) R ((size+511) / 512)).2.1 size:=by unfold cutB; rw [if_pos hlt,if_neg (fun y=>y hc),if_pos hw]
    rw [eB]; exact if_pos hw
   rw [ec] at hK
   refine E20.leave (x19.fr d20.fr fun b hb y=>E19.nf.2.1 (y▸hb)) (by omega) fun h' f' g' x'=>?_
   rw [if_pos hw] at x'
   exact hK h' F18 f' g' x'
  have ec:cutB T (geoN n) i R size=putM (wipeM (cutM T (geoN n) R ((size+511) / 512)).1 (geoN n) (cutM T (geoN n) R ((size+511) / 512)).2.1 size).1 (geoN n) i ((cutM T (geoN n) R ((size+511) / 512)).2.1.set 2 size):=by
   unfold cutB; rw [if_pos hlt,if_neg (fun y=>y hc),if_neg (fun y=>y hw)]
  rw [ec] at hK
  refine Cut_k1 dm E19 x19 lC ((d19.at_ (by omega) (by omega)).trans (q1.trans r15)) (d19.ow (q4 o15)) q2 (by omega) (by omega) (by omega) (by omega) (by omega) (by omega) fun h' F'' f' g' x'=>?_
  unfold undoM at hK
  split at hK
  ·rename_i hp; rw [if_pos hp] at x'; exact hK h' F'' f' g' x'
  ·rename_i hp; rw [if_neg hp] at x'; exact hK h' F'' f' g' x'
 ·have ec:cutB T (geoN n) i R size=putM T (geoN n) i (R.set 2 size):=by unfold cutB; rw [if_neg hlt]
  rw [ec] at hK
  refine Cut_k1 dm E12 x12 lR rx12 ox12 nx12 (by omega) (by omega) (by omega) (by omega) (by omega) (by omega) fun h' F'' f' g' x'=>?_
  unfold undoM at hK
  split at hK
  ·rename_i hp; rw [if_pos hp] at x'; exact hK h' F'' f' g' x'
  ·rename_i hp; rw [if_neg hp] at x'; exact hK h' F'' f' g' x'
end Go.Proofs.YtcdpakjhjmchhaaGreatDoor.Fi
namespace Go.Proofs
open Go Go.Shelf
def Tryz.lays240_ren : Go.Shelf.Ren:=⟨fun|240=>115|276=>156|n=>n,fun|0=>0|4=>4|9=>9|20=>20|70=>121|72=>123|164=>240|5=>5|37=>33|n=>n,fun n=>n⟩
theorem Tryz.lays240 : Lays.n240 Tryz.prog Tryz.lays240_ren where
 mixed:=by kernel_rfl
 f240:=Tryz.func115.trans (congrArg some (by kernel_rfl))
 f276:=Tryz.func156.trans (congrArg some (by kernel_rfl))
 t0:=Tryz.underlying0
 a0:=Tryz.isAgg0
 z0:=Tryz.sizeOf0
 v0:=Tryz.zeroValue0
 t4:=Tryz.underlying4
 a4:=Tryz.isAgg4
 z4:=Tryz.sizeOf4
 v4:=Tryz.zeroValue4
 t9:=Tryz.underlying9
 a9:=Tryz.isAgg9
 z9:=Tryz.sizeOf9
 v9:=Tryz.zeroValue9
 t20:=Tryz.underlying20
 a20:=Tryz.isAgg20
 z20:=Tryz.sizeOf20
 v20:=Tryz.zeroValue20
 t70:=Tryz.underlying121
 a70:=Tryz.isAgg121
 z70:=Tryz.sizeOf121
 v70:=Tryz.zeroValue121
 t72:=Tryz.underlying123
 a72:=Tryz.isAgg123
 z72:=Tryz.sizeOf123
 v72:=Tryz.zeroValue123
 t164:=Tryz.underlying240
 a164:=Tryz.isAgg240
 z164:=Tryz.sizeOf240
 v164:=Tryz.zeroValue240
def Tryz.lays169_ren : Go.Shelf.Ren:=⟨fun|169=>60|n=>n,fun|0=>0|3=>3|9=>9|37=>33|70=>121|72=>123|127=>200|5=>5|n=>n,fun n=>n⟩
theorem Tryz.lays169 : Lays.n169 Tryz.prog Tryz.lays169_ren where
 mixed:=by kernel_rfl
 f169:=Tryz.func60.trans (congrArg some (by kernel_rfl))
 t0:=Tryz.underlying0
 a0:=Tryz.isAgg0
 z0:=Tryz.sizeOf0
 v0:=Tryz.zeroValue0
 t3:=Tryz.underlying3
 a3:=Tryz.isAgg3
 z3:=Tryz.sizeOf3
 v3:=Tryz.zeroValue3
 t9:=Tryz.underlying9
 a9:=Tryz.isAgg9
 z9:=Tryz.sizeOf9
 v9:=Tryz.zeroValue9
 t37:=Tryz.underlying33
 a37:=Tryz.isAgg33
 z37:=Tryz.sizeOf33
 v37:=Tryz.zeroValue33
 t70:=Tryz.underlying121
 a70:=Tryz.isAgg121
 z70:=Tryz.sizeOf121
 v70:=Tryz.zeroValue121
 t72:=Tryz.underlying123
 a72:=Tryz.isAgg123
 z72:=Tryz.sizeOf123
 v72:=Tryz.zeroValue123
 t127:=Tryz.underlying200
 a127:=Tryz.isAgg200
 z127:=Tryz.sizeOf200
 v127:=Tryz.zeroValue200
theorem Tryz.extra240 : Builder.Extra Tryz.prog Tryz.lays240_ren where
 sizeBuilder:=by kernel_rfl
 liesBuilder:=by kernel_rfl
 t5:=Tryz.underlying5
 a5:=Tryz.isAgg5
 z5:=Tryz.sizeOf5
 v5:=Tryz.zeroValue5
 infoByte:=by kernel_rfl
 cellsByte:=by kernel_rfl
 sizeByte:=by kernel_rfl
 neB5:=by decide
theorem Tryz.extra169 : Builder.Extra Tryz.prog Tryz.lays169_ren where
 sizeBuilder:=by kernel_rfl
 liesBuilder:=by kernel_rfl
 t5:=Tryz.underlying5
 a5:=Tryz.isAgg5
 z5:=Tryz.sizeOf5
 v5:=Tryz.zeroValue5
 infoByte:=by kernel_rfl
 cellsByte:=by kernel_rfl
 sizeByte:=by kernel_rfl
 neB5:=by decide
end Go.Proofs
namespace Go.Proofs.YtcdpakjhjmchhaaGreatDoor.Fi
open Go Go.Proofs Go.Shelf Go.RowKit Wx Hp W Tm
def Bld (h:Heap) (b:Nat) (Q:Nat→Prop) (bs:Txt):Prop :=
 ∃ p v,h[b]?=some (.cells #[p,v] 123 (0,0))∧(p = .pointer none∨p = .pointer (some ⟨b,0,none⟩)) ∧
  ((v = .slice none 0 0∧bs=[])∨∃ g cap cur,v = .slice (some ⟨g,0,none⟩) bs.length cap∧bs≠[]∧Q g∧g≠b∧h[g]?=some (.cells cur 5 (0,0))∧bs.length≤cap∧cur.size=cap∧cur.toList.take bs.length=bs.map bv)
theorem get_lt {h:Heap} {b:Nat} {x:Obj} (e:h[b]?=some x):b<h.size:=by
 rcases Nat.lt_or_ge b h.size with y|y
 ·exact y
 ·rw [Array.getElem?_eq_none y] at e; cases e
theorem Bld.lt {h:Heap} {b:Nat} {Q:Nat→Prop} {bs:Txt} (B:Bld h b Q bs):b<h.size:=by
 obtain ⟨p,v,e,_⟩:=B
 exact get_lt e
theorem Bld.mono {h:Heap} {b:Nat} {Q Q':Nat→Prop} {bs:Txt} (B:Bld h b Q bs) (hq:∀ g,Q g→g<h.size→Q' g):Bld h b Q' bs:=by
 obtain ⟨p,v,e,hp,hv⟩:=B
 refine ⟨p,v,e,hp,?_⟩
 rcases hv with hv|⟨g,cap,cur,h1,h2,h3,h4,h5,h6⟩
 ·exact .inl hv
 ·exact .inr ⟨g,cap,cur,h1,h2,hq g h3 (get_lt h5),h4,h5,h6⟩
theorem Bld.fr {h h':Heap} {b:Nat} {Q:Nat→Prop} {bs:Txt} {G:Nat→Prop} (B:Bld h b Q bs) (f:Fr G h h') (hb:¬ G b) (hg:∀ g,Q g→g<h.size→¬ G g):Bld h' b Q bs:=by
 obtain ⟨p,v,e,hp,hv⟩:=B
 refine ⟨p,v,(f.same b (get_lt e) hb).trans e,hp,?_⟩
 rcases hv with hv|⟨g,cap,cur,h1,h2,h3,h4,h5,h6⟩
 ·exact .inl hv
 ·exact .inr ⟨g,cap,cur,h1,h2,h3,h4,(f.same g (get_lt h5) (hg g h3 (get_lt h5))).trans h5,h6⟩
theorem Bld.new (h:Heap) (Q:Nat→Prop):Bld (newO h [.pointer none,.slice none 0 0] 123) h.size Q [] :=
 ⟨_,_,by rw [get_newO,if_pos rfl],.inl rfl,.inl ⟨rfl,rfl⟩⟩
theorem copyCheck_spec {h:Heap} {b:Nat} {Q:Nat→Prop} {bs:Txt} {K:Value→Heap→Prop} (B:Bld h b Q bs) (hK:∀ h',h'.size=h.size→Fr (fun x=>x=b) h h'→Bld h' b Q bs→K (.tuple #[]) h'):C.strings_Builder_copyCheck (some ⟨b,0,none⟩) h K:=by
 refine ⟨⟨_,Tryz.func115,by kernel_rfl,by kernel_rfl⟩,fun w hw=>?_⟩
 subst hw
 have B0:=B
 obtain ⟨p,v,e,hp,hv⟩:=B
 rcases hp with rfl|rfl
 ·refine (Any.Builder_copyCheck_fresh Tryz.lays240 Tryz.extra240.toX72 b w (by rw [Lib.cell_of_heap e]; rfl) (by simp [World.shape?,e]; rfl) (Lib.frozen_of_heap e 0)).mono ?_
  rintro ex w' ⟨rfl,rfl⟩
  refine ⟨_,rfl,⟨rfl,rfl,rfl⟩,?_⟩
  show K _ (setOf w.heap ⟨b,0,none⟩ (.pointer (some ⟨b,0,none⟩)))
  have f:Fr (fun x=>x=b) w.heap (setOf w.heap ⟨b,0,none⟩ (.pointer (some ⟨b,0,none⟩))):=(Fr.refl _ _).setOf (.inl rfl)
  refine hK _ (size_setOf _ _ _) f ⟨.pointer (some ⟨b,0,none⟩),v,by rw [get_setOf,if_pos rfl,e]; rfl,.inr rfl,?_⟩
  rcases hv with hv|⟨g,cap,cur,h1,h2,h3,h4,h5,h6⟩
  ·exact .inl hv
  ·exact .inr ⟨g,cap,cur,h1,h2,h3,h4,(f.same g (get_lt h5) h4).trans h5,h6⟩
 ·refine (Any.Builder_copyCheck_used Tryz.lays240 Tryz.extra240.toX72 b w (by rw [Lib.cell_of_heap e]; rfl)).mono ?_
  rintro ex w' ⟨rfl,rfl⟩
  exact ⟨_,rfl,.refl _,hK _ rfl (Fr.refl _ _) B0⟩
theorem setRow_get {g:Nat}:∀ (cs:List Value) (h:Heap) (o i:Nat) {c:Array Value} {T:TypeId} {f:Nat×Nat},h[g]?=some (.cells c T f) →
  ∃ c',(setRow h ⟨g,o,none⟩ cs i)[g]?=some (.cells c' T f)∧c'.size=c.size
 | [],_,_,_,c,_,_,e=>⟨c,e,rfl⟩
 | v::r,h,o,i,c,T,f,e=>by
  rw [setRow,add_mk]
  obtain ⟨c',e',s'⟩:=setRow_get r (setOf h ⟨g,o+i,none⟩ v) o (i+1) (c:=c.setIfInBounds (o+i) v) (T:=T) (f:=f) (by rw [get_setOf,if_pos rfl,e]; rfl)
  exact ⟨c',e',by rw [s',Array.size_setIfInBounds]⟩
theorem rd_get {h:Heap} {g:Nat} {c:Array Value} {T:TypeId} {f:Nat×Nat} (e:h[g]?=some (.cells c T f)):rd h g=c.toList:=by unfold Hp.rd; rw [e]
theorem BWrite_spec {h:Heap} {b l c:Nat} {Q:Nat→Prop} {a:Option Addr} {bs new:Txt} {K:Value→Heap→Prop} (B:Bld h b Q bs) (S:StrAt h a l new) (hl:new≠[]) (hs:∀ p,a=some p→p.block≠b) (hm:bs.length+l≤1000000000)
  (hK:∀ v h',Fr (fun x=>x=b∨Q x) h h'→Bld h' b (fun x=>Q x∨h.size≤x) (bs++new)→K (.tuple #[.int .i64 l,v]) h'):C.strings_Builder_Write (some ⟨b,0,none⟩) a l c h K:=by
 refine strings_Builder_Write.ok (copyCheck_spec B fun h2 z2 f2 B2=>⟨rfl,os ?_⟩)
 have S1:=S.1
 have sc:SlCells h2 a (new.map bv):=by
  cases a with
  | none=>exact S.2
  | some p =>
   intro i v hv
   have hc:=S.2 i v hv
   have hb:(p.add i).block=p.block:=by unfold Addr.add; split <;> rfl
   unfold cellOf at hc ⊢
   rw [hb] at hc ⊢
   rw [f2.same p.block ?_ (hs p rfl)]
   ·exact hc
   ·cases e:h[p.block]? with
    | none=>rw [e] at hc; cases hc
    | some x=>exact get_lt e
 obtain ⟨p,v,eb,hp,hv⟩:=B2
 have hbl:=get_lt eb
 have fin:∀ h3 a3 c3 (v3:Value),v3 = .slice a3 (bs.length+l) c3→Fr (fun x=>x≠b∧Q x) h2 h3→(∃ g cap cur,v3 = .slice (some ⟨g,0,none⟩) (bs++new).length cap∧(Q g∨h.size≤g)∧g≠b∧h3[g]?=some (.cells cur 5 (0,0))∧(bs++new).length≤cap∧cur.size=cap∧cur.toList.take (bs++new).length=(bs++new).map bv) →
   onSome (some (⟨b,0,none⟩:Addr)) fun p2=>Wx.Put (Addr.add p2 1) (.slice a3 (bs.length+l) c3) h3 fun h4=>K (.tuple #[.int .i64 (l:Int),.nilIface]) h4:=fun h3 a3 c3 v3 ev f3 hg=>by
  have e3:h3[b]?=some (.cells #[p,v] 123 (0,0)):=(f3.same b hbl fun y=>y.1 rfl).trans eb
  show Wx.Put (Addr.add ⟨b,0,none⟩ 1) _ _ _
  rw [add_mk,← ev]
  obtain ⟨g,cap,cur,h1,h2',h3',h4,h5⟩:=hg
  have f4:Fr (fun x=>x=b∨Q x) h (setOf h3 ⟨b,0+1,none⟩ v3):=((f2.mono fun _ _ y => .inl y).trans f3 fun _ _ y => .inr y.2).setOf (.inl (.inl rfl))
  refine ⟨wr_rd ⟨_,_,_,e3,.inl rfl⟩ (by rw [rd_get e3]; exact Nat.lt_succ_self 1),hK _ _ f4 ⟨p,v3,by rw [get_setOf,if_pos rfl,e3]; rfl,hp,.inr ⟨g,cap,cur,h1,fun y=>hl (List.append_eq_nil_iff.mp y).2,h2',h3',?_,h5⟩⟩⟩
  rw [get_setOf,if_neg h3']; exact h4
 have grow:∀ cap,bs.length+l≤cap→∃ g cap' cur,Value.slice (some ⟨h2.size,0,none⟩) (bs.length+l) cap = .slice (some ⟨g,0,none⟩) (bs++new).length cap'∧(Q g∨h.size≤g)∧g≠b∧(newO h2 (bs.map bv++new.map bv++repCells ti5.zero (cap - (bs.length+l))) 5)[g]?=some (.cells cur 5 (0,0))∧(bs++new).length≤cap'∧cur.size=cap'∧cur.toList.take (bs++new).length=(bs++new).map bv:=fun cap hcap=>by
  have el:(bs++new).length=bs.length+l:=by rw [List.length_append,S1]
  refine ⟨h2.size,cap,_,by rw [el],.inr (by omega),by omega,by rw [get_newO,if_pos rfl],by omega,?_,?_⟩
  ·show (bs.map bv++new.map bv++repCells ti5.zero (cap - (bs.length+l))).length=cap
   rw [List.length_append,List.length_append,List.length_map,List.length_map,length_repCells,S1]
   show bs.length+l+(cap - (bs.length+l))*1=cap
   omega
  ·show (bs.map bv++new.map bv++repCells ti5.zero (cap - (bs.length+l))).take (bs++new).length=_
   rw [← List.map_append,List.take_left' (by rw [List.length_map])]
 have frN:∀ xs,Fr (fun x=>x≠b∧Q x) h2 (newO h2 xs 5):=fun xs=>fr_newO _ _
 have hl':0<l:=by
  rw [← S1]
  exact List.length_pos_iff.mpr hl
 rcases hv with ⟨rfl,rfl⟩|⟨g,cap,cur,rfl,hne,hlo',hgb,eg,hle,hcs,htk⟩
 ·refine ⟨none,0,0,rda (rd_get eb) rfl,new.map bv,by rw [List.length_map,S1,Nat.mul_one],sc,bv_one _,[],rfl,rfl,?_,by omega,fun hc=>by omega,fun hc cap hcap=>?_⟩
  ·show (0+l)*1≤_; omega
  ·have e:([]:Txt).length+l=0+l:=rfl
   exact fin _ _ _ _ (by rw [e]) (frN _) (grow cap hcap)
 ·refine ⟨some ⟨g,0,none⟩,bs.length,cap,rda (rd_get eb) rfl,new.map bv,by rw [List.length_map,S1,Nat.mul_one],sc,bv_one _,bs.map bv,by rw [List.length_map]; exact (Nat.mul_one _).symm,cells_rd (by rw [rd_get eg,List.drop_zero,List.length_map,htk]),?_,by omega,fun hc=>?_,fun hc cap' hcap=>?_⟩
  ·show (bs.length+l)*1≤_; omega
  ·have lc:cur.toList.length=cap:=hcs
   refine ⟨?_,?_⟩
   ·simp only [WrS,add_mk]
    refine wrN_rd ⟨_,_,_,eg,.inl rfl⟩ ?_
    rw [rd_get eg,lc]
    show 0+bs.length*1+l*1≤cap
    omega
   ·simp only [setS,add_mk]
    obtain ⟨c',e',s'⟩:=setRow_get (new.map bv) h2 (0+bs.length*ti5.cells) 0 eg
    have hr:=rd_setRow_at g (0+bs.length*ti5.cells) (new.map bv) h2 0
    rw [rd_get e',rd_get eg,put_eq _ _ _ (by rw [List.length_map,lc,S1]; show 0+bs.length*1+0+l≤cap; omega)] at hr
    have e0:0+bs.length*ti5.cells+0=bs.length:=by show 0+bs.length*1+0=_; omega
    rw [e0,htk] at hr
    refine fin _ _ _ _ rfl ((Fr.refl _ h2).setRow (.inl ⟨hgb,hlo'⟩)) ⟨g,cap,c',by rw [List.length_append,S1],.inl hlo',hgb,e',by rw [List.length_append,S1]; exact hc,s'.trans hcs,?_⟩
    rw [hr,← List.map_append,List.take_left' (by rw [List.length_map])]
  ·exact fin _ _ _ _ rfl (frN _) (grow cap' hcap)
theorem str_row {P:Program} {ρ:Ren} (L:Lays.n169 P ρ) (X:Builder.Extra P ρ) (b g cap:Nat) (p:Value) (cur:Array Value) (l:Txt) (w:World) (hb:w.heap[b]?=some (.cells #[p,.slice (some ⟨g,0,none⟩) l.length cap] (ρ.t 72) (0,0)))
  (hg:w.heap[g]?=some (.cells cur (ρ.t 5) (0,0))) (h0:l≠[]) (hc:l.length≤cap) (hs:cur.size=cap) (hm:l.length≤2000000000) (ht:cur.toList.take l.length=l.map bv) :
  Calls P (ρ.f 169) #[.pointer (some ⟨b,0,none⟩)] w fun e w'=>e = .returned (.string ⟨l.toArray⟩)∧Below g w w':=by
 have hl0:l.length≠0:=by simpa using h0
 have c1:w.drew.cell? ⟨b,1,none⟩=some (.slice (some ⟨g,0,none⟩) l.length cap):=by
  have:w.drew.heap[b]?=some (.cells #[p,.slice (some ⟨g,0,none⟩) l.length cap] (ρ.t 72) (0,0)):=hb
  rw [Lib.cell_of_heap this]; rfl
 have hg':w.drew.heap[g]?=some (.cells cur (ρ.t 5) (0,0)):=hg
 have hSD:(Builtin.unsafeSliceData_ #[(ρ.t 37)] (ρ.t 127) #[.slice (some ⟨g,0,none⟩) l.length cap]).run P w.drew = .ok (.pointer (some ⟨g,0,none⟩)) w.drew :=
  Lib.run_unsafeSliceData_row _ _ _ _ _ _ (by omega)
 have hUS:(Builtin.unsafeString_ #[(ρ.t 127),(ρ.t 3)] (ρ.t 9) #[.pointer (some ⟨g,0,none⟩),.int .i64 l.length]).run P w.drew = .ok (.string ⟨l.toArray⟩) (w.drew.freeze ⟨g,0,none⟩ l.length):=by
  refine Lib.run_unsafeString_row w.drew (ρ.t 127) (ρ.t 3) (ρ.t 9) (ρ.t 5) L.t127 X.cellsByte g cur.size (by simp [World.shape?,hg']) l h0 (by omega) (by omega) fun j x hx=>?_
  rw [add_mk,Nat.zero_add,Lib.cell_of_heap hg']
  have e:=congrArg (·[j]?) ht
  simp only [List.getElem?_map,hx,Option.map_some] at e
  have hj:j<l.length:=(List.getElem?_eq_some_iff.mp hx).1
  rw [List.getElem?_take_of_lt hj,Array.getElem?_toList] at e
  exact e
 have mixed:=L.mixed
 have t72:=L.t72; have a72:=L.a72; have z72:=L.z72; have v72:=L.v72; have u72:=run_underlying L.t72
 have t70:=L.t70; have a70:=L.a70; have z70:=L.z70; have v70:=L.v70; have u70:=run_underlying L.t70
 have t37:=L.t37; have a37:=L.a37; have z37:=L.z37; have v37:=L.v37; have u37:=run_underlying L.t37
 have t127:=L.t127; have a127:=L.a127; have z127:=L.z127; have v127:=L.v127; have u127:=run_underlying L.t127
 have t3:=L.t3; have a3:=L.a3; have z3:=L.z3; have v3:=L.v3; have u3:=run_underlying L.t3
 have t9:=L.t9; have a9:=L.a9; have z9:=L.z9; have v9:=L.v9; have u9:=run_underlying L.t9
 have t5:=X.t5; have a5:=X.a5; have z5:=X.z5; have v5:=X.v5; have u5:=run_underlying X.t5
 go_enter L.f169,Body.n169_ntmps ρ
 go_wp2
 go_region_o
 all_goals (go_wp2; go_ret; exact ⟨rfl,Lib.below_freeze (Below.drew (Below.refl g w)) (p:=⟨g,0,none⟩) (Nat.le_refl _) _⟩)
theorem BString_spec {h:Heap} {b lo:Nat} {bs:Txt} {K:Value→Heap→Prop} (B:Bld h b (fun x=>lo≤x) bs) (hm:bs.length≤2000000000)
  (hK:∀ h',Fr (fun x=>lo≤x) h h'→K (.string (mkStr bs)) h'):C.strings_Builder_String (some ⟨b,0,none⟩) h K:=by
 refine ⟨⟨_,Tryz.func60,by kernel_rfl,by kernel_rfl⟩,fun w hw=>?_⟩
 subst hw
 obtain ⟨p,v,eb,hp,hv⟩:=B
 rcases hv with ⟨rfl,rfl⟩|⟨g,cap,cur,rfl,hne,hlo',hgb,eg,hle,hcs,htk⟩
 ·exact (Any.Builder_String_nil Tryz.lays169 Tryz.extra169 w.heap.size b p w eb).mono fun e w' ⟨h1,k⟩=>⟨_,h1,⟨k.os,k.tape,k.output⟩,hK w'.heap ⟨k.size,fun x hx _=>k.block x hx⟩⟩
 ·exact (str_row Tryz.lays169 Tryz.extra169 b g cap p cur bs w eb eg hne hle hcs hm htk).mono fun e w' ⟨h1,k⟩=>⟨_,h1,⟨k.os,k.tape,k.output⟩,hK w'.heap ⟨k.size,fun x hx hF=>k.block x (by have hF:¬ lo≤x:=hF; omega)⟩⟩
end Go.Proofs.YtcdpakjhjmchhaaGreatDoor.Fi
namespace Go.Proofs.YtcdpakjhjmchhaaGreatDoor.Fi
open Go Go.Proofs Wx Hp W Ad Tm Spc Re Av Rg
open Hd (ints)
open In (Glo ints_length ints_one mayR decA)
open Ino (getM putM Cok getM_length)
open Bm (findM cutM addM allM pcellA write_un cutM_un)
theorem getM_may {T:TM} {g:G} {n:Int} (h:(getM T g n).2=0):mayR (getM T g n).1=true:=by
 unfold getM at h ⊢
 split
 ·rename_i y; rw [if_pos y] at h; exact absurd h (by decide)
 ·rename_i y
  rw [if_neg y] at h
  split
  ·rename_i z; rw [if_pos z] at h; exact absurd h z
  ·rename_i z
   rw [if_neg z] at h
   unfold decA at h ⊢
   split
   ·rename_i w; rw [if_pos w] at h; exact absurd h (by decide)
   ·rename_i w
    rw [if_neg w] at h
    split
    ·rename_i v
     unfold In.decOk at v
     rw [Bool.and_eq_true] at v; exact v.2
    ·rename_i v
     rw [if_neg v] at h; exact absurd h (by decide)
theorem getF_may {T:TM} {g:G} {n:Int} (h:(getF T g n).2=0):getF T g n=getM T g n∧(getM T g n).2=0∧mayR (getM T g n).1=true∧(getM T g n).1.getD 0 0≠0:=by
 unfold getF at h ⊢
 split
 ·rename_i y; rw [if_pos y] at h; exact absurd (show (110:Int)=0 from h) (by decide)
 ·rename_i y
  rw [if_neg y] at h
  exact ⟨rfl,h,getM_may h,fun z=>y ⟨h,z⟩⟩
theorem getF_size {T:TM} {g:G} {n:Int} (h:(getF T g n).2=0):0≤(getF T g n).1.getD 2 0∧(getF T g n).1.getD 2 0≤8459264:=by
 obtain ⟨e,_,m,_⟩:=getF_may h
 rw [e]
 obtain ⟨_,_,_,_,a,b,_⟩:=In.mayR_bounds (getM_length T g n) m
 exact ⟨a,b⟩
theorem blockM_len {h:Heap} {F:Nat→Prop} {t d:Option Addr} {T:TM} {g:G} {R:List Int} {k:Int} (x:Tx h F t d T) (e:(blockM T g R k).2=0):(blockM T g R k).1.length=512:=by
 unfold blockM at e ⊢
 split
 ·rename_i y; rw [if_pos y] at e; exact absurd e y
 ·rename_i y
  rw [if_neg y] at e
  split
  ·exact List.length_replicate
  ·rename_i z
   rw [if_neg z] at e
   exact Tx.readLen x e
def readGo (T:TM) (g:G) (R:List Int) (off n:Nat):Nat→Nat→Txt→Txt×Int
 | 0,_,s=>(s,0)
 | k+1,a,s=>if n≤a then (s,0) else if (blockM T g R ((off+a) / 512:Nat)).2≠0 then ([],(blockM T g R ((off+a) / 512:Nat)).2) else
   readGo T g R off n k (nextA off n a) (s++((blockM T g R ((off+a) / 512:Nat)).1.drop ((off+a) % 512)).take (toP off n a - (off+a) % 512))
theorem readGo_end {T:TM} {g:G} {R:List Int} {off n a:Nat} {s:Txt} (h:n≤a):∀ k,readGo T g R off n k a s=(s,0)
 | 0=>rfl
 | k+1=>by unfold readGo; rw [if_pos h]
def readM (T:TM) (g:G) (i off size:Int):Txt×Int:=if off<0∨size<0 then ([],1) else if (getF T g i).2≠0 then ([],(getF T g i).2) else if off≥(getF T g i).1.getD 2 0 then ([],0) else
 readGo T g (getF T g i).1 off.toNat (min size ((getF T g i).1.getD 2 0 - off)).toNat (min size ((getF T g i).1.getD 2 0 - off)).toNat 0 []
theorem New_bld {h:Heap} {Q:Nat→Prop} {k:Heap→Prop} (H:∀ h',Newly h h' [.pointer none,.slice none 0 0]→Bld h' h.size Q []→k h'):New [.pointer none,.slice none 0 0] 123 h k :=
 H _ ⟨size_newO _ _ _,fr_newO _ _,own_newO_at _ _ _,rd_newO_at _ _ _⟩ (Bld.new h Q)
theorem loop_lt {h:Heap} {l:Nat} {R:Loop} {st:LoopState} {p:Option Code} (o:LoopOn h l R st p):l<h.size:=loopOn_lt o
theorem put_s {h:Heap} {b:Nat} {s:ByteArray} {v:Value} {k:Heap→Prop} (w:Own h b) (r:rd h b=[v]) (H:∀ h',Did b h h' [.string s]→k h'):Put ⟨b,0,none⟩ (.string s) h k :=
 Put.intro w (by rw [r]; exact Nat.zero_lt_one) fun h' d=>by rw [r] at d; exact H h' d
theorem Read_spec {h:Heap} {F:Nat→Prop} {t d:Option Addr} {T:TM} {n:Nat} {i off size:Int} {K:Value→Heap→Prop} (gl:Glo h) (dm:Dim n) (x:Tx h F t d T)
  (hK:∀ h',Fr No h h'→K (.tuple #[.string (mkStr (readM T (geoN n) i off size).1),.int .i64 (readM T (geoN n) i off size).2]) h'):C.file_Read t (geoN n).v i off size h K:=by
 refine file_Read.ok (New.intro fun h2 n2=>New.intro fun h3 n3=>New.intro fun h4 n4=>New.intro fun h5 n5=>?_)
 have z2:=n2.size
 have z3:=n3.size
 have z4:=n4.size
 have z5:=n5.size
 have F5:Fr No h h5:=((n2.fr.new n3).new n4).new n5
 have os5:Own h5 h3.size:=n5.ow n4.own
 have rs5:rd h5 h3.size=[.string (mkStr [])]:=(n5.at_ (by omega)).trans n4.rd
 -- what ends the call ahead of the loop
 have ret:∀ e hh,Fr No h hh→Own hh h3.size→rd hh h3.size=[.string (mkStr [])]→Own hh h4.size→rd hh h4.size=[.int .i64 0]→readM T (geoN n) i off size=([],e) →
   Put ⟨h3.size,0,none⟩ (.string (mkStr [])) hh fun h6=>Put ⟨h4.size,0,none⟩ (.int .i64 e) h6 fun h7=>∃ (res1:ByteArray),cellOf h7 ⟨h3.size,0,none⟩=some (.string res1) ∧
    ∃ (res2:Int),cellOf h7 ⟨h4.size,0,none⟩=some (.int .i64 res2)∧K (.tuple #[.string res1,.int .i64 res2]) h7:=fun e hh f o1 r1 o2 r2 he=>by
  rw [he] at hK
  refine put_s o1 r1 fun h6 d6=>put_e (d6.ow o2) ((d6.at_ o2.lt (by omega)).trans r2) fun h7 d7=>⟨_,rdc ((d7.at_ d6.own.lt (by omega)).trans d6.rd) rfl,_,rdc d7.rd rfl,hK h7 ((f.did d6 fun hl=>by omega).did d7 fun hl=>by omega)⟩
 refine cd (fun hneg=>ret 1 h5 F5 os5 rs5 n5.own n5.rd (by unfold readM; rw [if_pos (.inl hneg)])) fun ho=>cd (fun hneg=>ret 1 h5 F5 os5 rs5 n5.own n5.rd (by unfold readM; rw [if_pos (.inr hneg)])) fun hz=>?_
 unfold file_Read.k1
 have rt5:rd h5 h.size=[.pointer t]:=(n5.at_ (by omega)).trans ((n4.at_ (by omega)).trans ((n3.at_ (by omega)).trans n2.rd))
 have rg5:rd h5 h2.size=(geoN n).v:=(n5.at_ (by omega)).trans ((n4.at_ (by omega)).trans n3.rd)
 have lR:=getF_length T (geoN n) i
 refine ⟨t,rdc rt5 rfl,(geoN n).v,rfl,cellsAll rg5,get_spec (gl.no F5) (x.no F5) (cok dm) fun h11 f11=>⟨_,_,rfl,NewRow.intro (by rw [ints_length,lR]) (ints_one _) rfl fun h13 n13=>?_⟩⟩
 have z11:=f11.size
 have z13:=n13.size
 have F13:Fr No h h13:=(F5.no f11).new n13
 have f513:Fr No h5 h13:=f11.new n13
 have q13:∀ b,b<h5.size→rd h13 b=rd h5 b:=fun b hb=>f513.rd hb fun y=>y
 have w13:∀ b,Own h5 b→Own h13 b:=fun b o=>f513.own o.lt (fun y=>y) o
 refine cn (fun he=>ret _ h13 F13 (w13 _ os5) ((q13 _ (by omega)).trans rs5) (w13 _ n5.own) ((q13 _ (by omega)).trans n5.rd) (by unfold readM; rw [if_neg (by omega),if_pos he])) fun he=>?_
 obtain ⟨R0,R1⟩:=getF_size he
 refine ⟨_,rda n13.rd (ints_at (by rw [lR]; decide)),cd (fun hge=>ret _ h13 F13 (w13 _ os5) ((q13 _ (by omega)).trans rs5) (w13 _ n5.own) ((q13 _ (by omega)).trans n5.rd) (by unfold readM; rw [if_neg (by omega),if_neg (fun y=>y he),if_pos hge])) fun hlt=>?_⟩
 have hlt:¬ off≥(getF T (geoN n) i).1.getD 2 0:=hlt
 have er:readM T (geoN n) i off size=readGo T (geoN n) (getF T (geoN n) i).1 off.toNat (min size ((getF T (geoN n) i).1.getD 2 0 - off)).toNat (min size ((getF T (geoN n) i).1.getD 2 0 - off)).toNat 0 []:=by
  unfold readM; rw [if_neg (by omega),if_neg (fun y=>y he),if_neg hlt]
 rw [er] at hK
 clear ret er he
 obtain ⟨ofs,eo⟩:∃ k:Nat,off=k:=⟨off.toNat,by omega⟩
 obtain ⟨m,em⟩:∃ k:Nat,min size ((getF T (geoN n) i).1.getD 2 0 - off)=k:=⟨(min size ((getF T (geoN n) i).1.getD 2 0 - off)).toNat,by omega⟩
 rw [em,Int.toNat_natCast,eo,Int.toNat_natCast] at hK
 have hb:ofs+m≤8459264:=by omega
 generalize hR:(getF T (geoN n) i).1=R at hK lR n13 R0 R1 hlt em hb ⊢
 refine New_bld (Q:=fun x=>h13.size+5≤x) fun h18 n18 B18=>⟨_,rda ((n18.at_ (by omega)).trans n13.rd) (ints_at (by rw [lR]; decide)),?_⟩
 have z18:=n18.size
 have emn:(if (IntKind.wrap .i64 (R.getD (0+2) 0 - off))<size then (IntKind.wrap .i64 (R.getD (0+2) 0 - off)) else size)=(m:Int):=by
  have e2:R.getD (0+2) 0=R.getD 2 0:=rfl
  rw [e2,wrap_i64 (by omega) (by omega)]
  split <;> omega
 rw [emn,eo]
 refine file_parts.ok (New.intro fun h19a n19a=>New.intro fun h19 n19=>⟨_,rfl,fun L rounds=>?_⟩)
 have z19a:=n19a.size
 have z19:=n19.size
 have eb:h19.size=h13.size+3:=by omega
 have hc1:h18.size=h13.size+1:=by omega
 have hc2:h19a.size=h13.size+2:=by omega
 have F19:Fr No h h19:=((F13.new n18).new n19a).new n19
 have Fb:=beginL_fr h19 L
 have on0:=beginL_on h19 L
 have d0:=beginL_d h19 L
 have zb:(beginL h19 L).size=h13.size+5:=by rw [beginL_size]; omega
 have F0:Fr No h (beginL h19 L):=F19.no Fb
 have f13b:Fr No h13 (beginL h19 L):=((n18.fr.new n19a).new n19).no Fb
 have qb:∀ b,b<h13.size→rd (beginL h19 L) b=rd h13 b:=fun b hb=>f13b.rd hb fun y=>y
 have wb:∀ b,Own h13 b→Own (beginL h19 L) b:=fun b o=>f13b.own o.lt (fun y=>y) o
 have rt:rd (beginL h19 L) h.size=[.pointer t]:=(qb _ (by omega)).trans ((q13 _ (by omega)).trans rt5)
 have rg:rd (beginL h19 L) h2.size=(geoN n).v:=(qb _ (by omega)).trans ((q13 _ (by omega)).trans rg5)
 have rs:rd (beginL h19 L) h3.size=[.string (mkStr [])]:=(qb _ (by omega)).trans ((q13 _ (by omega)).trans rs5)
 have re:rd (beginL h19 L) h4.size=[.int .i64 0]:=(qb _ (by omega)).trans ((q13 _ (by omega)).trans n5.rd)
 have os:Own (beginL h19 L) h3.size:=wb _ (w13 _ os5)
 have oe:Own (beginL h19 L) h4.size:=wb _ (w13 _ n5.own)
 have rx:rd (beginL h19 L) h11.size=ints R:=(qb _ (by omega)).trans n13.rd
 have rco:rd (beginL h19 L) h18.size=[.int .i64 (ofs:Int)]:=(Fb.rd (by omega) fun y=>y).trans ((n19.at_ (by omega)).trans n19a.rd)
 have rcn:rd (beginL h19 L) h19a.size=[.int .i64 (m:Int)]:=(Fb.rd (by omega) fun y=>y).trans n19.rd
 have Bb:Bld (beginL h19 L) h13.size (fun x=>h13.size+5≤x) []:=B18.fr (((Fr.refl No h18).new n19a).new n19 |>.no Fb) (fun y=>y) fun _ _ _ y=>y
 have glb:=gl.no F0
 generalize hbe:beginL h19 L=hb0 at *
 have el:h19.size+1=h13.size+4:=by omega
 rw [el] at rounds on0 ⊢
 rw [eb] at d0 ⊢
 rw [hc1] at rco
 rw [hc2] at rcn
 rw [hc2,hc1]
 have xb:=x.no F0
 show C.file_parts_c1 (.func (.yield (h13.size+4)) #[] #[]) (some ⟨h13.size+2,0,none⟩) (some ⟨h13.size+1,0,none⟩) hb0 _
 -- leaving the loop
 have leave:∀ (v:Txt) (e:Int) (h26:Heap) (st:Option Code),Fr (fun b=>b=h13.size∨b=h13.size+4∨b=h3.size∨b=h4.size) hb0 h26→rd h26 h3.size=[.string (mkStr v)]→rd h26 h4.size=[.int .i64 e] →
   (∀ h',Fr No h h'→K (.tuple #[.string (mkStr v),.int .i64 e]) h') →
   EndD (h13.size+3) h26 fun h33=>∃ (res9:ByteArray),cellOf h33 ⟨h3.size,0,none⟩=some (.string res9)∧∃ (res10:Int),cellOf h33 ⟨h4.size,0,none⟩=some (.int .i64 res10)∧K (.tuple #[.string res9,.int .i64 res10]) h33:=fun v e h26 st f26 r1 r2 hk=>by
  have z26:=f26.size
  refine endD_intro ((f26.same _ (by omega) (by omega)).trans d0) fun h33 z33 f33=>?_
  refine ⟨_,rdc ((f33.rd (by omega) (by omega)).trans r1) rfl,_,rdc ((f33.rd (by omega) (by omega)).trans r2) rfl,hk h33 ?_⟩
  exact ((F0.trans f26 fun b hb y=>by omega).trans f33 fun b hb y=>by omega)
 refine iter_spec (off:=ofs) (n:=m) (by omega) (fun a hh=>Fr (fun b=>b=h13.size∨b=h13.size+4) hb0 hh∧LoopOn hh (h13.size+4) L .ready none∧∃ s k,Bld hh h13.size (fun x=>h13.size+5≤x) s∧s.length=a∧m≤a+k∧readGo T (geoN n) R ofs m m 0 []=readGo T (geoN n) R ofs m k a s) (fun a hh J=>?_) (fun a hh h' J ha f' r' l'=>?_) ⟨Fr.refl _ _,on0,[],m,Bb,rfl,by omega,rfl⟩ fun hh J=>?_
 ·obtain ⟨f,_⟩:=J
  have:=f.size
  exact ⟨(f.rd (by omega) (by omega)).trans rcn,(f.rd (by omega) (by omega)).trans rco,by omega,by omega⟩
 ·-- a round
  obtain ⟨f,on,s,k,B,ls,hk,eq⟩:=J
  have zf:=f.size
  have zf':=f'.size
  obtain ⟨k,rfl⟩:∃ k',k=k'+1:=⟨k - 1,by omega⟩
  refine rounds (partV ofs m a) h' _ (loopOn_fr on f' fun y=>y) (NewRow.intro rfl (by intro v hv; simp only [partV,List.mem_cons,List.not_mem_nil,or_false] at hv; rcases hv with rfl|rfl|rfl|rfl <;> rfl) rfl fun h22 n22=>⟨loopOn_fr (loopOn_fr on f' fun y=>y) n22.fr fun y=>y,setL_intro (by have:=n22.size; omega) fun h23 t23=>?_⟩)
  have z22:=n22.size
  have z23:=t23.size
  have f23:Fr (fun b=>b=h13.size∨b=h13.size+4) hb0 h23:=((f.no f').new n22).trans t23.fr fun b hb y => .inr y
  have q23:∀ b,b<hb0.size→b≠h13.size→b≠h13.size+4→rd h23 b=rd hb0 b:=fun b hb h1 h2=>f23.rd hb fun y=>y.elim h1 h2
  have r23:rd h23 h'.size=partV ofs m a:=(t23.fr.rd (by omega) (by omega)).trans n22.rd
  have fh23:Fr No h h23:=F0.trans f23 fun b hb y=>by omega
  have B23:Bld h23 h13.size (fun x=>h13.size+5≤x) s:=((B.fr f' (fun y=>y) fun _ _ _ y=>y).fr n22.fr (fun y=>y) fun _ _ _ y=>y).fr t23.fr (by omega) fun g h1 _ y=>by omega
  refine ⟨t,rdc ((q23 _ (by omega) (by omega) (by omega)).trans rt) rfl,(geoN n).v,rfl,cellsAll ((q23 _ (by omega) (by omega) (by omega)).trans rg),_,by rw [ints_length,lR],cellsAll ((q23 _ (by omega) (by omega) (by omega)).trans rx),_,rda r23 rfl,?_⟩
  refine block_spec (gl.no fh23) (x.no fh23) lR fun a1 l1 c1 h24 f24 hl s24=>⟨_,_,_,_,rfl,cn (fun hb=>?_) fun hb=>?_⟩
  ·-- it does not read
   have ee:readGo T (geoN n) R ofs m m 0 []=([],(blockM T (geoN n) R ((ofs+a) / 512:Nat)).2):=by
    rw [eq]; unfold readGo; rw [if_neg (by omega),if_pos hb]
   rw [ee] at hK
   have f24':Fr (fun b=>b=h13.size∨b=h13.size+4) hb0 h24:=f23.no f24
   have z24:=f24.size
   have q24:∀ b,b<hb0.size→b≠h13.size→b≠h13.size+4→rd h24 b=rd hb0 b:=fun b hb h1 h2=>f24'.rd hb fun y=>y.elim h1 h2
   have w24:∀ b,Own hb0 b→b≠h13.size→b≠h13.size+4→Own h24 b:=fun b o h1 h2=>f24'.own o.lt (fun y=>y.elim h1 h2) o
   refine put_s (w24 _ os (by omega) (by omega)) ((q24 _ (by omega) (by omega) (by omega)).trans rs) fun h25 d25=>put_e (d25.ow (w24 _ oe (by omega) (by omega))) ((d25.at_ (by omega) (by omega)).trans ((q24 _ (by omega) (by omega) (by omega)).trans re)) fun h26 d26=>?_
   have z25:=d25.size
   have z26:=d26.size
   have on26:LoopOn h26 (h13.size+4) L .busy none:=loopOn_fr (loopOn_fr (loopOn_fr t23.on f24 fun y=>y) d25.fr (by omega)) d26.fr (by omega)
   refine ⟨on26,.inr ⟨rfl,.done,some .ret,setLoop_on (loop_lt on26) L _ _,by decide,?_⟩⟩
   have t27:=turned (loop_lt on26) L .done (some .ret)
   have z27:=t27.size
   refine setL_intro (by omega) fun h34 t34=>leave [] _ h34 none ?_ ?_ ?_ hK
   ·exact ((((f24'.mono fun b _ y=>by omega).trans d25.fr fun b hb y=>by omega).trans d26.fr fun b hb y=>by omega).trans t27.fr fun b hb y=>by omega).trans t34.fr fun b hb y=>by omega
   ·exact (t34.fr.rd (by omega) (by omega)).trans ((t27.fr.rd (by omega) (by omega)).trans ((d26.at_ (by omega) (by omega)).trans d25.rd))
   ·exact (t34.fr.rd (by omega) (by omega)).trans ((t27.fr.rd (by omega) (by omega)).trans d26.rd)
  ·-- its bytes are taken
   obtain ⟨t1,t2⟩:=toP_gt (off:=ofs) ha
   have lb:=blockM_len x hb
   have hc:=s24.le
   have z24:=f24.size
   have r24:rd h24 h'.size=partV ofs m a:=(f24.rd (by omega) fun y=>y).trans r23
   refine ⟨_,rda r24 rfl,_,rda r24 rfl,⟨by omega,by omega,by omega⟩,?_⟩
   rw [Int.toNat_natCast,Int.toNat_natCast]
   have S:=StrAt.cut s24.str hc (i:=(ofs+a) % 512) (j:=toP ofs m a) (by omega) (by omega)
   have lnew:(((blockM T (geoN n) R ((ofs+a) / 512:Nat)).1.drop ((ofs+a) % 512)).take (toP ofs m a - (ofs+a) % 512)).length=toP ofs m a - (ofs+a) % 512:=by
    rw [List.length_take,List.length_drop,lb]; omega
   have lhh:=B.lt
   have B24':Bld h24 h13.size (fun x=>h13.size+5≤x∧x<hh.size) s:=((((B.mono (Q':=fun x=>h13.size+5≤x∧x<hh.size) fun g h1 h2=>⟨h1,h2⟩).fr f' (fun y=>y) fun _ _ _ y=>y).fr n22.fr (fun y=>y) fun _ _ _ y=>y).fr t23.fr (by omega) fun g h1 _ y=>by omega).fr f24 (fun y=>y) fun _ _ _ y=>y
   refine BWrite_spec B24' S (fun y=>by rw [y,List.length_nil] at lnew; omega) (fun p hp=>?_) (by omega) fun v h27 f27 B27=>⟨_,_,rfl,?_⟩
   ·obtain ⟨p0,ep,_⟩:=s24.get (by omega)
    subst ep
    obtain ⟨pb,po,sp⟩:=p0
    have esp:sp=none:=s24.2.1
    subst esp
    have hfrom:h23.size≤pb:=s24.2.2.1
    split at hp
    ·cases hp; show pb≠_; omega
    ·cases hp
     show (Addr.add ⟨pb,po,none⟩ _).block≠_
     rw [add_mk]; show pb≠_; omega
   have z27:=f27.size
   have on27:LoopOn h27 (h13.size+4) L .busy none:=loopOn_fr (loopOn_fr t23.on f24 fun y=>y) f27 (by omega)
   have t28:=turned (loop_lt on27) L .ready none
   refine ⟨on27,.inl ⟨rfl,⟨?_,t28.on,_,k,(B27.mono (Q':=fun x=>h13.size+5≤x) fun g h1 _=>by omega).fr t28.fr (by omega) fun g h1 _ y=>by omega,?_,?_,?_⟩,?_⟩⟩
   ·exact ((f23.no f24).trans f27 fun b hb y=>by omega).trans t28.fr fun b hb y => .inr y
   ·rw [List.length_append,lnew,ls]; rfl
   ·have:=(nextA_gt (off:=ofs) ha).1; omega
   ·rw [eq]
    conv=>lhs; unfold readGo
    rw [if_neg (by omega),if_neg (fun y=>y hb)]
   ·have e1:rd (setLoop h27 (h13.size+4) L .ready none) hh.size=rd h27 hh.size:=t28.fr.rd (by omega) (by omega)
    exact e1.trans ((f27.rd (by omega) (by omega)).trans ((f24.rd (by omega) fun y=>y).trans ((t23.fr.rd (by omega) (by omega)).trans (n22.at_ (by omega)))))
 ·-- all have come
  obtain ⟨f,on,s,k,B,ls,hk,eq⟩:=J
  rw [readGo_end (Nat.le_refl m)] at eq
  rw [eq] at hK
  have zf:=f.size
  refine ⟨.ready,none,on,by decide,pend_none (setL_intro (by omega) fun h29 t29=>?_)⟩
  have z29:=t29.size
  have f29:Fr (fun b=>b=h13.size∨b=h13.size+4) hb0 h29:=f.trans t29.fr fun b hb y => .inr y
  refine BString_spec (B.fr t29.fr (by omega) fun g h1 _ y=>by omega) (by omega) fun h30 f30=>⟨_,rfl,?_⟩
  have z30:=f30.size
  have f30':Fr (fun b=>b=h13.size∨b=h13.size+4) hb0 h30:=f29.trans f30 fun b hb y=>by omega
  have q30:∀ b,b<hb0.size→b≠h13.size→b≠h13.size+4→rd h30 b=rd hb0 b:=fun b hb h1 h2=>f30'.rd hb fun y=>y.elim h1 h2
  have w30:∀ b,Own hb0 b→b≠h13.size→b≠h13.size+4→Own h30 b:=fun b o h1 h2=>f30'.own o.lt (fun y=>y.elim h1 h2) o
  refine put_s (w30 _ os (by omega) (by omega)) ((q30 _ (by omega) (by omega) (by omega)).trans rs) fun h31 d31=>put_e (d31.ow (w30 _ oe (by omega) (by omega))) ((d31.at_ (by omega) (by omega)).trans ((q30 _ (by omega) (by omega) (by omega)).trans re)) fun h32 d32=>?_
  have z31:=d31.size
  refine leave s 0 h32 none ?_ ((d32.at_ (by omega) (by omega)).trans d31.rd) d32.rd hK
  exact ((f30'.mono fun b _ y=>by omega).trans d31.fr fun b hb y=>by omega).trans d32.fr fun b hb y=>by omega
end Go.Proofs.YtcdpakjhjmchhaaGreatDoor.Fi
namespace Go.Proofs.YtcdpakjhjmchhaaGreatDoor.Fi
open Go Go.Proofs Wx Hp W Ad Tm Spc Re Av Rg
open Hd (ints)
open In (Glo ints_length ints_one mayR decA)
open Ino (getM putM Cok getM_length)
open Bm (findM cutM addM allM pcellA write_un cutM_un addM_un setM walkA)
theorem setM_len (T:TM) (R:List Int) (s:Nat×Nat) (a:Int) (b:Txt) (v:Int):(setM T R s a b v).1.2.length=R.length:=by
 unfold setM
 split
 ·exact List.length_set
 ·split
  ·exact List.length_set
  ·split
   ·exact List.length_set
   ·rfl
theorem walkA_len (g:G):∀ (l:List (Nat×Nat)) (T:TM) (R:List Int) (a:Int),(walkA g l T R a).1.2.length=R.length
 | [],_,_,_=>rfl
 | s::r,T,R,a=>by
  unfold walkA
  split
  ·rfl
  ·split
   ·split
    ·rfl
    ·exact walkA_len g r T R _
   ·split
    ·rfl
    ·split
     ·exact setM_len ..
     ·split
      ·exact setM_len ..
      ·split
       ·exact setM_len ..
       ·rw [walkA_len g r]; exact setM_len ..
theorem addM_length {T:TM} {g:G} {R:List Int} {k:Int} (hR:R.length=15):(addM T g R k).2.1.length=15:=by
 unfold addM
 split
 ·rfl
 ·split
  ·rfl
  ·show (walkA g _ T R 0).1.2.length=15
   rw [walkA_len,hR]
theorem extract_mk (s:Txt) (i j:Nat):ByteArray.extract (mkStr s) i j=mkStr ((s.drop i).take (j - i)):=by
 apply ByteArray.ext
 rw [ByteArray.data_extract]
 apply Array.ext'
 simp [mkStr,List.extract]
theorem copy_str {elem:TI} (he:elem.cells=1) {b o n m:Nat} {s:ByteArray} {new:Txt} {h:Heap} {k:Nat→Heap→Prop} (hm:min s.size n=m) (hn:s.toList.take m=new) (hl':new.length=m) (w:Own h b) (hl:o+m≤(rd h b).length)
  (H:∀ h',Did b h h' (put (rd h b) o (new.map bv))→k m h'):CopyP elem (some ⟨b,o,none⟩) n (.string s) h k:=by
 subst hm
 subst hn
 refine ⟨by rw [he]; trivial,?_,?_⟩
 ·simp only [WrS,add_mk]; exact wrN_rd w (by omega)
 ·simp only [setS,add_mk]
  exact H _ ⟨Hp.size_setRow _ _ _ _,Fr.setRow (F:=fun x=>x=b) (Or.inl rfl) (Fr.refl _ h),own_setRow w,by rw [rd_setRow_at]; rfl⟩
def writeGo (g:G) (off:Nat) (s:Txt):Nat→Nat→TM→List Int→(TM×List Int)×Int
 | 0,_,T,R=>((T,R),0)
 | k+1,a,T,R=>if s.length≤a then ((T,R),0) else
  if (addM T g R ((off+a) / 512:Nat)).2.2.2≠0 then (((addM T g R ((off+a) / 512:Nat)).1,R),(addM T g R ((off+a) / 512:Nat)).2.2.2) else
  if ((addM T g R ((off+a) / 512:Nat)).1.read (addM T g R ((off+a) / 512:Nat)).2.2.1).2≠0 then (((addM T g R ((off+a) / 512:Nat)).1,R),((addM T g R ((off+a) / 512:Nat)).1.read (addM T g R ((off+a) / 512:Nat)).2.2.1).2) else
  if ((addM T g R ((off+a) / 512:Nat)).1.write (addM T g R ((off+a) / 512:Nat)).2.2.1 (putU ((addM T g R ((off+a) / 512:Nat)).1.read (addM T g R ((off+a) / 512:Nat)).2.2.1).1 ((off+a) % 512) ((s.drop a).take (toP off s.length a - (off+a) % 512)))).2≠0 then
   ((((addM T g R ((off+a) / 512:Nat)).1.write (addM T g R ((off+a) / 512:Nat)).2.2.1 (putU ((addM T g R ((off+a) / 512:Nat)).1.read (addM T g R ((off+a) / 512:Nat)).2.2.1).1 ((off+a) % 512) ((s.drop a).take (toP off s.length a - (off+a) % 512)))).1,R),((addM T g R ((off+a) / 512:Nat)).1.write (addM T g R ((off+a) / 512:Nat)).2.2.1 (putU ((addM T g R ((off+a) / 512:Nat)).1.read (addM T g R ((off+a) / 512:Nat)).2.2.1).1 ((off+a) % 512) ((s.drop a).take (toP off s.length a - (off+a) % 512)))).2) else
  writeGo g off s k (nextA off s.length a) ((addM T g R ((off+a) / 512:Nat)).1.write (addM T g R ((off+a) / 512:Nat)).2.2.1 (putU ((addM T g R ((off+a) / 512:Nat)).1.read (addM T g R ((off+a) / 512:Nat)).2.2.1).1 ((off+a) % 512) ((s.drop a).take (toP off s.length a - (off+a) % 512)))).1 (addM T g R ((off+a) / 512:Nat)).2.1
theorem writeGo_end {g:G} {off a:Nat} {s:Txt} {T:TM} {R:List Int} (h:s.length≤a):∀ k,writeGo g off s k a T R=((T,R),0)
 | 0=>rfl
 | k+1=>by unfold writeGo; rw [if_pos h]
theorem writeGo_add {g:G} {off k a:Nat} {s:Txt} {T T':TM} {R R':List Int} {v e:Int} (h:a<s.length) (ea:addM T g R ((off+a) / 512:Nat)=(T',R',v,e)):writeGo g off s (k+1) a T R =
  if e≠0 then ((T',R),e) else if (T'.read v).2≠0 then ((T',R),(T'.read v).2) else
  if (T'.write v (putU (T'.read v).1 ((off+a) % 512) ((s.drop a).take (toP off s.length a - (off+a) % 512)))).2≠0 then (((T'.write v (putU (T'.read v).1 ((off+a) % 512) ((s.drop a).take (toP off s.length a - (off+a) % 512)))).1,R),(T'.write v (putU (T'.read v).1 ((off+a) % 512) ((s.drop a).take (toP off s.length a - (off+a) % 512)))).2) else
  writeGo g off s k (nextA off s.length a) (T'.write v (putU (T'.read v).1 ((off+a) % 512) ((s.drop a).take (toP off s.length a - (off+a) % 512)))).1 R':=by
 conv=>lhs; unfold writeGo
 rw [if_neg (by omega),ea]
def bodyW (T:TM) (g:G) (i:Int) (R:List Int) (off:Nat) (s:Txt):TM×Int :=
 if (writeGo g off s s.length 0 T R).2≠0 then ((writeGo g off s s.length 0 T R).1.1,(writeGo g off s s.length 0 T R).2) else
  putM (writeGo g off s s.length 0 T R).1.1 g i ((writeGo g off s s.length 0 T R).1.2.set 2 (max ((writeGo g off s s.length 0 T R).1.2.getD 2 0) ((off+s.length:Nat):Int)))
def writeF (T:TM) (g:G) (i off:Int) (s:Txt):TM×Int:=if off<0 then (T,1) else if (getF T g i).2≠0 then (T,(getF T g i).2) else if (s.length:Int)>8459264 - off then (T,120) else if s=[] then (T,0) else
 undoM T (bodyW T g i (getF T g i).1 off.toNat s)
end Go.Proofs.YtcdpakjhjmchhaaGreatDoor.Fi
namespace Go.Proofs.YtcdpakjhjmchhaaGreatDoor.Bm
open Go Go.Proofs Wx Hp W Ad Tm Spc Re Av
open Hd (ints ints_get)
end Go.Proofs.YtcdpakjhjmchhaaGreatDoor.Bm
namespace Go.Proofs.YtcdpakjhjmchhaaGreatDoor.Rm
open Go Go.Proofs Wx Hp W Tm
end Go.Proofs.YtcdpakjhjmchhaaGreatDoor.Rm
namespace Go.Proofs.YtcdpakjhjmchhaaGreatDoor.Bm
open Go Go.Proofs Wx Hp W Ad Tm Spc Re Av Rm
def tkeys (k:Int):List Int:=if k≥138 then [-1,(k - 138) / 128] else if k≥10 then [-2] else []
end Go.Proofs.YtcdpakjhjmchhaaGreatDoor.Bm
namespace Go.Proofs.YtcdpakjhjmchhaaGreatDoor.Bm
open Go Go.Proofs Wx Hp W Ad Tm Bt Spc Re Av
structure Dom (f:Nat→Nat) (has:MapI):Prop where
 nd:(has.map (·.1)).Nodup
 rng:∀ p ∈ has,0≤p.1∧p.1<16522
 at_:∀ k:Nat,k<16522→((k:Int) ∈ has.map (·.1)↔f k≠0)
theorem Dom.mem {f:Nat→Nat} {has:MapI} (a:Dom f has) {x:Int}:x ∈ has.map (·.1)↔∃ k:Nat,k<16522∧x=k∧f k≠0:=by
 constructor
 ·intro h
  obtain ⟨p,hp,rfl⟩:=List.mem_map.mp h
  obtain ⟨h1,h2⟩:=a.rng p hp
  have e:((p.1.toNat:Nat):Int)=p.1:=by omega
  exact ⟨p.1.toNat,by omega,e.symm,(a.at_ _ (by omega)).mp (by rw [e]; exact h)⟩
 ·rintro ⟨k,hk,rfl,h0⟩
  exact (a.at_ k hk).mpr h0
def TightF (f:Nat→Nat):Prop:=∀ q,16522≤q→q<nS→f q≠0→∃ x,loS q≤x∧x<hiS q∧f x≠0
def UpF (f:Nat→Nat):Prop:=∀ k q,k<16522→f k≠0→q ∈ path k→f q≠0
theorem rowN_fst {f:Nat→Nat} (m k:Nat):((rowN f k m).map (·.1)).Nodup:=by
 have:=rowN_lt (f:=f) m k
 exact (List.Pairwise.map (S:=fun a b:Int=>a<b) _ (fun _ _ h=>h) this).imp fun h=>by omega
theorem Dom.len {f:Nat→Nat} {has:MapI} (a:Dom f has):(rowN f 0 16522).length=has.length:=by
 have h1:∀ x,x ∈ (rowN f 0 16522).map (·.1)↔x ∈ has.map (·.1):=fun x=>by
  rw [a.mem]
  constructor
  ·intro h
   obtain ⟨p,hp,rfl⟩:=List.mem_map.mp h
   obtain ⟨j,_,h2,h3,rfl⟩:=(mem_rowN 16522 0).mp hp
   exact ⟨j,by omega,rfl,h3⟩
  ·rintro ⟨k,hk,rfl,h0⟩
   exact List.mem_map.mpr ⟨_,(mem_rowN 16522 0).mpr ⟨k,by omega,by omega,h0,rfl⟩,rfl⟩
 have a1:=nodup_len (rowN_fst (f:=f) 16522 0) fun x hx=>(h1 x).mp hx
 have a2:=nodup_len a.nd fun x hx=>(h1 x).mpr hx
 rw [List.length_map,List.length_map] at a1 a2
 omega
theorem tabN_add {f:Nat→Nat}:∀ (a k b:Nat),tabN f k (a+b)=tabN f k a++tabN f (k+a) b
 | 0,k,b=>by rw [Nat.zero_add]; rfl
 | a+1,k,b=>by
  rw [show a+1+b=(a+b)+1 by omega]
  show (if f k=0 then [] else _)++tabN f (k+1) (a+b)=((if f k=0 then [] else _)++tabN f (k+1) a)++_
  rw [tabN_add a (k+1) b,List.append_assoc,show k+1+a=k+(a+1) by omega]
theorem tabN_zero {f:Nat→Nat}:∀ (m k:Nat),(∀ j,j<m→f (k+j)=0)→tabN f k m=[]
 | 0,_,_=>rfl
 | m+1,k,h=>by
  have h0:=h 0 (by omega)
  rw [Nat.add_zero] at h0
  show (if f k=0 then [] else _)++tabN f (k+1) m=[]
  rw [if_pos h0,tabN_zero m (k+1) fun j hj=>by have:=h (j+1) (by omega); rwa [show k+(j+1)=k+1+j by omega] at this]; rfl
theorem tabs_eq (Z:Nat→Txt) (R:List Int):tabN (num Z R) 16522 1++(tabN (num Z R) 16523 1++if num Z R 16523=0 then [] else tabN (num Z R) 16524 128)=tabN (num Z R) 16522 130:=by
 rw [show 130=1+(1+128) by rfl,tabN_add 1 16522,tabN_add 1 (16522+1)]
 congr 2
 split
 ·rename_i h
  exact (tabN_zero 128 16524 fun j hj=>sub_zero (q:=16523) (by decide) h _ (sub_two.mpr (.inr (.inr ⟨by omega,by unfold nS; omega⟩)))).symm
 ·rfl
def tabS (f:Nat→Nat):Nat→Nat→List Nat
 | _,0=>[]
 | k,m+1=>(if f k=0 then [] else [k])++tabS f (k+1) m
theorem tabN_S {f:Nat→Nat}:∀ (m k:Nat),tabN f k m=(tabS f k m).map fun s=>((f s:Nat):Int)
 | 0,_=>rfl
 | m+1,k=>by
  show (if f k=0 then [] else [((f k:Nat):Int)])++tabN f (k+1) m=((if f k=0 then [] else [k])++tabS f (k+1) m).map _
  rw [List.map_append,tabN_S m (k+1)]
  split <;> rfl
theorem mem_tabS {f:Nat→Nat} {x:Nat}:∀ (m k:Nat),x ∈ tabS f k m↔k≤x∧x<k+m∧f x≠0
 | 0,k=>by
  constructor
  ·intro h; cases h
  ·intro h; omega
 | m+1,k=>by
  show x ∈ (if f k=0 then [] else [k])++tabS f (k+1) m↔_
  rw [List.mem_append,mem_tabS m (k+1)]
  constructor
  ·rintro (h|⟨h1,h2,h3⟩)
   ·split at h
    ·cases h
    ·rename_i h0
     rw [List.mem_singleton] at h
     subst h
     exact ⟨Nat.le_refl _,by omega,h0⟩
   ·exact ⟨by omega,by omega,h3⟩
  ·rintro ⟨h1,h2,h3⟩
   by_cases e:x=k
   ·subst e
    rw [if_neg h3]; exact .inl (List.mem_singleton.mpr rfl)
   ·exact .inr ⟨by omega,by omega,h3⟩
theorem tabS_lt {f:Nat→Nat}:∀ (m k:Nat),(tabS f k m).Pairwise fun x y=>x<y
 | 0,_=>List.Pairwise.nil
 | m+1,k=>by
  show ((if f k=0 then [] else [k])++tabS f (k+1) m).Pairwise _
  rw [List.pairwise_append]
  refine ⟨?_,tabS_lt m (k+1),fun x hx y hy=>?_⟩
  ·split
   ·exact List.Pairwise.nil
   ·exact List.pairwise_singleton _ _
  ·have:=(mem_tabS m (k+1)).mp hy
   split at hx
   ·cases hx
   ·rw [List.mem_singleton.mp hx]; omega
def keyOf (q:Nat):Int:=if q=16522 then -2 else if q=16523 then -1 else ((q - 16524:Nat):Int)
theorem keyOf_inj {a b:Nat} (ha:16522≤a) (hb:16522≤b) (h:keyOf a=keyOf b):a=b:=by
 unfold keyOf at h
 split at h <;> split at h <;> (try split at h) <;> (try split at h) <;> omega
theorem mem_tkeys {k:Nat} (hk:k<16522) (key:Int):key ∈ tkeys (k:Int)↔∃ q ∈ path k,16522≤q∧key=keyOf q:=by
 unfold tkeys path
 by_cases h1:(k:Int)≥138
 ·rw [if_pos h1,if_neg (by omega),if_neg (by omega)]
  simp only [List.mem_cons,List.not_mem_nil,or_false]
  have e1:keyOf 16523 = -1:=rfl
  have e2:keyOf (16524+(k - 138) / 128)=((k:Int) - 138) / 128:=by
   unfold keyOf
   rw [if_neg (by omega),if_neg (by omega),Nat.add_sub_cancel_left]; omega
  constructor
  ·rintro (h|h)
   ·exact ⟨16523,.inl rfl,by decide,by rw [h,e1]⟩
   ·exact ⟨16524+(k - 138) / 128,.inr (.inl rfl),by omega,by rw [h,e2]⟩
  ·rintro ⟨q,rfl|rfl|rfl,hq,h⟩
   ·exact .inl (by rw [h,e1])
   ·exact .inr (by rw [h,e2])
   ·omega
 ·rw [if_neg h1]
  by_cases h2:(k:Int)≥10
  ·rw [if_pos h2,if_neg (by omega),if_pos (by omega)]
   simp only [List.mem_cons,List.not_mem_nil,or_false]
   have e1:keyOf 16522 = -2:=rfl
   constructor
   ·intro h
    exact ⟨16522,.inl rfl,by decide,by rw [h,e1]⟩
   ·rintro ⟨q,rfl|rfl,hq,h⟩
    ·rw [h,e1]
    ·omega
  ·rw [if_neg h2,if_pos (by omega)]
   simp only [List.mem_cons,List.not_mem_nil,or_false]
   constructor
   ·intro h; exact h.elim
   ·rintro ⟨q,rfl,hq,_⟩; omega
theorem up_num {Z:Nat→Txt} {R:List Int} {k q:Nat} (hk:k<16522) (h0:num Z R k≠0) (hq:q ∈ path k) (h2:q<nS):num Z R q≠0:=fun hz=>by
 rcases Nat.lt_or_ge q 16522 with h|h
 ·rw [path_data hq h] at hz; exact h0 hz
 ·obtain ⟨a,b⟩:=path_under hk hq h
  exact h0 (sub_zero h2 hz k (data_sub h h2 a b).1)
theorem up_f (Z:Nat→Txt) (R:List Int):UpF (num Z R):=fun _ _ hk h0 hq=>up_num hk h0 hq (chain_nS (path_chain hk).1 _ hq)
theorem Dom.tabs {f:Nat→Nat} {has:MapI} (a:Dom f has) (tg:TightF f) (up:UpF f) {tb:List Int} (nd:tb.Nodup) (h:∀ key,key ∈ tb↔∃ p ∈ has,key ∈ tkeys p.1):(tabN f 16522 130).length=tb.length:=by
 rw [tabN_S,List.length_map]
 have e:∀ key,key ∈ (tabS f 16522 130).map keyOf↔key ∈ tb:=fun key=>by
  rw [h key]
  constructor
  ·intro hk
   obtain ⟨q,hq,rfl⟩:=List.mem_map.mp hk
   obtain ⟨h1,h2,h3⟩:=(mem_tabS 130 16522).mp hq
   have hn:q<nS:=by unfold nS; omega
   obtain ⟨x,b,c,hx⟩:=tg q h1 hn h3
   have hx2:=(data_sub h1 hn b c).2
   obtain ⟨p,hp,e⟩:=List.mem_map.mp (a.mem.mpr ⟨x,hx2,rfl,hx⟩)
   exact ⟨p,hp,by rw [e]; exact (mem_tkeys hx2 _).mpr ⟨q,under_path h1 hn b c,h1,rfl⟩⟩
  ·rintro ⟨p,hp,hk⟩
   obtain ⟨k,hk2,e,h0⟩:=a.mem.mp (List.mem_map.mpr ⟨p,hp,rfl⟩)
   rw [e] at hk
   obtain ⟨q,hq,h1,rfl⟩:=(mem_tkeys hk2 _).mp hk
   have hn:q<nS:=chain_nS (path_chain hk2).1 q hq
   exact List.mem_map.mpr ⟨q,(mem_tabS 130 16522).mpr ⟨h1,by unfold nS at hn; omega,up k q hk2 h0 hq⟩,rfl⟩
 have nd':((tabS (f) 16522 130).map keyOf).Nodup:=by
  have hp:=tabS_lt (f:=f) 130 16522
  have hm:∀ x ∈ tabS (f) 16522 130,16522≤x:=fun x hx=>((mem_tabS 130 16522).mp hx).1
  generalize tabS f 16522 130=l at hp hm
  induction l with
  | nil=>exact List.nodup_nil
  | cons x l ih =>
   rw [List.pairwise_cons] at hp
   rw [List.map_cons,List.nodup_cons]
   refine ⟨fun y=>?_,ih hp.2 fun y hy=>hm y (List.mem_cons_of_mem _ hy)⟩
   obtain ⟨z,hz,ez⟩:=List.mem_map.mp y
   have:=keyOf_inj (hm z (List.mem_cons_of_mem _ hz)) (hm x (List.mem_cons_self ..)) ez
   have:=hp.1 z hz
   omega
 have a1:=nodup_len nd' fun x hx=>(e x).mp hx
 have a2:=nodup_len nd fun x hx=>(e x).mpr hx
 rw [List.length_map] at a1 a2
 omega
theorem Dom.split {f:Nat→Nat} {has:MapI} (a:Dom f has):cnt (fun s=>decide (f s≠0)) nS=has.length+(tabN f 16522 130).length:=by
 have c1:∀ (m k:Nat) (p:Nat→Bool),(∀ s,p s=decide (f s≠0))→cnt p (k+m)=cnt p k+(tabS f k m).length:=by
  intro m
  induction m with
  | zero=>intro k p _; rfl
  | succ m ih =>
   intro k p hp
   have:=ih (k+1) p hp
   rw [show k+(m+1)=k+1+m by omega,this]
   show cnt p k+(if p k=true then 1 else 0)+_=cnt p k+((if f k=0 then [] else [k])++tabS f (k+1) m).length
   rw [List.length_append,hp k]
   by_cases h0:f k=0
   ·rw [if_pos h0,if_neg (by rw [decide_eq_true_eq]; exact fun y=>y h0)]; simp
   ·rw [if_neg h0,if_pos (decide_eq_true h0)]; simp; omega
 have c2:∀ (m k:Nat),(rowN f k m).length=(tabS f k m).length:=by
  intro m
  induction m with
  | zero=>intro k; rfl
  | succ m ih =>
   intro k
   show ((if f k=0 then [] else [(((k:Nat):Int),((f k:Nat):Int))])++rowN f (k+1) m).length=((if f k=0 then [] else [k])++tabS f (k+1) m).length
   rw [List.length_append,List.length_append,ih]
   split <;> rfl
 have e1:=c1 130 16522 (fun s=>decide (f s≠0)) fun s=>rfl
 have e2:=c1 16522 0 (fun s=>decide (f s≠0)) fun s=>rfl
 have e3:cnt (fun s=>decide (f s≠0)) 0=0:=rfl
 rw [Nat.zero_add,e3,Nat.zero_add] at e2
 unfold nS
 rw [show 16652=16522+130 by rfl,e1,e2,← c2,a.len,tabN_S,List.length_map]
theorem Dom.takes {f:Nat→Nat} {has:MapI} (a:Dom f has) (tg:TightF f) (up:UpF f) {tb:List Int} (nd:tb.Nodup) (h:∀ key,key ∈ tb↔∃ p ∈ has,key ∈ tkeys p.1):has.length+tb.length=cnt (fun s=>decide (f s≠0)) nS:=by
 rw [a.split,a.tabs tg up nd h]
def plusF (f:Nat→Nat) (k:Nat):Nat→Nat:=fun s=>if f s=0∧s ∈ path k then 1 else f s
theorem plus_ne {f:Nat→Nat} {k s:Nat}:plusF f k s≠0↔f s≠0∨s ∈ path k:=by
 unfold plusF
 split
 ·rename_i h; exact ⟨fun _ => .inr h.2,fun _=>by decide⟩
 ·rename_i h
  exact ⟨.inl,fun y=>y.elim id fun z w=>h ⟨w,z⟩⟩
theorem cnt_plus {f:Nat→Nat}:∀ (l:List Nat) (N:Nat),l.Nodup→(∀ s ∈ l,s<N)→cnt (fun s=>decide (f s≠0∨s ∈ l)) N=cnt (fun s=>decide (f s≠0)) N+(l.filter fun s=>decide (f s=0)).length
 | [],N,_,_=>by
  rw [List.filter_nil,List.length_nil,Nat.add_zero]
  exact cnt_congr fun j _=>by simp
 | x::l,N,nd,hl=>by
  rw [List.nodup_cons] at nd
  have ih:=cnt_plus (f:=f) l N nd.2 fun s hs=>hl s (List.mem_cons_of_mem _ hs)
  by_cases h0:f x=0
  ·have:=cnt_upd (p:=fun s=>decide (f s≠0∨s ∈ l)) (q:=fun s=>decide (f s≠0∨s ∈ x::l)) (i:=x) (fun j hj=>by
    rw [decide_eq_decide,List.mem_cons]
    exact ⟨fun y=>y.imp id .inr,fun y=>y.imp id fun z=>z.resolve_left hj⟩) (decide_eq_false fun y=>y.elim (fun z=>z h0) nd.1) (decide_eq_true (.inr (List.mem_cons_self ..))) N
   rw [if_pos (hl x (List.mem_cons_self ..))] at this
   rw [this,ih,List.filter_cons,if_pos (decide_eq_true h0),List.length_cons]; omega
  ·have:cnt (fun s=>decide (f s≠0∨s ∈ x::l)) N=cnt (fun s=>decide (f s≠0∨s ∈ l)) N:=cnt_congr fun j _=>by
    rw [decide_eq_decide,List.mem_cons]
    refine ⟨fun y=>?_,fun y=>y.imp id .inr⟩
    rcases y with y|rfl|y
    ·exact .inl y
    ·exact .inl h0
    ·exact .inr y
   rw [this,ih,List.filter_cons,if_neg (by rw [decide_eq_true_eq]; exact h0)]
theorem miss_filter (Z:Nat→Txt) (R:List Int):∀ l,miss Z R l=(l.filter fun s=>decide (num Z R s=0)).length
 | []=>rfl
 | s::r=>by
  show (if num Z R s=0 then 1 else 0)+miss Z R r=_
  rw [List.filter_cons,miss_filter Z R r]
  by_cases h:num Z R s=0
  ·rw [if_pos h,if_pos (decide_eq_true h),List.length_cons]; omega
  ·rw [if_neg h,if_neg (by rw [decide_eq_true_eq]; exact h)]; omega
theorem path_nodup {k:Nat} (hk:k<16522):(path k).Nodup:=by
 have:∀ (l:List Nat) (o:Option Nat),Chain o l→l.Nodup:=by
  intro l
  induction l with
  | nil=>intro _ _; exact List.nodup_nil
  | cons x l ih=>intro o c; exact List.nodup_cons.mpr ⟨c.2.2.1,ih _ c.2.2.2⟩
 exact this _ _ (path_chain hk).1
theorem many_plus {Z:Nat→Txt} {R:List Int} {k:Nat} (hk:k<16522):cnt (fun s=>decide (plusF (num Z R) k s≠0)) nS=many Z R+miss Z R (path k):=by
 rw [miss_filter]
 unfold many
 rw [← cnt_plus (path k) nS (path_nodup hk) (chain_nS (path_chain hk).1)]
 exact cnt_congr fun j _=>by rw [decide_eq_decide]; exact plus_ne
end Go.Proofs.YtcdpakjhjmchhaaGreatDoor.Bm
namespace Go.Proofs.YtcdpakjhjmchhaaGreatDoor.Bm
open Go Go.Proofs Wx Hp W Ad Tm Bt Spc Re Av
theorem miss_zero {Z:Nat→Txt} {R:List Int} {k:Nat} (hk:k<16522) (h0:num Z R k≠0):miss Z R (path k)=0:=by
 have:∀ l:List Nat,(∀ s ∈ l,num Z R s≠0)→miss Z R l=0:=by
  intro l
  induction l with
  | nil=>intro _; rfl
  | cons s l ih =>
   intro h
   show (if num Z R s=0 then 1 else 0)+miss Z R l=0
   rw [if_neg (h s (List.mem_cons_self ..)),ih fun x hx=>h x (List.mem_cons_of_mem _ hx)]
 exact this _ fun s hs=>up_num hk h0 hs (chain_nS (path_chain hk).1 s hs)
end Go.Proofs.YtcdpakjhjmchhaaGreatDoor.Bm
namespace Go.Proofs.YtcdpakjhjmchhaaGreatDoor.Fi
open Go Go.Proofs Wx Hp W Ad Tm Bt Spc Re Av
open Hd (ints)
open In (Glo ints_length ints_one mayR decA encR encR_length decOk getR_enc z15)
open Ino (getM putM Cok getM_length rblk rat)
open Bm (findM cutM addM allM num num4 nS Wf Tight path Added Cutd find_ok add_ok cut_ok num_congr path_self path_chain chain_nS path_data miss_zero frees_many many miss par)
def blkZ (n k:Nat):Nat:=(geoN n).inodes+k / 8
def recZ (n:Nat) (Z:Nat→Txt) (k:Nat):List Int×Int:=decA (((Z (blkZ n k)).drop (64*(k % 8))).take 64)
theorem blkZ_rng {n k:Nat} (d:Dim n) (h:k<(geoN n).count):(geoN n).inodes≤blkZ n k∧blkZ n k<(geoN n).data∧blkZ n k<n∧98≤blkZ n k:=by
 have hd:=d.data
 have e:(geoN n).count=8*(n / 64):=rfl
 have e2:(geoN n).data=98+(n+4095) / 4096+n / 64:=rfl
 have e3:(geoN n).inodes=98+(n+4095) / 4096:=rfl
 unfold blkZ
 omega
theorem part64 {b z:Txt} {o q:Nat} (hz:z.length=64) (hb:b.length=512) (ho:o<8) (_:q<8):((putU b (64*o) z).drop (64*q)).take 64=if q=o then z else (b.drop (64*q)).take 64:=by
 unfold putU
 have l1:(b.take (64*o)).length=64*o:=by rw [List.length_take]; omega
 by_cases h:q=o
 ·rw [if_pos h,h,List.append_assoc,List.drop_append_of_le_length (by omega),List.drop_of_length_le (by omega),List.nil_append,List.take_append_of_le_length (by omega),List.take_of_length_le (by omega)]
 ·rw [if_neg h]
  rcases Nat.lt_or_ge q o with h1|h1
  ·rw [List.append_assoc,List.drop_append_of_le_length (by omega),List.take_append_of_le_length (by rw [List.length_drop]; omega),List.drop_take,List.take_take,Nat.min_eq_left (by omega)]
  ·have l2:(b.take (64*o)++z).length=64*o+64:=by rw [List.length_append]; omega
   rw [List.drop_append,List.drop_of_length_le (by omega),List.nil_append,List.drop_drop,l2,hz,show 64*o+64+(64*q - (64*o+64))=64*q by omega]
theorem decA_enc {P:List Int} (hP:P.length=15) (hm:mayR P=true):decA (encR P)=(P,0):=by
 obtain ⟨e1,e2⟩:=getR_enc hP hm
 have:decOk (encR P)=true:=by rw [decOk,e1,e2,hm]; rfl
 rw [decA,if_neg (by rw [encR_length hP]; decide),if_pos this,e1]
theorem getM_at {n k:Nat} {Z:Nat→Txt} {T:TM} (a:Av n Z T) (d:Dim n) (h1:1≤k) (h2:k<(geoN n).count):getM T (geoN n) k=recZ n Z k:=by
 have r:=blkZ_rng d h2
 have e:rblk (geoN n) (k:Int)=((blkZ n k:Nat):Int):=rfl
 unfold getM
 rw [if_neg (fun y=>y ⟨by omega,by omega⟩),e,a.z _ r.2.2.1,if_neg (fun y=>y rfl)]
 rfl
theorem putM_at {n k:Nat} {Z:Nat→Txt} {T:TM} {R:List Int} (a:Av n Z T) (d:Dim n) (h1:1≤k) (h2:k<(geoN n).count) (hm:mayR R=true) :
  putM T (geoN n) k R=T.write (blkZ n k:Nat) (putU (Z (blkZ n k)) (64*(k % 8)) (encR R)):=by
 have r:=blkZ_rng d h2
 have e:rblk (geoN n) (k:Int)=((blkZ n k:Nat):Int):=rfl
 unfold putM
 rw [if_neg (fun y=>y ⟨by omega,by omega⟩),if_neg (by rw [hm]; simp),e,a.z _ r.2.2.1,if_neg (fun y=>y rfl)]
 rfl
theorem recZ_put {n i k:Nat} {Z:Nat→Txt} {R:List Int} (hR:R.length=15) (hm:mayR R=true) (hl:(Z (blkZ n i)).length=512):recZ n (up Z (blkZ n i) (putU (Z (blkZ n i)) (64*(i % 8)) (encR R))) k=if k=i then (R,0) else recZ n Z k:=by
 have le:=encR_length hR
 unfold recZ
 by_cases hb:blkZ n k=blkZ n i
 ·rw [hb,up_at,part64 le hl (by omega) (by omega)]
  by_cases hk:k=i
  ·rw [if_pos (by rw [hk]),if_pos hk]; exact decA_enc hR hm
  ·have:¬ k % 8=i % 8:=fun y=>by unfold blkZ at hb; omega
   rw [if_neg this,if_neg hk]
 ·rw [up_ne _ _ hb,if_neg (fun y=>hb (by rw [y]))]
def pc (Z:Nat→Txt) (R:List Int) (k:Nat):Txt:=if num Z R k=0 then zeros else Z (num Z R k)
def byteAt (Z:Nat→Txt) (R:List Int) (q:Nat):UInt8:=(pc Z R (q / 512)).getD (q % 512) 0
theorem pc_len {n k:Nat} {Z:Nat→Txt} {R:List Int} {T:TM} (a:Av n Z T) (w:Wf n Z R) (hk:k<nS):(pc Z R k).length=512:=by
 unfold pc
 split
 ·exact List.length_replicate
 ·rename_i h; exact a.len _ (w.rng k hk h).2.1
theorem blockM_ok {n k:Nat} {Z:Nat→Txt} {R:List Int} {T:TM} (a:Av n Z T) (w:Wf n Z R) (hk:k<16522):blockM T (geoN n) R k=(pc Z R k,0):=by
 unfold blockM pc
 rw [find_ok a w hk,if_neg (fun y=>y rfl)]
 by_cases h:num Z R k=0
 ·rw [if_pos (by show ((num Z R k:Nat):Int)=0; omega),if_pos h]
 ·rw [if_neg (by show ¬ ((num Z R k:Nat):Int)=0; omega),if_neg h]
  exact a.z _ (w.rng k (by unfold nS; omega) h).2.1
theorem readGo_ok {n off m:Nat} {Z:Nat→Txt} {R:List Int} {T:TM} (a:Av n Z T) (w:Wf n Z R) (ho:off+m≤8459264):∀ (k b:Nat) (s:Txt),m≤b+k→b≤m→s=(List.range b).map (fun i=>byteAt Z R (off+i))→readGo T (geoN n) R off m k b s=((List.range m).map (fun i=>byteAt Z R (off+i)),0)
 | 0,b,s,h1,h2,h3=>by
  have:b=m:=by omega
  subst this
  rw [h3]; rfl
 | k+1,b,s,h1,h2,h3=>by
  unfold readGo
  by_cases hb:m≤b
  ·have:b=m:=by omega
   subst this
   rw [if_pos hb,h3]
  ·have hk:(off+b) / 512<16522:=by omega
   rw [if_neg hb,blockM_ok a w hk,if_neg (fun y=>y rfl)]
   obtain ⟨n1,n2⟩:=nextA_gt (off:=off) (show b<m by omega)
   obtain ⟨t1,t2⟩:=toP_gt (off:=off) (show b<m by omega)
   refine readGo_ok a w ho k _ _ (by omega) n2 ?_
   have lp:=pc_len a w (k:=(off+b) / 512) (by unfold nS; omega)
   refine List.ext_getElem ?_ fun i i1 i2=>?_
   ·rw [List.length_append,h3,List.length_map,List.length_range,List.length_take,List.length_drop,lp,List.length_map,List.length_range]
    unfold nextA; omega
   ·rw [List.getElem_map,List.getElem_range]
    rw [List.length_map,List.length_range] at i2
    have ls:s.length=b:=by rw [h3,List.length_map,List.length_range]
    by_cases hi:i<b
    ·rw [List.getElem_append_left (by omega)]
     simp only [h3,List.getElem_map,List.getElem_range]
    ·rw [List.getElem_append_right (by omega),List.getElem_take,List.getElem_drop]
     unfold nextA at i2
     unfold byteAt
     have e1:(off+i) / 512=(off+b) / 512:=by omega
     have e2:(off+i) % 512=(off+b) % 512+(i - b):=by omega
     rw [e1,e2,List.getD_eq_getElem?_getD,List.getElem?_eq_getElem (by omega)]
     simp only [ls]; rfl
structure Gr (n:Nat) (Z:Nat→Txt) (R:List Int) (Z':Nat→Txt) (R':List Int) (ps:List Nat):Prop where
 w:Wf n Z' R'
 tg:Tight Z' R'
 keep:∀ s,s<nS→num Z R s≠0→num Z' R' s=num Z R s
 dom:∀ s,s<nS→(num Z' R' s≠0↔num Z R s≠0∨∃ k ∈ ps,s ∈ path k)
 new:∀ s,s<nS→num Z R s=0→num Z' R' s≠0→bit Z (num Z' R' s)=false
 bits:∀ j,j<n→(bit Z' j=true↔bit Z j=true∨∃ s,s<nS∧num Z R s=0∧num Z' R' s≠0∧num Z' R' s=j)
 head:∀ i,i<3→R'.getD i 0=R.getD i 0
 cont:∀ b,b<n→(geoN n).inodes≤b→(b<(geoN n).data∨bit Z b=true)→(∀ s,s<nS→num Z' R' s≠0→b≠num Z' R' s)→Z' b=Z b
 tot:frees n Z'+many Z' R'=frees n Z+many Z R
theorem Gr.refl {n:Nat} {Z:Nat→Txt} {R:List Int} (w:Wf n Z R) (tg:Tight Z R):Gr n Z R Z R [] :=
 ⟨w,tg,fun _ _ _=>rfl,fun s _=>⟨.inl,fun y=>y.elim id fun ⟨k,hk,_⟩=>by cases hk⟩,fun s _ h0 h1=>absurd h0 h1,fun j _=>⟨.inl,fun y=>y.elim id fun ⟨s,_,h0,h1,_⟩=>absurd h0 h1⟩,fun _ _=>rfl,fun _ _ _ _ _=>rfl,rfl⟩
theorem Added.keep {n k:Nat} {Z Z':Nat→Txt} {R R':List Int} (a:Added n Z R none (path k) Z' R') {s:Nat} (hs:s<nS) (h0:num Z R s≠0):num Z' R' s=num Z R s:=by
 by_cases h:s ∈ path k
 ·exact a.old s h h0
 ·exact a.off s hs h
theorem Gr.add {n k:Nat} {Z Z1 Z2:Nat→Txt} {R R1 R2:List Int} {ps:List Nat} (g:Gr n Z R Z1 R1 ps) (hk:k<16522) (a:Added n Z1 R1 none (path k) Z2 R2):Gr n Z R Z2 R2 (k::ps):=by
 have kp:=fun {s:Nat} (hs:s<nS) h0=>Added.keep a hs h0
 have z0:∀ s,s<nS→num Z1 R1 s=0→num Z R s=0:=fun s hs h=>Classical.byContradiction fun y=>by rw [g.keep s hs y] at h; exact y h
 have pn:=chain_nS (path_chain hk).1
 refine ⟨a.w,a.tight hk g.tg,fun s hs h0=>?_,fun s hs=>?_,fun s hs h0 h2=>?_,fun j hj=>?_,fun i hi=>(a.head i hi).trans (g.head i hi),fun b h1 h2 h3 h4=>?_,?_⟩
 ·have:=g.keep s hs h0
  rw [kp hs (by rw [this]; exact h0),this]
 ·have e:num Z2 R2 s≠0↔num Z1 R1 s≠0∨s ∈ path k:=by
   constructor
   ·intro h
    by_cases hp:s ∈ path k
    ·exact .inr hp
    ·rw [a.off s hs hp] at h; exact .inl h
   ·rintro (h|h)
    ·rw [kp hs h]; exact h
    ·exact a.got s h
  rw [e,g.dom s hs]
  constructor
  ·rintro ((h|⟨x,hx,h⟩)|h)
   ·exact .inl h
   ·exact .inr ⟨x,List.mem_cons_of_mem _ hx,h⟩
   ·exact .inr ⟨k,List.mem_cons_self ..,h⟩
  ·rintro (h|⟨x,hx,h⟩)
   ·exact .inl (.inl h)
   ·rcases List.mem_cons.mp hx with rfl|hx
    ·exact .inr h
    ·exact .inl (.inr ⟨x,hx,h⟩)
 ·by_cases h1:num Z1 R1 s=0
  ·have hp:s ∈ path k:=Classical.byContradiction fun y=>by rw [a.off s hs y] at h2; exact h2 h1
   have hb:=a.new s hp h1
   cases hz:bit Z (num Z2 R2 s) with
   | false=>rfl
   | true=>rw [(g.bits _ (a.w.rng s hs h2).2.1).mpr (.inl hz)] at hb; cases hb
  ·rw [kp hs h1]; exact g.new s hs h0 h1
 ·constructor
  ·intro h
   rcases a.ex j hj h with h|⟨s,hp,h1,h2⟩
   ·rcases (g.bits j hj).mp h with h|⟨s,hs,h0,h1,h2⟩
    ·exact .inl h
    ·exact .inr ⟨s,hs,h0,by rw [kp hs h1]; exact h1,by rw [kp hs h1]; exact h2⟩
   ·exact .inr ⟨s,pn s hp,z0 s (pn s hp) h1,a.got s hp,h2⟩
  ·rintro (h|⟨s,hs,h0,h1,h2⟩)
   ·exact a.bits j hj ((g.bits j hj).mpr (.inl h))
   ·rw [← h2]; exact (a.w.rng s hs h1).2.2
 ·rw [a.cont b h1 h2 (h3.imp id fun y=>(g.bits b h1).mpr (.inl y)) (fun q hq=>h4 q (pn q hq) (a.got q hq)) fun q e=>by cases e]
  exact g.cont b h1 h2 h3 fun s hs h=>by
   have:=kp hs h
   rw [← this]
   exact h4 s hs (by rw [this]; exact h)
 ·have h1:=a.many
  have h2:=a.frees
  have h3:=g.tot
  omega
theorem num_up {n k:Nat} {Z:Nat→Txt} {R:List Int} {bs:Txt} (w:Wf n Z R) (hk:k<16522) (_:num Z R k≠0):∀ s,s<nS→num (up Z (num Z R k) bs) R s=num Z R s :=
 num_congr (fun _ _ _=>rfl) fun q h1 h2 h3 p _=>by
  rw [up_ne _ _ fun e=>by have:=w.inj q k h2 (by unfold nS; omega) h3 e; omega]
theorem bit_data {n v j:Nat} {Z:Nat→Txt} {bs:Txt} (d:Dim n) (hv:(geoN n).data≤v) (hj:j<n):bit (up Z v bs) j=bit Z j:=by
 have:=d.map hj
 exact bit_up (by omega)
theorem Wf.up {n k:Nat} {Z:Nat→Txt} {R:List Int} {bs:Txt} (d:Dim n) (w:Wf n Z R) (hk:k<16522) (h0:num Z R k≠0):Wf n (up Z (num Z R k) bs) R:=by
 have N:=num_up (bs:=bs) w hk h0
 have r:=w.rng k (by unfold nS; omega) h0
 refine ⟨w.rl,w.rr,fun s hs h=>?_,fun s s' hs hs' h e=>?_⟩
 ·rw [N s hs] at h ⊢
  obtain ⟨a,b,c⟩:=w.rng s hs h
  exact ⟨a,b,by rw [bit_data d r.1 b]; exact c⟩
 ·rw [N s hs] at h e
  rw [N s' hs'] at e
  exact w.inj s s' hs hs' h e
theorem Gr.put {n k:Nat} {Z Z1:Nat→Txt} {R R1:List Int} {ps:List Nat} (d:Dim n) (g:Gr n Z R Z1 R1 ps) (hk:k<16522) (h0:num Z1 R1 k≠0) (bs:Txt):Gr n Z R (up Z1 (num Z1 R1 k) bs) R1 ps:=by
 have N:=num_up (bs:=bs) g.w hk h0
 have hkn:k<nS:=by unfold nS; omega
 have r:=g.w.rng k hkn h0
 have eb:∀ j,j<n→bit (up Z1 (num Z1 R1 k) bs) j=bit Z1 j:=fun j hj=>bit_data d r.1 hj
 refine ⟨Wf.up d g.w hk h0,fun q h1 h2 h=>?_,fun s hs h=>by rw [N s hs]; exact g.keep s hs h,fun s hs=>by rw [N s hs]; exact g.dom s hs,fun s hs h1 h2=>?_,fun j hj=>?_,g.head,fun b h1 h2 h3 h4=>?_,?_⟩
 ·rw [N q h2] at h
  obtain ⟨x,a,b,c⟩:=g.tg q h1 h2 h
  exact ⟨x,a,b,by rw [N x (by have:=(Bm.data_sub h1 h2 a b).2; unfold nS; omega)]; exact c⟩
 ·rw [N s hs] at h2 ⊢
  exact g.new s hs h1 h2
 ·rw [eb j hj,g.bits j hj]
  constructor
  ·rintro (h|⟨s,hs,a,b,c⟩)
   ·exact .inl h
   ·exact .inr ⟨s,hs,a,by rw [N s hs]; exact b,by rw [N s hs]; exact c⟩
  ·rintro (h|⟨s,hs,a,b,c⟩)
   ·exact .inl h
   ·rw [N s hs] at b c
    exact .inr ⟨s,hs,a,b,c⟩
 ·have hne:b≠num Z1 R1 k:=by have:=h4 k hkn (by rw [N k hkn]; exact h0); rw [N k hkn] at this; exact this
  rw [up_ne _ _ hne]
  exact g.cont b h1 h2 h3 fun s hs h=>by
   have:=h4 s hs (by rw [N s hs]; exact h)
   rw [N s hs] at this; exact this
 ·have e1:many (up Z1 (num Z1 R1 k) bs) R1=many Z1 R1:=by
   unfold many
   exact cnt_congr fun s hs=>by rw [N s hs]
  have e2:frees n (up Z1 (num Z1 R1 k) bs)=frees n Z1:=by
   unfold frees
   exact cnt_congr fun j hj=>by unfold isFree; rw [eb j hj]
  rw [e1,e2]; exact g.tot
theorem pc_add {n k:Nat} {Z Z':Nat→Txt} {R R':List Int} (w:Wf n Z R) (a:Added n Z R none (path k) Z' R') (hk:k<16522) {x:Nat} (hx:x<16522):pc Z' R' x=pc Z R x:=by
 have hxn:x<nS:=by unfold nS; omega
 have hkn:k<nS:=by unfold nS; omega
 by_cases hm:num Z R k=0
 ·unfold pc
  by_cases e:x=k
  ·subst e
   rw [if_neg (a.got x (path_self x)),if_pos hm]
   exact a.zero x (path_self x) hx hm
  ·have en:=a.data hx e
   rw [en]
   split
   ·rfl
   ·rename_i h
    have r:=w.rng x hxn h
    refine a.cont _ r.2.1 ?_ (.inr r.2.2) (fun q hq y=>?_) fun q y=>by cases y
    ·have:(geoN n).inodes≤(geoN n).data:=Nat.le_add_right _ _
     omega
    ·rw [← en] at y
     have hqn:=chain_nS (path_chain hk).1 q hq
     have:=a.w.inj x q hxn hqn (by rw [en]; exact h) y
     subst this
     exact e (path_data hq hx)
 ·obtain ⟨e1,e2⟩:=a.same (miss_zero hk hm)
  rw [e1,e2]
theorem pc_up {n k:Nat} {Z:Nat→Txt} {R:List Int} {bs:Txt} (w:Wf n Z R) (hk:k<16522) (h0:num Z R k≠0) {x:Nat} (hx:x<16522):pc (up Z (num Z R k) bs) R x=if x=k then bs else pc Z R x:=by
 have hxn:x<nS:=by unfold nS; omega
 have hkn:k<nS:=by unfold nS; omega
 have N:=num_up (bs:=bs) w hk h0
 unfold pc
 rw [N x hxn]
 by_cases e:x=k
 ·subst e
  rw [if_neg h0,if_pos rfl,up_at]
 ·rw [if_neg e]
  split
  ·rfl
  ·rename_i h
   rw [up_ne _ _ fun y=>e (w.inj x k hxn hkn h y)]
end Go.Proofs.YtcdpakjhjmchhaaGreatDoor.Fi
namespace Go.Proofs.YtcdpakjhjmchhaaGreatDoor.Fi
open Go Go.Proofs Wx Hp W Ad Tm Bt Spc Re Av
open Hd (ints)
open In (Glo ints_length ints_one mayR decA encR encR_length decOk getR_enc z15)
open Ino (getM putM Cok getM_length rblk rat)
open Bm (findM cutM addM allM num num4 nS Wf Tight path Added Cutd find_ok add_ok cut_ok num_congr path_self path_chain chain_nS path_data miss_zero frees_many many miss par walkA_ok)
theorem add_ext {n k:Nat} {Z:Nat→Txt} {R:List Int} {T T0:TM} (d:Dim n) (a:Av n Z T) (w:Wf n Z R) (hk:k<16522) (e0:Ext T0 T):Ext T0 (addM T (geoN n) R k).1:=by
 obtain ⟨c,e⟩:=path_chain hk
 unfold addM
 rw [if_neg (by omega),Int.toNat_natCast,← e]
 have x0:=(walkA_ok d (path k) none Z T T R a w c (fun q y=>by cases y) (Ext.refl T)).2
 have x1:=(walkA_ok d (path k) none Z T T0 R a w c (fun q y=>by cases y) e0).2
 have ea:Bm.at_ Z R none=0:=rfl
 rw [ea] at x0 x1
 split
 ·show Ext T0 (TM.back _ _).1
  rw [x0.back a.live]; exact e0
 ·exact x1
structure Ws (n:Nat) (T0:TM) (Z:Nat→Txt) (R:List Int) (off:Nat) (s:Txt) (a:Nat) (T1:TM) (Z1:Nat→Txt) (R1:List Int) (ps:List Nat):Prop where
 av:Av n Z1 T1
 gr:Gr n Z R Z1 R1 ps
 ext:Ext T0 T1
 byt:∀ q,q<8459264→byteAt Z1 R1 q=if off≤q∧q<off+a then s.getD (q - off) 0 else byteAt Z R q
 kin:∀ x ∈ ks T1,x ∈ ks T0∨x<(geoN n).inodes∨∃ q,q<nS∧(∃ k ∈ ps,q ∈ path k)∧x=((num Z1 R1 q:Nat):Int)
 idx:∀ k,k ∈ ps↔∃ b,b<a∧k=(off+b) / 512
theorem Ws.zero {n off:Nat} {T:TM} {Z:Nat→Txt} {R:List Int} {s:Txt} (a:Av n Z T) (w:Wf n Z R) (tg:Tight Z R):Ws n T Z R off s 0 T Z R [] :=
 ⟨a,Gr.refl w tg,Ext.refl T,fun q _=>by rw [if_neg (by omega)],fun x hx => .inl hx,fun k=>⟨fun h=>(by cases h),fun ⟨b,h,_⟩=>absurd h (Nat.not_lt_zero _)⟩⟩
inductive Wo (n:Nat) (T0:TM) (Z:Nat→Txt) (R:List Int) (off:Nat) (s:Txt) (res:(TM×List Int)×Int):Prop where
 | ok (Z2:Nat→Txt) (ps:List Nat):res.2=0→Ws n T0 Z R off s s.length res.1.1 Z2 res.1.2 ps→Wo n T0 Z R off s res
 | full (T1:TM) (Z1:Nat→Txt) (R1:List Int) (ps:List Nat) (a:Nat):res.2=60→Ext T0 res.1.1→a<s.length→Ws n T0 Z R off s a T1 Z1 R1 ps→87≤(ks T1).length→Wo n T0 Z R off s res
 | none_ (T1:TM) (Z1:Nat→Txt) (R1:List Int) (ps:List Nat) (a:Nat):res.2=90→Ext T0 res.1.1→a<s.length→Ws n T0 Z R off s a T1 Z1 R1 ps→frees n Z1<miss Z1 R1 (path ((off+a) / 512))→Wo n T0 Z R off s res
theorem writeGo_ok {n off:Nat} {T0:TM} {Z:Nat→Txt} {R:List Int} {s:Txt} (d:Dim n) (ho:off+s.length≤8459264):∀ (k a:Nat) (T1:TM) (Z1:Nat→Txt) (R1:List Int) (ps:List Nat),s.length≤a+k→a≤s.length→Ws n T0 Z R off s a T1 Z1 R1 ps →
  Wo n T0 Z R off s (writeGo (geoN n) off s k a T1 R1)
 | 0,a,T1,Z1,R1,ps,h1,h2,W=>by
  have:a=s.length:=by omega
  subst this
  exact .ok Z1 ps rfl W
 | k+1,a,T1,Z1,R1,ps,h1,h2,W=>by
  by_cases hb:s.length≤a
  ·have:a=s.length:=by omega
   subst this
   rw [writeGo_end hb]
   exact .ok Z1 ps rfl W
  have ha:a<s.length:=by omega
  have hk:(off+a) / 512<16522:=by omega
  have hkn:(off+a) / 512<nS:=by unfold nS; omega
  have x2:=add_ext d W.av W.gr.w hk W.ext
  obtain ⟨n1,n2⟩:=nextA_gt (off:=off) ha
  obtain ⟨t1,t2⟩:=toP_gt (off:=off) ha
  rcases add_ok d W.av W.gr.w hk with ⟨e,hf⟩|⟨e,hf⟩|⟨T2,R2,Z2,e,av2,ad,nf,kk,km,kn⟩
  ·rw [e] at x2
   rw [writeGo_add ha e,if_pos (by decide)]
   exact .full T1 Z1 R1 ps a rfl x2 ha W (by omega)
  ·rw [e] at x2
   rw [writeGo_add ha e,if_pos (by decide)]
   exact .none_ T1 Z1 R1 ps a rfl x2 ha W hf
  ·rw [e] at x2
   have x2:Ext T0 T2:=x2
   have g2:=W.gr.add hk ad
   have h0:num Z2 R2 ((off+a) / 512)≠0:=ad.got _ (path_self _)
   have r2:=ad.w.rng _ hkn h0
   have hd:=d.data
   have er:=av2.z _ r2.2.1
   have lz:=av2.len _ r2.2.1
   have e2:pc Z2 R2 ((off+a) / 512)=Z2 (num Z2 R2 ((off+a) / 512)):=by unfold pc; rw [if_neg h0]
   rw [writeGo_add ha e,if_neg (fun y=>y rfl),er,if_neg (fun y=>y rfl)]
   have lnew:((s.drop a).take (toP off s.length a - (off+a) % 512)).length=toP off s.length a - (off+a) % 512:=by
    rw [List.length_take,List.length_drop]; unfold toP; omega
   have lp:(putU (Z2 (num Z2 R2 ((off+a) / 512))) ((off+a) % 512) ((s.drop a).take (toP off s.length a - (off+a) % 512))).length=512:=by
    rw [putU_length (by rw [lnew,lz]; omega),lz]
   have h98:98≤num Z2 R2 ((off+a) / 512):=by omega
   rcases av2.write_full h98 r2.2.1 lp with hw|⟨hw,h96,hni⟩
   ·have av3:=av2.write h98 r2.2.1 lp hw
    have x3:=x2.write ((num Z2 R2 ((off+a) / 512):Nat):Int) (putU (Z2 (num Z2 R2 ((off+a) / 512))) ((off+a) % 512) ((s.drop a).take (toP off s.length a - (off+a) % 512)))
    have kw:=write_keys hw
    rw [if_neg (fun y=>y hw)]
    refine writeGo_ok d ho k _ _ _ _ ((off+a) / 512::ps) (by omega) n2 ⟨av3,g2.put d hk h0 _,x3,fun q hq=>?_,fun x hx=>?_,fun j=>?_⟩
    ·have hx:q / 512<16522:=by omega
     have lZ:=pc_len W.av W.gr.w (k:=(off+a) / 512) hkn
     have ep:pc Z2 R2 ((off+a) / 512)=pc Z1 R1 ((off+a) / 512):=pc_add W.gr.w ad hk hk
     unfold byteAt
     rw [pc_up ad.w hk h0 hx]
     have ob:=W.byt q hq
     unfold byteAt at ob
     by_cases hq2:q / 512=(off+a) / 512
     ·rw [if_pos hq2,← e2,ep]
      rw [hq2] at ob
      have lo:((pc Z1 R1 ((off+a) / 512)).take ((off+a) % 512)).length=(off+a) % 512:=by rw [List.length_take]; omega
      unfold putU
      rw [lnew,List.getD_eq_getElem?_getD,List.append_assoc]
      unfold nextA
      by_cases c1:q % 512<(off+a) % 512
      ·rw [List.getElem?_append_left (by omega),List.getElem?_take_of_lt c1,← List.getD_eq_getElem?_getD,ob]
       by_cases c2:off≤q∧q<off+a
       ·rw [if_pos c2,if_pos (by omega)]
       ·rw [if_neg c2,if_neg (by omega)]
        rw [hq2]
      ·rw [List.getElem?_append_right (by omega),lo]
       by_cases c2:q % 512<toP off s.length a
       ·rw [List.getElem?_append_left (by omega),List.getElem?_take_of_lt (by omega),List.getElem?_drop,← List.getD_eq_getElem?_getD,if_pos (by omega)]
        congr 1; omega
       ·rw [List.getElem?_append_right (by omega),lnew,List.getElem?_drop,show (off+a) % 512+(toP off s.length a - (off+a) % 512)+(q % 512 - (off+a) % 512 - (toP off s.length a - (off+a) % 512))=q % 512 by omega,← List.getD_eq_getElem?_getD,ob,if_neg (by omega),if_neg (by omega)]
        rw [hq2]
     ·rw [if_neg hq2,pc_add W.gr.w ad hk hx,ob]
      have hr:∀ m,q<off+m→a≤m→m≤nextA off s.length a→off≤q→q<off+a:=fun m c1 c2 c3 c4=>by
       unfold nextA at c3
       unfold toP at c3
       omega
      by_cases c1:off≤q∧q<off+a
      ·rw [if_pos c1,if_pos (by omega)]
      ·rw [if_neg c1,if_neg (fun y=>c1 ⟨y.1,hr _ y.2 (by omega) (Nat.le_refl _) y.1⟩)]
    ·have N:=num_up (bs:=putU (Z2 (num Z2 R2 ((off+a) / 512))) ((off+a) % 512) ((s.drop a).take (toP off s.length a - (off+a) % 512))) ad.w hk h0
     have own:∀ q,q<nS→(∃ k ∈ (off+a) / 512::ps,q ∈ path k)→x=((num Z2 R2 q:Nat):Int)→∃ q,q<nS∧(∃ k ∈ (off+a) / 512::ps,q ∈ path k)∧x=((num (up Z2 (num Z2 R2 ((off+a) / 512)) (putU (Z2 (num Z2 R2 ((off+a) / 512))) ((off+a) % 512) ((s.drop a).take (toP off s.length a - (off+a) % 512)))) R2 q:Nat):Int):=fun q hq hp ex=>⟨q,hq,hp,by rw [N q hq]; exact ex⟩
     rcases (kw x).mp hx with hx|hx
     ·rcases kk x hx with h|h|⟨q,hq,ex⟩
      ·rcases W.kin x h with h|h|⟨q,hq,⟨k',hk',hp⟩,ex⟩
       ·exact .inl h
       ·exact .inr (.inl h)
       ·have hz:num Z1 R1 q≠0:=(W.gr.dom q hq).mpr (.inr ⟨k',hk',hp⟩)
        exact .inr (.inr (own q hq ⟨k',List.mem_cons_of_mem _ hk',hp⟩ (by rw [Added.keep ad hq hz]; exact ex)))
      ·exact .inr (.inl h)
      ·exact .inr (.inr (own q (chain_nS (path_chain hk).1 q hq) ⟨_,List.mem_cons_self ..,hq⟩ ex))
     ·exact .inr (.inr (own _ hkn ⟨_,List.mem_cons_self ..,path_self _⟩ hx))
    ·rw [List.mem_cons,W.idx j]
     constructor
     ·rintro (rfl|⟨b,hb,rfl⟩)
      ·exact ⟨a,n1,rfl⟩
      ·exact ⟨b,by omega,rfl⟩
     ·rintro ⟨b,hb,rfl⟩
      rcases Nat.lt_or_ge b a with c|c
      ·exact .inr ⟨b,c,rfl⟩
      ·left
       unfold nextA at hb
       unfold toP at hb
       omega
   ·rw [if_pos (by rw [hw]; show (60:Int)≠0; decide)]
    refine .full T1 Z1 R1 ps a (by rw [hw]) (by rw [hw]; exact x2) ha W ?_
    by_cases hm:num Z1 R1 ((off+a) / 512)=0
    ·exact absurd (kn _ (path_self _) hm) hni
    ·rw [nf (miss_zero hk hm)] at h96; omega
end Go.Proofs.YtcdpakjhjmchhaaGreatDoor.Fi
namespace Go.Proofs.YtcdpakjhjmchhaaGreatDoor.Fi
open Go Go.Proofs Wx Hp W Ad Tm Bt Spc Re Av
open Hd (ints)
open In (Glo ints_length ints_one mayR decA encR encR_length decOk getR_enc z15 wordOk kindOk)
open Ino (getM putM Cok getM_length rblk rat)
open Bm (findM cutM addM allM num num4 nS Wf Tight path Added Cutd find_ok add_ok cut_ok num_congr path_self path_chain chain_nS path_data miss_zero frees_many many miss par walkA_ok root)
theorem root_size {R:List Int} {v:Int} (s:Nat):root (R.set 2 v) s=root R s:=by
 have e:∀ i,3≤i→(R.set 2 v).getD i 0=R.getD i 0:=fun i hi=>by
  rw [List.getD_eq_getElem?_getD,List.getD_eq_getElem?_getD,List.getElem?_set_ne (by omega)]
 unfold root
 rw [e (3+s) (by omega),e 13 (by omega),e 14 (by omega)]
theorem num_size {Z:Nat→Txt} {R:List Int} {v:Int}:∀ s,s<nS→num Z (R.set 2 v) s=num Z R s:=num_congr (fun s _ _=>root_size s) fun _ _ _ _ _ _=>rfl
theorem pc_size {Z:Nat→Txt} {R:List Int} {v:Int} {k:Nat} (hk:k<16522):pc Z (R.set 2 v) k=pc Z R k:=by
 unfold pc; rw [num_size k (by unfold nS; omega)]
theorem Wf.alike {n:Nat} {Z Z':Nat→Txt} {R R':List Int} (w:Wf n Z R) (hl:R'.length=15) (hr:∀ i,3≤i→i<15→0≤R'.getD i 0) (N:∀ s,s<nS→num Z' R' s=num Z R s) (hb:∀ j,j<n→bit Z j=true→bit Z' j=true):Wf n Z' R':=by
 refine ⟨hl,hr,fun s hs h=>?_,fun s s' hs hs' h e=>?_⟩
 ·rw [N s hs] at h ⊢
  obtain ⟨a,b,c⟩:=w.rng s hs h
  exact ⟨a,b,hb _ b c⟩
 ·rw [N s hs] at h e
  rw [N s' hs'] at e
  exact w.inj s s' hs hs' h e
theorem tight_alike {Z Z':Nat→Txt} {R R':List Int} (tg:Tight Z R) (N:∀ s,s<nS→num Z' R' s=num Z R s):Tight Z' R':=fun q h1 h2 h=>by
 rw [N q h2] at h
 obtain ⟨x,a,b,c⟩:=tg q h1 h2 h
 exact ⟨x,a,b,by rw [N x (by have:=(Bm.data_sub h1 h2 a b).2; unfold nS; omega)]; exact c⟩
theorem many_alike {Z Z':Nat→Txt} {R R':List Int} (N:∀ s,s<nS→num Z' R' s=num Z R s):many Z' R'=many Z R:=by
 unfold many
 exact cnt_congr fun s hs=>by rw [N s hs]
theorem frees_alike {n:Nat} {Z Z':Nat→Txt} (hb:∀ j,j<n→bit Z' j=bit Z j):frees n Z'=frees n Z:=by
 unfold frees
 exact cnt_congr fun j hj=>by unfold isFree; rw [hb j hj]
theorem num_low {n b:Nat} {Z:Nat→Txt} {R:List Int} {bs:Txt} (w:Wf n Z R) (hb:b<(geoN n).data):∀ s,s<nS→num (up Z b bs) R s=num Z R s :=
 num_congr (fun _ _ _=>rfl) fun q h1 h2 h3 p _=>by
  have:=(w.rng q h2 h3).1
  rw [up_ne _ _ (by omega)]
theorem bit_low {n b:Nat} {Z:Nat→Txt} {bs:Txt} (d:Dim n) (hb:(geoN n).inodes≤b) {j:Nat} (hj:j<n):bit (up Z b bs) j=bit Z j:=by
 have:=d.map hj
 exact bit_up (by omega)
theorem pc_low {n b k:Nat} {Z:Nat→Txt} {R:List Int} {bs:Txt} (w:Wf n Z R) (hb:b<(geoN n).data) (hk:k<16522):pc (up Z b bs) R k=pc Z R k:=by
 have hkn:k<nS:=by unfold nS; omega
 unfold pc
 rw [num_low w hb k hkn]
 split
 ·rfl
 ·rename_i h
  have:=(w.rng k hkn h).1
  rw [up_ne _ _ (by omega)]
theorem Gr.other {n:Nat} {Z Z1:Nat→Txt} {R R1 S:List Int} {ps:List Nat} (g:Gr n Z R Z1 R1 ps) (w:Wf n Z S) (dis:∀ s s',s<nS→s'<nS→num Z R s≠0→num Z R s≠num Z S s') :
  (∀ s,s<nS→num Z S s≠0→Z1 (num Z S s)=Z (num Z S s))∧(∀ s s',s<nS→s'<nS→num Z1 R1 s≠0→num Z1 R1 s≠num Z S s'):=by
 have D:∀ s s',s<nS→s'<nS→num Z1 R1 s≠0→num Z1 R1 s≠num Z S s':=fun s s' hs hs' h e=>by
  by_cases h0:num Z R s=0
  ·have hb:=g.new s hs h0 h
   rw [e] at hb h
   rw [(w.rng s' hs' h).2.2] at hb; cases hb
  ·have:=g.keep s hs h0
   rw [this] at e
   exact dis s s' hs hs' h0 e
 refine ⟨fun s hs h=>?_,D⟩
 have r:=w.rng s hs h
 have:(geoN n).inodes≤(geoN n).data:=Nat.le_add_right _ _
 exact g.cont _ r.2.1 (by omega) (.inr r.2.2) fun s' hs' h' e=>D s' s hs' hs h' e.symm
theorem num_same {Z Z1:Nat→Txt} {S:List Int} (h:∀ s,s<nS→num Z S s≠0→Z1 (num Z S s)=Z (num Z S s)):∀ s,s<nS→num Z1 S s=num Z S s :=
 num_congr (fun _ _ _=>rfl) fun q _ h2 h3 p _=>by rw [h q h2 h3]
theorem pc_same {Z Z1:Nat→Txt} {S:List Int} (h:∀ s,s<nS→num Z S s≠0→Z1 (num Z S s)=Z (num Z S s)) {k:Nat} (hk:k<16522):pc Z1 S k=pc Z S k:=by
 have hkn:k<nS:=by unfold nS; omega
 unfold pc
 rw [num_same h k hkn]
 split
 ·rfl
 ·rename_i h0; exact h k hkn h0
theorem mayR_file {n:Nat} {Z:Nat→Txt} {R:List Int} (d:Dim n) (w:Wf n Z R) (h0:R.getD 0 0=1) (h1:0≤R.getD 1 0∧R.getD 1 0≤1000) (h2:0≤R.getD 2 0∧R.getD 2 0≤8459264):mayR R=true:=by
 have hn:=d.hi
 unfold mayR
 rw [Bool.and_eq_true]
 constructor
 ·rw [List.all_eq_true]
  intro v hv
  obtain ⟨i,hi,e⟩:=List.mem_iff_getElem.mp hv
  rw [List.length_drop,w.rl] at hi
  rw [List.getElem_drop] at e
  have eg:R.getD (3+i) 0=v:=by rw [List.getD_eq_getElem?_getD,List.getElem?_eq_getElem (by rw [w.rl]; omega)]; exact e
  have lo:=w.rr (3+i) (by omega) (by omega)
  have hi2:v≤n:=by
   obtain ⟨a1,a2,a3⟩:=Bm.roots_num w
   have bd:∀ s,s<nS→((num Z R s:Nat):Int)≤n:=fun s hs=>by
    by_cases h:num Z R s=0
    ·omega
    ·have:=(w.rng s hs h).2.1; omega
   rw [← eg]
   rcases Nat.lt_or_ge i 10 with h|h
   ·rw [a1 i h]; exact bd i (by unfold nS; omega)
   ·rcases Nat.lt_or_ge i 11 with h'|h'
    ·rw [show 3+i=13 by omega,a2]; exact bd _ (by decide)
    ·rw [show 3+i=14 by omega,a3]; exact bd _ (by decide)
  unfold wordOk
  rw [Bool.and_eq_true,decide_eq_true_eq,decide_eq_true_eq]
  omega
 ·rw [In.kindOk,h0,if_neg (by decide),if_pos rfl,Bool.and_eq_true,Bool.and_eq_true,Bool.and_eq_true,decide_eq_true_eq,decide_eq_true_eq,decide_eq_true_eq,decide_eq_true_eq]
  exact ⟨h1,h2⟩
end Go.Proofs.YtcdpakjhjmchhaaGreatDoor.Fi
namespace Go.Proofs.YtcdpakjhjmchhaaGreatDoor.Fi
open Go Go.Proofs Wx Hp W Ad Tm Bt Spc Re Av
open Hd (ints)
open In (Glo ints_length ints_one mayR decA encR encR_length decOk getR_enc z15 wordOk kindOk)
open Ino (getM putM Cok getM_length rblk rat)
open Bm (findM cutM addM allM num num4 nS Wf Tight path Added Cutd find_ok add_ok cut_ok num_congr path_self path_chain chain_nS path_data miss_zero frees_many many miss par walkA_ok root write_un addM_un)
def FileR (R:List Int):Prop:=R.getD 0 0=1∧(0≤R.getD 1 0∧R.getD 1 0≤1000)∧0≤R.getD 2 0∧R.getD 2 0≤8459264
structure Fs (n:Nat) (Z:Nat→Txt) (T:TM) (i:Nat) (R:List Int) (j:Nat) (S:List Int):Prop where
 av:Av n Z T
 w:Wf n Z R
 w':Wf n Z S
 tg:Tight Z R
 tg':Tight Z S
 dis:∀ s s',s<nS→s'<nS→num Z R s≠0→num Z R s≠num Z S s'
 gi:recZ n Z i=(R,0)
 gj:recZ n Z j=(S,0)
 fi:FileR R
 fj:FileR S
 ri:1≤i∧i<(geoN n).count
 rj:1≤j∧j<(geoN n).count
 ij:i≠j
 tot:frees n Z+many Z R+many Z S+(geoN n).data=n
theorem Fs.sym {n i j:Nat} {Z:Nat→Txt} {T:TM} {R S:List Int} (f:Fs n Z T i R j S):Fs n Z T j S i R :=
 ⟨f.av,f.w',f.w,f.tg',f.tg,fun s s' hs hs' h e=>f.dis s' s hs' hs (by rw [← e]; exact h) e.symm,f.gj,f.gi,f.fj,f.fi,f.rj,f.ri,fun e=>f.ij e.symm,by have:=f.tot; omega⟩
theorem Fs.get {n i j:Nat} {Z:Nat→Txt} {T:TM} {R S:List Int} (f:Fs n Z T i R j S) (d:Dim n):getF T (geoN n) i=(R,0):=by
 unfold getF
 rw [getM_at f.av d f.ri.1 f.ri.2,f.gi,if_neg (fun y=>by have:=y.2; rw [f.fi.1] at this; cases this)]
theorem writeGo_un {g:G} {off:Nat} {s:Txt}:∀ (k a:Nat) (T:TM) (R:List Int),(writeGo g off s k a T R).1.1.undo.length≤T.undo.length+10*k
 | 0,_,_,_=>Nat.le_refl _
 | k+1,a,T,R=>by
  by_cases ha:a<s.length
  ·obtain ⟨T2,R2,v,e,ea⟩:∃ T2 R2 v e,addM T g R ((off+a) / 512:Nat)=(T2,R2,v,e):=⟨_,_,_,_,rfl⟩
   have u1:=addM_un (T:=T) (g:=g) (R:=R) (k:=((off+a) / 512:Nat))
   rw [ea] at u1
   have u1:T2.undo.length≤T.undo.length+9:=u1
   rw [writeGo_add ha ea]
   have u2:=write_un T2 v (putU (T2.read v).1 ((off+a) % 512) ((s.drop a).take (toP off s.length a - (off+a) % 512)))
   split
   ·show T2.undo.length≤_; omega
   ·split
    ·show T2.undo.length≤_; omega
    ·split
     ·show (T2.write v _).1.undo.length≤_; omega
     ·have:=writeGo_un (g:=g) (off:=off) (s:=s) k (nextA off s.length a) (T2.write v (putU (T2.read v).1 ((off+a) % 512) ((s.drop a).take (toP off s.length a - (off+a) % 512)))).1 R2
      omega
  ·rw [writeGo_end (by omega)]; exact Nat.le_add_right _ _
structure Wrote (n:Nat) (Z:Nat→Txt) (T:TM) (i:Nat) (R:List Int) (j:Nat) (S:List Int) (off:Nat) (s:Txt) (Z':Nat→Txt) (T':TM) (R':List Int):Prop where
 fs:Fs n Z' T' i R' j S
 size:R'.getD 2 0=max (R.getD 2 0) ((off+s.length:Nat):Int)
 byt:∀ q,q<8459264→byteAt Z' R' q=if off≤q∧q<off+s.length then s.getD (q - off) 0 else byteAt Z R q
 dom:∀ x,x<nS→(num Z' R' x≠0↔num Z R x≠0∨∃ b,b<s.length∧x ∈ path ((off+b) / 512))
 keep:∀ x,x<nS→num Z R x≠0→num Z' R' x=num Z R x
 oth:∀ x,x<nS→num Z' S x=num Z S x
 opc:∀ k,k<16522→pc Z' S k=pc Z S k
 kin:∀ x ∈ ks T',x ∈ ks T∨x<(geoN n).inodes∨x=((blkZ n i:Nat):Int)∨∃ q,q<nS∧(∃ b,b<s.length∧q ∈ path ((off+b) / 512))∧x=((num Z' R' q:Nat):Int)
 ext:Ext T T'
 un:T'.undo.length≤T.undo.length+10*s.length+1
theorem writeF_ok {n i j off:Nat} {Z:Nat→Txt} {T:TM} {R S:List Int} {s:Txt} (d:Dim n) (f:Fs n Z T i R j S) (ho:off+s.length≤8459264) (hs:s≠[]) :
  (∃ Z' T' R',writeF T (geoN n) i off s=(T',0)∧Wrote n Z T i R j S off s Z' T' R') ∨
  (writeF T (geoN n) i off s=(T,60)∧∃ T1 Z1 R1 ps a,a≤s.length∧Ws n T Z R off s a T1 Z1 R1 ps∧87≤(ks T1).length) ∨
  (writeF T (geoN n) i off s=(T,90)∧∃ T1 Z1 R1 ps a,a<s.length∧Ws n T Z R off s a T1 Z1 R1 ps∧frees n Z1<miss Z1 R1 (path ((off+a) / 512))):=by
 have hm:T.mark.1=(T.undo.length:Int):=by unfold TM.mark; rw [f.av.live]; rfl
 have e0:writeF T (geoN n) i off s=undoM T (bodyW T (geoN n) i R off s):=by
  unfold writeF
  rw [if_neg (by omega),f.get d,if_neg (fun y=>y rfl),if_neg (by omega),if_neg hs,Int.toNat_natCast]
 rw [e0]
 have un:∀ T' e,e≠0→bodyW T (geoN n) i R off s=(T',e)→Ext T T'→undoM T (bodyW T (geoN n) i R off s)=(T,e):=fun T' e he hb x=>by
  rw [hb]
  unfold undoM
  rw [if_pos he,hm,x.back f.av.live]
 have hd:=d.data
 have hin:(geoN n).inodes≤(geoN n).data:=Nat.le_add_right _ _
 rcases writeGo_ok d ho s.length 0 T Z R [] (by omega) (Nat.zero_le _) (Ws.zero f.av f.w f.tg) with ⟨Z2,ps,e,W⟩|⟨T1,Z1,R1,ps,a,e,x,ha,W,hk⟩|⟨T1,Z1,R1,ps,a,e,x,ha,W,hk⟩
 ·generalize hres:writeGo (geoN n) off s s.length 0 T R=res at e W
  obtain ⟨⟨T2,R2⟩,er⟩:=res
  have e:er=0:=e
  subst e
  have W:Ws n T Z R off s s.length T2 Z2 R2 ps:=W
  have h0:=W.gr.head 0 (by decide)
  have h1:=W.gr.head 1 (by decide)
  have h2:=W.gr.head 2 (by decide)
  obtain ⟨q0,q1,q2,q3⟩:=f.fi
  have rb:=blkZ_rng d f.ri.2
  have eB:bodyW T (geoN n) i R off s=putM T2 (geoN n) i (R2.set 2 (max (R2.getD 2 0) ((off+s.length:Nat):Int))):=by
   unfold bodyW; rw [hres]; exact if_neg (fun y=>y rfl)
  have l2:R2.length=15:=W.gr.w.rl
  have g2:(R2.set 2 (max (R2.getD 2 0) ((off+s.length:Nat):Int))).getD 2 0=max (R2.getD 2 0) ((off+s.length:Nat):Int):=by
   rw [List.getD_eq_getElem?_getD,List.getElem?_set_self (by omega)]; rfl
  have gn:∀ x,x≠2→(R2.set 2 (max (R2.getD 2 0) ((off+s.length:Nat):Int))).getD x 0=R2.getD x 0:=fun x hx=>by
   rw [List.getD_eq_getElem?_getD,List.getElem?_set_ne (by omega),← List.getD_eq_getElem?_getD]
  generalize hR3:R2.set 2 (max (R2.getD 2 0) ((off+s.length:Nat):Int))=R3 at eB g2 gn
  have N3:∀ Zx x,x<nS→num Zx R3 x=num Zx R2 x:=fun Zx x hx=>by rw [← hR3]; exact num_size x hx
  have l3:R3.length=15:=by rw [← hR3,List.length_set,l2]
  have w3:Wf n Z2 R3:=Wf.alike W.gr.w l3 (fun x hx _=>by rw [gn x (by omega)]; exact W.gr.w.rr x hx (by omega)) (N3 Z2) fun _ _ h=>h
  have fR3:FileR R3:=⟨by rw [gn 0 (by decide),h0,q0],by rw [gn 1 (by decide),h1]; exact q1,by rw [g2]; omega,by rw [g2]; omega⟩
  have m3:mayR R3=true:=mayR_file d w3 fR3.1 fR3.2.1 fR3.2.2
  obtain ⟨oz,od⟩:=W.gr.other f.w' f.dis
  have ep:=putM_at W.av d f.ri.1 f.ri.2 m3
  have lz:=W.av.len _ rb.2.2.1
  have lp:(putU (Z2 (blkZ n i)) (64*(i % 8)) (encR R3)).length=512:=by rw [putU_length (by rw [encR_length l3]; omega),lz]
  rcases W.av.write_full rb.2.2.2 rb.2.2.1 lp with hw|⟨hw,h96,hni⟩
  ·left
   have av3:=W.av.write rb.2.2.2 rb.2.2.1 lp hw
   have kw:=write_keys hw
   have bl:∀ x,x<n→bit (up Z2 (blkZ n i) (putU (Z2 (blkZ n i)) (64*(i % 8)) (encR R3))) x=bit Z2 x:=fun x hx=>bit_low d rb.1 hx
   have NR:∀ x,x<nS→num (up Z2 (blkZ n i) (putU (Z2 (blkZ n i)) (64*(i % 8)) (encR R3))) R3 x=num Z2 R2 x:=fun x hx=>(num_low w3 rb.2.1 x hx).trans (N3 Z2 x hx)
   have wS2:Wf n Z2 S:=Wf.alike f.w' f.w'.rl f.w'.rr (num_same oz) fun x hx h=>(W.gr.bits x hx).mpr (.inl h)
   have NS:∀ x,x<nS→num (up Z2 (blkZ n i) (putU (Z2 (blkZ n i)) (64*(i % 8)) (encR R3))) S x=num Z S x:=fun x hx=>(num_low wS2 rb.2.1 x hx).trans (num_same oz x hx)
   have rec2:∀ k,1≤k→k<(geoN n).count→recZ n Z2 k=recZ n Z k:=fun k k1 k2=>by
    have r:=blkZ_rng d k2
    unfold recZ
    rw [W.gr.cont _ r.2.2.1 r.1 (.inl r.2.1) fun x hx h e=>by have:=(W.gr.w.rng x hx h).1; omega]
   have rp:=fun k=>recZ_put (n:=n) (i:=i) (k:=k) (Z:=Z2) l3 m3 lz
   have tot:=W.gr.tot
   have ft:=f.tot
   refine ⟨_,_,R3,?_,⟨⟨av3,Wf.alike w3 l3 w3.rr (fun x hx=>num_low w3 rb.2.1 x hx) (fun x hx h=>by rw [bl x hx]; exact h),Wf.alike wS2 wS2.rl wS2.rr (fun x hx=>num_low wS2 rb.2.1 x hx) (fun x hx h=>by rw [bl x hx]; exact h),
    tight_alike W.gr.tg NR,tight_alike f.tg' NS,fun x x' hx hx' h=>?_,?_,?_,fR3,f.fj,f.ri,f.rj,f.ij,?_⟩,?_,fun q hq=>?_,fun x hx=>?_,fun x hx h=>?_,NS,fun k hk=>?_,fun x hx=>?_,W.ext.write _ _,?_⟩⟩
   ·rw [eB,ep]
    unfold undoM
    rw [hw,if_neg (fun y=>y rfl)]
    exact Prod.ext rfl hw
   ·rw [NR x hx] at h ⊢
    rw [NS x' hx']
    exact od x x' hx hx' h
   ·rw [rp i,if_pos rfl]
   ·rw [rp j,if_neg (fun e=>f.ij e.symm),rec2 j f.rj.1 f.rj.2]; exact f.gj
   ·rw [frees_alike bl,many_alike NR,many_alike NS]; omega
   ·rw [g2,h2]
   ·have hk:q / 512<16522:=by omega
    rw [← W.byt q hq]
    unfold byteAt
    rw [pc_low w3 rb.2.1 hk]
    rw [← hR3,pc_size hk]
   ·rw [NR x hx,W.gr.dom x hx]
    constructor
    ·rintro (h|⟨k,hk,h⟩)
     ·exact .inl h
     ·obtain ⟨b,hb,rfl⟩:=(W.idx k).mp hk
      exact .inr ⟨b,hb,h⟩
    ·rintro (h|⟨b,hb,h⟩)
     ·exact .inl h
     ·exact .inr ⟨_,(W.idx _).mpr ⟨b,hb,rfl⟩,h⟩
   ·rw [NR x hx]; exact W.gr.keep x hx h
   ·rw [pc_low wS2 rb.2.1 hk]; exact pc_same oz hk
   ·rcases (kw x).mp hx with h|h
    ·rcases W.kin x h with h|h|⟨q,hq,⟨k,hk,hp⟩,ex⟩
     ·exact .inl h
     ·exact .inr (.inl h)
     ·obtain ⟨b,hb,rfl⟩:=(W.idx k).mp hk
      exact .inr (.inr (.inr ⟨q,hq,⟨b,hb,hp⟩,by rw [NR q hq]; exact ex⟩))
    ·exact .inr (.inr (.inl h))
   ·have u1:=writeGo_un (g:=geoN n) (off:=off) (s:=s) s.length 0 T R
    rw [hres] at u1
    have u1:T2.undo.length≤T.undo.length+10*s.length:=u1
    have u2:=write_un T2 ((blkZ n i:Nat):Int) (putU (Z2 (blkZ n i)) (64*(i % 8)) (encR R3))
    omega
  ·right; left
   refine ⟨un T2 60 (by decide) (by rw [eB,ep,hw]) W.ext,T2,Z2,R2,ps,s.length,Nat.le_refl _,W,by omega⟩
 ·right; left
  refine ⟨un _ 60 (by decide) ?_ x,T1,Z1,R1,ps,a,Nat.le_of_lt ha,W,hk⟩
  unfold bodyW
  rw [e,if_pos (by decide)]
 ·right; right
  refine ⟨un _ 90 (by decide) ?_ x,T1,Z1,R1,ps,a,ha,W,hk⟩
  unfold bodyW
  rw [e,if_pos (by decide)]
end Go.Proofs.YtcdpakjhjmchhaaGreatDoor.Fi
namespace Go.Proofs.YtcdpakjhjmchhaaGreatDoor.In
open Go Go.Proofs Wx Hp W Su Re Hd
theorem append_from {elem:TI} {e:Nat} {a:Option Addr} {l c n:Nat} {xs new:List Value} {h0 h:Heap} {k:Option Addr→Nat→Nat→Heap→Prop} (f:Fr No h0 h)
  (s:Sl h elem.cells a l c xs (From h0.size)) (hn:new.length=n*elem.cells) (hz:elem.zero.length=elem.cells) (hb:(l+n)*elem.bytes≤140737488355328) (hb':l+n≤140737488355328)
  (hk:∀ a' c' h',Fr No h0 h'→Sl h' elem.cells a' (l+n) c' (xs++new) (From h0.size)→k a' (l+n) c' h') :
  AppendP elem e a l c n new h k:=by
 have hs:=f.size
 refine append_own s hn hz hb hb' fun a' c' h' f' s'=>hk a' c' h' (f.trans f' fun b hb e=>by have:h0.size≤b:=e; omega) (s'.mono fun b hb=>?_)
 rcases hb with hb|hb
 ·exact hb
 ·show h0.size≤b; omega
theorem bv_nat (m:Nat):(Value.int .u8 (IntKind.wrap .u8 (m:Int)))=bv (UInt8.ofNat m):=by
 rw [bv_wrap]
 congr 1
 apply UInt8.toNat_inj.mp
 rw [UInt8.toNat_ofNat',UInt8.toNat_ofNat']; omega
theorem bv_mod {n:Int} (h0:0≤n):(Value.int .u8 (IntKind.wrap .u8 (Int.tmod n 256)))=bv (UInt8.ofNat n.toNat):=by
 have e:Int.tmod n 256=((n.toNat % 256:Nat):Int):=by rw [Int.tmod_eq_emod_of_nonneg h0]; omega
 rw [e,bv_nat]
 congr 1
 apply UInt8.toNat_inj.mp
 rw [UInt8.toNat_ofNat',UInt8.toNat_ofNat']; omega
theorem rwithin_spec {v lo hi:Int} {h:Heap} {K:Value→Heap→Prop} (hK:K (.bool (decide (lo≤v) && decide (v≤hi))) h):C.boleref11_within v lo hi h K:=by
 refine boleref11_within.ok (cd (fun x=>?_) fun x=>?_)
 ·rw [decide_eq_true (show lo≤v from x)] at hK; exact hK
 ·rw [decide_eq_false (show ¬ lo≤v from x)] at hK; exact hK
theorem cell15' {h:Heap} {b:Nat} {R:List Int} (r:rd h b=ints R) {i:Nat} (hi:3+i<R.length):cellOf h (Addr.add (Addr.add ⟨b,0,none⟩ 3) i)=some (.int .i64 (R.getD (3+i) 0)):=by
 rw [add_mk]
 refine rda r ?_
 rw [Nat.zero_add,ints,List.getElem?_map,List.getD_eq_getElem?_getD,List.getElem?_eq_getElem hi]; rfl
theorem all_words {R:List Int} (hR:R.length=15):(R.drop 3).all wordOk=true↔∀ j,j<12→wordOk (R.getD (3+j) 0)=true:=by
 have e:∀ j (hj:j<(R.drop 3).length),(R.drop 3)[j]=R.getD (3+j) 0:=fun j hj=>by
  have:3+j<R.length:=by rw [List.length_drop] at hj; omega
  rw [List.getElem_drop,List.getD_eq_getElem?_getD,List.getElem?_eq_getElem this]; rfl
 have ld:(R.drop 3).length=12:=by rw [List.length_drop,hR]
 constructor
 ·intro h j hj
  rw [← e j (by omega)]
  exact List.all_eq_true.mp h _ (List.getElem_mem _)
 ·intro h
  refine List.all_eq_true.mpr fun x hx=>?_
  obtain ⟨j,hj,rfl⟩:=List.mem_iff_getElem.mp hx
  rw [e j hj]; exact h j (by omega)
theorem bad_word {R:List Int} (hR:R.length=15) {j:Nat} (hj:j<12) (h:wordOk (R.getD (3+j) 0)=false):mayR R=false:=by
 cases e:(R.drop 3).all wordOk with
 | false=>rw [mayR,e]; rfl
 | true=>rw [(all_words hR).mp e j hj] at h; cases h
theorem rMay_k1 {R:List Int} {h1 h:Heap} {K:Value→Heap→Prop} (hR:R.length=15) (hw:(R.drop 3).all wordOk=true) (r3:rd h h1.size=ints R) (hK:K (.bool (mayR R)) h):boleref11_May.k1 h1 h K:=by
 have em:mayR R=kindOk (R.getD 0 0) (R.getD 1 0) (R.getD 2 0) R:=by rw [mayR,hw,Bool.true_and]
 rw [em] at hK
 unfold kindOk at hK
 refine ⟨_,cell15 r3 (by omega),ce (fun h0=>?_) fun h0=>?_⟩
 ·rw [if_pos h0] at hK
  refine ⟨ints R,by rw [ints_length,hR],cellsAll r3,pairs15 hR (S:=z15) List.length_replicate,?_⟩
  rw [show ([.int .i64 0,.int .i64 0,.int .i64 0,.int .i64 0,.int .i64 0,.int .i64 0,.int .i64 0,.int .i64 0,.int .i64 0,.int .i64 0,.int .i64 0,.int .i64 0,.int .i64 0,.int .i64 0,.int .i64 0]:List Value)=ints z15 from rfl,ints_eq]
  exact hK
 ·rw [if_neg h0] at hK
  refine ce (fun h1=>?_) fun h1=>?_
  ·rw [if_pos h1] at hK
   refine ⟨_,cell15 r3 (by omega),rwithin_spec ⟨_,rfl,?_⟩⟩
   cases hb:(decide (0≤R.getD 1 0) && decide (R.getD 1 0≤1000)) with
   | false=>rw [hb] at hK; exact hK
   | true=>rw [hb] at hK; exact ⟨_,cell15 r3 (by omega),rwithin_spec ⟨_,rfl,hK⟩⟩
  ·rw [if_neg h1] at hK
   refine ce (fun h2'=>?_) fun h2'=>?_
   ·rw [if_pos h2'] at hK
    refine ⟨_,cell15 r3 (by omega),rwithin_spec ⟨_,rfl,?_⟩⟩
    cases hb:(decide (2≤R.getD 1 0) && decide (R.getD 1 0≤65535)) with
    | false=>rw [hb] at hK; exact hK
    | true =>
     rw [hb,Bool.true_and] at hK
     refine ⟨_,cell15 r3 (by omega),rwithin_spec ⟨_,rfl,?_⟩⟩
     cases hc:(decide (0≤R.getD 2 0) && decide (R.getD 2 0≤8459264)) with
     | false=>rw [hc] at hK; exact hK
     | true =>
      rw [hc,Bool.true_and] at hK
      rw [Bool.and_eq_true,decide_eq_true_eq] at hc
      refine ⟨_,cell15 r3 (by omega),?_⟩
      have e:(Int.tmod (R.getD 2 0) 512 == 0)=decide (R.getD 2 0 % 512=0):=by rw [Int.tmod_eq_emod_of_nonneg hc.1]; rfl
      rw [e]; exact hK
   ·rw [if_neg h2'] at hK
    refine ce (fun h3'=>?_) fun h3'=>?_
    ·rw [if_pos h3'] at hK
     refine ⟨_,cell15 r3 (by omega),rwithin_spec ⟨_,rfl,?_⟩⟩
     cases hb:(decide (1≤R.getD 1 0) && decide (R.getD 1 0≤1000)) with
     | false=>rw [hb] at hK; exact hK
     | true=>rw [hb] at hK; exact ⟨_,cell15 r3 (by omega),rwithin_spec ⟨_,rfl,hK⟩⟩
    ·rw [if_neg h3'] at hK; exact hK
theorem rMay_spec {R:List Int} {h:Heap} {K:Value→Heap→Prop} (hR:R.length=15) (hK:∀ h',Fr No h h'→K (.bool (mayR R)) h'):C.boleref11_May (ints R) h K:=by
 refine boleref11_May.ok (New.intro fun h2 n2=>?_)
 have hK:=hK h2 n2.fr
 refine ⟨fun i hh=>0≤i∧i≤10∧h2=hh∧∀ j,j<i.toNat→wordOk (R.getD (3+j) 0)=true,fun i _=>((10:Nat) - i).toNat,⟨by omega,by omega,rfl,fun j hj=>absurd hj (Nat.not_lt_zero _)⟩,?_⟩
 rintro i _ ⟨i0,i1,rfl,q⟩
 have bad:∀ j,j<12→wordOk (R.getD (3+j) 0)=false→K (.bool false) h2:=fun j hj e=>by
  rw [bad_word hR hj e] at hK; exact hK
 refine cd (fun hi=>?_) fun hi=>?_
 ·have hi:i<10:=hi
  refine ⟨⟨i0,hi⟩,_,cell15' n2.rd (by omega),rwithin_spec ⟨_,rfl,cnot ?_⟩⟩
  cases hw:wordOk (R.getD (3+i.toNat) 0) with
  | false=>exact cf hw (bad i.toNat (by omega) hw)
  | true =>
   rw [wrap_i64 (by omega) (by omega)]
   refine ct hw ⟨⟨by omega,by omega,rfl,fun j hj=>?_⟩,falls (m:=10) hi⟩
   by_cases e:j<i.toNat
   ·exact q j e
   ·have:j=i.toNat:=by omega
    rw [this]; exact hw
 ·have hi:¬ i<10:=hi
  have ei:i.toNat=10:=by omega
  rw [ei] at q
  refine ⟨_,cell15 n2.rd (by omega),rwithin_spec ⟨_,rfl,cnot ?_⟩⟩
  cases hw:wordOk (R.getD 13 0) with
  | false=>exact cf hw (bad 10 (by omega) hw)
  | true =>
   refine ct hw ⟨_,cell15 n2.rd (by omega),rwithin_spec ⟨_,rfl,cnot ?_⟩⟩
   cases hx:wordOk (R.getD 14 0) with
   | false=>exact cf hx (bad 11 (by omega) hx)
   | true =>
    refine ct hx (rMay_k1 hR ((all_words hR).mpr fun j hj=>?_) n2.rd hK)
    by_cases e:j<10
    ·exact q j e
    ·by_cases e':j=10
     ·subst e'; exact hw
     ·have:j=11:=by omega
      subst this; exact hx
theorem leB_snoc (k v:Nat):leBs (k+1) v=leBs k v++[UInt8.ofNat (v / 256 ^ k)]:=by
 rw [leBs,List.range_succ,List.map_append]; rfl
theorem low_spec {n:Int} {k:Nat} {h:Heap} {K:Value→Heap→Prop} (h0:0≤n) (h1:n≤9223372036854775807) (hk:k≤8)
  (hK:∀ a' c' h',Fr No h h'→Sl h' 1 a' k c' ((leBs k n.toNat).map bv) (From h.size)→K (.slice a' k c') h'):C.boleref11_low n (k:Int) h K:=by
 refine boleref11_low.ok ⟨fun m a l c i hh=>0≤i∧i≤k∧l=i.toNat∧0≤m∧m≤9223372036854775807∧m.toNat=n.toNat / 256 ^ i.toNat∧Fr No h hh∧Sl hh 1 a l c ((leBs i.toNat n.toNat).map bv) (From h.size),fun _ _ _ _ i _=>((k:Nat) - i).toNat,
  ⟨by omega,by omega,rfl,h0,h1,by show _=_ / 256 ^ 0; omega,Fr.refl _ _,Sl.nil _ _ _⟩,?_⟩
 rintro m a l c i h2 ⟨i0,i1,rfl,m0,m1,em,f2,s2⟩
 refine cd (fun hi=>?_) fun hi=>?_
 ·have hi:i<k:=hi
  refine New.intro fun h3 n3=>⟨[bv (UInt8.ofNat m.toNat)],rfl,cellsAll (by rw [n3.rd,bv_mod m0]),bv_one [UInt8.ofNat m.toNat],append_from (f2.new n3) (s2.fr n3.fr fun _ _ _ x=>x) rfl rfl (by show (i.toNat+1)*1≤_; omega) (by omega) fun a' c' h4 f4 s4=>?_⟩
  have ed:Int.tdiv m 256=m / 256:=Int.tdiv_eq_ediv_of_nonneg m0
  rw [ed,wrap_i64 (n:=m / 256) (by omega) (by omega),wrap_i64 (by omega) (by omega)]
  refine ⟨⟨by omega,by omega,by omega,by omega,by omega,?_,f4,?_⟩,falls (m:=k) hi⟩
  ·rw [show (i+1).toNat=i.toNat+1 by omega,Nat.pow_succ,← Nat.div_div_eq_div_mul,← em]; omega
  ·rw [show (i+1).toNat=i.toNat+1 by omega,leB_snoc,← em,List.map_append]; exact s4
 ·have hi:¬ i<k:=hi
  have:i.toNat=k:=by omega
  rw [this] at s2 ⊢
  exact hK a c h2 f2 s2
theorem low_app {n:Int} {k l c:Nat} {a:Option Addr} {xs:List UInt8} {h0 h:Heap} {K:Option Addr→Nat→Nat→Heap→Prop} (hn:0≤n) (hn':n≤9223372036854775807) (hk:k≤8) (hl:l+k≤1000) (f:Fr No h0 h)
  (s:Sl h 1 a l c (xs.map bv) (From h0.size)) (hK:∀ a' c' h',Fr No h0 h'→Sl h' 1 a' (l+k) c' ((xs++leBs k n.toNat).map bv) (From h0.size)→K a' (l+k) c' h') :
  C.boleref11_low n (k:Int) h fun r1 h4=>∃ (sA1:Option Addr) (sL1:Nat) (sC1:Nat),r1 = .slice sA1 sL1 sC1 ∧
   ∃ new1:List Value,List.length new1=sL1*1∧SlCells h4 sA1 new1∧(∀ v ∈ new1,v.oneCell'=true)∧AppendP ti5 5 a l c sL1 new1 h4 K:=by
 refine low_spec hn hn' hk fun a' c' h' f' s'=>⟨_,_,_,rfl,_,by rw [List.length_map,leB_length,Nat.mul_one],s'.cells,bv_one _,?_⟩
 refine append_from (f.no f') (s.fr f' fun _ _ _ x=>x) (by rw [List.length_map,leB_length]; show k=k*1; omega) rfl (by show (l+k)*1≤_; omega) (by omega) fun a2 c2 h2 f2 s2=>hK a2 c2 h2 f2 ?_
 rw [List.map_append]; exact s2
theorem rLaid_spec {R:List Int} {h:Heap} {K:Value→Heap→Prop} (hR:R.length=15) (hm:mayR R=true)
  (hK:∀ a' c' h',Fr No h h'→Sl h' 1 a' 64 c' ((encR R).map bv) (From h.size)→K (.slice a' 64 c') h'):C.boleref11_laid (ints R) h K:=by
 obtain ⟨k0,k1,l0,l1,z0,z1,hw⟩:=mayR_bounds hR hm
 have hx:∀ j,j<12→0≤R.getD (3+j) 0∧R.getD (3+j) 0≤4294967295:=fun j hj=>by
  have hj':3+j<R.length:=by omega
  have e:R.getD (3+j) 0=(R.drop 3)[j]'(by rw [List.length_drop]; omega):=by
   rw [List.getElem_drop,List.getD_eq_getElem?_getD,List.getElem?_eq_getElem hj']; rfl
  rw [e]; exact hw _ (List.getElem_mem _)
 have tk:∀ j,j<12→(R.drop 3).take (j+1)=(R.drop 3).take j++[R.getD (3+j) 0]:=fun j hj=>by
  have hj':3+j<R.length:=by omega
  rw [List.take_succ_eq_append_getElem (by rw [List.length_drop]; omega),List.getElem_drop,List.getD_eq_getElem?_getD,List.getElem?_eq_getElem hj']; rfl
 have fk:∀ j,j<12→flat4 ((R.drop 3).take (j+1))=flat4 ((R.drop 3).take j)++leBs 4 (R.getD (3+j) 0).toNat:=fun j hj=>by
  rw [tk j hj,flat4,List.flatMap_append]
  show _++(leBs 4 _++[])=_
  rw [List.append_nil,flat4]
 refine boleref11_laid.ok (New.intro fun h2 n2=>⟨_,cell15 n2.rd (by omega),New.intro fun h3 n3=>?_⟩)
 have s2:=n2.size
 have s3:=n3.size
 have F3:=n2.fr.new n3
 have kd:∀ {hq:Heap},Fr No h2 hq→rd hq h.size=ints R:=fun fq=>(fq.rd n2.own.lt fun x=>x).trans n2.rd
 have eK:(Value.int .u8 (IntKind.wrap .u8 (R.getD 0 0)))=bv (UInt8.ofNat (R.getD 0 0).toNat):=by
  rw [← bv_nat,Int.toNat_of_nonneg k0]
 have b3:Sl h3 1 (some ⟨h2.size,0,none⟩) 2 2 ((leBs 1 (R.getD 0 0).toNat++[0]).map bv) (From h2.size) :=
  Sl.made (zs:=[]) n3 (by rw [leB_one,eK]; rfl) (Nat.le_refl _) (by rw [leB_one]; rfl) (Nat.le_refl _) rfl
 refine ⟨_,cell15 (kd n3.fr) (by omega),low_app (k:=2) l0 (by omega) (by omega) (by omega) n3.fr b3 fun a5 c5 h5 f5 s5=>⟨_,cell15 (kd f5) (by omega),low_app (k:=4) z0 (by omega) (by omega) (by omega) f5 s5 fun a7 c7 h7 f7 s7=>?_⟩⟩
 generalize hH:(leBs 1 (R.getD 0 0).toNat++[0])++leBs 2 (R.getD 1 0).toNat++leBs 4 (R.getD 2 0).toNat=H at s7
 have eH:encR R=H++(flat4 (R.drop 3)++zeros 8):=by rw [encR,← hH]; simp only [List.append_assoc]
 clear hH
 refine ⟨fun a l c i hh=>0≤i∧i≤10∧l=8+4*i.toNat∧Fr No h2 hh∧Sl hh 1 a l c ((H++flat4 ((R.drop 3).take i.toNat)).map bv) (From h2.size),fun _ _ _ i _=>((10:Nat) - i).toNat,
  ⟨by omega,by omega,rfl,f7,by show Sl h7 1 _ _ _ ((H++[]).map bv) _; rw [List.append_nil]; exact s7⟩,?_⟩
 rintro a8 l8 c8 i h8 ⟨i0,i1,rfl,f8,s8⟩
 refine cd (fun hi=>?_) fun hi=>?_
 ·have hi:i<10:=hi
  have hb:=hx i.toNat (by omega)
  refine ⟨⟨i0,hi⟩,_,cell15' (kd f8) (by omega),low_app (k:=4) hb.1 (by omega) (by omega) (by omega) f8 s8 fun a9 c9 h9 f9 s9=>?_⟩
  rw [wrap_i64 (by omega) (by omega)]
  refine ⟨⟨by omega,by omega,by omega,f9,?_⟩,falls (m:=10) hi⟩
  rw [show (i+1).toNat=i.toNat+1 by omega,fk _ (by omega),← List.append_assoc]; exact s9
 ·have hi:¬ i<10:=hi
  have ei:i.toNat=10:=by omega
  rw [ei] at s8 ⊢
  refine ⟨_,cell15 (kd f8) (by omega),low_app (k:=4) (hx 10 (by omega)).1 (Int.le_trans (hx 10 (by omega)).2 (by decide)) (by omega) (by omega) f8 s8 fun a9 c9 h9 f9 s9=>?_⟩
  refine ⟨_,cell15 (kd f9) (by omega),low_app (k:=4) (hx 11 (by omega)).1 (Int.le_trans (hx 11 (by omega)).2 (by decide)) (by omega) (by omega) f9 s9 fun a10 c10 h10 f10 s10=>?_⟩
  refine New.intro fun h11 n11=>⟨(zeros 8).map bv,rfl,cellsAll n11.rd,bv_one _,append_from (f10.new n11) (s10.fr n11.fr fun _ _ _ x=>x) rfl rfl (by decide) (by decide) fun a12 c12 h12 f12 s12=>?_⟩
  refine hK a12 c12 h12 (n2.fr.no f12) ?_
  have e12:R.drop 3=(R.drop 3).take 12:=(List.take_of_length_le (by rw [List.length_drop]; omega)).symm
  rw [eH,e12,fk 11 (by omega),fk 10 (by omega)]
  rw [← List.map_append] at s12
  simp only [List.append_assoc] at s12 ⊢
  exact s12.mono fun b hb=>by have:h2.size≤b:=hb; show h.size≤b; omega
theorem rEncode_spec {R:List Int} {h:Heap} {K:Value→Heap→Prop} (hR:R.length=15) (hN:mayR R=false→∀ h',Fr No h h'→K (.tuple #[.slice none 0 0,.int .i64 111]) h')
  (hK:mayR R=true→∀ a' c' h',Fr No h h'→Sl h' 1 a' 64 c' ((encR R).map bv) (From h.size)→K (.tuple #[.slice a' 64 c',.int .i64 0]) h'):C.boleref11_Encode (ints R) h K:=by
 refine boleref11_Encode.ok (New.intro fun h2 n2=>⟨ints R,by rw [ints_length,hR],cellsAll n2.rd,rMay_spec hR fun h3 f3=>⟨_,rfl,cnot ?_⟩⟩)
 have s2:=n2.size
 have s3:=f3.size
 have F3:=n2.fr.no f3
 have r3:rd h3 h.size=ints R:=(f3.rd n2.own.lt fun x=>x).trans n2.rd
 cases hm:mayR R with
 | false=>exact hN hm h3 F3
 | true=>exact ct rfl ⟨ints R,by rw [ints_length,hR],cellsAll r3,rLaid_spec hR hm fun a' c' h4 f4 s4=>⟨_,_,_,rfl,hK hm a' c' h4 (F3.no f4) (s4.mono fun b hb=>by have:h3.size≤b:=hb; show h.size≤b; omega)⟩⟩
end Go.Proofs.YtcdpakjhjmchhaaGreatDoor.In
namespace Go.Proofs.YtcdpakjhjmchhaaGreatDoor.Fi
open Go Go.Proofs Wx Hp W Ad Tm Bt Spc Re Av
open Hd (ints)
open In (Glo ints_length ints_one mayR encR encR_length)
open Bm (Im updU edge lowU lowU_hit lowU_miss)
theorem set_range {α:Type} {N k:Nat} {f:Nat→α} {v:α}:((List.range N).map f).set k v=(List.range N).map fun j=>if j=k then v else f j:=by
 refine List.ext_getElem (by rw [List.length_set,List.length_map,List.length_map]) fun i h1 h2=>?_
 rw [List.getElem_set,List.getElem_map,List.getElem_map,List.getElem_range]
 by_cases e:k=i
 ·rw [if_pos e,if_pos e.symm]
 ·rw [if_neg e,if_neg (fun y=>e y.symm)]
theorem putU_snoc {Z W:Txt} {o m:Nat} (hm:m<W.length) (ho:o+W.length≤Z.length):(putU Z o (W.take m)).set (o+m) W[m]=putU Z o (W.take (m+1)):=by
 have l1:(W.take m).length=m:=by rw [List.length_take]; omega
 have l2:(W.take (m+1)).length=m+1:=by rw [List.length_take]; omega
 unfold putU
 rw [l1,l2,List.append_assoc,List.set_append_right _ _ (by rw [List.length_take]; omega),List.length_take,show o+m - min o Z.length=m by omega,List.set_append_right _ _ (by rw [l1]; exact Nat.le_refl _),l1,Nat.sub_self]
 have ed:Z.drop (o+m)=Z[o+m]::Z.drop (o+m+1):=List.drop_eq_getElem_cons (by omega)
 rw [ed,List.set_cons_zero,List.take_succ_eq_append_getElem hm,List.append_assoc,List.append_assoc]
 rfl
theorem bit_add : ∀ n:Fin 256,∀ s:Fin 8,n.val.testBit s.val=false→IntKind.wrap .u8 ((n.val:Int)+((2 ^ s.val:Nat):Int))=(setB n.val s.val true:Nat):=by decide +kernel
structure Ib (n:Nat) (W:Txt) (m:Nat) (L:Txt):Prop where
 im:Im n (lowU n m) L
 rest:∀ q,512*(geoN n).inodes≤q→L.getD q 0=(putU (List.replicate (512*n) 0) (512*(geoN n).inodes+64) W).getD q 0
theorem Ib.zero {n:Nat} {W:Txt} (hn:128≤n∧n<4428) (hW:W.length≤448):Ib n W 0 (putU (List.replicate (512*n) 0) (512*(geoN n).inodes+64) W):=by
 have hino:(geoN n).inodes=98+(n+4095) / 4096:=rfl
 refine ⟨⟨(putU_length (by rw [List.length_replicate]; omega)).trans List.length_replicate,fun j hj=>?_⟩,fun _ _=>rfl⟩
 have:lowU n 0 j=false:=by unfold lowU; rw [decide_eq_false (by omega)]; rfl
 rw [this]
 unfold bitAt putU
 rw [List.getD_eq_getElem?_getD,List.append_assoc,List.getElem?_append_left (by rw [List.length_take,List.length_replicate]; omega),List.getElem?_take,if_pos (by omega),List.getElem?_replicate]
 split <;> exact Nat.zero_testBit _
theorem Ib.miss {n m:Nat} {W L:Txt} (a:Ib n W m L) (h:edge n m=false):Ib n W (m+1) L:=⟨a.im.congr (lowU_miss h),a.rest⟩
theorem Ib.hit {n m:Nat} {W L:Txt} (a:Ib n W m L) (hn:128≤n∧n<4428) (hm:m<4096*((geoN n).inodes - 98)) (h:edge n m=true):Ib n W (m+1) (putBit L (98*4096+m) true):=by
 refine ⟨(a.im.put hn hm).congr (lowU_hit h),fun q hq=>?_⟩
 rw [← a.rest q hq]
 have h98:98≤(geoN n).inodes:=by show 98≤98+_; omega
 unfold putBit
 rw [List.getD_eq_getElem?_getD,List.getD_eq_getElem?_getD,List.getElem?_set,if_neg (by omega),← List.getD_eq_getElem?_getD]
theorem pow_step : ∀ s:Fin 7,IntKind.wrap .u8 (((2 ^ s.val:Nat):Int)*2)=((2 ^ (s.val+1):Nat):Int):=by decide +kernel
theorem image_spec {n:Nat} {recs:List (List Int)} {ra:Option Addr} {rc:Nat} {h:Heap} {K:Value→Heap→Prop} (hn:128≤n∧n<4428) (Y:SlCells h ra (recs.flatMap ints)) (hR:∀ R ∈ recs,R.length=15) (hm:∀ R ∈ recs,mayR R=true)
  (hd:∀ R ∈ recs,∀ i,i<10→R.getD (3+i) 0=0) (hc:recs.length≤7)
  (hK:∀ ib L h',Fr No h h'→Ib n (recs.flatMap encR) (4096*((geoN n).inodes - 98)) L→Own h' ib→h.size≤ib→rd h' ib=L.map bv→K (.slice (some ⟨ib,0,none⟩) (512*n) (512*n)) h'):C.boleref12_Image (geoN n).v ra recs.length rc h K:=by
 have hdat:(geoN n).data=98+(n+4095) / 4096+n / 64:=rfl
 have hino:(geoN n).inodes=98+(n+4095) / 4096:=rfl
 have hbit:(geoN n).bitmap=98:=rfl
 have hcnt:(geoN n).count=8*(n / 64):=rfl
 have hblk:(geoN n).blocks=n:=rfl
 refine boleref12_Image.ok (New.intro fun h2 n2=>⟨((geoN n).blocks:Int),rda n2.rd rfl,?_⟩)
 have e1:IntKind.wrap .i64 (((geoN n).blocks:Int)*512)=((512*n:Nat):Int):=by rw [wrap_i64 (by omega) (by omega)]; omega
 rw [e1,Int.toNat_natCast]
 refine ⟨⟨by omega,by omega,by omega,by omega⟩,New.intro fun h3 n3=>?_⟩
 have z2:=n2.size
 have z3:=n3.size
 have rg3:rd h3 h.size=(geoN n).v:=(n3.at_ n2.own.lt).trans n2.rd
 refine ⟨((geoN n).inodes:Int),rda rg3 rfl,((geoN n).bitmap:Int),rda rg3 rfl,?_⟩
 have e2:IntKind.wrap .i64 (IntKind.wrap .i64 (((geoN n).inodes:Int) - ((geoN n).bitmap:Int))*4096)=((4096*((geoN n).inodes - 98):Nat):Int):=by rw [wrap_i64 (n:=((geoN n).inodes:Int) - ((geoN n).bitmap:Int)) (by omega) (by omega),wrap_i64 (by omega) (by omega)]; omega
 rw [e2,Int.toNat_natCast]
 generalize hN:4096*((geoN n).inodes - 98)=N at hK ⊢
 refine ⟨⟨by omega,by omega,by omega,by omega⟩,New.intro fun h4 n4=>?_⟩
 have z4:=n4.size
 have F4:Fr No h h4:=(n2.fr.new n3).new n4
 have rg4:rd h4 h.size=(geoN n).v:=(n4.at_ (by omega)).trans rg3
 have rb4:rd h4 h2.size=(List.replicate (512*n) (0:UInt8)).map bv:=by rw [n4.at_ (by omega),n3.rd,List.map_replicate]; rfl
 have ob4:Own h4 h2.size:=n4.ow n3.own
 have ro4:rd h4 h3.size=(List.range N).map fun j=>Value.bool (lowU n 0 j):=by
  rw [n4.rd]
  show List.replicate N (Value.bool false)=_
  refine List.ext_getElem (by rw [List.length_replicate,List.length_map,List.length_range]) fun i h1 h2=>?_
  rw [List.getElem_replicate,List.getElem_map,List.getElem_range]
  unfold lowU
  rw [decide_eq_false (by omega)]; rfl
 -- which bits
 refine ⟨fun i hh=>∃ k:Nat,i=k∧k≤N∧Fr (fun b=>b=h3.size) h4 hh∧Own hh h3.size∧rd hh h3.size=(List.range N).map fun j=>Value.bool (lowU n k j),fun i _=>((N:Int) - i).toNat,⟨0,rfl,Nat.zero_le _,Fr.refl _ _,n4.own,ro4⟩,?_⟩
 rintro i h5 ⟨k,ei,hk,f5,o5,r5⟩
 have z5:=f5.size
 have rg5:rd h5 h.size=(geoN n).v:=(f5.rd (by omega) (by omega)).trans rg4
 have l5:(rd h5 h3.size).length=N:=by rw [r5,List.length_map,List.length_range]
 refine cd (fun hl=>?_) fun hl=>?_
 ·have hk':k<N:=by omega
  have set:∀ v,v=edge n k→(0≤i∧i<(N:Int))∧Put (Addr.add ⟨h3.size,0,none⟩ (Int.toNat i)) (.bool v) h5 fun h6=>(∃ k:Nat,IntKind.wrap .i64 (i+1)=k∧k≤N∧Fr (fun b=>b=h3.size) h4 h6∧Own h6 h3.size∧rd h6 h3.size=(List.range N).map fun j=>Value.bool (lowU n k j))∧((N:Int) - IntKind.wrap .i64 (i+1)).toNat<((N:Int) - i).toNat:=fun v hv=>by
   refine ⟨⟨by omega,by omega⟩,Put.add o5 (by rw [l5]; omega) fun h6 d6=>?_⟩
   rw [wrap_i64 (n:=i+1) (by omega) (by omega)]
   refine ⟨⟨k+1,by omega,hk',f5.trans d6.fr fun _ _ e=>e,d6.own,?_⟩,by omega⟩
   rw [d6.rd,r5,show 0+i.toNat=k by omega,set_range]
   refine List.map_congr_left fun j hj=>?_
   unfold lowU
   by_cases e:j=k
   ·subst e; rw [if_pos rfl,decide_eq_true (by omega),hv]; rfl
   ·have:decide (j<k+1)=decide (j<k):=decide_eq_decide.mpr (by omega)
    rw [if_neg e,this]
  refine ⟨((geoN n).data:Int),rda rg5 rfl,cd (fun hlt=>?_) fun hlt=>⟨((geoN n).blocks:Int),rda rg5 rfl,?_⟩⟩
  ·exact set true (by unfold edge; rw [decide_eq_true (by omega)]; rfl)
  ·refine set _ ?_
   unfold edge
   rw [decide_eq_false (show ¬ k<(geoN n).data by omega),Bool.false_or,decide_eq_decide]
   omega
 have ek:N=k:=by omega
 subst ek
 clear hl hk ei i
 -- the records
 have hW:∀ R ∈ recs,(encR R).length=64:=fun R hr=>encR_length (hR R hr)
 have lW:(recs.flatMap encR).length=recs.length*64:=by
  have:∀ l:List (List Int),(∀ R ∈ l,(encR R).length=64)→(l.flatMap encR).length=l.length*64:=by
   intro l
   induction l with
   | nil=>intro _; rfl
   | cons R l ih=>intro h; rw [List.flatMap_cons,List.length_append,h R (List.mem_cons_self ..),ih fun x hx=>h x (List.mem_cons_of_mem _ hx),List.length_cons]; omega
  exact this recs hW
 have hwr:recs.length*64≤448:=by omega
 have hz:(List.replicate (512*n) (0:UInt8)).length=512*n:=List.length_replicate
 have lP:∀ m,(putU (List.replicate (512*n) (0:UInt8)) (512*(geoN n).inodes+64) ((recs.flatMap encR).take m)).length=512*n:=fun m=>(putU_length (by rw [List.length_take,hz,lW]; omega)).trans hz
 have f5':Fr No h h5:=F4.trans f5 fun b hb y=>by omega
 have Y5:SlCells h5 ra (recs.flatMap ints):=SlCells.fr f5' Y fun _ _ y=>y
 refine ⟨fun i hh=>∃ k:Nat,i=k∧k≤recs.length∧Fr (fun b=>b=h2.size) h5 hh∧Own hh h2.size∧rd hh h2.size=(putU (List.replicate (512*n) (0:UInt8)) (512*(geoN n).inodes+64) ((recs.flatMap encR).take (64*k))).map bv,fun i _=>((recs.length:Int) - i).toNat,
  ⟨0,rfl,Nat.zero_le _,Fr.refl _ _,f5.own (by omega) (by omega) ob4,by rw [f5.rd (by omega) (by omega),rb4]; show _=(putU _ _ []).map bv; rw [putU_nil]⟩,?_⟩
 rintro i h8 ⟨k,ei,hk,f8,o8,r8⟩
 have z8:=f8.size
 have F8:Fr No h h8:=f5'.trans f8 fun b hb y=>by omega
 have rg8:rd h8 h.size=(geoN n).v:=(f8.rd (by omega) (by omega)).trans rg5
 refine cd (fun hl=>?_) fun hl=>?_
 ·have hk':k<recs.length:=by omega
  have Y8:=SlCells.fr f8 Y5 fun p hp y=>by
   subst hp
   have hb:p.block<h.size:=by
    have hl:0<(recs.flatMap ints).length:=by
     rw [flat_length ints 15 recs fun R hr=>by rw [ints_length,hR R hr]]; omega
    have:=Y 0 _ (List.getElem?_eq_getElem hl)
    obtain ⟨_,e2⟩:=cellOf_some this
    rw [Addr.add_zero] at e2
    exact rd_lt e2
   omega
  have hw:∀ R ∈ recs,(ints R).length=15:=fun R hr=>by rw [ints_length,hR R hr]
  obtain ⟨p,ep,cc⟩:∃ p,ra=some p∧Cells h8 (p.add (k*15)) (ints (recs[k]'hk')):=by
   cases ra with
   | none =>
    have c:recs.flatMap ints=[]:=Y8
    have:=flat_length ints 15 recs hw
    rw [c] at this
    exact absurd this (by simp; omega)
   | some p =>
    refine ⟨p,rfl,?_⟩
    have:=Cells.take (Cells.drop Y8 (k*15)) 15
    rw [flat_part ints 15 recs hw k hk'] at this
    exact this
  have hr:=List.getElem_mem hk'
  have lR:=hR _ hr
  have lE:=hW _ hr
  have mR:=hm _ hr
  have dR:=hd _ hr
  have eW:∀ m (h:m<64),(recs.flatMap encR)[64*k+m]'(by rw [lW]; omega)=(encR (recs[k]'hk'))[m]'(by rw [lE]; exact h):=fun m hm=>by
   have:∀ (l:List (List Int)),(∀ R ∈ l,(encR R).length=64)→∀ k (hk:k<l.length) (hx:64*k+m<(l.flatMap encR).length) (hy:m<(encR l[k]).length),(l.flatMap encR)[64*k+m]=(encR l[k])[m]:=by
    intro l
    induction l with
    | nil=>intro _ k hk; exact absurd hk (Nat.not_lt_zero _)
    | cons R l ih =>
     intro h k hk hx hy
     have hR:=h R (List.mem_cons_self ..)
     cases k with
     | zero =>
      simp only [List.flatMap_cons,Nat.mul_zero,Nat.zero_add,List.getElem_cons_zero]
      rw [List.getElem_append_left]
     | succ k =>
      simp only [List.flatMap_cons,List.getElem_cons_succ]
      rw [List.getElem_append_right (by omega)]
      have hx':64*k+m<(l.flatMap encR).length:=by rw [List.flatMap_cons,List.length_append] at hx; omega
      have:=ih (fun x hx=>h x (List.mem_cons_of_mem _ hx)) k (by rw [List.length_cons] at hk; omega) hx' hy
      rw [← this]
      congr 1; omega
   exact this recs hW k hk' _ _
  generalize recs[k]'hk'=R at cc lR lE mR dR eW
  refine ⟨⟨by omega,hl⟩,Tm.oe ep ⟨_,by rw [ints_length,lR],by rw [show i.toNat=k by omega]; exact cc,NewRow.intro (by rw [ints_length,lR]) (ints_one _) rfl fun h10 n10=>⟨_,by rw [ints_length,lR],cellsAll n10.rd,?_⟩⟩⟩
  have z10:=n10.size
  refine In.rEncode_spec lR (fun y=>by rw [mR] at y; cases y) fun _ a1 c1 h11 f11 s11=>⟨_,_,_,_,rfl,cn (fun y=>absurd rfl y) fun _=>?_⟩
  have z11:=f11.size
  have rg11:rd h11 h.size=(geoN n).v:=(f11.rd (by omega) fun y=>y).trans ((n10.at_ (by omega)).trans rg8)
  have r11:rd h11 h8.size=ints R:=(f11.rd (by omega) fun y=>y).trans n10.rd
  refine ⟨((geoN n).count:Int),rda rg11 rfl,?_⟩
  rw [wrap_i64 (n:=i+1) (by omega) (by omega)]
  refine cd (fun y=>by exfalso; omega) fun _=>?_
  unfold boleref12_Image.k1
  have ew:IntKind.wrap .i64 (i+1)=i+1:=wrap_i64 (by omega) (by omega)
  rw [ew,e1,Int.toNat_natCast]
  have f11':Fr (fun b=>b=h2.size) h5 h11:=(f8.new n10).no f11
  have b11:rd h11 h2.size=_:=(f11.rd (by omega) fun y=>y).trans ((n10.at_ (by omega)).trans r8)
  have o11:Own h11 h2.size:=f11.own (by omega) (fun y=>y) (n10.ow o8)
  obtain ⟨p2,ep2,c2⟩:=s11.get (by omega)
  subst ep2
  obtain ⟨pb,po,sp⟩:=p2
  have esp:sp=none:=s11.2.1
  subst esp
  have hfrom:h10.size≤pb:=s11.2.2.1
  refine ⟨fun j hh=>∃ m:Nat,j=m∧m≤64∧Fr (fun b=>b=h2.size) h11 hh∧Own hh h2.size∧rd hh h2.size=(putU (List.replicate (512*n) (0:UInt8)) (512*(geoN n).inodes+64) ((recs.flatMap encR).take (64*k+m))).map bv,fun j _=>(64 - j).toNat,⟨0,rfl,by omega,Fr.refl _ _,o11,b11⟩,?_⟩
  rintro j h12 ⟨m,ej,hm,f12,o12,r12⟩
  have z12:=f12.size
  have rg12:rd h12 h.size=(geoN n).v:=(f12.rd (by omega) (by omega)).trans rg11
  refine cd (fun hlt=>?_) fun hlt=>?_
  ·have hm':m<64:=by omega
   have s12:=s11.fr f12 fun b _ hb y=>by have hb:h10.size≤b:=hb; omega
   have c12:cellOf h12 (Addr.add ⟨pb,po,none⟩ m)=some (bv ((encR R)[m]'(by rw [lE]; exact hm'))):=s12.cells m _ (by rw [List.getElem?_map,List.getElem?_eq_getElem (by rw [lE]; exact hm')]; rfl)
   have eidx:IntKind.wrap .i64 ((IntKind.wrap .i64 ((IntKind.wrap .i64 (((geoN n).inodes:Int)*512))+(IntKind.wrap .i64 (64*(i+1)))))+j)=((512*(geoN n).inodes+64+(64*k+m):Nat):Int):=by
    rw [wrap_i64 (n:=((geoN n).inodes:Int)*512) (by omega) (by omega),wrap_i64 (n:=64*(i+1)) (by omega) (by omega),wrap_i64 (n:=((geoN n).inodes:Int)*512+64*(i+1)) (by omega) (by omega),wrap_i64 (by omega) (by omega)]
    omega
   refine ⟨((geoN n).inodes:Int),rda rg12 rfl,⟨by omega,by omega⟩,os ⟨_,by rw [show j.toNat=m by omega]; exact c12,?_⟩⟩
   rw [eidx]
   refine ⟨⟨by omega,by omega⟩,Put.add o12 (by rw [r12,List.length_map,lP]; omega) fun h13 d13=>?_⟩
   rw [wrap_i64 (n:=j+1) (by omega) (by omega)]
   refine ⟨⟨m+1,by omega,hm',f12.trans d13.fr fun _ _ e=>e,d13.own,?_⟩,by show (64 - (j+1)).toNat<(64 - j).toNat; omega⟩
   rw [d13.rd,r12,Int.toNat_natCast,Nat.zero_add]
   show (List.map bv _).set _ (bv _)=_
   rw [← List.map_set,← eW m hm',putU_snoc (by rw [lW]; omega) (by rw [lW,hz]; omega)]
   rfl
  have em:m=64:=by omega
  subst em
  have r12':rd h12 h8.size=ints R:=(f12.rd (by omega) (by omega)).trans r11
  refine ⟨ints ((R.drop 3).take 10),by rw [ints_length,List.length_take,List.length_drop,lR]; rfl,cellsa r12' ?_,?_⟩
  ·unfold ints
   rw [List.length_map,List.length_take,List.length_drop,lR,List.map_take,List.map_drop]
   rfl
  refine ⟨fun j hh=>∃ m:Nat,j=m∧m≤10∧hh=h12,fun j _=>(10 - j).toNat,⟨0,rfl,by omega,rfl⟩,?_⟩
  rintro j h14 ⟨m,ej',hm',rfl⟩
  refine cd (fun hlt=>⟨⟨by omega,by omega⟩,0,?_,((geoN n).data:Int),rda rg12 rfl,cd (fun y=>by exfalso; omega) fun _=>?_⟩) fun hlt=>?_
  ·have h10:m<10:=by omega
   have:=dR m h10
   rw [show j.toNat=m by omega]
   unfold ints
   rw [List.getElem?_map,List.getElem?_take_of_lt h10,List.getElem?_drop]
   rw [List.getD_eq_getElem?_getD,List.getElem?_eq_getElem (by omega)] at this
   rw [List.getElem?_eq_getElem (by omega)]
   show some (Value.int .i64 _)=_
   rw [show R[3+m]'(by omega)=0 from this]
  ·rw [wrap_i64 (n:=j+1) (by omega) (by omega)]
   exact ⟨⟨m+1,by omega,by omega,rfl⟩,by show (10 - (j+1)).toNat<(10 - j).toNat; omega⟩
  ·refine ⟨⟨k+1,by omega,hk',f11'.trans f12 fun _ _ e=>e,o12,?_⟩,by show ((recs.length:Int) - (i+1)).toNat<((recs.length:Int) - i).toNat; omega⟩
   rw [r12,show 64*(k+1)=64*k+64 by omega]
 have ek:k=recs.length:=by omega
 subst ek
 rw [List.take_of_length_le (by rw [lW]; omega)] at r8
 clear hl hk ei i
 -- the bits are set
 have ro8:rd h8 h3.size=(List.range N).map fun j=>Value.bool (lowU n N j):=(f8.rd (by omega) (by omega)).trans r5
 refine ⟨fun i hh=>∃ (k:Nat) (L:Txt),i=k∧k≤N∧Fr (fun b=>b=h2.size) h8 hh∧Own hh h2.size∧rd hh h2.size=L.map bv∧Ib n (recs.flatMap encR) k L,fun i _=>((N:Int) - i).toNat,⟨0,_,rfl,Nat.zero_le _,Fr.refl _ _,o8,r8,Ib.zero hn (by rw [lW]; exact hwr)⟩,?_⟩
 rintro i h16 ⟨k,L,ei,hk,f16,o16,r16,I⟩
 have z16:=f16.size
 have rg16:rd h16 h.size=(geoN n).v:=(f16.rd (by omega) (by omega)).trans rg8
 have lL:=I.im.len
 refine cd (fun hl=>⟨⟨by omega,hl⟩,edge n k,?_,?_⟩) fun hl=>?_
 ·have hk':k<N:=by omega
  refine rda ((f16.rd (by omega) (by omega)).trans ro8) ?_
  rw [List.getElem?_map,List.getElem?_eq_getElem (by rw [List.length_range]; omega),List.getElem_range]
  show some (Value.bool (lowU n N (0+i.toNat)))=_
  rw [show 0+i.toNat=k by omega]
  unfold lowU
  rw [decide_eq_true hk',Bool.true_and]
 ·have hk':k<N:=by omega
  rw [wrap_i64 (n:=i+1) (by omega) (by omega)]
  cases he:edge n k with
  | false=>exact cf rfl ⟨⟨k+1,L,by omega,hk',f16,o16,r16,I.miss he⟩,by show ((N:Int) - (i+1)).toNat<((N:Int) - i).toNat; omega⟩
  | true =>
   refine ct rfl ⟨fun v j hh=>∃ s:Nat,j=s∧s≤k % 8∧v=((2 ^ s:Nat):Int)∧hh=h16,fun _ j _=>(8 - j).toNat,⟨0,rfl,Nat.zero_le _,rfl,rfl⟩,?_⟩
   rintro v j h17 ⟨s,ej,hs,ev,rfl⟩
   rw [ei,tmod8,tdiv8]
   refine cd (fun hlt=>?_) fun hlt=>?_
   ·have h7:s<7:=by omega
    rw [wrap_i64 (n:=j+1) (by omega) (by omega),ev,pow_step ⟨s,h7⟩]
    exact ⟨⟨s+1,by omega,by omega,rfl,rfl⟩,by show (8 - (j+1)).toNat<(8 - j).toNat; omega⟩
   ·have es:s=k % 8:=by omega
    subst es
    have eidx:IntKind.wrap .i64 ((IntKind.wrap .i64 (((geoN n).bitmap:Int)*512))+(IntKind.wrap .i64 ((k / 8:Nat):Int)))=((98*512+k / 8:Nat):Int):=by
     rw [wrap_i64 (n:=((geoN n).bitmap:Int)*512) (by omega) (by omega),wrap_i64 (n:=((k / 8:Nat):Int)) (by omega) (by omega),wrap_i64 (by omega) (by omega)]
     omega
    have hi2:98*512+k / 8<L.length:=by omega
    have c17:cellOf h17 (Addr.add ⟨h2.size,0,none⟩ (98*512+k / 8))=some (bv (L.getD (98*512+k / 8) 0)):=by
     refine rda r16 ?_
     rw [Nat.zero_add,List.getElem?_map,List.getD_eq_getElem?_getD,List.getElem?_eq_getElem hi2]; rfl
    refine ⟨((geoN n).bitmap:Int),rda rg16 rfl,((geoN n).bitmap:Int),rda rg16 rfl,?_⟩
    rw [eidx,Int.toNat_natCast]
    refine ⟨⟨by omega,by omega⟩,_,c17,⟨by omega,by omega⟩,Put.add o16 (by rw [r16,List.length_map]; omega) fun h18 d18=>?_⟩
    have hx:(L.getD (98*512+k / 8) 0).toNat<256:=UInt8.toNat_lt _
    have hb:(L.getD (98*512+k / 8) 0).toNat.testBit (k % 8)=false:=by
     have:=I.im.bits k (by omega)
     unfold bitAt at this
     rw [show (98*4096+k) / 8=98*512+k / 8 by omega,show (98*4096+k) % 8=k % 8 by omega] at this
     rw [this]; unfold lowU; rw [decide_eq_false (by omega)]; rfl
    have ob:IntKind.wrap .u8 (((L.getD (98*512+k / 8) 0).toNat:Int)+v)=(setB (L.getD (98*512+k / 8) 0).toNat (k % 8) true:Nat):=by
     rw [ev]; exact bit_add ⟨_,hx⟩ ⟨k % 8,by omega⟩ hb
    have ex:(.int .u8 ((setB (L.getD (98*512+k / 8) 0).toNat (k % 8) true:Nat):Int):Value)=bv (UInt8.ofNat (setB (L.getD (98*512+k / 8) 0).toNat (k % 8) true)):=by
     show _=Value.int .u8 _
     rw [UInt8.toNat_ofNat_of_lt' (setB_lt' hx (by omega) true)]
    refine ⟨⟨k+1,putBit L (98*4096+k) true,by omega,hk',f16.trans d18.fr fun _ _ e=>e,d18.own,?_,I.hit hn (by omega) he⟩,by show ((N:Int) - ((k:Int)+1)).toNat<((N:Int) - (k:Int)).toNat; omega⟩
    rw [d18.rd,r16,ob,ex,← List.map_set,Nat.zero_add]
    unfold putBit
    rw [show (98*4096+k) / 8=98*512+k / 8 by omega,show (98*4096+k) % 8=k % 8 by omega]
 ·have ek:N=k:=by omega
  subst ek
  exact hK h2.size L h16 (F8.trans f16 fun b hb y=>by omega) I o16 (by omega) r16
end Go.Proofs.YtcdpakjhjmchhaaGreatDoor.Fi
namespace Go.Proofs.YtcdpakjhjmchhaaGreatDoor.Fi
open Go Go.Proofs Wx Hp W Ad Tm Bt Spc Re Av
open Hd (ints)
open In (Glo ints_length ints_one mayR decA encR encR_length decOk getR_enc wordOk kindOk)
open Ino (getM putM Cok getM_length rblk rat)
open Bm (findM cutM addM allM num num4 nS Wf Tight path find_ok frees_many many Im edge Z0 fresh_av rowN tabN allS_ok tabs_eq Dom rowN_fst mem_rowN)
def bytesOf (Z:Nat→Txt) (R:List Int) (off m:Nat):Txt:=(List.range m).map fun i=>byteAt Z R (off+i)
theorem Fs.read {n i j off m:Nat} {Z:Nat→Txt} {T:TM} {R S:List Int} (f:Fs n Z T i R j S) (d:Dim n):readM T (geoN n) i off m=(bytesOf Z R off (min (m:Int) (R.getD 2 0 - off)).toNat,0):=by
 obtain ⟨_,_,q2,q3⟩:=f.fi
 unfold readM
 rw [if_neg (by omega),f.get d,if_neg (fun y=>y rfl)]
 show (if (off:Int)≥R.getD 2 0 then (([]:Txt),(0:Int)) else readGo T (geoN n) R ((off:Int)).toNat (min (m:Int) (R.getD 2 0 - off)).toNat (min (m:Int) (R.getD 2 0 - off)).toNat 0 [])=_
 by_cases h:(off:Int)≥R.getD 2 0
 ·rw [if_pos h,show (min (m:Int) (R.getD 2 0 - off)).toNat=0 by omega]; rfl
 ·rw [if_neg h,Int.toNat_natCast]
  exact readGo_ok f.av f.w (by omega) _ 0 [] (by omega) (Nat.zero_le _) rfl
theorem dom_row (f:Nat→Nat):Dom f (rowN f 0 16522):=by
 refine ⟨rowN_fst 16522 0,fun p hp=>?_,fun k hk=>?_⟩
 ·obtain ⟨x,_,h2,_,rfl⟩:=(mem_rowN 16522 0).mp hp
  exact ⟨by show (0:Int)≤(x:Int); omega,by show (x:Int)<16522; omega⟩
 ·rw [List.mem_map]
  constructor
  ·rintro ⟨p,hp,e⟩
   obtain ⟨x,_,h2,h3,rfl⟩:=(mem_rowN 16522 0).mp hp
   have e:(x:Int)=(k:Int):=e
   have:x=k:=by omega
   rw [← this]; exact h3
  ·intro h
   exact ⟨_,(mem_rowN 16522 0).mpr ⟨k,Nat.zero_le _,by omega,h,rfl⟩,rfl⟩
theorem all_len {n:Nat} {Z:Nat→Txt} {R:List Int} {T:TM} (a:Av n Z T) (w:Wf n Z R):(allM T (geoN n) R).2.2=0∧(allM T (geoN n) R).1.length+(allM T (geoN n) R).2.1.length=many Z R:=by
 have e:=allS_ok a w
 rw [tabs_eq] at e
 rw [e]
 exact ⟨rfl,(dom_row (num Z R)).split.symm⟩
theorem cnt_le' (p:Nat→Bool):∀ m,cnt p m≤m
 | 0=>Nat.le_refl _
 | m+1=>by
  have:=cnt_le' p m
  show cnt p m+(if p m=true then 1 else 0)≤m+1
  split <;> omega
theorem many_le (Z:Nat→Txt) (R:List Int):many Z R≤16652:=cnt_le' _ _
theorem Fs.blocks {n i j:Nat} {Z:Nat→Txt} {T:TM} {R S:List Int} (f:Fs n Z T i R j S) (d:Dim n):blocksM T (geoN n) i=(((many Z R:Nat):Int),0):=by
 obtain ⟨e1,e2⟩:=all_len f.av f.w
 unfold blocksM
 rw [f.get d,if_neg (fun y=>y rfl),if_neg (fun y=>y e1),← e2]
 refine Prod.ext ?_ rfl
 show ((allM T (geoN n) R).1.length:Int)+((allM T (geoN n) R).2.1.length:Int)=(((allM T (geoN n) R).1.length+(allM T (geoN n) R).2.1.length:Nat):Int)
 omega
def dirR : List Int:=[2,2,0,0,0,0,0,0,0,0,0,0,0,0,0]
def filR : List Int:=[1,1,0,0,0,0,0,0,0,0,0,0,0,0,0]
def recs0 : List (List Int):=[dirR,filR,filR]
theorem getD_putU {Z W:Txt} {o:Nat} (h:o+W.length≤Z.length) (p:Nat):(putU Z o W).getD p 0=if o≤p∧p<o+W.length then W.getD (p - o) 0 else Z.getD p 0:=by
 have lo:(Z.take o).length=o:=by rw [List.length_take]; omega
 unfold putU
 rw [List.getD_eq_getElem?_getD,List.append_assoc]
 by_cases h1:p<o
 ·rw [List.getElem?_append_left (by omega),List.getElem?_take_of_lt h1,if_neg (by omega),List.getD_eq_getElem?_getD]
 ·rw [List.getElem?_append_right (by omega),lo]
  by_cases h2:p - o<W.length
  ·rw [List.getElem?_append_left h2,if_pos (by omega),List.getD_eq_getElem?_getD]
  ·rw [List.getElem?_append_right (by omega),List.getElem?_drop,if_neg (by omega),List.getD_eq_getElem?_getD,show o+W.length+(p - o - W.length)=p by omega]
theorem slice0 {n k:Nat} {L:Txt} (d:Dim n) (hL:L.length=512*n) (h:k<(geoN n).count):((Z0 L (blkZ n k)).drop (64*(k % 8))).take 64=(List.range 64).map fun p=>L.getD (512*(geoN n).inodes+64*k+p) 0:=by
 have r:=blkZ_rng d h
 unfold Z0
 refine List.ext_getElem ?_ fun p h1 h2=>?_
 ·rw [List.length_take,List.length_drop,List.length_take,List.length_drop,hL,List.length_map,List.length_range]; omega
 ·rw [List.length_map,List.length_range] at h2
  rw [List.getElem_map,List.getElem_range,List.getElem_take,List.getElem_drop,List.getElem_take,List.getElem_drop]
  have e:blkZ n k*512+(64*(k % 8)+p)=512*(geoN n).inodes+64*k+p:=by unfold blkZ; omega
  rw [← e,List.getD_eq_getElem?_getD,List.getElem?_eq_getElem (by omega)]; rfl
theorem recZ0 {n k:Nat} {L:Txt} (d:Dim n) (hn:n<4428) (I:Ib n (recs0.flatMap encR) (4096*((geoN n).inodes - 98)) L) (h1:1≤k) (h:k<(geoN n).count):recZ n (Z0 L) k=if k=1 then (dirR,0) else if k≤3 then (filR,0) else (List.replicate 15 0,0):=by
 have hL:=I.im.len
 have hlo:=d.lo
 have hino:(geoN n).inodes=98+(n+4095) / 4096:=rfl
 have hc:(geoN n).count=8*(n / 64):=rfl
 have lW:(recs0.flatMap encR).length=192:=rfl
 have e:((Z0 L (blkZ n k)).drop (64*(k % 8))).take 64=(List.range 64).map fun p=>if 64≤64*k+p∧64*k+p<256 then (recs0.flatMap encR).getD (64*k+p - 64) 0 else 0:=by
  rw [slice0 d hL h]
  refine List.map_congr_left fun p hp=>?_
  rw [I.rest _ (by omega),getD_putU (by rw [lW,List.length_replicate]; omega),lW]
  by_cases hx:64≤64*k+p∧64*k+p<256
  ·rw [if_pos (by omega),if_pos hx]; congr 1; omega
  ·rw [if_neg (by omega),if_neg hx,List.getD_eq_getElem?_getD,List.getElem?_replicate]
   split <;> rfl
 unfold recZ
 rw [e]
 by_cases k1:k=1
 ·subst k1; rw [if_pos rfl]; decide +kernel
 ·rw [if_neg k1]
  by_cases k2:k=2
  ·subst k2; rw [if_pos (by decide)]; decide +kernel
  ·by_cases k3:k=3
   ·subst k3; rw [if_pos (by decide)]; decide +kernel
   ·rw [if_neg (by omega)]
    have:(List.range 64).map (fun p=>if 64≤64*k+p∧64*k+p<256 then (recs0.flatMap encR).getD (64*k+p - 64) 0 else 0)=List.replicate 64 0:=by
     refine List.ext_getElem (by simp) fun p h1 h2=>?_
     rw [List.getElem_map,List.getElem_range,List.getElem_replicate,if_neg (by omega)]
    rw [this]; decide +kernel
end Go.Proofs.YtcdpakjhjmchhaaGreatDoor.Fi
namespace Go.Proofs.YtcdpakjhjmchhaaGreatDoor.Fi
open Go Go.Proofs Wx Hp W Ad Tm Bt Spc Re Av
open Hd (ints)
open In (Glo ints_length ints_one mayR decA encR encR_length decOk getR_enc z15 wordOk kindOk)
open Ino (getM putM Cok getM_length rblk rat)
open Bm (findM cutM addM allM num num4 nS Wf Tight path Added Cutd find_ok add_ok cut_ok num_congr path_self path_chain chain_nS path_data miss_zero frees_many many miss par walkA_ok root write_un addM_un cutM_un Dk dk_data wOf KsOk)
structure Fp (n:Nat) (Z:Nat→Txt) (T:TM) (i:Nat) (R:List Int) (j:Nat) (S:List Int):Prop where
 av:Av n Z T
 w:Wf n Z R
 w':Wf n Z S
 tg:Tight Z R
 tg':Tight Z S
 dis:∀ s s',s<nS→s'<nS→num Z R s≠0→num Z R s≠num Z S s'
 gj:recZ n Z j=(S,0)
 fj:FileR S
 ri:1≤i∧i<(geoN n).count
 rj:1≤j∧j<(geoN n).count
 ij:i≠j
 tot:frees n Z+many Z R+many Z S+(geoN n).data=n
theorem Fs.p {n i j:Nat} {Z:Nat→Txt} {T:TM} {R S:List Int} (f:Fs n Z T i R j S):Fp n Z T i R j S :=
 ⟨f.av,f.w,f.w',f.tg,f.tg',f.dis,f.gj,f.fj,f.ri,f.rj,f.ij,f.tot⟩
theorem Fp.data {n i j k:Nat} {Z:Nat→Txt} {T:TM} {R S:List Int} (d:Dim n) (f:Fp n Z T i R j S) (hk:k<16522) (h0:num Z R k≠0) {bs:Txt} (hl:bs.length=512) :
  ((T.write (num Z R k:Nat) bs).2=0∧Fp n (up Z (num Z R k) bs) (T.write (num Z R k:Nat) bs).1 i R j S∧(∀ x,x<nS→num (up Z (num Z R k) bs) R x=num Z R x)∧(∀ x,x<nS→num (up Z (num Z R k) bs) S x=num Z S x) ∧
   (∀ x,x<16522→pc (up Z (num Z R k) bs) R x=if x=k then bs else pc Z R x)∧∀ x,x<16522→pc (up Z (num Z R k) bs) S x=pc Z S x) ∨
  (T.write (num Z R k:Nat) bs=(T,60)∧96≤(ks T).length):=by
 have hkn:k<nS:=by unfold nS; omega
 have r:=f.w.rng k hkn h0
 have hd:=d.data
 rcases f.av.write_full (i:=num Z R k) (by omega) r.2.1 hl with hw|⟨hw,h96,_⟩
 ·left
  have N:=num_up (bs:=bs) f.w hk h0
  have oz:∀ s,s<nS→num Z S s≠0→up Z (num Z R k) bs (num Z S s)=Z (num Z S s):=fun s hs h=>up_ne _ _ fun e=>f.dis k s hkn hs h0 e.symm
  have NS:=num_same oz
  have eb:∀ x,x<n→bit (up Z (num Z R k) bs) x=bit Z x:=fun x hx=>bit_data d r.1 hx
  refine ⟨hw,⟨f.av.write (by omega) r.2.1 hl hw,Wf.up d f.w hk h0,Wf.alike f.w' f.w'.rl f.w'.rr NS fun x hx h=>by rw [eb x hx]; exact h,tight_alike f.tg N,tight_alike f.tg' NS,fun s s' hs hs' h=>?_,?_,f.fj,f.ri,f.rj,f.ij,?_⟩,N,NS,fun x hx=>pc_up f.w hk h0 hx,fun x hx=>pc_same oz hx⟩
  ·rw [N s hs] at h ⊢; rw [NS s' hs']; exact f.dis s s' hs hs' h
  ·have rb:=blkZ_rng d f.rj.2
   have:recZ n (up Z (num Z R k) bs) j=recZ n Z j:=by unfold recZ; rw [up_ne _ _ (by omega)]
   rw [this]; exact f.gj
  ·rw [frees_alike eb,many_alike N,many_alike NS]; exact f.tot
 ·exact .inr ⟨hw,h96⟩
theorem Fp.recd {n i j:Nat} {Z:Nat→Txt} {T:TM} {R S:List Int} {v:Int} (d:Dim n) (f:Fp n Z T i R j S) (hF:FileR (R.set 2 v)) :
  (∃ Z' T',putM T (geoN n) i (R.set 2 v)=(T',0)∧Fs n Z' T' i (R.set 2 v) j S∧(∀ x,x<nS→num Z' (R.set 2 v) x=num Z R x)∧(∀ x,x<nS→num Z' S x=num Z S x) ∧
   (∀ x,x<16522→pc Z' (R.set 2 v) x=pc Z R x)∧(∀ x,x<16522→pc Z' S x=pc Z S x)∧(∀ T0,Ext T0 T→Ext T0 T')∧T'.undo.length≤T.undo.length+1∧(ks T').length≤(ks T).length+1) ∨
  (putM T (geoN n) i (R.set 2 v)=(T,60)∧96≤(ks T).length):=by
 have rb:=blkZ_rng d f.ri.2
 have hd:=d.data
 have gn:∀ x,x≠2→(R.set 2 v).getD x 0=R.getD x 0:=fun x hx=>by
  rw [List.getD_eq_getElem?_getD,List.getElem?_set_ne (by omega),← List.getD_eq_getElem?_getD]
 generalize hR3:R.set 2 v=R3 at hF gn ⊢
 have l3:R3.length=15:=by rw [← hR3,List.length_set,f.w.rl]
 have N3:∀ Zx x,x<nS→num Zx R3 x=num Zx R x:=fun Zx x hx=>by rw [← hR3]; exact num_size x hx
 have w3:Wf n Z R3:=Wf.alike f.w l3 (fun x hx _=>by rw [gn x (by omega)]; exact f.w.rr x hx (by omega)) (N3 Z) fun _ _ h=>h
 have m3:mayR R3=true:=mayR_file d w3 hF.1 hF.2.1 hF.2.2
 have ep:=putM_at f.av d f.ri.1 f.ri.2 m3
 have lz:=f.av.len _ rb.2.2.1
 have lp:(putU (Z (blkZ n i)) (64*(i % 8)) (encR R3)).length=512:=by rw [putU_length (by rw [encR_length l3]; omega),lz]
 rcases f.av.write_full rb.2.2.2 rb.2.2.1 lp with hw|⟨hw,h96,hni⟩
 ·left
  have av3:=f.av.write rb.2.2.2 rb.2.2.1 lp hw
  have kw:=(write_len hw).1
  have rp:=fun k=>recZ_put (n:=n) (i:=i) (k:=k) (Z:=Z) l3 m3 lz
  have wu:=write_un T ((blkZ n i:Nat):Int) (putU (Z (blkZ n i)) (64*(i % 8)) (encR R3))
  have ee:∀ T0,Ext T0 T→Ext T0 (T.write ((blkZ n i:Nat):Int) (putU (Z (blkZ n i)) (64*(i % 8)) (encR R3))).1:=fun T0 x=>x.write _ _
  generalize hbs:putU (Z (blkZ n i)) (64*(i % 8)) (encR R3)=bs at ep hw av3 kw rp wu ee
  have bl:∀ x,x<n→bit (up Z (blkZ n i) bs) x=bit Z x:=fun x hx=>bit_low d rb.1 hx
  have NR:∀ x,x<nS→num (up Z (blkZ n i) bs) R3 x=num Z R x:=fun x hx=>(num_low w3 rb.2.1 x hx).trans (N3 Z x hx)
  have NS:∀ x,x<nS→num (up Z (blkZ n i) bs) S x=num Z S x:=num_low f.w' rb.2.1
  refine ⟨up Z (blkZ n i) bs,(T.write ((blkZ n i:Nat):Int) bs).1,?_,⟨av3,Wf.alike w3 l3 w3.rr (num_low w3 rb.2.1) (fun x hx h=>by rw [bl x hx]; exact h),Wf.alike f.w' f.w'.rl f.w'.rr NS (fun x hx h=>by rw [bl x hx]; exact h),
   tight_alike f.tg NR,tight_alike f.tg' NS,fun x x' hx hx' h=>?_,?_,?_,hF,f.fj,f.ri,f.rj,f.ij,?_⟩,NR,NS,fun x hx=>?_,fun x hx=>pc_low f.w' rb.2.1 hx,ee,wu,kw⟩
  ·rw [ep]; exact Prod.ext rfl hw
  ·rw [NR x hx] at h ⊢
   rw [NS x' hx']
   exact f.dis x x' hx hx' h
  ·rw [rp i,if_pos rfl]
  ·rw [rp j,if_neg (fun e=>f.ij e.symm)]; exact f.gj
  ·rw [frees_alike bl,many_alike NR,many_alike NS]; exact f.tot
  ·rw [pc_low w3 rb.2.1 hx,← hR3,pc_size hx]
 ·exact .inr ⟨by rw [ep,hw],h96⟩
theorem Fp.cut {n i j k:Nat} {Z Z1:Nat→Txt} {T T1:TM} {R R1 S:List Int} (d:Dim n) (f:Fp n Z T i R j S) (a1:Av n Z1 T1) (c:Cutd n k Z R Z1 R1) :
  Fp n Z1 T1 i R1 j S∧(∀ x,x<nS→num Z1 S x=num Z S x)∧(∀ x,x<16522→pc Z1 S x=pc Z S x)∧(∀ x,x<16522→num Z1 R1 x=if k≤x then 0 else num Z R x)∧(∀ x,x<16522→pc Z1 R1 x=if k≤x then zeros else pc Z R x):=by
 have hd:=d.data
 have hin:(geoN n).inodes≤(geoN n).data:=Nat.le_add_right _ _
 have oz:∀ s,s<nS→num Z S s≠0→Z1 (num Z S s)=Z (num Z S s):=fun s hs h=>by
  have r:=f.w'.rng s hs h
  exact c.cont _ r.2.1 (by omega) fun q _ hq h0 e=>f.dis q s hq hs h0 e.symm
 have NS:=num_same oz
 have nk:∀ s,s<nS→num Z1 R1 s≠0→num Z1 R1 s=num Z R s:=fun s hs h=>by
  by_cases hx:Dk Z R k s
  ·exact absurd (c.gone s hs hx) h
  ·exact c.kept s hs hx
 have bS:∀ s,s<nS→num Z S s≠0→bit Z1 (num Z S s)=true:=fun s hs h=>by
  have r:=f.w'.rng s hs h
  have m:=d.map r.2.1
  exact (c.bits _ m.2.1).mpr ⟨r.2.2,fun q hq _ h0=>f.dis q s hq hs h0⟩
 have ND:∀ x,x<16522→num Z1 R1 x=if k≤x then 0 else num Z R x:=fun x hx=>by
  have hxn:x<nS:=by unfold nS; omega
  by_cases h:k≤x
  ·rw [if_pos h]; exact c.gone x hxn ((dk_data hx).mpr h)
  ·rw [if_neg h]; exact c.kept x hxn fun y=>h ((dk_data hx).mp y)
 have ft:=f.tot
 have tt:=c.frees d f.w
 refine ⟨⟨a1,c.w,⟨f.w'.rl,f.w'.rr,fun s hs h=>?_,fun s s' hs hs' h e=>?_⟩,c.tg,tight_alike f.tg' NS,fun s s' hs hs' h=>?_,?_,f.fj,f.ri,f.rj,f.ij,?_⟩,NS,fun x hx=>pc_same oz hx,ND,fun x hx=>?_⟩
 ·rw [NS s hs] at h ⊢
  have r:=f.w'.rng s hs h
  exact ⟨r.1,r.2.1,bS s hs h⟩
 ·rw [NS s hs] at h e
  rw [NS s' hs'] at e
  exact f.w'.inj s s' hs hs' h e
 ·have e:=nk s hs h
  rw [e] at h ⊢
  rw [NS s' hs']
  exact f.dis s s' hs hs' h
 ·have rb:=blkZ_rng d f.rj.2
  have:recZ n Z1 j=recZ n Z j:=by
   unfold recZ
   rw [c.cont _ rb.2.2.1 rb.1 fun q _ hq h0 e=>by have:=(f.w.rng q hq h0).1; omega]
  rw [this]; exact f.gj
 ·rw [many_alike NS]; omega
 ·have hxn:x<nS:=by unfold nS; omega
  unfold pc
  rw [ND x hx]
  by_cases h:k≤x
  ·rw [if_pos h,if_pos rfl,if_pos h]
  ·rw [if_neg h,if_neg h]
   split
   ·rfl
   ·rename_i h0
    have r:=f.w.rng x hxn h0
    exact c.cont _ r.2.1 (by omega) fun q hq1 hq h e=>by
     have:=f.w.inj x q hxn hq h0 e
     omega
theorem zf_get (b:Txt) (r:Nat):∀ (m p:Nat),r+m≤b.length→(zf b r m).getD p 0=if r≤p∧p<r+m then 0 else b.getD p 0
 | 0,p,_=>by rw [if_neg (by omega)]; rfl
 | m+1,p,h=>by
  have ih:=zf_get b r m p (by omega)
  show ((zf b r m).set (r+m) 0).getD p 0=_
  rw [List.getD_eq_getElem?_getD,List.getElem?_set]
  by_cases e:r+m=p
  ·rw [if_pos e,if_pos (by rw [zf_length]; omega),if_pos (by omega)]; rfl
  ·rw [if_neg e,← List.getD_eq_getElem?_getD,ih]
   by_cases c:r≤p∧p<r+m
   ·rw [if_pos c,if_pos (by omega)]
   ·rw [if_neg c,if_neg (by omega)]
theorem Fp.wipe {n i j sz:Nat} {Z:Nat→Txt} {T:TM} {R S:List Int} (d:Dim n) (f:Fp n Z T i R j S) (hs:sz≤8459264) :
  (∃ Z' T',wipeM T (geoN n) R sz=(T',0)∧Fp n Z' T' i R j S∧(∀ x,x<nS→num Z' R x=num Z R x)∧(∀ x,x<nS→num Z' S x=num Z S x) ∧
   (∀ x p,x<16522→p<512→(pc Z' R x).getD p 0=if x=sz / 512∧sz % 512≠0∧sz % 512≤p then 0 else (pc Z R x).getD p 0)∧(∀ x,x<16522→pc Z' S x=pc Z S x)∧(∀ T0,Ext T0 T→Ext T0 T')∧T'.undo.length≤T.undo.length+1∧(ks T').length≤(ks T).length+1) ∨
  (wipeM T (geoN n) R sz=(T,60)∧96≤(ks T).length):=by
 have same:∀ (_:wipeM T (geoN n) R sz=(T,0)) (_:∀ x p,x<16522→p<512→x=sz / 512∧sz % 512≠0∧sz % 512≤p→(pc Z R x).getD p 0=0),(∃ Z' T',wipeM T (geoN n) R sz=(T',0)∧Fp n Z' T' i R j S∧(∀ x,x<nS→num Z' R x=num Z R x)∧(∀ x,x<nS→num Z' S x=num Z S x) ∧
   (∀ x p,x<16522→p<512→(pc Z' R x).getD p 0=if x=sz / 512∧sz % 512≠0∧sz % 512≤p then 0 else (pc Z R x).getD p 0)∧(∀ x,x<16522→pc Z' S x=pc Z S x)∧(∀ T0,Ext T0 T→Ext T0 T')∧T'.undo.length≤T.undo.length+1∧(ks T').length≤(ks T).length+1) ∨
  (wipeM T (geoN n) R sz=(T,60)∧96≤(ks T).length):=fun e h =>
  .inl ⟨Z,T,e,f,fun _ _=>rfl,fun _ _=>rfl,fun x p hx hp=>by
   by_cases c:x=sz / 512∧sz % 512≠0∧sz % 512≤p
   ·rw [if_pos c]; exact h x p hx hp c
   ·rw [if_neg c],fun _ _=>rfl,fun _ x=>x,Nat.le_add_right _ _,Nat.le_add_right _ _⟩
 have e1:(sz:Int) / 512=((sz / 512:Nat):Int):=rfl
 have e2:(sz:Int) % 512=((sz % 512:Nat):Int):=rfl
 by_cases hz:sz % 512=0
 ·exact same (by unfold wipeM; rw [if_pos (by omega)]) fun x p _ _ c=>absurd hz c.2.1
 have hk:sz / 512<16522:=by omega
 have ef:=find_ok f.av f.w hk
 by_cases h0:num Z R (sz / 512)=0
 ·refine same ?_ fun x p _ _ c=>?_
  ·unfold wipeM
   rw [if_neg (by omega),e1,ef,if_neg (fun y=>y rfl),if_pos (by show ((num Z R (sz / 512):Nat):Int)=0; omega)]
  ·rw [c.1]
   unfold pc
   rw [if_pos h0,List.getD_eq_getElem?_getD,zeros,List.getElem?_replicate]
   split <;> rfl
 ·have hkn:sz / 512<nS:=by unfold nS; omega
  have r:=f.w.rng _ hkn h0
  have er:=f.av.z _ r.2.1
  have lz:=f.av.len _ r.2.1
  have ew:wipeM T (geoN n) R sz=T.write (num Z R (sz / 512):Nat) (zf (Z (num Z R (sz / 512))) (sz % 512) (512 - sz % 512)):=by
   unfold wipeM
   rw [if_neg (by omega),e1,ef,if_neg (fun y=>y rfl),if_neg (by show ¬ ((num Z R (sz / 512):Nat):Int)=0; omega)]
   show (if (T.read (num Z R (sz / 512):Nat)).2≠0 then _ else _)=_
   rw [er,if_neg (fun y=>y rfl),e2,Int.toNat_natCast]
  rw [ew]
  have pe:pc Z R (sz / 512)=Z (num Z R (sz / 512)):=by unfold pc; rw [if_neg h0]
  rcases f.data d hk h0 (bs:=zf (Z (num Z R (sz / 512))) (sz % 512) (512 - sz % 512)) (by rw [zf_length,lz]) with ⟨hw,f2,N,NS,P,PS⟩|h
  ·refine .inl ⟨_,_,Prod.ext rfl hw,f2,N,NS,fun x p hx hp=>?_,PS,fun T0 x=>x.write _ _,write_un _ _ _,(write_len hw).1⟩
   rw [P x hx]
   by_cases e:x=sz / 512
   ·rw [if_pos e,zf_get _ _ _ _ (by omega),e,pe]
    by_cases c:sz % 512≤p
    ·rw [if_pos (by omega),if_pos ⟨rfl,hz,c⟩]
    ·rw [if_neg (by omega),if_neg (fun y=>c y.2.2)]
   ·rw [if_neg e,if_neg (fun y=>e y.1)]
  ·exact .inr h
structure Kut (n:Nat) (Z:Nat→Txt) (T:TM) (i:Nat) (R:List Int) (j:Nat) (S:List Int) (sz:Nat) (Z':Nat→Txt) (T':TM) (R':List Int):Prop where
 fs:Fs n Z' T' i R' j S
 size:R'.getD 2 0=(sz:Int)
 byt:∀ q,q<8459264→byteAt Z' R' q=if q<sz then byteAt Z R q else 0
 dom:∀ x,x<16522→(num Z' R' x≠0↔num Z R x≠0∧512*x<sz)
 oth:∀ x,x<nS→num Z' S x=num Z S x
 opc:∀ k,k<16522→pc Z' S k=pc Z S k
 un:T'.undo.length≤T.undo.length+100000
 kl:(ks T').length≤(ks T).length+9
structure Ends (Z:Nat→Txt) (R:List Int):Prop where
 pcs:∀ x,x<16522→num Z R x≠0→(512*x:Int)<R.getD 2 0
 byt:∀ q:Nat,q<8459264→R.getD 2 0≤q→byteAt Z R q=0
theorem Kut.ends {n i j sz:Nat} {Z Z':Nat→Txt} {T T':TM} {R R' S:List Int} (k:Kut n Z T i R j S sz Z' T' R'):Ends Z' R' :=
 ⟨fun x hx h=>by rw [k.size]; have:=((k.dom x hx).mp h).2; omega,fun q hq h=>by rw [k.size] at h; rw [k.byt q hq,if_neg (by omega)]⟩
theorem Wrote.ends {n i j off:Nat} {Z Z':Nat→Txt} {T T':TM} {R R' S:List Int} {s:Txt} (W:Wrote n Z T i R j S off s Z' T' R') (E:Ends Z R):Ends Z' R':=by
 refine ⟨fun x hx h=>?_,fun q hq h=>?_⟩
 ·rw [W.size]
  rcases (W.dom x (by unfold nS; omega)).mp h with h|⟨b,hb,h⟩
  ·have:=E.pcs x hx h; omega
  ·have:=path_data h hx
   omega
 ·rw [W.size] at h
  rw [W.byt q hq,if_neg (by omega)]
  exact E.byt q hq (by omega)
theorem cutF_ok {n i j sz:Nat} {Z:Nat→Txt} {T:TM} {R S:List Int} (d:Dim n) (f:Fs n Z T i R j S) (E:Ends Z R) (hs:sz≤8459264) :
  (∃ Z' T' R',cutF T (geoN n) i sz=(T',0)∧Kut n Z T i R j S sz Z' T' R')∨(cutF T (geoN n) i sz=(T,60)∧96≤(ks T).length+9):=by
 have hm:T.mark.1=(T.undo.length:Int):=by unfold TM.mark; rw [f.av.live]; rfl
 obtain ⟨q0,q1,q2,q3⟩:=f.fi
 have rl:=f.w.rl
 by_cases hsz:(sz:Int)=R.getD 2 0
 ·refine .inl ⟨Z,T,R,?_,f,hsz.symm,fun q hq=>?_,fun x hx=>⟨fun h=>⟨h,?_⟩,fun h=>h.1⟩,fun _ _=>rfl,fun _ _=>rfl,Nat.le_add_right _ _,Nat.le_add_right _ _⟩
  ·unfold cutF
   rw [if_neg (by omega),f.get d,if_neg (fun y=>y rfl),if_neg (by omega),if_pos hsz]
  ·by_cases h:q<sz
   ·rw [if_pos h]
   ·rw [if_neg h]; exact E.byt q hq (by omega)
  ·have:=E.pcs x hx h; omega
 have e0:cutF T (geoN n) i sz=undoM T (cutB T (geoN n) i R sz):=by
  unfold cutF
  rw [if_neg (by omega),f.get d,if_neg (fun y=>y rfl),if_neg (by omega),if_neg hsz]
 rw [e0]
 have un:∀ T' e,e≠0→cutB T (geoN n) i R sz=(T',e)→Ext T T'→undoM T (cutB T (geoN n) i R sz)=(T,e):=fun T' e he hb x=>by
  rw [hb]
  unfold undoM
  rw [if_pos he,hm,x.back f.av.live]
 have ok:∀ T',cutB T (geoN n) i R sz=(T',0)→undoM T (cutB T (geoN n) i R sz)=(T',0):=fun T' hb=>by
  rw [hb]; exact if_neg (fun y=>y rfl)
 have gs:∀ {R1:List Int},R1.length=15→(R1.set 2 (sz:Int)).getD 2 0=(sz:Int):=fun {R1} h=>by
  rw [List.getD_eq_getElem?_getD,List.getElem?_set_self (by omega)]; rfl
 have gF:∀ {R1:List Int},R1.length=15→R1.getD 0 0=R.getD 0 0→R1.getD 1 0=R.getD 1 0→FileR (R1.set 2 (sz:Int)):=fun {R1} h a b=>by
  refine ⟨?_,?_,by rw [gs h]; omega,by rw [gs h]; omega⟩
  ·rw [List.getD_eq_getElem?_getD,List.getElem?_set_ne (by decide),← List.getD_eq_getElem?_getD,a,q0]
  ·rw [List.getD_eq_getElem?_getD,List.getElem?_set_ne (by decide),← List.getD_eq_getElem?_getD,b]; exact q1
 by_cases hlt:(sz:Int)<R.getD 2 0
 ·-- shorter
  have ek:((sz:Int)+511) / 512=(((sz+511) / 512:Nat):Int):=rfl
  have hk:(sz+511) / 512≤16522:=by omega
  have uc:=cutM_un (T:=T) (g:=geoN n) (R:=R) (k:=(((sz+511) / 512:Nat):Int))
  rcases cut_ok (k:=(sz+511) / 512) d f.av f.w f.tg hk with ⟨ec,h96,_⟩|⟨T1,R1,Z1,ec,a1,c,x1,k1,_⟩
  ·refine .inr ⟨un T 60 (by decide) ?_ (Ext.refl T),by omega⟩
   unfold cutB
   rw [if_pos hlt,ek,ec,if_pos (show (60:Int)≠0 by decide)]
  ·rw [ec] at uc
   obtain ⟨f1,NS1,PS1,ND1,PD1⟩:=f.p.cut d a1 c
   have kl:=k1.len a1.keys
   have kl:(ks T1).length≤(ks T).length+7:=kl
   have eB:cutB T (geoN n) i R sz=if (wipeM T1 (geoN n) R1 sz).2≠0 then wipeM T1 (geoN n) R1 sz else putM (wipeM T1 (geoN n) R1 sz).1 (geoN n) i (R1.set 2 sz):=by
    unfold cutB
    rw [if_pos hlt,ek,ec,if_neg (fun y=>y rfl)]
   rcases f1.wipe d hs with ⟨Z2,T2,ew,f2,NR2,NS2,P2,PS2,x2,u2,kl2⟩|⟨ew,h96⟩
   ·rw [ew,if_neg (fun y=>y rfl)] at eB
    have eB:cutB T (geoN n) i R sz=putM T2 (geoN n) i (R1.set 2 sz):=eB
    have l1:=c.w.rl
    rcases f2.recd (v:=(sz:Int)) d (gF l1 (c.head 0 (by decide)) (c.head 1 (by decide))) with ⟨Z3,T3,ep,f3,NR3,NS3,P3,PS3,x3,u3,kl3⟩|⟨ep,h96⟩
    ·left
     refine ⟨Z3,T3,_,ok _ (by rw [eB,ep]),f3,gs l1,fun q hq=>?_,fun x hx=>?_,fun x hx=>by rw [NS3 x hx,NS2 x hx,NS1 x hx],fun x hx=>by rw [PS3 x hx,PS2 x hx,PS1 x hx],?_,by omega⟩
     ·have hx:q / 512<16522:=by omega
      unfold byteAt
      rw [P3 _ hx,P2 _ _ hx (by omega),PD1 _ hx]
      by_cases h:q<sz
      ·rw [if_neg (by omega),if_neg (by omega),if_pos h]
      ·rw [if_neg h]
       by_cases c1:(sz+511) / 512≤q / 512
       ·rw [if_pos c1]
        split
        ·rfl
        ·rw [List.getD_eq_getElem?_getD,zeros,List.getElem?_replicate]
         split <;> rfl
       ·rw [if_pos (by omega)]
     ·have hxn:x<nS:=by unfold nS; omega
      rw [NR3 x hxn,NR2 x hxn,ND1 x hx]
      by_cases h:(sz+511) / 512≤x
      ·rw [if_pos h]; exact ⟨fun y=>absurd rfl y,fun y=>by omega⟩
      ·rw [if_neg h]; exact ⟨fun y=>⟨y,by omega⟩,fun y=>y.1⟩
     ·have uc:T1.undo.length≤_:=uc
      omega
    ·exact .inr ⟨un T2 60 (by decide) (by rw [eB,ep]) (x2 T x1),by omega⟩
   ·rw [ew,if_pos (show (60:Int)≠0 by decide)] at eB
    exact .inr ⟨un T1 60 (by decide) eB x1,by omega⟩
 ·-- longer
  have eB:cutB T (geoN n) i R sz=putM T (geoN n) i (R.set 2 sz):=by unfold cutB; rw [if_neg hlt]
  rcases f.p.recd (v:=(sz:Int)) d (gF rl rfl rfl) with ⟨Z3,T3,ep,f3,NR3,NS3,P3,PS3,x3,u3,kl3⟩|⟨ep,h96⟩
  ·left
   refine ⟨Z3,T3,_,ok _ (by rw [eB,ep]),f3,gs rl,fun q hq=>?_,fun x hx=>?_,NS3,PS3,by omega,by omega⟩
   ·unfold byteAt
    rw [P3 _ (by omega)]
    by_cases h:q<sz
    ·rw [if_pos h]
    ·rw [if_neg h]; exact E.byt q hq (by omega)
   ·rw [NR3 x (by unfold nS; omega)]
    exact ⟨fun y=>⟨y,by have:=E.pcs x hx y; omega⟩,fun y=>y.1⟩
  ·exact .inr ⟨un T 60 (by decide) (by rw [eB,ep]) (Ext.refl T),by omega⟩
end Go.Proofs.YtcdpakjhjmchhaaGreatDoor.Fi
namespace Go.Proofs.YtcdpakjhjmchhaaGreatDoor.Fi
open Go Go.Proofs Wx Hp W Ad Tm Bt Spc Re Av
open Bm (num nS Tight path many miss path_data path_self path_chain chain_nS miss_zero Dom TightF UpF tkeys up_f plusF plus_ne many_plus loS hiS)
abbrev Ps := List (Int×Txt)
def atP : Ps→Int→Txt
 | [],_=>zeros
 | p::r,k=>if p.1=k then p.2 else atP r k
def putP (ps:Ps) (k:Int) (s:Txt):Ps:=ps.filter (fun p=>decide (p.1≠k))++[(k,s)]
structure PlA (ps:Ps) (B:Nat→UInt8) (D:Nat→Prop):Prop where
 nd:(ps.map (·.1)).Nodup
 rng:∀ p ∈ ps,0≤p.1∧p.1<16522∧p.2.length=512
 dom:∀ k:Nat,k<16522→((k:Int) ∈ ps.map (·.1)↔D k)
 byt:∀ q,q<8459264→(atP ps ((q / 512:Nat):Int)).getD (q % 512) 0=B q
theorem PlA.nil {B:Nat→UInt8} {D:Nat→Prop} (hB:∀ q,q<8459264→B q=0) (hD:∀ k,k<16522→¬ D k):PlA [] B D :=
 ⟨List.nodup_nil,fun p hp=>(by cases hp),fun k hk=>⟨fun h=>(by cases h),fun h=>absurd h (hD k hk)⟩,fun q hq=>by
  rw [hB q hq]
  show zeros.getD _ 0=0
  rw [List.getD_eq_getElem?_getD,zeros,List.getElem?_replicate]
  split <;> rfl⟩
theorem PlA.congr {ps:Ps} {B B':Nat→UInt8} {D D':Nat→Prop} (a:PlA ps B D) (hB:∀ q,q<8459264→B' q=B q) (hD:∀ k,k<16522→(D' k↔D k)):PlA ps B' D' :=
 ⟨a.nd,a.rng,fun k hk=>(a.dom k hk).trans (hD k hk).symm,fun q hq=>(a.byt q hq).trans (hB q hq).symm⟩
theorem atP_len {ps:Ps} (h:∀ p ∈ ps,p.2.length=512) (k:Int):(atP ps k).length=512:=by
 induction ps with
 | nil=>exact List.length_replicate
 | cons p r ih =>
  unfold atP
  split
  ·exact h p (List.mem_cons_self ..)
  ·exact ih fun q hq=>h q (List.mem_cons_of_mem _ hq)
theorem atP_none {k:Int}:∀ {ps:Ps},k ∉ ps.map (·.1)→atP ps k=zeros
 | [],_=>rfl
 | p::r,h=>by
  rw [List.map_cons,List.mem_cons] at h
  unfold atP
  rw [if_neg fun e=>h (.inl e.symm)]
  exact atP_none fun y=>h (.inr y)
theorem atP_append (k:Int):∀ (ps qs:Ps),atP (ps++qs) k=if k ∈ ps.map (·.1) then atP ps k else atP qs k
 | [],qs=>by rw [if_neg (by simp)]; rfl
 | p::r,qs=>by
  show (if p.1=k then p.2 else atP (r++qs) k)=_
  rw [atP_append k r qs]
  by_cases h:p.1=k
  ·rw [if_pos h,if_pos (by rw [List.map_cons,h]; exact List.mem_cons_self ..)]
   exact (if_pos h).symm
  ·rw [if_neg h]
   have e:k ∈ (p::r).map (·.1)↔k ∈ r.map (·.1):=by rw [List.map_cons,List.mem_cons]; exact ⟨fun y=>y.resolve_left fun z=>h z.symm,.inr⟩
   have e2:atP (p::r) k=atP r k:=if_neg h
   rw [e2]
   by_cases c:k ∈ r.map (·.1)
   ·rw [if_pos c,if_pos (e.mpr c)]
   ·rw [if_neg c,if_neg fun y=>c (e.mp y)]
theorem atP_filter {j k:Int} (h:j≠k):∀ ps:Ps,atP (ps.filter fun p=>decide (p.1≠k)) j=atP ps j
 | []=>rfl
 | p::r=>by
  rw [List.filter_cons]
  by_cases e:p.1=k
  ·rw [if_neg (by simp [e]),atP_filter h r]
   exact (if_neg fun y=>h (y.symm.trans e)).symm
  ·rw [if_pos (decide_eq_true e)]
   show (if p.1=j then p.2 else _)=if p.1=j then p.2 else atP r j
   rw [atP_filter h r]
theorem keys_filter (ps:Ps) (k:Int):(ps.filter fun p=>decide (p.1≠k)).map (·.1)=(ps.map (·.1)).filter fun x=>decide (x≠k):=by
 rw [List.filter_map]; rfl
theorem atP_put (ps:Ps) (k:Int) (s:Txt) (j:Int):atP (putP ps k s) j=if j=k then s else atP ps j:=by
 unfold putP
 rw [atP_append,keys_filter]
 by_cases h:j=k
 ·rw [if_pos h,if_neg (by rw [List.mem_filter]; simp [h])]
  exact if_pos h.symm
 ·rw [if_neg h,atP_filter h]
  split
  ·rfl
  ·rename_i c
   have:j ∉ ps.map (·.1):=fun y=>c (List.mem_filter.mpr ⟨y,decide_eq_true h⟩)
   rw [atP_none this]
   exact if_neg fun y=>h y.symm
theorem keys_put (ps:Ps) (k:Int) (s:Txt) (j:Int):j ∈ (putP ps k s).map (·.1)↔j=k∨j ∈ ps.map (·.1):=by
 unfold putP
 rw [List.map_append,List.mem_append,keys_filter,List.mem_filter]
 constructor
 ·rintro (h|h)
  ·exact .inr h.1
  ·exact .inl (List.mem_singleton.mp h)
 ·rintro (h|h)
  ·exact .inr (List.mem_singleton.mpr h)
  ·by_cases e:j=k
   ·exact .inr (List.mem_singleton.mpr e)
   ·exact .inl ⟨h,decide_eq_true e⟩
theorem nodup_put {ps:Ps} (h:(ps.map (·.1)).Nodup) (k:Int) (s:Txt):((putP ps k s).map (·.1)).Nodup:=by
 unfold putP
 rw [List.map_append,keys_filter,List.nodup_append]
 refine ⟨h.filter _,by simp,fun a ha b hb=>?_⟩
 have:a≠k:=of_decide_eq_true (List.mem_filter.mp ha).2
 rw [List.mem_singleton.mp hb]; exact this
def newP (off a:Nat) (S old:Txt):Txt:=old.take ((off+a) % 512)++(S.drop a).take (toP off S.length a - (off+a) % 512)++old.drop (toP off S.length a)
def withGo (off:Nat) (S:Txt):Nat→Nat→Ps→Ps
 | 0,_,ps=>ps
 | k+1,a,ps=>if S.length≤a then ps else withGo off S k (nextA off S.length a) (putP ps ((off+a) / 512:Nat) (newP off a S (atP ps ((off+a) / 512:Nat))))
theorem newP_len {off a:Nat} {S old:Txt} (ha:a<S.length) (ho:old.length=512):(newP off a S old).length=512:=by
 obtain ⟨t1,t2⟩:=toP_gt (off:=off) ha
 unfold newP
 rw [List.length_append,List.length_append,List.length_take,List.length_take,List.length_drop,List.length_drop,ho]
 have:toP off S.length a≤(off+a) % 512+(S.length - a):=by unfold toP; omega
 omega
theorem newP_get {off a:Nat} {S old:Txt} (ha:a<S.length) (ho:old.length=512) {p:Nat} (_:p<512):(newP off a S old).getD p 0=if (off+a) % 512≤p∧p<toP off S.length a then S.getD (a+(p - (off+a) % 512)) 0 else old.getD p 0:=by
 obtain ⟨t1,t2⟩:=toP_gt (off:=off) ha
 have t3:toP off S.length a≤(off+a) % 512+(S.length - a):=by unfold toP; omega
 have lo:(old.take ((off+a) % 512)).length=(off+a) % 512:=by rw [List.length_take]; omega
 have ln:((S.drop a).take (toP off S.length a - (off+a) % 512)).length=toP off S.length a - (off+a) % 512:=by rw [List.length_take,List.length_drop]; omega
 unfold newP
 rw [List.getD_eq_getElem?_getD,List.append_assoc]
 by_cases h1:p<(off+a) % 512
 ·rw [List.getElem?_append_left (by omega),List.getElem?_take_of_lt h1,if_neg (by omega),List.getD_eq_getElem?_getD]
 ·rw [List.getElem?_append_right (by omega),lo]
  by_cases h2:p<toP off S.length a
  ·rw [List.getElem?_append_left (by omega),List.getElem?_take_of_lt (by omega),List.getElem?_drop,if_pos ⟨by omega,h2⟩,List.getD_eq_getElem?_getD]
  ·rw [List.getElem?_append_right (by omega),ln,List.getElem?_drop,if_neg (by omega),List.getD_eq_getElem?_getD]
   congr 2; omega
theorem PlA.withGo {off:Nat} {S:Txt} {B:Nat→UInt8} {D:Nat→Prop} (ho:off+S.length≤8459264):∀ (k a:Nat) (ps:Ps),S.length≤a+k→a≤S.length →
  PlA ps (fun q=>if off≤q∧q<off+a then S.getD (q - off) 0 else B q) (fun x=>D x∨∃ b,b<a∧x=(off+b) / 512) →
  PlA (withGo off S k a ps) (fun q=>if off≤q∧q<off+S.length then S.getD (q - off) 0 else B q) (fun x=>D x∨∃ b,b<S.length∧x=(off+b) / 512)
 | 0,a,ps,h1,h2,P=>by
  have:a=S.length:=by omega
  subst this; exact P
 | k+1,a,ps,h1,h2,P=>by
  unfold Fi.withGo
  by_cases hb:S.length≤a
  ·have:a=S.length:=by omega
   subst this
   rw [if_pos hb]; exact P
  have ha:a<S.length:=by omega
  rw [if_neg hb]
  obtain ⟨n1,n2⟩:=nextA_gt (off:=off) ha
  obtain ⟨t1,t2⟩:=toP_gt (off:=off) ha
  have hk:(off+a) / 512<16522:=by omega
  have lo:=atP_len (ps:=ps) (fun p hp=>(P.rng p hp).2.2) (((off+a) / 512:Nat):Int)
  refine PlA.withGo ho k _ _ (by omega) n2 ⟨nodup_put P.nd _ _,fun p hp=>?_,fun x hx=>?_,fun q hq=>?_⟩
  ·unfold putP at hp
   rcases List.mem_append.mp hp with hp|hp
   ·exact P.rng p (List.mem_filter.mp hp).1
   ·rw [List.mem_singleton.mp hp]
    exact ⟨by show (0:Int)≤(((off+a) / 512:Nat):Int); omega,by show (((off+a) / 512:Nat):Int)<16522; omega,newP_len ha lo⟩
  ·rw [keys_put,P.dom x hx]
   constructor
   ·rintro (h|h|⟨b,hb,h⟩)
    ·exact .inr ⟨a,n1,by omega⟩
    ·exact .inl h
    ·exact .inr ⟨b,by omega,h⟩
   ·rintro (h|⟨b,hb,h⟩)
    ·exact .inr (.inl h)
    ·rcases Nat.lt_or_ge b a with c|c
     ·exact .inr (.inr ⟨b,c,h⟩)
     ·left
      unfold nextA at hb
      unfold toP at hb
      omega
  ·rw [atP_put]
   have ob:=P.byt q hq
   by_cases h:q / 512=(off+a) / 512
   ·rw [if_pos (by omega),newP_get ha lo (by omega),← h,ob]
    unfold nextA
    by_cases c:(off+a) % 512≤q % 512∧q % 512<toP off S.length a
    ·rw [if_pos c,if_pos (by omega)]
     congr 1; omega
    ·rw [if_neg c]
     by_cases c2:off≤q∧q<off+a
     ·rw [if_pos c2,if_pos (by omega)]
     ·rw [if_neg c2,if_neg (by omega)]
   ·rw [if_neg (by omega),ob]
    have hr:∀ m,q<off+m→a≤m→m≤nextA off S.length a→off≤q→q<off+a:=fun m c1 c2 c3 c4=>by
     unfold nextA at c3
     unfold toP at c3
     omega
    by_cases c1:off≤q∧q<off+a
    ·rw [if_pos c1,if_pos (by omega)]
    ·rw [if_neg c1,if_neg (fun y=>c1 ⟨y.1,hr _ y.2 (by omega) (Nat.le_refl _) y.1⟩)]
theorem PlA.write {off:Nat} {S:Txt} {B:Nat→UInt8} {D:Nat→Prop} {ps:Ps} (P:PlA ps B D) (ho:off+S.length≤8459264) :
  PlA (Fi.withGo off S S.length 0 ps) (fun q=>if off≤q∧q<off+S.length then S.getD (q - off) 0 else B q) (fun x=>D x∨∃ b,b<S.length∧x=(off+b) / 512) :=
 PlA.withGo ho _ 0 ps (by omega) (Nat.zero_le _) (P.congr (fun q _=>if_neg (by omega)) fun k _=>⟨fun h=>h.resolve_right fun ⟨b,hb,_⟩=>absurd hb (Nat.not_lt_zero _),.inl⟩)
def cut1 (sz:Nat) (p:Int×Txt):Option (Int×Txt):=if (sz:Int) - 512*p.1≤0 then none else if (sz:Int) - 512*p.1<512 then some (p.1,p.2.take ((sz:Int) - 512*p.1).toNat++List.replicate (512 - ((sz:Int) - 512*p.1).toNat) 0) else some p
def cutP (sz:Nat) (ps:Ps):Ps:=ps.filterMap (cut1 sz)
theorem cut1_key {sz:Nat} {p q:Int×Txt} (h:cut1 sz p=some q):q.1=p.1∧512*p.1<sz:=by
 unfold cut1 at h
 split at h
 ·cases h
 ·split at h
  ·rw [← Option.some.inj h]; exact ⟨rfl,by omega⟩
  ·rw [← Option.some.inj h]; exact ⟨rfl,by omega⟩
theorem cut1_some {sz:Nat} {p:Int×Txt} (h:512*p.1<sz):∃ q,cut1 sz p=some q:=by
 unfold cut1
 rw [if_neg (by omega)]
 split
 ·exact ⟨_,rfl⟩
 ·exact ⟨_,rfl⟩
theorem cut1_none {sz:Nat} {p:Int×Txt} (h:¬ 512*p.1<sz):cut1 sz p=none:=by
 unfold cut1
 rw [if_pos (by omega)]
theorem cutP_keys (sz:Nat) (k:Int) (ps:Ps):k ∈ (cutP sz ps).map (·.1)↔k ∈ ps.map (·.1)∧512*k<sz:=by
 unfold cutP
 rw [List.mem_map,List.mem_map]
 constructor
 ·rintro ⟨q,hq,rfl⟩
  obtain ⟨p,hp,e⟩:=List.mem_filterMap.mp hq
  obtain ⟨e1,e2⟩:=cut1_key e
  rw [e1]
  exact ⟨⟨p,hp,rfl⟩,e2⟩
 ·rintro ⟨⟨p,hp,rfl⟩,h⟩
  obtain ⟨q,e⟩:=cut1_some h
  exact ⟨q,List.mem_filterMap.mpr ⟨p,hp,e⟩,(cut1_key e).1⟩
theorem cutP_nodup {sz:Nat}:∀ {ps:Ps},(ps.map (·.1)).Nodup→((cutP sz ps).map (·.1)).Nodup
 | [],_=>List.nodup_nil
 | p::r,h=>by
  rw [List.map_cons,List.nodup_cons] at h
  have ih:=cutP_nodup (sz:=sz) h.2
  unfold cutP at ih ⊢
  rw [List.filterMap_cons]
  cases e:cut1 sz p with
  | none=>exact ih
  | some q =>
   show (q.1::_).Nodup
   rw [List.nodup_cons]
   refine ⟨fun y=>?_,ih⟩
   rw [(cut1_key e).1] at y
   exact h.1 ((cutP_keys sz _ r).mp y).1
theorem cutP_at {sz:Nat} (k:Nat):∀ (ps:Ps) (_:∀ p ∈ ps,p.2.length=512) (i:Nat),i<512→(atP (cutP sz ps) k).getD i 0=if 512*k+i<sz then (atP ps k).getD i 0 else 0
 | [],_,i,_=>by
  show zeros.getD i 0=if _ then zeros.getD i 0 else 0
  have:zeros.getD i 0=0:=by
   rw [List.getD_eq_getElem?_getD,zeros,List.getElem?_replicate]
   split <;> rfl
  rw [this]; split <;> rfl
 | p::r,h,i,hi=>by
  have ih:=cutP_at (sz:=sz) k r (fun q hq=>h q (List.mem_cons_of_mem _ hq)) i hi
  have hl:=h p (List.mem_cons_self ..)
  unfold cutP at ih ⊢
  rw [List.filterMap_cons]
  by_cases hk:p.1=(k:Int)
  ·have e1:atP (p::r) (k:Int)=p.2:=if_pos hk
   rw [e1]
   by_cases hs:512*p.1<sz
   ·unfold cut1
    rw [if_neg (by omega)]
    by_cases h5:(sz:Int) - 512*p.1<512
    ·rw [if_pos h5]
     show List.getD (if p.1=(k:Int) then (_:Txt) else (_:Txt)) i 0=_
     rw [if_pos hk]
     obtain ⟨m,em⟩:∃ m:Nat,(sz:Int) - 512*p.1=m:=⟨((sz:Int) - 512*p.1).toNat,by omega⟩
     rw [em,Int.toNat_natCast]
     have lt:(p.2.take m).length=m:=by rw [List.length_take]; omega
     rw [List.getD_eq_getElem?_getD]
     by_cases c:i<m
     ·rw [List.getElem?_append_left (by omega),List.getElem?_take_of_lt c,if_pos (by omega),List.getD_eq_getElem?_getD]
     ·rw [List.getElem?_append_right (by omega),List.getElem?_replicate,if_neg (show ¬ 512*k+i<sz by omega)]
      split <;> rfl
    ·rw [if_neg h5]
     show List.getD (if p.1=(k:Int) then (_:Txt) else (_:Txt)) i 0=_
     rw [if_pos hk,if_pos (by omega)]
   ·rw [cut1_none hs]
    rw [if_neg (by omega)] at ih ⊢
    exact ih
  ·rw [show atP (p::r) (k:Int)=atP r (k:Int) from if_neg hk]
   cases e:cut1 sz p with
   | none=>exact ih
   | some q =>
    show List.getD (if q.1=(k:Int) then (_:Txt) else (_:Txt)) i 0=_
    rw [if_neg (by rw [(cut1_key e).1]; exact hk)]
    exact ih
theorem PlA.cut {sz:Nat} {B:Nat→UInt8} {D:Nat→Prop} {ps:Ps} (P:PlA ps B D):PlA (cutP sz ps) (fun q=>if q<sz then B q else 0) (fun x=>D x∧512*x<sz):=by
 refine ⟨cutP_nodup P.nd,fun q hq=>?_,fun k hk=>?_,fun q hq=>?_⟩
 ·obtain ⟨p,hp,e⟩:=List.mem_filterMap.mp hq
  obtain ⟨e1,e2⟩:=cut1_key e
  obtain ⟨r1,r2,r3⟩:=P.rng p hp
  refine ⟨by rw [e1]; exact r1,by rw [e1]; exact r2,?_⟩
  unfold cut1 at e
  split at e
  ·cases e
  ·split at e
   ·rw [← Option.some.inj e]
    show (p.2.take _++List.replicate _ 0).length=512
    rw [List.length_append,List.length_take,List.length_replicate,r3]; omega
   ·rw [← Option.some.inj e]; exact r3
 ·rw [cutP_keys,P.dom k hk]
  exact ⟨fun h=>⟨h.1,by omega⟩,fun h=>⟨h.1,by omega⟩⟩
 ·rw [cutP_at _ ps (fun p hp=>(P.rng p hp).2.2) _ (by omega),P.byt q hq]
  by_cases h:q<sz
  ·rw [if_pos (by omega),if_pos h]
  ·rw [if_neg (by omega),if_neg h]
def oneP (ps:Ps):Bool:=ps.any fun p=>decide (10≤p.1) && decide (p.1<138)
def tabsP (ps:Ps):List Int:=ps.foldl (fun tb p=>if p.1<138 then tb else if (p.1 - 138) / 128 ∈ tb then tb else tb++[(p.1 - 138) / 128]) []
def blocksP (ps:Ps):Nat:=ps.length+(if oneP ps then 1 else 0)+(if tabsP ps=[] then 0 else 1+(tabsP ps).length)
theorem tabsP_go (ps:Ps):∀ tb:List Int,tb.Nodup→(ps.foldl (fun tb p=>if p.1<138 then tb else if (p.1 - 138) / 128 ∈ tb then tb else tb++[(p.1 - 138) / 128]) tb).Nodup ∧
  ∀ t,t ∈ ps.foldl (fun tb p=>if p.1<138 then tb else if (p.1 - 138) / 128 ∈ tb then tb else tb++[(p.1 - 138) / 128]) tb↔t ∈ tb∨∃ p ∈ ps,138≤p.1∧t=(p.1 - 138) / 128:=by
 induction ps with
 | nil=>intro tb h; exact ⟨h,fun t=>⟨.inl,fun y=>y.elim id fun ⟨p,hp,_⟩=>by cases hp⟩⟩
 | cons p r ih =>
  intro tb h
  rw [List.foldl_cons]
  by_cases h1:p.1<138
  ·rw [if_pos h1]
   obtain ⟨a,b⟩:=ih tb h
   refine ⟨a,fun t=>(b t).trans ⟨fun y=>y.imp id fun ⟨q,hq,z⟩=>⟨q,List.mem_cons_of_mem _ hq,z⟩,fun y=>y.imp id fun ⟨q,hq,z⟩=>?_⟩⟩
   rcases List.mem_cons.mp hq with rfl|hq
   ·omega
   ·exact ⟨q,hq,z⟩
  ·rw [if_neg h1]
   by_cases h2:(p.1 - 138) / 128 ∈ tb
   ·rw [if_pos h2]
    obtain ⟨a,b⟩:=ih tb h
    refine ⟨a,fun t=>(b t).trans ⟨fun y=>y.imp id fun ⟨q,hq,z⟩=>⟨q,List.mem_cons_of_mem _ hq,z⟩,fun y=>?_⟩⟩
    rcases y with y|⟨q,hq,z⟩
    ·exact .inl y
    ·rcases List.mem_cons.mp hq with rfl|hq
     ·left; rw [z.2]; exact h2
     ·exact .inr ⟨q,hq,z⟩
   ·rw [if_neg h2]
    obtain ⟨a,b⟩:=ih (tb++[(p.1 - 138) / 128]) (by
     rw [List.nodup_append]
     exact ⟨h,by simp,fun x hx y hy=>fun e=>h2 (by rw [← List.mem_singleton.mp hy,← e]; exact hx)⟩)
    refine ⟨a,fun t=>(b t).trans ⟨fun y=>?_,fun y=>?_⟩⟩
    ·rcases y with y|⟨q,hq,z⟩
     ·rcases List.mem_append.mp y with y|y
      ·exact .inl y
      ·exact .inr ⟨p,List.mem_cons_self ..,by omega,List.mem_singleton.mp y⟩
     ·exact .inr ⟨q,List.mem_cons_of_mem _ hq,z⟩
    ·rcases y with y|⟨q,hq,z⟩
     ·exact .inl (List.mem_append_left _ y)
     ·rcases List.mem_cons.mp hq with rfl|hq
      ·exact .inl (List.mem_append_right _ (List.mem_singleton.mpr z.2))
      ·exact .inr ⟨q,hq,z⟩
theorem PlA.blocks {ps:Ps} {B:Nat→UInt8} {f:Nat→Nat} (P:PlA ps B fun k=>f k≠0) (tg:TightF f) (up:UpF f):blocksP ps=cnt (fun s=>decide (f s≠0)) nS:=by
 have D:Dom f (ps.map fun p=>(p.1,(0:Int))):=by
  have e:(ps.map fun p=>(p.1,(0:Int))).map (·.1)=ps.map (·.1):=by rw [List.map_map]; rfl
  refine ⟨by rw [e]; exact P.nd,fun p hp=>?_,fun k hk=>by rw [e]; exact P.dom k hk⟩
  obtain ⟨q,hq,rfl⟩:=List.mem_map.mp hp
  exact ⟨(P.rng q hq).1,(P.rng q hq).2.1⟩
 obtain ⟨tn,tm⟩:=tabsP_go ps [] List.nodup_nil
 have tn:(tabsP ps).Nodup:=tn
 have tm:∀ t,t ∈ tabsP ps↔∃ p ∈ ps,138≤p.1∧t=(p.1 - 138) / 128:=fun t=>(tm t).trans ⟨fun y=>y.resolve_left (by simp),.inr⟩
 have t0:∀ t ∈ tabsP ps,0≤t:=fun t ht=>by obtain ⟨p,_,h1,h2⟩:=(tm t).mp ht; omega
 have om:oneP ps=true↔∃ p ∈ ps,10≤p.1∧p.1<138:=by
  unfold oneP
  rw [List.any_eq_true]
  simp only [Bool.and_eq_true,decide_eq_true_eq]
 have key:=D.takes tg up (tb:=(if oneP ps then [-2] else [])++(if tabsP ps=[] then [] else -1::tabsP ps)) ?_ fun key=>?_
 ·rw [← key,List.length_map]
  unfold blocksP
  rw [List.length_append,Nat.add_assoc]
  congr 2
  ·split <;> rfl
  ·split
   ·rfl
   ·rw [List.length_cons]; omega
 ·rw [List.nodup_append]
  refine ⟨by split <;> simp,?_,fun a ha b hb=>?_⟩
  ·split
   ·exact List.nodup_nil
   ·rw [List.nodup_cons]
    exact ⟨fun y=>by have:=t0 _ y; omega,tn⟩
  ·have ea:a = -2:=by
    split at ha
    ·exact List.mem_singleton.mp ha
    ·cases ha
   rintro rfl
   split at hb
   ·cases hb
   ·rcases List.mem_cons.mp hb with h|h
    ·omega
    ·have:=t0 _ h; omega
 ·rw [List.mem_append]
  have ex:(∃ p ∈ ps.map (fun p=>(p.1,(0:Int))),key ∈ tkeys p.1)↔∃ p ∈ ps,key ∈ tkeys p.1:=⟨fun ⟨p,hp,h⟩=>by obtain ⟨q,hq,rfl⟩:=List.mem_map.mp hp; exact ⟨q,hq,h⟩,fun ⟨p,hp,h⟩=>⟨_,List.mem_map.mpr ⟨p,hp,rfl⟩,h⟩⟩
  rw [ex]
  unfold tkeys
  constructor
  ·rintro (h|h)
   ·split at h
    ·rename_i ho
     obtain ⟨p,hp,h1,h2⟩:=om.mp ho
     exact ⟨p,hp,by rw [if_neg (by omega),if_pos h1]; exact h⟩
    ·cases h
   ·split at h
    ·cases h
    ·rename_i hne
     rcases List.mem_cons.mp h with h|h
     ·obtain ⟨t,ht⟩:=List.exists_mem_of_ne_nil _ hne
      obtain ⟨p,hp,h1,h2⟩:=(tm t).mp ht
      exact ⟨p,hp,by rw [if_pos (by omega),h]; exact List.mem_cons_self ..⟩
     ·obtain ⟨p,hp,h1,h2⟩:=(tm key).mp h
      exact ⟨p,hp,by rw [if_pos (by omega),h2]; exact List.mem_cons_of_mem _ (List.mem_cons_self ..)⟩
  ·rintro ⟨p,hp,h⟩
   split at h
   ·rename_i h1
    have ht:(p.1 - 138) / 128 ∈ tabsP ps:=(tm _).mpr ⟨p,hp,by omega,rfl⟩
    right
    rw [if_neg (List.ne_nil_of_mem ht)]
    rcases List.mem_cons.mp h with h|h
    ·rw [h]; exact List.mem_cons_self ..
    ·rw [List.mem_singleton.mp h]; exact List.mem_cons_of_mem _ ht
   ·split at h
    ·left
     rw [if_pos (om.mpr ⟨p,hp,by omega,by omega⟩)]
     exact h
    ·cases h
end Go.Proofs.YtcdpakjhjmchhaaGreatDoor.Fi
namespace Go.Proofs.YtcdpakjhjmchhaaGreatDoor.Fi
open Go Go.Proofs Wx Hp W Ad Tm Bt Spc Re Av
open Hd (ints)
open In (Glo ints_length ints_one mayR decA encR encR_length)
open Ino (getM putM Cok getM_length rblk rat)
open Bm (num nS Wf Tight path path_self many miss Im edge Z0 fresh_av num_nil tight_nil wf_nil miss_zero path_chain chain_nS)
theorem countP_lt (ql:List Nat) (m:Nat):ql.countP (fun s=>decide (s<m))+(if m ∈ ql then 1 else 0)≤ql.countP (fun s=>decide (s<m+1)):=by
 induction ql with
 | nil=>simp
 | cons x r ih =>
  rw [List.countP_cons,List.countP_cons]
  by_cases e:x=m
  ·subst e
   rw [if_neg (by simp),if_pos (List.mem_cons_self ..),if_pos (show decide (x<x+1)=true by simp)]
   split at ih <;> omega
  ·have h1:(m ∈ x::r)↔m ∈ r:=by rw [List.mem_cons]; exact ⟨fun h=>h.resolve_left fun y=>e y.symm,.inr⟩
   have h2:decide (x<m)=decide (x<m+1):=decide_eq_decide.mpr (by omega)
   rw [h2]
   simp only [h1]
   split at ih <;> split <;> omega
theorem cnt_add_le {p q:Nat→Bool} (ql:List Nat):∀ m,(∀ s,s<m→p s=true→q s=true∨s ∈ ql)→cnt p m≤cnt q m+ql.countP (fun s=>decide (s<m))
 | 0,_=>Nat.zero_le _
 | m+1,h=>by
  have ih:=cnt_add_le ql m fun s hs=>h s (by omega)
  have c:=countP_lt ql m
  show cnt p m+(if p m=true then 1 else 0)≤cnt q m+(if q m=true then 1 else 0)+_
  by_cases hp:p m=true
  ·rcases h m (by omega) hp with hq|hq
   ·rw [if_pos hp,if_pos hq]; split at c <;> omega
   ·rw [if_pos hq] at c
    rw [if_pos hp]; split <;> omega
  ·rw [if_neg hp]; split <;> split at c <;> omega
theorem many_add {Z Z1:Nat→Txt} {R R1:List Int} (ql:List Nat) (h:∀ s,s<nS→num Z1 R1 s≠0→num Z R s≠0∨s ∈ ql):many Z1 R1≤many Z R+ql.length:=by
 unfold many
 have:=cnt_add_le (p:=fun s=>decide (num Z1 R1 s≠0)) (q:=fun s=>decide (num Z R s≠0)) ql nS fun s hs hp=>(h s hs (of_decide_eq_true hp)).imp decide_eq_true id
 have c:=List.countP_le_length (p:=fun s=>decide (s<nS)) (l:=ql)
 omega
theorem kin_le {n:Nat} {Z1:Nat→Txt} {T1:TM} {A:List Int} (av:Av n Z1 T1) (ql:List Int) (h:∀ x ∈ ks T1,x ∈ A∨x<(geoN n).inodes∨x ∈ ql):(ks T1).length≤A.length+((geoN n).inodes - 98)+ql.length:=by
 have:=nodup_len (m:=A++((List.range ((geoN n).inodes - 98)).map fun k=>((98+k:Nat):Int))++ql) av.keys fun x hx=>by
  rw [List.mem_append,List.mem_append]
  rcases h x hx with h|h|h
  ·exact .inl (.inl h)
  ·have:=(av.rng x hx).1
   exact .inl (.inr (List.mem_map.mpr ⟨(x - 98).toNat,List.mem_range.mpr (by omega),by omega⟩))
  ·exact .inr h
 rw [List.length_append,List.length_append,List.length_map,List.length_range] at this
 exact this
theorem miss_len (Z:Nat→Txt) (R:List Int):∀ l:List Nat,miss Z R l≤l.length
 | []=>Nat.le_refl _
 | s::r=>by
  have:=miss_len Z R r
  show (if num Z R s=0 then 1 else 0)+miss Z R r≤r.length+1
  split <;> omega
theorem path_len (k:Nat):(path k).length≤3:=by
 unfold path
 split
 ·simp
 ·split <;> simp
theorem write_one {n i j off:Nat} {Z:Nat→Txt} {T:TM} {R S:List Int} {s:Txt} (d:Dim n) (f:Fs n Z T i R j S) (ho:off % 512+s.length≤512) (hq:off<8459264) (hs:s≠[]) (hk:(ks T).length+((geoN n).inodes - 98)+3<87) (hf:6≤frees n Z) :
  ∃ Z' T' R',writeF T (geoN n) i off s=(T',0)∧Wrote n Z T i R j S off s Z' T' R':=by
 have hl:0<s.length:=List.length_pos_iff.mpr hs
 have one:∀ b,b<s.length→(off+b) / 512=off / 512:=fun b hb=>by omega
 rcases writeF_ok (off:=off) (s:=s) d f (by omega) hs with h|⟨_,T1,Z1,R1,ps,a,ha,W,hx⟩|⟨_,T1,Z1,R1,ps,a,ha,W,hx⟩
 ·exact h
 ·exfalso
  have:=kin_le (A:=ks T) W.av ((path (off / 512)).map fun q=>((num Z1 R1 q:Nat):Int)) fun x hx=>by
   rcases W.kin x hx with h|h|⟨q,_,⟨k,hk,hp⟩,ex⟩
   ·exact .inl h
   ·exact .inr (.inl h)
   ·obtain ⟨b,hb,rfl⟩:=(W.idx k).mp hk
    rw [one b (by omega)] at hp
    exact .inr (.inr (List.mem_map.mpr ⟨q,hp,ex.symm⟩))
  rw [List.length_map] at this
  have:=path_len (off / 512)
  omega
 ·exfalso
  have hm:=many_add (Z:=Z) (R:=R) (Z1:=Z1) (R1:=R1) (path (off / 512)) fun x hx h=>((W.gr.dom x hx).mp h).imp id fun ⟨k,hk,hp⟩=>by
   obtain ⟨b,hb,rfl⟩:=(W.idx k).mp hk
   rw [one b (by omega)] at hp; exact hp
  have ht:=W.gr.tot
  have h3:=path_len (off / 512)
  have h4:=miss_len Z1 R1 (path ((off+a) / 512))
  have h5:=path_len ((off+a) / 512)
  omega
theorem cnt_from (a:Nat):∀ m,cnt (fun j=>decide (a≤j)) m=m - a
 | 0=>by rw [Nat.zero_sub]; rfl
 | m+1=>by
  show cnt (fun j=>decide (a≤j)) m+(if decide (a≤m)=true then 1 else 0)=_
  rw [cnt_from a m]
  by_cases h:a≤m
  ·rw [if_pos (decide_eq_true h)]; omega
  ·rw [if_neg (by rw [decide_eq_true_eq]; exact h)]; omega
theorem cnt_none {p:Nat→Bool}:∀ m,(∀ s,s<m→p s=false)→cnt p m=0
 | 0,_=>rfl
 | m+1,h=>by
  show cnt p m+(if p m=true then 1 else 0)=0
  rw [cnt_none m fun s hs=>h s (by omega),h m (by omega)]; rfl
theorem fil_zero : ∀ i,3≤i→i<15→filR.getD i 0=0:=fun i h1 h2=>by
 have:∀ i:Fin 15,3≤i.val→filR.getD i.val 0=0:=by decide
 exact this ⟨i,h2⟩ h1
theorem fs0 {n:Nat} {L:Txt} (d:Dim n) (hn:n<4428) (I:Ib n (recs0.flatMap encR) (4096*((geoN n).inodes - 98)) L):Fs n (Z0 L) ⟨fresh (chunks L),[],[],false⟩ 2 filR 3 filR:=by
 have hlo:=d.lo
 have hd:=d.data
 have hc:(geoN n).count=8*(n / 64):=rfl
 have hino:(geoN n).inodes=98+(n+4095) / 4096:=rfl
 have z:=num_nil (Z:=Z0 L) (R:=filR) fil_zero
 have m0:many (Z0 L) filR=0:=by
  unfold many
  exact cnt_none _ fun s hs=>decide_eq_false fun y=>y (z s hs)
 have fl:FileR filR:=⟨rfl,⟨by decide,by decide⟩,by decide,by decide⟩
 refine ⟨fresh_av I.im.len,wf_nil rfl fil_zero,wf_nil rfl fil_zero,tight_nil fil_zero,tight_nil fil_zero,fun s _ hs _ h=>absurd (z s hs) h,?_,?_,fl,fl,⟨by decide,by omega⟩,⟨by decide,by omega⟩,by decide,?_⟩
 ·rw [recZ0 d hn I (by decide) (by omega),if_neg (by decide),if_pos (by decide)]
 ·rw [recZ0 d hn I (by decide) (by omega),if_neg (by decide),if_pos (by decide)]
 ·have:frees n (Z0 L)=n - (geoN n).data:=by
   rw [← cnt_from]
   unfold frees
   refine cnt_congr fun j hj=>?_
   unfold isFree
   rw [I.im.bit ⟨hlo,hn⟩ hj]
   unfold Bm.lowU edge
   rw [decide_eq_true hj,decide_eq_true (show j<4096*((geoN n).inodes - 98) by omega),decide_eq_false (show ¬ n≤j by omega)]
   by_cases h:(geoN n).data≤j
   ·rw [decide_eq_true h,decide_eq_false (by omega)]; rfl
   ·rw [decide_eq_false h,decide_eq_true (by omega)]; rfl
  rw [m0,this]; omega
end Go.Proofs.YtcdpakjhjmchhaaGreatDoor.Fi
namespace Go.Proofs.YtcdpakjhjmchhaaGreatDoor.Fi
open Go Go.Proofs Wx Hp W Ad Tm Bt Spc Re Av
open Bm (num nS Tight path many miss path_data path_self path_chain chain_nS miss_zero Dom TightF UpF tkeys up_f plusF plus_ne many_plus loS hiS path_under up_num)
structure Pf (Z:Nat→Txt) (R:List Int) (p:Int×Ps):Prop where
 e:Ends Z R
 P:PlA p.2 (byteAt Z R) fun k=>num Z R k≠0
 sz:p.1=R.getD 2 0
theorem Pf.same {Z Z':Nat→Txt} {R:List Int} {p:Int×Ps} (a:Pf Z R p) (N:∀ x,x<nS→num Z' R x=num Z R x) (P:∀ k,k<16522→pc Z' R k=pc Z R k):Pf Z' R p:=by
 have B:∀ q,q<8459264→byteAt Z' R q=byteAt Z R q:=fun q hq=>by unfold byteAt; rw [P _ (by omega)]
 refine ⟨⟨fun x hx h=>a.e.pcs x hx (by rw [N x (by unfold nS; omega)] at h; exact h),fun q hq h=>by rw [B q hq]; exact a.e.byt q hq h⟩,a.P.congr B fun k hk=>by rw [N k (by unfold nS; omega)],a.sz⟩
theorem Pf.blocks {Z:Nat→Txt} {R:List Int} {p:Int×Ps} (a:Pf Z R p) (tg:Tight Z R):blocksP p.2=many Z R:=a.P.blocks tg (up_f Z R)
def nextW (p:Int×Ps) (off:Nat) (s:Txt):Int×Ps:=(if 0<s.length∧((off+s.length:Nat):Int)>p.1 then ((off+s.length:Nat):Int) else p.1,withGo off s s.length 0 p.2)
def nextC (p:Int×Ps) (sz:Nat):Int×Ps:=((sz:Int),cutP sz p.2)
theorem cnt_mono {p q:Nat→Bool}:∀ m,(∀ s,s<m→p s=true→q s=true)→cnt p m≤cnt q m
 | 0,_=>Nat.le_refl _
 | m+1,h=>by
  have ih:=cnt_mono m fun s hs=>h s (by omega)
  show cnt p m+(if p m=true then 1 else 0)≤cnt q m+(if q m=true then 1 else 0)
  by_cases hp:p m=true
  ·rw [if_pos hp,if_pos (h m (by omega) hp)]; omega
  ·rw [if_neg hp]; split <;> omega
theorem Pf.wrote {n i j off:Nat} {Z Z':Nat→Txt} {T T':TM} {R R' S:List Int} {s:Txt} {p:Int×Ps} (a:Pf Z R p) (W:Wrote n Z T i R j S off s Z' T' R') (hs:s≠[]) (ho:off+s.length≤8459264):Pf Z' R' (nextW p off s):=by
 have hl:0<s.length:=List.length_pos_iff.mpr hs
 refine ⟨W.ends a.e,(a.P.write ho).congr W.byt fun k hk=>?_,?_⟩
 ·rw [W.dom k (by unfold nS; omega)]
  constructor
  ·rintro (h|⟨b,hb,h⟩)
   ·exact .inl h
   ·exact .inr ⟨b,hb,path_data h hk⟩
  ·rintro (h|⟨b,hb,h⟩)
   ·exact .inl h
   ·exact .inr ⟨b,hb,by rw [← h]; exact path_self k⟩
 ·show (if 0<s.length∧((off+s.length:Nat):Int)>p.1 then ((off+s.length:Nat):Int) else p.1)=_
  rw [W.size,a.sz]
  split <;> omega
def slots4 (off:Nat):List Nat:=(List.range 9).map (fun j=>off / 512+j)++[16522,16523,16524+(off / 512 - 138) / 128,16524+((off / 512 - 138) / 128+1)]
theorem slots4_len (off:Nat):(slots4 off).length=13:=rfl
theorem slots4_in {off b q:Nat} (hb:b<4000) (hq:q ∈ path ((off+b) / 512)):q ∈ slots4 off:=by
 have h1:off / 512≤(off+b) / 512∧(off+b) / 512≤off / 512+8:=by omega
 have hd:(off+b) / 512 ∈ slots4 off:=List.mem_append_left _ (List.mem_map.mpr ⟨(off+b) / 512 - off / 512,List.mem_range.mpr (by omega),by omega⟩)
 generalize (off+b) / 512=k at h1 hd hq
 unfold path at hq
 split at hq
 ·rw [List.mem_singleton.mp hq]; exact hd
 ·split at hq
  ·rcases List.mem_cons.mp hq with rfl|hq
   ·exact List.mem_append_right _ (List.mem_cons_self ..)
   ·rw [List.mem_singleton.mp hq]; exact hd
  ·rcases List.mem_cons.mp hq with rfl|hq
   ·exact List.mem_append_right _ (by simp)
   ·rcases List.mem_cons.mp hq with rfl|hq
    ·refine List.mem_append_right _ ?_
     have:(k - 138) / 128=(off / 512 - 138) / 128∨(k - 138) / 128=(off / 512 - 138) / 128+1:=by omega
     rcases this with e|e
     ·rw [e]; simp
     ·rw [e]; simp
    ·rw [List.mem_singleton.mp hq]; exact hd
theorem edit_write {n i j off:Nat} {Z:Nat→Txt} {T:TM} {R S:List Int} {s:Txt} {p q:Int×Ps} (d:Dim n) (hn:n≤187) (f:Fs n Z T i R j S) (a:Pf Z R p) (b:Pf Z S q) (ho:off<300000) (hs:s.length≤4000) :
  (∃ Z' T' R',writeF T (geoN n) i off s=(T',0)∧Fs n Z' T' i R' j S∧Pf Z' R' (nextW p off s)∧Pf Z' S q∧T'.undo.length≤T.undo.length+100000∧blocksP (nextW p off s).2+blocksP q.2≤n - (geoN n).data) ∨
  (writeF T (geoN n) i off s=(T,60)∧60<(ks T).length)∨(writeF T (geoN n) i off s=(T,90)∧n - (geoN n).data<blocksP (nextW p off s).2+blocksP q.2):=by
 have hd:=d.data
 have ft:=f.tot
 have bq:=b.blocks f.tg'
 have hino:(geoN n).inodes=98+(n+4095) / 4096:=rfl
 by_cases he:s=[]
 ·left
  subst he
  have en:nextW p off []=p:=by
   unfold nextW
   rw [if_neg (fun y=>absurd y.1 (by decide))]; rfl
  rw [en]
  refine ⟨Z,T,R,?_,f,a,b,Nat.le_add_right _ _,?_⟩
  ·unfold writeF
   rw [if_neg (by omega),f.get d,if_neg (fun y=>y rfl),if_neg (by show ¬ ((0:Nat):Int)>_; omega),if_pos rfl]
  ·rw [a.blocks f.tg,bq]; omega
 have key:∀ T1 Z1 R1 ps a',a'≤s.length→Ws n T Z R off s a' T1 Z1 R1 ps→(ks T1).length≤(ks T).length+14:=fun T1 Z1 R1 ps a' ha W=>by
  have:=kin_le (A:=ks T) W.av ((slots4 off).map fun q=>((num Z1 R1 q:Nat):Int)) fun x hx=>by
   rcases W.kin x hx with h|h|⟨q,_,⟨k,hk,hp⟩,ex⟩
   ·exact .inl h
   ·exact .inr (.inl h)
   ·obtain ⟨b,hb,rfl⟩:=(W.idx k).mp hk
    exact .inr (.inr (List.mem_map.mpr ⟨q,slots4_in (by omega) hp,ex.symm⟩))
  rw [List.length_map,slots4_len] at this
  omega
 rcases writeF_ok (off:=off) (s:=s) d f (by omega) he with ⟨Z',T',R',ew,W⟩|⟨ew,T1,Z1,R1,ps,a',ha,W,hx⟩|⟨ew,T1,Z1,R1,ps,a',ha,W,hx⟩
 ·left
  have pa:=a.wrote W he (by omega)
  have pb:=b.same W.oth W.opc
  refine ⟨Z',T',R',ew,W.fs,pa,pb,by have:=W.un; omega,?_⟩
  rw [pa.blocks W.fs.tg,pb.blocks W.fs.tg']
  have:=W.fs.tot
  omega
 ·right; left
  have:=key T1 Z1 R1 ps a' ha W
  exact ⟨ew,by omega⟩
 ·right; right
  refine ⟨ew,?_⟩
  have hk:(off+a') / 512<16522:=by omega
  have mp:=many_plus (Z:=Z1) (R:=R1) hk
  have tot:=W.gr.tot
  -- what would be there
  have hP:PlA (nextW p off s).2 (fun q=>if off≤q∧q<off+s.length then s.getD (q - off) 0 else byteAt Z R q) (fun x=>(fun x=>if num Z R x≠0∨∃ b,b<s.length∧x ∈ path ((off+b) / 512) then 1 else 0) x≠0) :=
   (a.P.write (off:=off) (S:=s) (by omega)).congr (fun _ _=>rfl) fun k hk=>by
    show (if num Z R k≠0∨∃ b,b<s.length∧k ∈ path ((off+b) / 512) then 1 else 0)≠0↔_
    have e:(num Z R k≠0∨∃ b,b<s.length∧k ∈ path ((off+b) / 512))↔(num Z R k≠0∨∃ b,b<s.length∧k=(off+b) / 512) :=
     ⟨fun y=>y.imp id fun ⟨b,hb,h⟩=>⟨b,hb,path_data h hk⟩,fun y=>y.imp id fun ⟨b,hb,h⟩=>⟨b,hb,by rw [← h]; exact path_self k⟩⟩
    by_cases c:num Z R k≠0∨∃ b,b<s.length∧k ∈ path ((off+b) / 512)
    ·rw [if_pos c]; exact ⟨fun _=>e.mp c,fun _=>by decide⟩
    ·rw [if_neg c]; exact ⟨fun y=>absurd rfl y,fun y=>absurd (e.mpr y) c⟩
  have ne:∀ x,(if num Z R x≠0∨∃ b,b<s.length∧x ∈ path ((off+b) / 512) then 1 else 0)≠0↔(num Z R x≠0∨∃ b,b<s.length∧x ∈ path ((off+b) / 512)):=fun x=>by
   by_cases c:num Z R x≠0∨∃ b,b<s.length∧x ∈ path ((off+b) / 512)
   ·rw [if_pos c]; exact ⟨fun _=>c,fun _=>by decide⟩
   ·rw [if_neg c]; exact ⟨fun y=>absurd rfl y,fun y=>absurd y c⟩
  rw [hP.blocks (fun x h1 h2 h=>?_) fun k x hk' h hx'=>?_,bq]
  ·have le:=cnt_mono (p:=fun x=>decide (plusF (num Z1 R1) ((off+a') / 512) x≠0)) (q:=fun x=>decide ((if num Z R x≠0∨∃ b,b<s.length∧x ∈ path ((off+b) / 512) then 1 else 0)≠0)) nS fun x hx' h=>by
    refine decide_eq_true ((ne x).mpr ?_)
    rcases plus_ne.mp (of_decide_eq_true h) with h|h
    ·rcases (W.gr.dom x hx').mp h with h|⟨k,hk,h⟩
     ·exact .inl h
     ·obtain ⟨b,hb,rfl⟩:=(W.idx k).mp hk
      exact .inr ⟨b,by omega,h⟩
    ·exact .inr ⟨a',ha,h⟩
   rw [mp] at le
   omega
  ·rcases (ne x).mp h with h|⟨b,hb,h⟩
   ·obtain ⟨y,y1,y2,y3⟩:=f.tg x h1 h2 h
    exact ⟨y,y1,y2,(ne y).mpr (.inl y3)⟩
   ·obtain ⟨y1,y2⟩:=path_under (by omega) h h1
    exact ⟨(off+b) / 512,y1,y2,(ne _).mpr (.inr ⟨b,hb,path_self _⟩)⟩
  ·rcases (ne k).mp h with h|⟨b,hb,h⟩
   ·exact (ne x).mpr (.inl (up_f Z R k x hk' h hx'))
   ·rw [path_data h hk'] at hx'
    exact (ne x).mpr (.inr ⟨b,hb,hx'⟩)
theorem edit_cut {n i j sz:Nat} {Z:Nat→Txt} {T:TM} {R S:List Int} {p q:Int×Ps} (d:Dim n) (f:Fs n Z T i R j S) (a:Pf Z R p) (b:Pf Z S q) (ho:sz<300000) :
  (∃ Z' T' R',cutF T (geoN n) i sz=(T',0)∧Fs n Z' T' i R' j S∧Pf Z' R' (nextC p sz)∧Pf Z' S q∧T'.undo.length≤T.undo.length+100000∧blocksP (nextC p sz).2+blocksP q.2≤n - (geoN n).data) ∨
  (cutF T (geoN n) i sz=(T,60)∧60<(ks T).length):=by
 rcases cutF_ok (sz:=sz) d f a.e (by omega) with ⟨Z',T',R',ec,k⟩|⟨ec,h⟩
 ·left
  have pa:Pf Z' R' (nextC p sz):=⟨k.ends,(a.P.cut (sz:=sz)).congr k.byt k.dom,k.size.symm⟩
  have pb:=b.same k.oth k.opc
  refine ⟨Z',T',R',ec,k.fs,pa,pb,k.un,?_⟩
  rw [pa.blocks k.fs.tg,pb.blocks k.fs.tg']
  have:=k.fs.tot
  omega
 ·exact .inr ⟨ec,by omega⟩
end Go.Proofs.YtcdpakjhjmchhaaGreatDoor.Fi
