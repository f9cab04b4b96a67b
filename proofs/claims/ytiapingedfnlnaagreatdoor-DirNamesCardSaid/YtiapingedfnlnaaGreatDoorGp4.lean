/-
  TEXTS FOR dirNames_card: BmA BmY InT FiA BmR BmU FiC FiD FiE DiM BmZ BnA FiP DiN FiQ FiR InN FiG FiT FiU DiO DiQ DiS TaA DiT DiV ChA SlA SlB.
-/
import Derived.Shelf.Spec.BuilderWrite
import Derived.Ground.NamesProg
import Derived.Test.YtiapingedfnlnaaGreatDoorGp3
namespace Go.Proofs.YtiapingedfnlnaaGreatDoor.Bm
open Go Go.Proofs Wx Hp W Ad Tm Bt Spc Re Av
theorem leN_leB (v:Nat):∀ n,leN (leBs n v)=v % 256 ^ n
 | 0=>by show 0=v % 1; omega
 | n+1=>by
  have e:leBs (n+1) v=leBs n v++[UInt8.ofNat (v / 256 ^ n)]:=by unfold leBs; rw [List.range_succ,List.map_append]; rfl
  rw [e,leN_snoc,leB_length,leN_leB v n,Nat.mod_pow_succ]
  have:(UInt8.ofNat (v / 256 ^ n)).toNat=v / 256 ^ n % 256:=by simp
  rw [this,Nat.mul_comm]
def num4 (b:Txt) (p:Nat):Nat:=leN ((b.drop (4*p)).take 4)
def set4 (b:Txt) (p v:Nat):Txt:=putU b (4*p) (leBs 4 v)
theorem num4_lt (b:Txt) (p:Nat):num4 b p<4294967296:=by
 have h:=leN_lt ((b.drop (4*p)).take 4)
 have hl:((b.drop (4*p)).take 4).length≤4:=by rw [List.length_take]; omega
 exact Nat.lt_of_lt_of_le h (Nat.le_trans (Nat.pow_le_pow_right (by decide) hl) (by decide))
theorem set4_length {b:Txt} {p v:Nat} (hb:b.length=512) (hp:p<128):(set4 b p v).length=512:=by
 unfold set4
 rw [putU_length (by rw [leB_length]; omega),hb]
theorem part_put {b z:Txt} {o q:Nat} (hz:z.length=4) (hb:b.length=512) (ho:4*o+4≤512) (hq:4*q+4≤512):((putU b (4*o) z).drop (4*q)).take 4=if q=o then z else (b.drop (4*q)).take 4:=by
 unfold putU
 have l1:(b.take (4*o)).length=4*o:=by rw [List.length_take]; omega
 by_cases h:q=o
 ·rw [if_pos h,h,List.append_assoc,List.drop_append_of_le_length (by omega),List.drop_of_length_le (by omega),List.nil_append,List.take_append_of_le_length (by omega),List.take_of_length_le (by omega)]
 ·rw [if_neg h]
  rcases Nat.lt_or_ge q o with h1|h1
  ·rw [List.append_assoc,List.drop_append_of_le_length (by omega),List.take_append_of_le_length (by rw [List.length_drop]; omega),List.drop_take,List.take_take,Nat.min_eq_left (by omega)]
  ·have l2:(b.take (4*o)++z).length=4*o+4:=by rw [List.length_append]; omega
   rw [List.drop_append,List.drop_of_length_le (by omega),List.nil_append,List.drop_drop,l2,hz,show 4*o+4+(4*q - (4*o+4))=4*q by omega]
theorem num4_set {b:Txt} {o q v:Nat} (hb:b.length=512) (ho:o<128) (hq:q<128) (hv:v<4294967296):num4 (set4 b o v) q=if q=o then v else num4 b q:=by
 unfold num4 set4
 rw [part_put (leB_length 4 v) hb (by omega) (by omega)]
 split
 ·rw [leN_leB]; exact Nat.mod_eq_of_lt hv
 ·rfl
theorem num4_zeros (p:Nat):num4 zeros p=0:=by
 unfold num4 zeros
 rw [List.drop_replicate,List.take_replicate]
 generalize min 4 (512 - 4*p)=k
 induction k with
 | zero=>rfl
 | succ k ih=>rw [List.replicate_succ]; show (0:UInt8).toNat+256*leN (List.replicate k 0)=0; rw [ih]; rfl
def nS : Nat:=16652
def par (s:Nat):Option (Nat×Nat) :=
 if s<10 then none else if s<138 then some (16522,s - 10) else if s<16522 then some (16524+(s - 138) / 128,(s - 138) % 128) else if s<16524 then none else some (16523,s - 16524)
def root (R:List Int) (s:Nat):Int:=if s<10 then R.getD (3+s) 0 else if s=16522 then R.getD 13 0 else R.getD 14 0
def sub (Z:Nat→Txt) (b p:Nat):Nat:=if b=0 then 0 else num4 (Z b) p
def num0 (R:List Int) (s:Nat):Nat:=(root R s).toNat
def num1 (Z:Nat→Txt) (R:List Int) (s:Nat):Nat:=match par s with
 | none=>num0 R s
 | some (q,p)=>sub Z (num0 R q) p
def num (Z:Nat→Txt) (R:List Int) (s:Nat):Nat:=match par s with
 | none=>num0 R s
 | some (q,p)=>sub Z (num1 Z R q) p
theorem par_up {s q p:Nat} (h:par s=some (q,p)) (hs:s<nS):p<128∧((q=16522∧s=10+p)∨(q=16523∧s=16524+p)∨(16524≤q∧q<nS∧s=138+(q - 16524)*128+p)):=by
 unfold par at h
 unfold nS at *
 split at h
 ·cases h
 ·split at h
  ·cases h; omega
  ·split at h
   ·cases h; omega
   ·split at h
    ·cases h
    ·cases h; omega
theorem par_none {s:Nat} (h:par s=none):s<10∨s=16522∨s=16523:=by
 unfold par at h
 split at h
 ·omega
 ·split at h
  ·cases h
  ·split at h
   ·cases h
   ·split at h
    ·omega
    ·cases h
theorem par_table {p:Nat} (_:p<128):par (16524+p)=some (16523,p):=by
 unfold par
 rw [if_neg (by omega),if_neg (by omega),if_neg (by omega),if_neg (by omega),Nat.add_sub_cancel_left]
theorem par_inj {s s' q p:Nat} (h:par s=some (q,p)) (h':par s'=some (q,p)) (hs:s<nS) (hs':s'<nS):s=s':=by
 have a:=par_up h hs
 have b:=par_up h' hs'
 omega
theorem par_ne {s q p:Nat} (h:par s=some (q,p)) (hs:s<nS):q≠s∧q<nS∧16522≤q:=by
 have a:=par_up h hs
 unfold nS at *
 omega
theorem num_none {Z:Nat→Txt} {R:List Int} {s:Nat} (h:par s=none):num Z R s=(root R s).toNat:=by unfold num; rw [h]; rfl
theorem num1_num {Z:Nat→Txt} {R:List Int} {q:Nat} (hq:16522≤q) (hn:q<nS):num1 Z R q=num Z R q:=by
 unfold num1 num
 rcases Nat.lt_or_ge q 16524 with h|h
 ·have:par q=none:=by unfold par; rw [if_neg (by omega),if_neg (by omega),if_neg (by omega),if_pos h]
  rw [this]
 ·have e:par q=some (16523,q - 16524):=by
   have:=par_table (p:=q - 16524) (by unfold nS at hn; omega)
   rw [show 16524+(q - 16524)=q by omega] at this
   exact this
  rw [e]
  show sub Z (num0 R 16523) _=sub Z (num1 Z R 16523) _
  rfl
theorem num_some {Z:Nat→Txt} {R:List Int} {s q p:Nat} (h:par s=some (q,p)) (hs:s<nS):num Z R s=sub Z (num Z R q) p:=by
 have a:=par_ne h hs
 unfold num
 rw [h]
 show sub Z (num1 Z R q) p=sub Z (num Z R q) p
 rw [num1_num a.2.2 a.2.1]
theorem slots {P:Nat→Prop} (h0:∀ s,s<nS→par s=none→P s) (h1:∀ s q p,s<nS→par s=some (q,p)→P q→P s):∀ s,s<nS→P s:=by
 have two:P 16523:=h0 _ (by decide) (by decide)
 have tab:∀ q,16522≤q→q<nS→P q:=fun q hq hn=>by
  cases e:par q with
  | none=>exact h0 q hn e
  | some x =>
   obtain ⟨q',p⟩:=x
   have:=par_up e hn
   have:q'=16523:=by unfold nS at *; omega
   subst this
   exact h1 q _ p hn e two
 intro s hs
 cases e:par s with
 | none=>exact h0 s hs e
 | some x =>
  obtain ⟨q,p⟩:=x
  have:=par_ne e hs
  exact h1 s q p hs e (tab q this.2.2 this.2.1)
structure Wf (n:Nat) (Z:Nat→Txt) (R:List Int):Prop where
 rl:R.length=15
 rr:∀ i,3≤i→i<15→0≤R.getD i 0
 rng:∀ s,s<nS→num Z R s≠0→(geoN n).data≤num Z R s∧num Z R s<n∧bit Z (num Z R s)=true
 inj:∀ s s',s<nS→s'<nS→num Z R s≠0→num Z R s=num Z R s'→s=s'
theorem num_congr {Z Z':Nat→Txt} {R R':List Int} (hr:∀ s,s<nS→par s=none→root R' s=root R s) (hz:∀ q,16522≤q→q<nS→num Z R q≠0→∀ p,p<128→num4 (Z' (num Z R q)) p=num4 (Z (num Z R q)) p):∀ s,s<nS→num Z' R' s=num Z R s:=by
 refine slots (fun s hs e=>?_) fun s q p hs e ih=>?_
 ·rw [num_none e,num_none e,hr s hs e]
 ·have a:=par_ne e hs
  rw [num_some e hs,num_some e hs,ih]
  unfold sub
  split
  ·rfl
  ·rename_i h
   exact hz q a.2.2 a.2.1 h p (par_up e hs).1
def setRoot (R:List Int) (s:Nat) (v:Int):List Int:=if s<10 then R.set (3+s) v else if s=16522 then R.set 13 v else R.set 14 v
theorem getD_set {α:Type} (l:List α) (i j:Nat) (b d:α) (h:i<l.length):(l.set i b).getD j d=if j=i then b else l.getD j d:=by
 rw [List.getD_eq_getElem?_getD,List.getD_eq_getElem?_getD]
 by_cases e:j=i
 ·rw [if_pos e,e,List.getElem?_set_self h]; rfl
 ·rw [if_neg e,List.getElem?_set_ne (fun x=>e x.symm)]
theorem root_set {R:List Int} {s s':Nat} {v:Int} (hl:R.length=15) (h:par s=none) (h':par s'=none):root (setRoot R s v) s'=if s'=s then v else root R s':=by
 have a:=par_none h
 have b:=par_none h'
 unfold root setRoot
 by_cases e:s<10
 ·rw [if_pos e]
  simp only [getD_set R (3+s) _ _ _ (show 3+s<R.length by omega)]
  by_cases e':s'<10
  ·rw [if_pos e',if_pos e']
   by_cases e2:s'=s
   ·rw [if_pos e2,if_pos (by omega)]
   ·rw [if_neg e2,if_neg (by omega)]
  ·rw [if_neg e',if_neg e',if_neg (show ¬ s'=s by omega),if_neg (show ¬ 13=3+s by omega),if_neg (show ¬ 14=3+s by omega)]
 ·rw [if_neg e]
  by_cases e1:s=16522
  ·rw [if_pos e1]
   simp only [getD_set R 13 _ _ _ (show 13<R.length by omega)]
   by_cases e':s'<10
   ·rw [if_pos e',if_pos e',if_neg (show ¬ s'=s by omega),if_neg (show ¬ 3+s'=13 by omega)]
   ·rw [if_neg e',if_neg e']
    by_cases e2:s'=16522
    ·rw [if_pos e2,if_pos e2,if_pos trivial,if_pos (by omega)]
    ·rw [if_neg e2,if_neg e2,if_neg (show ¬ s'=s by omega),if_neg (show ¬ 14=13 by omega)]
  ·rw [if_neg e1]
   simp only [getD_set R 14 _ _ _ (show 14<R.length by omega)]
   by_cases e':s'<10
   ·rw [if_pos e',if_pos e',if_neg (show ¬ s'=s by omega),if_neg (show ¬ 3+s'=14 by omega)]
   ·rw [if_neg e',if_neg e']
    by_cases e2:s'=16522
    ·rw [if_pos e2,if_pos e2,if_neg (show ¬ s'=s by omega),if_neg (show ¬ 13=14 by omega)]
    ·rw [if_neg e2,if_neg e2,if_pos trivial,if_pos (by omega)]
def fillR (R:List Int) (s m:Nat):List Int:=match par s with
 | none=>setRoot R s m
 | some _=>R
def fillZ (Z:Nat→Txt) (R:List Int) (s m:Nat):Nat→Txt:=match par s with
 | none=>takeZ Z m
 | some (q,p)=>up (takeZ Z m) (num Z R q) (set4 (Z (num Z R q)) p m)
theorem takeZ_at {n m:Nat} {Z:Nat→Txt} (d:Dim n) (hl:∀ k,k<n→(Z k).length=512) (f1:(geoN n).data≤m) (f2:m<n) :
  (∀ j,j<n→bit (takeZ Z m) j=if j=m then true else bit Z j)∧takeZ Z m m=zeros∧∀ b,(geoN n).inodes≤b→b≠m→takeZ Z m b=Z b:=by
 obtain ⟨m1,m2,m3,m4⟩:=d.map f2
 refine ⟨fun j hj=>?_,up_at _ _ _,fun b hb hm=>?_⟩
 ·unfold takeZ
  rw [bit_up (by have:=(d.map hj).2; omega),bit_setZ (hl _ m4)]
 ·unfold takeZ
  rw [up_ne _ _ hm,setZ_ne (by omega)]
theorem fillZ_at {n m s:Nat} {Z:Nat→Txt} {R:List Int} (d:Dim n) (hl:∀ k,k<n→(Z k).length=512) (w:Wf n Z R) (hs:s<nS) (hp:∀ q p,par s=some (q,p)→num Z R q≠0) (hf:isFree n Z m=true) :
  (∀ j,j<n→bit (fillZ Z R s m) j=if j=m then true else bit Z j)∧fillZ Z R s m m=zeros ∧
   ∀ b,(geoN n).inodes≤b→b≠m→(∀ q p,par s=some (q,p)→b≠num Z R q)→fillZ Z R s m b=Z b:=by
 obtain ⟨f1,f2,f3⟩:=isFree_iff.mp hf
 have t:=takeZ_at d hl f1 f2
 cases e:par s with
 | none =>
  simp only [fillZ,e]
  exact ⟨t.1,t.2.1,fun b h1 h2 _=>t.2.2 b h1 h2⟩
 | some x =>
  obtain ⟨q,p⟩:=x
  have hq:=hp q p e
  have a:=par_ne e hs
  obtain ⟨r1,r2,r3⟩:=w.rng q a.2.1 hq
  have hqm:num Z R q≠m:=fun y=>by rw [y,f3] at r3; cases r3
  simp only [fillZ,e]
  refine ⟨fun j hj=>?_,?_,fun b h1 h2 h3=>?_⟩
  ·rw [bit_up (by have:=(d.map hj).2; omega)]; exact t.1 j hj
  ·rw [up_ne _ _ (fun y=>hqm y.symm)]; exact t.2.1
  ·rw [up_ne _ _ (h3 q p rfl)]; exact t.2.2 b h1 h2
theorem setRoot_rr {R:List Int} {s:Nat} {v:Int} (hl:R.length=15) (h:∀ i,3≤i→i<15→0≤R.getD i 0) (hv:0≤v):(setRoot R s v).length=15∧∀ i,3≤i→i<15→0≤(setRoot R s v).getD i 0:=by
 unfold setRoot
 refine ⟨?_,fun i h1 h2=>?_⟩
 ·split
  ·rw [List.length_set]; exact hl
  ·split
   ·rw [List.length_set]; exact hl
   ·rw [List.length_set]; exact hl
 split
 ·rw [getD_set _ _ _ _ _ (by omega)]; split
  ·exact hv
  ·exact h i h1 h2
 ·split
  ·rw [getD_set _ _ _ _ _ (by omega)]; split
   ·exact hv
   ·exact h i h1 h2
  ·rw [getD_set _ _ _ _ _ (by omega)]; split
   ·exact hv
   ·exact h i h1 h2
theorem Wf.fill {n m s:Nat} {Z:Nat→Txt} {R:List Int} (d:Dim n) (hl:∀ k,k<n→(Z k).length=512) (w:Wf n Z R) (hs:s<nS) (h0:num Z R s=0) (hp:∀ q p,par s=some (q,p)→num Z R q≠0) (hf:isFree n Z m=true) :
  (∀ s',s'<nS→num (fillZ Z R s m) (fillR R s m) s'=if s'=s then m else num Z R s')∧Wf n (fillZ Z R s m) (fillR R s m):=by
 obtain ⟨f1,f2,f3⟩:=isFree_iff.mp hf
 obtain ⟨b1,b2,b3⟩:=fillZ_at d hl w hs hp hf
 have hd:=d.data
 have hi:=(d.map f2).2.2.1
 have hhi:=d.hi
 have ne:∀ s',s'<nS→num Z R s'≠0→num Z R s'≠m:=fun s' h1 h2 y=>by
  have:=(w.rng s' h1 h2).2.2
  rw [y,f3] at this; cases this
 have numb:∀ s',s'<nS→num (fillZ Z R s m) (fillR R s m) s'=if s'=s then m else num Z R s':=by
  refine slots (fun s' h1 e'=>?_) fun s' q' p' h1 e' ih=>?_
  ·rw [num_none e',num_none e']
   cases e:par s with
   | none =>
    simp only [fillR,e]
    rw [root_set w.rl e e']
    by_cases h:s'=s
    ·rw [if_pos h,if_pos h]; rfl
    ·rw [if_neg h,if_neg h]
   | some x =>
    simp only [fillR,e]
    rw [if_neg (by rintro rfl; rw [e'] at e; cases e)]
  ·have a':=par_ne e' h1
   have p128:=(par_up e' h1).1
   rw [num_some e' h1,num_some e' h1,ih]
   by_cases hq:q'=s
   ·rw [if_pos hq,if_neg (by omega),hq,h0]
    unfold sub
    rw [if_neg (by omega),if_pos rfl,b2,num4_zeros]
   ·rw [if_neg hq]
    by_cases h:num Z R q'=0
    ·rw [if_neg (by rintro rfl; exact hp _ _ e' h)]
     unfold sub
     rw [if_pos h,if_pos h]
    ·unfold sub
     rw [if_neg h,if_neg h]
     by_cases hqq:∃ p,par s=some (q',p)
     ·obtain ⟨p,e⟩:=hqq
      have pp:=(par_up e hs).1
      have ez:fillZ Z R s m (num Z R q')=set4 (Z (num Z R q')) p m:=by
       simp only [fillZ,e]; exact up_at _ _ _
      rw [ez,num4_set (hl _ (w.rng q' a'.2.1 h).2.1) pp p128 (by omega)]
      by_cases hpp:p'=p
      ·rw [if_pos hpp,if_pos]
       subst hpp
       exact par_inj e' e h1 hs
      ·rw [if_neg hpp,if_neg (by rintro rfl; rw [e'] at e; cases e; exact hpp rfl)]
     ·rw [if_neg (by rintro rfl; exact hqq ⟨_,e'⟩)]
      rw [b3 _ (by have:=(w.rng q' a'.2.1 h).1; omega) (ne q' a'.2.1 h) fun q p e y=>hqq ⟨p,by rw [e,w.inj q' q a'.2.1 (par_ne e hs).2.1 h y]⟩]
 refine ⟨numb,?_,?_,fun s' h1 h2=>?_,fun s1 s2 h1 h2 h3 h4=>?_⟩
 ·cases e:par s with
  | none=>simp only [fillR,e]; exact (setRoot_rr w.rl w.rr (by omega)).1
  | some x=>simp only [fillR,e]; exact w.rl
 ·cases e:par s with
  | none=>simp only [fillR,e]; exact (setRoot_rr w.rl w.rr (by omega)).2
  | some x=>simp only [fillR,e]; exact w.rr
 ·rw [numb s' h1] at h2 ⊢
  by_cases h:s'=s
  ·rw [if_pos h,b1 m f2,if_pos rfl]; exact ⟨f1,f2,rfl⟩
  ·rw [if_neg h] at h2 ⊢
   have r:=w.rng s' h1 h2
   rw [b1 _ r.2.1,if_neg (ne s' h1 h2)]; exact r
 ·rw [numb s1 h1] at h3 h4
  rw [numb s2 h2] at h4
  by_cases e1:s1=s
  ·by_cases e2:s2=s
   ·rw [e1,e2]
   ·rw [if_pos e1,if_neg e2] at h4
    exact absurd h4.symm (ne s2 h2 (by rw [← h4]; omega))
  ·rw [if_neg e1] at h3 h4
   by_cases e2:s2=s
   ·rw [if_pos e2] at h4
    exact absurd h4 (ne s1 h1 h3)
   ·rw [if_neg e2] at h4
    exact w.inj s1 s2 h1 h2 h3 h4
def many (Z:Nat→Txt) (R:List Int):Nat:=cnt (fun s=>decide (num Z R s≠0)) nS
theorem many_fill {m s:Nat} {Z:Nat→Txt} {R:List Int} (hm:m≠0) (hs:s<nS) (h0:num Z R s=0) {Z':Nat→Txt} {R':List Int} (h:∀ s',s'<nS→num Z' R' s'=if s'=s then m else num Z R s'):many Z' R'=many Z R+1:=by
 have e:many Z' R'=cnt (fun s'=>decide ((if s'=s then m else num Z R s')≠0)) nS:=cnt_congr fun j hj=>by rw [h j hj]
 rw [e]
 have:=cnt_upd (p:=fun s'=>decide (num Z R s'≠0)) (q:=fun s'=>decide ((if s'=s then m else num Z R s')≠0)) (i:=s) (fun j hj=>by simp only [if_neg hj]) (by simp only [h0]; rfl) (by simp only [if_pos]; exact decide_eq_true hm) nS
 rw [if_pos hs] at this
 exact this
theorem frees_bits {n m:Nat} {Z Z':Nat→Txt} (h1:(geoN n).data≤m) (h2:m<n) (hz:bit Z m=false) (h:∀ j,j<n→bit Z' j=if j=m then true else bit Z j):frees n Z=frees n Z'+1:=by
 have:=cnt_upd (p:=isFree n Z') (q:=isFree n Z) (i:=m) (fun j hj=>by
   unfold isFree
   by_cases hjn:j<n
   ·rw [h j hjn,if_neg hj]
   ·rw [decide_eq_false hjn]; simp) (by
   unfold isFree
   rw [h m h2,if_pos rfl]; simp) (isFree_iff.mpr ⟨h1,h2,hz⟩) n
 rw [if_pos h2] at this
 exact this
end Go.Proofs.YtiapingedfnlnaaGreatDoor.Bm
namespace Go.Proofs.YtiapingedfnlnaaGreatDoor.Bm
open Go Go.Proofs Wx Hp W Ad Tm Bt Spc Re Av
def numM (T:TM) (R:List Int) (s:Nat×Nat) (at_:Int):Int×Txt×Int :=
 if s.1=0 then (R.getD (3+s.2) 0,[],0) else if s.1=1 then (R.getD 13 0,[],0) else if s.1=2 then (R.getD 14 0,[],0) else
  if (T.read at_).2≠0 then (0,[],(T.read at_).2) else ((num4 (T.read at_).1 s.2:Nat),(T.read at_).1,0)
def lookM (g:G) (v:Int):Int:=if v<g.data∨v≥g.blocks then 100 else 0
def setM (T:TM) (R:List Int) (s:Nat×Nat) (at_:Int) (b:Txt) (v:Int):(TM×List Int)×Int :=
 if s.1=0 then ((T,R.set (3+s.2) v),0) else if s.1=1 then ((T,R.set 13 v),0) else if s.1=2 then ((T,R.set 14 v),0) else
  (((T.write at_ (set4 b s.2 v.toNat)).1,R),(T.write at_ (set4 b s.2 v.toNat)).2)
def walkF (T:TM) (g:G) (R:List Int):List (Nat×Nat)→Int→Int×Int
 | [],a=>(a,0)
 | s::r,a=>if (numM T R s a).2.2≠0 then (0,(numM T R s a).2.2) else if (numM T R s a).1=0 then (0,0) else
   if lookM g (numM T R s a).1≠0 then (0,lookM g (numM T R s a).1) else walkF T g R r (numM T R s a).1
def walkA (g:G):List (Nat×Nat)→TM→List Int→Int→(TM×List Int)×Int×Int
 | [],T,R,a=>((T,R),a,0)
 | s::r,T,R,a=>if (numM T R s a).2.2≠0 then ((T,R),0,(numM T R s a).2.2) else if (numM T R s a).1≠0 then
   if lookM g (numM T R s a).1≠0 then ((T,R),0,lookM g (numM T R s a).1) else walkA g r T R (numM T R s a).1
  else if (takeM T g).2.2≠0 then (((takeM T g).1,R),0,(takeM T g).2.2) else
   if (setM (takeM T g).1 R s a (numM T R s a).2.1 (takeM T g).2.1).2≠0 then ((setM (takeM T g).1 R s a (numM T R s a).2.1 (takeM T g).2.1).1,0,(setM (takeM T g).1 R s a (numM T R s a).2.1 (takeM T g).2.1).2) else
   if (takeM T g).2.1=0 then ((setM (takeM T g).1 R s a (numM T R s a).2.1 (takeM T g).2.1).1,0,0) else
   if lookM g (takeM T g).2.1≠0 then ((setM (takeM T g).1 R s a (numM T R s a).2.1 (takeM T g).2.1).1,0,lookM g (takeM T g).2.1) else
    walkA g r (setM (takeM T g).1 R s a (numM T R s a).2.1 (takeM T g).2.1).1.1 (setM (takeM T g).1 R s a (numM T R s a).2.1 (takeM T g).2.1).1.2 (takeM T g).2.1
def wayM (k:Nat):List (Nat×Nat):=if k<10 then [(0,k)] else if k<138 then [(1,0),(3,k - 10)] else [(2,0),(3,(k - 138) / 128),(3,(k - 138) % 128)]
def z15 : List Int:=List.replicate 15 0
def findM (T:TM) (g:G) (R:List Int) (k:Int):Int×Int:=if k<0∨k≥16522 then (0,101) else walkF T g R (wayM k.toNat) 0
def addM (T:TM) (g:G) (R:List Int) (k:Int):TM×List Int×Int×Int :=
 if k<0∨k≥16522 then (T,z15,0,101) else
  if (walkA g (wayM k.toNat) T R 0).2.2≠0 then (((walkA g (wayM k.toNat) T R 0).1.1.back T.undo.length).1,z15,0,(walkA g (wayM k.toNat) T R 0).2.2)
   else ((walkA g (wayM k.toNat) T R 0).1.1,(walkA g (wayM k.toNat) T R 0).1.2,(walkA g (wayM k.toNat) T R 0).2.1,0)
def stepOf (s:Nat):Nat×Nat:=if s<10 then (0,s) else if s=16522 then (1,0) else if s=16523 then (2,0) else (3,((par s).getD (0,0)).2)
def path (k:Nat):List Nat:=if k<10 then [k] else if k<138 then [16522,k] else [16523,16524+(k - 138) / 128,k]
def Chain : Option Nat→List Nat→Prop
 | _,[]=>True
 | o,s::r=>s<nS∧(match o with|none=>par s=none|some q=>∃ p,par s=some (q,p))∧s ∉ r∧Chain (some s) r
theorem path_chain {k:Nat} (hk:k<16522):Chain none (path k)∧(path k).map stepOf=wayM k:=by
 unfold path wayM
 by_cases h1:k<10
 ·rw [if_pos h1,if_pos h1]
  refine ⟨⟨by unfold nS; omega,by unfold par; exact if_pos h1,by simp,trivial⟩,?_⟩
  simp only [List.map_cons,List.map_nil,stepOf,if_pos h1]
 ·rw [if_neg h1,if_neg h1]
  by_cases h2:k<138
  ·rw [if_pos h2,if_pos h2]
   have e:par k=some (16522,k - 10):=by unfold par; rw [if_neg h1,if_pos h2]
   refine ⟨⟨by decide,by decide,by simp; omega,by unfold nS; omega,⟨_,e⟩,by simp,trivial⟩,?_⟩
   simp only [List.map_cons,List.map_nil,stepOf,if_neg h1,e]
   rw [if_neg (show ¬ 16522<10 by decide),if_pos trivial,if_neg (by omega),if_neg (by omega)]; rfl
  ·rw [if_neg h2,if_neg h2]
   have e:par k=some (16524+(k - 138) / 128,(k - 138) % 128):=by unfold par; rw [if_neg h1,if_neg h2,if_pos hk]
   have e2:par (16524+(k - 138) / 128)=some (16523,(k - 138) / 128):=par_table (by omega)
   refine ⟨⟨by decide,by decide,by simp; omega,by unfold nS; omega,⟨_,e2⟩,by simp; omega,by unfold nS; omega,⟨_,e⟩,by simp,trivial⟩,?_⟩
   simp only [List.map_cons,List.map_nil,stepOf,if_neg h1,e,e2]
   rw [if_neg (show ¬ 16523<10 by decide),if_neg (show ¬ 16523=16522 by decide),if_pos trivial,if_neg (by omega),if_neg (by omega),if_neg (by omega),if_neg (by omega),if_neg (by omega)]; rfl
theorem root_num {n:Nat} {Z:Nat→Txt} {R:List Int} {s:Nat} (w:Wf n Z R) (hs:s<nS) (h:par s=none):root R s=(num Z R s:Nat):=by
 rw [num_none h]
 have a:=par_none h
 have:0≤root R s:=by
  unfold root
  split
  ·exact w.rr _ (by omega) (by omega)
  ·split
   ·exact w.rr _ (by omega) (by omega)
   ·exact w.rr _ (by omega) (by omega)
 omega
def at_ (Z:Nat→Txt) (R:List Int):Option Nat→Int
 | none=>0
 | some q=>(num Z R q:Nat)
def tabO (Z:Nat→Txt) (R:List Int):Option Nat→Txt
 | none=>[]
 | some q=>Z (num Z R q)
theorem numM_tab (T:TM) (R:List Int) (p:Nat) (a:Int):numM T R (3,p) a=if (T.read a).2≠0 then ((0:Int),([]:Txt),(T.read a).2) else (((num4 (T.read a).1 p:Nat):Int),(T.read a).1,(0:Int)):=rfl
theorem stepOf_table {s q p:Nat} (h:par s=some (q,p)) (hs:s<nS):stepOf s=(3,p):=by
 have b:=par_up h hs
 unfold stepOf
 rw [h,if_neg (by omega),if_neg (by unfold nS at *; omega),if_neg (by unfold nS at *; omega)]; rfl
theorem step_num {n:Nat} {Z:Nat→Txt} {R:List Int} {T:TM} {o:Option Nat} {s:Nat} {r:List Nat} (a:Av n Z T) (w:Wf n Z R) (c:Chain o (s::r)) (ho:∀ q,o=some q→q<nS∧num Z R q≠0) :
  numM T R (stepOf s) (at_ Z R o)=(((num Z R s:Nat):Int),tabO Z R o,0):=by
 obtain ⟨hs,hp,_,_⟩:=c
 cases o with
 | none =>
  have hp:par s=none:=hp
  have e:=root_num w hs hp
  have b:=par_none hp
  rcases b with h1|rfl|rfl
  ·have es:stepOf s=(0,s):=by unfold stepOf; rw [if_pos h1]
   rw [es,← e]
   unfold root
   rw [if_pos h1]; rfl
  ·rw [← e]; rfl
  ·rw [← e]; rfl
 | some q =>
  obtain ⟨p,hp⟩:=hp
  obtain ⟨hq,h0⟩:=ho q rfl
  have ru:=w.rng q hq h0
  rw [stepOf_table hp hs,numM_tab]
  have ez:at_ Z R (some q)=((num Z R q:Nat):Int):=rfl
  rw [ez,a.z _ ru.2.1,if_neg (fun y=>y rfl),num_some hp hs]
  unfold sub
  rw [if_neg h0]; rfl
theorem look_ok {n:Nat} {v:Nat} (h1:(geoN n).data≤v) (h2:v<n):lookM (geoN n) (v:Int)=0:=by
 unfold lookM
 have:(geoN n).blocks=n:=rfl
 rw [if_neg (by omega)]
theorem walkF_ok {n:Nat} {Z:Nat→Txt} {R:List Int} {T:TM} (a:Av n Z T) (w:Wf n Z R):∀ (r:List Nat) (o:Option Nat),Chain o r→(∀ q,o=some q→q<nS∧num Z R q≠0) →
  walkF T (geoN n) R (r.map stepOf) (at_ Z R o)=(((match r.getLast? with|none=>at_ Z R o|some s=>(num Z R s:Nat)):Int),0)
 | [],o,_,_=>rfl
 | s::r,o,c,ho=>by
  have e:=step_num a w c ho
  show walkF T (geoN n) R (stepOf s::r.map stepOf) (at_ Z R o)=_
  unfold walkF
  rw [e]
  simp only
  rw [if_neg (fun y=>y rfl)]
  obtain ⟨hs,_,_,c'⟩:=c
  have below:num Z R s=0→∀ (l:List Nat) (x:Nat),Chain (some x) l→num Z R x=0→∀ y ∈ l,num Z R y=0:=fun _ l=>by
   induction l with
   | nil=>intro x _ _ y hy; cases hy
   | cons y l ih =>
    intro x c h0 z hz
    obtain ⟨h1,⟨p,h2⟩,_,h4⟩:=c
    have hy:num Z R y=0:=by rw [num_some h2 h1,h0]; exact if_pos rfl
    rcases List.mem_cons.mp hz with rfl|hz
    ·exact hy
    ·exact ih y h4 hy z hz
  by_cases h0:num Z R s=0
  ·rw [if_pos (by omega)]
   have hl:(match (s::r).getLast? with|none=>at_ Z R o|some s=>((num Z R s:Nat):Int))=0:=by
    cases hg:(s::r).getLast? with
    | none=>rw [List.getLast?_eq_none_iff] at hg; cases hg
    | some x =>
     have hx:=List.mem_of_getLast? hg
     show ((num Z R x:Nat):Int)=0
     rcases List.mem_cons.mp hx with rfl|hx
     ·omega
     ·rw [below h0 r s c' h0 x hx]; rfl
   rw [hl]
  ·have ru:=w.rng s hs h0
   rw [if_neg (by omega),look_ok ru.1 ru.2.1,if_neg (fun y=>y rfl)]
   have:=walkF_ok a w r (some s) c' fun q e=>by cases e; exact ⟨hs,h0⟩
   have ea:at_ Z R (some s)=((num Z R s:Nat):Int):=rfl
   rw [ea] at this
   rw [this]
   cases r with
   | nil=>rfl
   | cons y r =>
    rw [List.getLast?_cons_cons]
    cases hg:(y::r).getLast? with
    | none=>rw [List.getLast?_eq_none_iff] at hg; cases hg
    | some x=>rfl
theorem path_last (k:Nat):(path k).getLast?=some k:=by
 unfold path
 split
 ·rfl
 ·split <;> rfl
theorem find_ok {n:Nat} {Z:Nat→Txt} {R:List Int} {T:TM} (a:Av n Z T) (w:Wf n Z R) {k:Nat} (hk:k<16522):findM T (geoN n) R k=(((num Z R k:Nat):Int),0):=by
 obtain ⟨c,e⟩:=path_chain hk
 unfold findM
 rw [if_neg (by omega)]
 have:=walkF_ok a w (path k) none c fun q y=>by cases y
 rw [e,path_last] at this
 exact this
def miss (Z:Nat→Txt) (R:List Int):List Nat→Nat
 | []=>0
 | s::r=>(if num Z R s=0 then 1 else 0)+miss Z R r
theorem miss_congr {Z Z':Nat→Txt} {R R':List Int}:∀ {l:List Nat},(∀ s ∈ l,num Z' R' s=num Z R s)→miss Z' R' l=miss Z R l
 | [],_=>rfl
 | s::r,h=>by
  show (if num Z' R' s=0 then 1 else 0)+_=(if num Z R s=0 then 1 else 0)+_
  rw [h s (List.mem_cons_self ..),miss_congr fun x hx=>h x (List.mem_cons_of_mem _ hx)]
theorem chain_nS : ∀ {l:List Nat} {o:Option Nat},Chain o l→∀ s ∈ l,s<nS
 | [],_,_,s,h=>by cases h
 | x::r,_,c,s,h=>by
  rcases List.mem_cons.mp h with rfl|h
  ·exact c.1
  ·exact chain_nS c.2.2.2 s h
def From_ (n:Nat) (Z:Nat→Txt) (nx:Nat):Prop:=∀ j,isFree n Z j=true↔nx≤j∧j<n
structure Added (n:Nat) (Z:Nat→Txt) (R:List Int) (o:Option Nat) (l:List Nat) (Z':Nat→Txt) (R':List Int):Prop where
 w:Wf n Z' R'
 off:∀ s,s<nS→s ∉ l→num Z' R' s=num Z R s
 old:∀ s ∈ l,num Z R s≠0→num Z' R' s=num Z R s
 got:∀ s ∈ l,num Z' R' s≠0
 bits:∀ j,j<n→bit Z j=true→bit Z' j=true
 many:many Z' R'=many Z R+miss Z R l
 frees:frees n Z=frees n Z'+miss Z R l
 head:∀ i,i<3→R'.getD i 0=R.getD i 0
 cont:∀ b,b<n→(geoN n).inodes≤b→(b<(geoN n).data∨bit Z b=true)→(∀ q ∈ l,b≠num Z' R' q)→(∀ q,o=some q→b≠num Z R q)→Z' b=Z b
 zero:∀ s ∈ l,s<16522→num Z R s=0→Z' (num Z' R' s)=zeros
 low:∀ nx,From_ n Z nx→From_ n Z' (nx+miss Z R l)∧∀ i (h:i<l.length),num Z R l[i]=0→num Z' R' l[i]=nx+miss Z R (l.take i)
 same:miss Z R l=0→Z'=Z∧R'=R
 ex:∀ j,j<n→bit Z' j=true→bit Z j=true∨∃ s,s ∈ l∧num Z R s=0∧num Z' R' s=j
 new:∀ s ∈ l,num Z R s=0→bit Z (num Z' R' s)=false
theorem Added.nil {n:Nat} {Z:Nat→Txt} {R:List Int} (w:Wf n Z R) (o:Option Nat):Added n Z R o [] Z R :=
 ⟨w,fun _ _ _=>rfl,fun s h=>(by cases h),fun s h=>(by cases h),fun _ _ h=>h,(Nat.add_zero _).symm,(Nat.add_zero _).symm,fun _ _=>rfl,fun _ _ _ _ _ _=>rfl,fun s h=>(by cases h),fun nx h=>⟨h,fun i h=>(by cases h)⟩,fun _=>⟨rfl,rfl⟩,fun _ _ h => .inl h,fun s h=>(by cases h)⟩
theorem From_.take {n m nx:Nat} {Z Z':Nat→Txt} (h:From_ n Z nx) (hm:isFree n Z m=true) (hl:∀ k,k<m→isFree n Z k=false) (hb:∀ j,j<n→bit Z' j=if j=m then true else bit Z j):m=nx∧From_ n Z' (nx+1):=by
 have h1:=(h m).mp hm
 have e:m=nx:=by
  rcases Nat.lt_or_ge nx m with y|y
  ·have:=(h nx).mpr ⟨Nat.le_refl _,by omega⟩
   rw [hl nx y] at this; cases this
  ·omega
 refine ⟨e,fun j=>?_⟩
 rw [isFree_iff]
 have hj:=h j
 rw [isFree_iff] at hj
 constructor
 ·rintro ⟨a,b,c⟩
  rw [hb j b] at c
  by_cases hjm:j=m
  ·rw [if_pos hjm] at c; cases c
  ·rw [if_neg hjm] at c
   have:=hj.mp ⟨a,b,c⟩
   omega
 ·rintro ⟨a,b⟩
  obtain ⟨x,y,z⟩:=hj.mpr ⟨by omega,b⟩
  refine ⟨x,y,?_⟩
  rw [hb j b,if_neg (by omega)]; exact z
theorem Added.skip {n:Nat} {Z Z':Nat→Txt} {R R':List Int} {s:Nat} {r:List Nat} {o:Option Nat} (a:Added n Z R (some s) r Z' R') (hs:s<nS) (hn:s ∉ r) (h0:num Z R s≠0):Added n Z R o (s::r) Z' R':=by
 have em:miss Z R (s::r)=miss Z R r:=by show (if num Z R s=0 then 1 else 0)+_=_; rw [if_neg h0]; omega
 have eo:=a.off s hs hn
 refine ⟨a.w,fun x hx hxn=>a.off x hx fun h=>hxn (List.mem_cons_of_mem _ h),fun x hx h=>?_,fun x hx=>?_,a.bits,by rw [em]; exact a.many,by rw [em]; exact a.frees,a.head,fun b h1 h2 h3 h4 _=>a.cont b h1 h2 h3 (fun q hq=>h4 q (List.mem_cons_of_mem _ hq)) fun q e=>?_,fun x hx h1 h2=>?_,fun nx h=>⟨by rw [em]; exact (a.low nx h).1,fun i hi hz=>?_⟩,by rw [em]; exact a.same,fun j hj h=>(a.ex j hj h).imp id fun ⟨x,hx,h1,h2⟩=>⟨x,List.mem_cons_of_mem _ hx,h1,h2⟩,fun x hx h1=>(List.mem_cons.mp hx).elim (fun e=>absurd (e▸h1) h0) fun hx=>a.new x hx h1⟩
 ·rcases List.mem_cons.mp hx with rfl|hx
  ·exact eo
  ·exact a.old x hx h
 ·rcases List.mem_cons.mp hx with rfl|hx
  ·rw [eo]; exact h0
  ·exact a.got x hx
 ·cases e
  have:=h4 s (List.mem_cons_self ..)
  rw [eo] at this; exact this
 ·rcases List.mem_cons.mp hx with rfl|hx
  ·exact absurd h2 h0
  ·exact a.zero x hx h1 h2
 ·cases i with
  | zero=>exact absurd hz h0
  | succ i =>
   rw [List.getElem_cons_succ] at hz ⊢
   rw [(a.low nx h).2 i (by rw [List.length_cons] at hi; omega) hz,List.take_succ_cons]
   show _=nx+((if num Z R s=0 then 1 else 0)+miss Z R (r.take i))
   rw [if_neg h0,Nat.zero_add]
theorem fillR_head {R:List Int} (s m:Nat) (hl:R.length=15):∀ i,i<3→(fillR R s m).getD i 0=R.getD i 0:=fun i hi=>by
 unfold fillR
 split
 ·unfold setRoot
  split
  ·exact (getD_set _ _ _ _ _ (by omega)).trans (if_neg (by omega))
  ·split
   ·exact (getD_set _ _ _ _ _ (by omega)).trans (if_neg (by omega))
   ·exact (getD_set _ _ _ _ _ (by omega)).trans (if_neg (by omega))
 ·rfl
theorem Added.step {n m:Nat} {Z Z':Nat→Txt} {R R':List Int} {s:Nat} {r:List Nat} {o:Option Nat} (d:Dim n) (hl:∀ k,k<n→(Z k).length=512) (w:Wf n Z R) (c:Chain o (s::r)) (h0:num Z R s=0) (ho:∀ q,o=some q→q<nS∧num Z R q≠0) (hf:isFree n Z m=true) (hlow:∀ k,k<m→isFree n Z k=false)
  (a:Added n (fillZ Z R s m) (fillR R s m) (some s) r Z' R'):Added n Z R o (s::r) Z' R':=by
 obtain ⟨hs,hpo,hn,c'⟩:=c
 have hp:∀ q p,par s=some (q,p)→o=some q∧num Z R q≠0:=fun q p e=>by
  cases o with
  | none =>
   have hpo:par s=none:=hpo
   rw [hpo] at e; cases e
  | some q' =>
   obtain ⟨p',hpo⟩:=hpo
   rw [hpo] at e; cases e
   exact ⟨rfl,(ho _ rfl).2⟩
 obtain ⟨f1,f2,f3⟩:=isFree_iff.mp hf
 have hd:=d.data
 obtain ⟨N1,W1⟩:=Wf.fill d hl w hs h0 (fun q p e=>(hp q p e).2) hf
 obtain ⟨b1,b2,b3⟩:=fillZ_at d hl w hs (fun q p e=>(hp q p e).2) hf
 have ne:∀ x ∈ r,x≠s:=fun x hx e=>hn (e▸hx)
 have rn:∀ x ∈ r,x<nS:=chain_nS c'
 have Nr:∀ x ∈ r,num (fillZ Z R s m) (fillR R s m) x=num Z R x:=fun x hx=>by rw [N1 x (rn x hx),if_neg (ne x hx)]
 have mr:∀ l:List Nat,(∀ x ∈ l,x ∈ r)→miss (fillZ Z R s m) (fillR R s m) l=miss Z R l:=fun l h=>miss_congr fun x hx=>Nr x (h x hx)
 have ms:miss Z R (s::r)=1+miss Z R r:=by show (if num Z R s=0 then 1 else 0)+_=_; rw [if_pos h0]
 have es:num Z' R' s=m:=by rw [a.off s hs hn,N1 s hs,if_pos rfl]
 refine ⟨a.w,fun x hx hxn=>?_,fun x hx h=>?_,fun x hx=>?_,fun j hj h=>a.bits j hj (by rw [b1 j hj]; split <;> first|rfl|exact h),?_,?_,fun i hi=>(a.head i hi).trans (fillR_head s m w.rl i hi),fun b h1 h2 h3 h4 h5=>?_,fun x hx h1 h2=>?_,fun nx h=>?_,fun h=>by omega,fun j hj h=>?_,fun x hx h1=>?_⟩
 ·rw [a.off x hx fun h=>hxn (List.mem_cons_of_mem _ h),N1 x hx,if_neg (fun e:x=s=>hxn (by rw [e]; exact List.mem_cons_self ..))]
 ·rcases List.mem_cons.mp hx with rfl|hx
  ·exact absurd h0 h
  ·rw [a.old x hx (by rw [Nr x hx]; exact h),Nr x hx]
 ·rcases List.mem_cons.mp hx with rfl|hx
  ·rw [es]; omega
  ·exact a.got x hx
 ·have q1:=many_fill (show m≠0 by omega) hs h0 N1
  have q2:=a.many
  rw [mr r fun _ h=>h] at q2
  omega
 ·have q1:=frees_bits f1 f2 f3 b1
  have q2:=a.frees
  rw [mr r fun _ h=>h] at q2
  omega
 ·have hbm:b≠m:=fun e=>h4 s (List.mem_cons_self ..) (by rw [es]; exact e)
  have e1:fillZ Z R s m b=Z b:=b3 b h2 hbm fun q p e=>h5 q (hp q p e).1
  rw [← e1]
  refine a.cont b h1 h2 (h3.imp id fun y=>?_) (fun q hq=>h4 q (List.mem_cons_of_mem _ hq)) fun q e=>?_
  ·rw [b1 b h1]; split
   ·rfl
   ·exact y
  ·cases e
   rw [N1 s hs,if_pos rfl]; exact hbm
 ·rcases List.mem_cons.mp hx with rfl|hx
  ·have er:r=[]:=by
    cases r with
    | nil=>rfl
    | cons y r =>
     obtain ⟨hy,⟨p,e⟩,_⟩:=c'
     have:=(par_ne e hy).2.2
     omega
   subst er
   obtain ⟨e1,e2⟩:=a.same rfl
   rw [es,e1]; exact b2
  ·exact a.zero x hx h1 (by rw [Nr x hx]; exact h2)
 ·obtain ⟨e1,h'⟩:=h.take hf hlow b1
  obtain ⟨q1,q2⟩:=a.low (nx+1) h'
  refine ⟨?_,fun i hi hz=>?_⟩
  ·rw [mr r fun _ h=>h] at q1
   rw [ms,show nx+(1+miss Z R r)=nx+1+miss Z R r by omega]; exact q1
  ·cases i with
   | zero =>
    show num Z' R' s=nx+0
    rw [es,e1]; rfl
   | succ i =>
    have hi':i<r.length:=by rw [List.length_cons] at hi; omega
    rw [List.getElem_cons_succ] at hz ⊢
    rw [q2 i hi' (by rw [Nr _ (List.getElem_mem hi')]; exact hz),List.take_succ_cons,mr (r.take i) fun x hx=>List.mem_of_mem_take hx]
    show _=nx+((if num Z R s=0 then 1 else 0)+miss Z R (r.take i))
    rw [if_pos h0]; omega
 ·rcases a.ex j hj h with h|⟨x,hx,h1,h2⟩
  ·rw [b1 j hj] at h
   by_cases e:j=m
   ·exact .inr ⟨s,List.mem_cons_self ..,h0,by rw [es,e]⟩
   ·rw [if_neg e] at h; exact .inl h
  ·exact .inr ⟨x,List.mem_cons_of_mem _ hx,by rw [← Nr x hx]; exact h1,h2⟩
 ·rcases List.mem_cons.mp hx with rfl|hx
  ·rw [es]; exact f3
  ·have hb:=a.new x hx (by rw [Nr x hx]; exact h1)
   have hr:=a.w.rng x (rn x hx) (a.got x hx)
   rw [b1 _ hr.2.1] at hb
   by_cases e:num Z' R' x=m
   ·rw [if_pos e] at hb; cases hb
   ·rw [if_neg e] at hb; exact hb
theorem setM_root {T:TM} {R:List Int} {s:Nat} {a:Int} {b:Txt} {m:Nat} (h:par s=none):setM T R (stepOf s) a b m=((T,fillR R s m),0):=by
 rcases par_none h with h1|rfl|rfl
 ·have es:stepOf s=(0,s):=by unfold stepOf; rw [if_pos h1]
  have ef:fillR R s m=R.set (3+s) m:=by unfold fillR setRoot; rw [h]; simp only [if_pos h1]
  rw [es,ef]; rfl
 ·rfl
 ·rfl
theorem keys_le {l m k:List Int} (h:m.Nodup) (hs:∀ x ∈ m,x ∈ k∨x ∈ l):m.length≤k.length+l.length:=by
 have:=nodup_len (l:=m) (m:=k++l) h fun x hx=>List.mem_append.mpr (hs x hx)
 rw [List.length_append] at this
 exact this
inductive AddR (n:Nat) (Z:Nat→Txt) (T:TM) (R:List Int) (o:Option Nat) (l:List Nat) (res:(TM×List Int)×Int×Int):Prop where
 | ok (Z':Nat→Txt):res.2=(at_ Z' res.1.2 (match l.getLast? with|none=>o|some s=>some s),0)→Av n Z' res.1.1→Added n Z R o l Z' res.1.2→(miss Z R l=0→res.1.1=T)→(∀ x ∈ ks res.1.1,x ∈ ks T∨x<(geoN n).inodes∨(∃ s ∈ l,x=(num Z' res.1.2 s:Nat))∨∃ q,o=some q∧x=(num Z R q:Nat))→((∀ x ∈ ks T,x ∈ ks res.1.1)∧∀ s ∈ l,num Z R s=0→((num Z' res.1.2 s:Nat):Int) ∈ ks res.1.1)→AddR n Z T R o l res
 | full:res.2=(0,60)→96≤(ks T).length+3*l.length→AddR n Z T R o l res
 | none_:res.2=(0,90)→frees n Z<miss Z R l→AddR n Z T R o l res
theorem walkA_ok {n:Nat} (d:Dim n):∀ (l:List Nat) (o:Option Nat) (Z:Nat→Txt) (T T0:TM) (R:List Int),Av n Z T→Wf n Z R→Chain o l→(∀ q,o=some q→q<nS∧num Z R q≠0)→Ext T0 T →
  AddR n Z T R o l (walkA (geoN n) (l.map stepOf) T R (at_ Z R o))∧Ext T0 (walkA (geoN n) (l.map stepOf) T R (at_ Z R o)).1.1
 | [],o,Z,T,T0,R,a,w,_,_,ex=>⟨.ok Z rfl a (Added.nil w o) (fun _=>rfl) (fun x hx => .inl hx) ⟨fun x hx=>hx,fun s hs=>by cases hs⟩,ex⟩
 | s::r,o,Z,T,T0,R,a,w,c,ho,ex=>by
  have e:=step_num a w c ho
  have c0:=c
  obtain ⟨hs,hpo,hn,c'⟩:=c
  show AddR n Z T R o (s::r) (walkA (geoN n) (stepOf s::r.map stepOf) T R (at_ Z R o))∧Ext T0 (walkA (geoN n) (stepOf s::r.map stepOf) T R (at_ Z R o)).1.1
  unfold walkA
  rw [e]
  simp only
  rw [if_neg (fun y=>y rfl)]
  have last:∀ {Z':Nat→Txt} {R':List Int},at_ Z' R' (match r.getLast? with|none=>some s|some s=>some s)=at_ Z' R' (match (s::r).getLast? with|none=>o|some s=>some s):=fun {Z' R'}=>by
   cases r with
   | nil=>rfl
   | cons y r =>
    rw [List.getLast?_cons_cons]
    cases hg:(y::r).getLast? with
    | none=>rw [List.getLast?_eq_none_iff] at hg; cases hg
    | some x=>rfl
  have hd:=d.data
  by_cases h0:num Z R s=0
  ·rw [if_neg (by omega)]
   rcases a.taken d with ⟨m,hm,hl,et⟩|⟨hno,et⟩
   ·obtain ⟨f1,f2,f3⟩:=isFree_iff.mp hm
    have hmi:=(d.map f2).2.2.1
    rw [et]
    rcases a.take d f1 f2 with ⟨e1,a1,k1⟩|⟨e1,h95⟩
    ·have ex1:=takeAt_ext ex (geoN n) m
     have e11:(takeAt T (geoN n) m).2.1=m:=by rw [e1]
     have e12:(takeAt T (geoN n) m).2.2=0:=by rw [e1]
     rw [e12,e11,if_neg (fun y=>y rfl)]
     have hlen:=a.len
     -- what follows, once the number stands
     have go:∀ (T2:TM),Av n (fillZ Z R s m) T2→Ext T0 T2→(∀ x ∈ ks T2,x ∈ ks T∨x<(geoN n).inodes∨x=(m:Nat)∨∃ q,o=some q∧x=(num Z R q:Nat))→(∀ x ∈ ks T,x ∈ ks T2)∧((m:Nat):Int) ∈ ks T2→(ks T2).length≤(ks T).length+3→(∀ q p,par s=some (q,p)→num Z R q≠0) →
       AddR n Z T R o (s::r) (walkA (geoN n) (r.map stepOf) T2 (fillR R s m) m)∧Ext T0 (walkA (geoN n) (r.map stepOf) T2 (fillR R s m) m).1.1:=by
      intro T2 a2 ex2 k2 lw l2 hp
      obtain ⟨N1,W1⟩:=Wf.fill d hlen w hs h0 hp hm
      obtain ⟨b1,b2,b3⟩:=fillZ_at d hlen w hs hp hm
      have ih:=walkA_ok d r (some s) (fillZ Z R s m) T2 T0 (fillR R s m) a2 W1 c' (fun q e=>by cases e; exact ⟨hs,by rw [N1 s hs,if_pos rfl]; omega⟩) ex2
      have ea:at_ (fillZ Z R s m) (fillR R s m) (some s)=(m:Int):=by show ((num _ _ s:Nat):Int)=_; rw [N1 s hs,if_pos rfl]
      rw [ea] at ih
      refine ⟨?_,ih.2⟩
      have rn:∀ x ∈ r,x<nS:=chain_nS c'
      have mr:miss (fillZ Z R s m) (fillR R s m) r=miss Z R r:=miss_congr fun x hx=>by rw [N1 x (rn x hx),if_neg fun e:x=s=>hn (by rw [← e]; exact hx)]
      have ms:miss Z R (s::r)=1+miss Z R r:=by show (if num Z R s=0 then 1 else 0)+_=_; rw [if_pos h0]
      rcases ih.1 with ⟨Z',e',a',ad,_,kk,lk1,lk2⟩|⟨e',h96⟩|⟨e',hfr⟩
      ·have AD:=ad.step d hlen w c0 h0 ho hm hl
       refine .ok Z' (by rw [e',last]) a' AD (fun y=>by omega) (fun x hx=>?_) ⟨fun x hx=>lk1 x (lw.1 x hx),fun x hx h0x=>?_⟩
       ·rcases kk x hx with h|h|⟨s',h1,h2⟩|⟨q,h1,h2⟩
        ·rcases k2 x h with h|h|h|h
         ·exact .inl h
         ·exact .inr (.inl h)
         ·exact .inr (.inr (.inl ⟨s,List.mem_cons_self ..,by rw [h,ad.off s hs hn,N1 s hs,if_pos rfl]⟩))
         ·exact .inr (.inr (.inr h))
        ·exact .inr (.inl h)
        ·exact .inr (.inr (.inl ⟨s',List.mem_cons_of_mem _ h1,h2⟩))
        ·cases h1
         exact .inr (.inr (.inl ⟨s,List.mem_cons_self ..,by rw [h2,ad.off s hs hn]⟩))
       ·rcases List.mem_cons.mp hx with rfl|hx
        ·rw [ad.off _ hs hn,N1 _ hs,if_pos rfl]
         exact lk1 _ lw.2
        ·exact lk2 x hx (by rw [N1 x (rn x hx),if_neg fun e:x=s=>hn (by rw [← e]; exact hx)]; exact h0x)
      ·exact .full e' (by rw [List.length_cons]; omega)
      ·refine .none_ e' ?_
       rw [frees_bits f1 f2 f3 b1,ms,← mr]; omega
     have lk:=look_ok (n:=n) f1 f2
     cases o with
     | none =>
      have hpo:par s=none:=hpo
      have ez:fillZ Z R s m=takeZ Z m:=by simp only [fillZ,hpo]
      rw [setM_root hpo,if_neg (fun y=>y rfl),if_neg (by omega),lk,if_neg (fun y=>y rfl)]
      refine go _ (by rw [ez]; exact a1) ex1 (fun x hx=>?_) ⟨fun x hx=>(k1 x).mpr (.inl hx),(k1 _).mpr (.inr (.inr rfl))⟩ ?_ fun q p e=>by rw [hpo] at e; cases e
      ·rcases (k1 x).mp hx with h|h|h
       ·exact .inl h
       ·exact .inr (.inl (by have:=d.map f2; omega))
       ·exact .inr (.inr (.inl h))
      ·have:=Bm.keys_le (l:=[((98+m / 4096:Nat):Int),(m:Int)]) a1.keys fun x hx=>by
        rcases (k1 x).mp hx with h|h|h
        ·exact .inl h
        ·exact .inr (by rw [h]; simp)
        ·exact .inr (by rw [h]; simp)
       exact Nat.le_trans this (by show _+2≤_; omega)
     | some q =>
      obtain ⟨p,hp⟩:=hpo
      obtain ⟨hq,hq0⟩:=ho q rfl
      have ru:=w.rng q hq hq0
      have hqm:num Z R q≠m:=fun y=>by have:=ru.2.2; rw [y,f3] at this; cases this
      have pp:=(par_up hp hs).1
      have hqd:=(d.map ru.2.1).2.2.1
      have ez:fillZ Z R s m=up (takeZ Z m) (num Z R q) (set4 (Z (num Z R q)) p m):=by simp only [fillZ,hp]
      have er:fillR R s m=R:=by simp only [fillR,hp]
      have es:setM (takeAt T (geoN n) m).1 R (stepOf s) (at_ Z R (some q)) (tabO Z R (some q)) m=((((takeAt T (geoN n) m).1.write (num Z R q:Nat) (set4 (Z (num Z R q)) p m)).1,R),((takeAt T (geoN n) m).1.write (num Z R q:Nat) (set4 (Z (num Z R q)) p m)).2):=by
       rw [stepOf_table hp hs]; rfl
      rw [es]
      simp only
      have l5:=set4_length (v:=m) (a.len _ ru.2.1) pp
      rcases a1.write_full (i:=num Z R q) (bs:=set4 (Z (num Z R q)) p m) (by omega) ru.2.1 l5 with h|⟨h,h96,_⟩
      ·rw [if_neg (fun y=>y h),if_neg (by omega),lk,if_neg (fun y=>y rfl)]
       have k3:=write_keys h
       have a2:=a1.write (by omega) ru.2.1 l5 h
       have kall:∀ x ∈ ks ((takeAt T (geoN n) m).1.write (num Z R q:Nat) (set4 (Z (num Z R q)) p m)).1,x ∈ ks T∨x=((98+m / 4096:Nat):Int)∨x=(m:Nat)∨x=(num Z R q:Nat):=fun x hx=>by
        rcases (k3 x).mp hx with hx|hx
        ·rcases (k1 x).mp hx with h|h|h
         ·exact .inl h
         ·exact .inr (.inl h)
         ·exact .inr (.inr (.inl h))
        ·exact .inr (.inr (.inr hx))
       have G:=go _ (by rw [ez]; exact a2) (ex1.write _ _) (fun x hx=>by
        rcases kall x hx with h|h|h|h
        ·exact .inl h
        ·exact .inr (.inl (by have:=d.map f2; omega))
        ·exact .inr (.inr (.inl h))
        ·exact .inr (.inr (.inr ⟨q,rfl,h⟩))) ⟨fun x hx=>(k3 x).mpr (.inl ((k1 x).mpr (.inl hx))),(k3 _).mpr (.inl ((k1 _).mpr (.inr (.inr rfl))))⟩ (by
        have:=Bm.keys_le (l:=[((98+m / 4096:Nat):Int),(m:Int),(num Z R q:Int)]) a2.keys fun x hx=>by
         rcases kall x hx with h|h|h|h
         ·exact .inl h
         ·exact .inr (by rw [h]; simp)
         ·exact .inr (by rw [h]; simp)
         ·exact .inr (by rw [h]; simp)
        exact this) fun q' p' e=>by rw [hp] at e; cases e; exact hq0
       rw [er] at G
       exact G
      ·rw [h,if_pos (show (60:Int)≠0 by decide)]
       refine ⟨.full rfl ?_,ex1⟩
       have:=Bm.keys_le (l:=[((98+m / 4096:Nat):Int),(m:Int)]) a1.keys fun x hx=>by
        rcases (k1 x).mp hx with h|h|h
        ·exact .inl h
        ·exact .inr (by rw [h]; simp)
        ·exact .inr (by rw [h]; simp)
       have:(ks (takeAt T (geoN n) m).1).length≤(ks T).length+2:=this
       rw [List.length_cons]; omega
    ·rw [e1,if_pos (show (60:Int)≠0 by decide)]
     exact ⟨.full rfl (by rw [List.length_cons]; omega),ex⟩
   ·rw [et,if_pos (show (90:Int)≠0 by decide)]
    refine ⟨.none_ rfl ?_,ex⟩
    have:frees n Z=0:=cnt_zero fun j _=>hno j
    show frees n Z<(if num Z R s=0 then 1 else 0)+_
    rw [if_pos h0]; omega
  ·have ru:=w.rng s hs h0
   rw [if_pos (by omega),look_ok ru.1 ru.2.1,if_neg (fun y=>y rfl)]
   obtain ⟨ih,ex'⟩:=walkA_ok d r (some s) Z T T0 R a w c' (fun q e=>by cases e; exact ⟨hs,h0⟩) ex
   have ea:at_ Z R (some s)=((num Z R s:Nat):Int):=rfl
   rw [ea] at ih ex'
   refine ⟨?_,ex'⟩
   have em:miss Z R (s::r)=miss Z R r:=by show (if num Z R s=0 then 1 else 0)+_=_; rw [if_neg h0]; omega
   rcases ih with ⟨Z',e',a',ad,sm,kk,lk1,lk2⟩|⟨e',h96⟩|⟨e',hfr⟩
   ·refine .ok Z' (by rw [e',last]) a' (ad.skip hs hn h0) (by rw [em]; exact sm) (fun x hx=>?_) ⟨lk1,fun x hx h0x=>(List.mem_cons.mp hx).elim (fun e=>absurd (e▸h0x) h0) fun hx=>lk2 x hx h0x⟩
    rcases kk x hx with h|h|⟨s',h1,h2⟩|⟨q,h1,h2⟩
    ·exact .inl h
    ·exact .inr (.inl h)
    ·exact .inr (.inr (.inl ⟨s',List.mem_cons_of_mem _ h1,h2⟩))
    ·cases h1
     exact .inr (.inr (.inl ⟨s,List.mem_cons_self ..,by rw [h2,ad.off s hs hn]⟩))
   ·exact .full e' (by rw [List.length_cons]; omega)
   ·exact .none_ e' (by rw [em]; exact hfr)
end Go.Proofs.YtiapingedfnlnaaGreatDoor.Bm
namespace Go.Proofs.YtiapingedfnlnaaGreatDoor.Bm
open Go Go.Proofs Wx Hp W Ad Tm Spc Re Av
open Hd (ints wrap_u64)
open In (Glo ints_length ints_one)
def stV (s:Nat×Nat):List Value:=[.int .i64 s.1,.int .i64 s.2]
def fileV (t:Option Addr) (g:G) (R:List Int):List Value := .pointer t::(g.v++ints R)
theorem fileV_get {t:Option Addr} {g:G} {R:List Int} {i:Nat} (hi:i<R.length):(fileV t g R)[6+i]?=some (.int .i64 (R.getD i 0)):=by
 rw [Nat.add_comm 6 i]
 show (ints R)[i]?=_
 rw [ints,List.getElem?_map,List.getD_eq_getElem?_getD,List.getElem?_eq_getElem hi]; rfl
theorem fileV_set (t:Option Addr) (g:G) (R:List Int) (i:Nat) (v:Int):(fileV t g R).set (6+i) (.int .i64 v)=fileV t g (R.set i v):=by
 rw [Nat.add_comm 6 i]
 show .pointer t :: .int .i64 g.blocks :: .int .i64 g.bitmap :: .int .i64 g.inodes :: .int .i64 g.data :: .int .i64 g.count::(ints R).set i (.int .i64 v)=_
 have e:ints (R.set i v)=(ints R).set i (.int .i64 v):=by rw [ints,ints,List.map_set]
 unfold fileV; rw [e]; rfl
theorem fileV_len {t:Option Addr} {g:G} {R:List Int} (h:R.length=15):(fileV t g R).length=21:=by
 unfold fileV; rw [List.length_cons,List.length_append,ints_length,h]; rfl
theorem cell2 {h:Heap} {b i j:Nat} {xs:List Value} {v:Value} (e:rd h b=xs) (hv:xs[i+j]?=some v):cellOf h (Addr.add (Addr.add ⟨b,0,none⟩ i) j)=some v:=by
 rw [add_mk,add_mk,cellOf_rd,e,Nat.zero_add]; exact hv
theorem look_spec {h:Heap} {fb:Nat} {t:Option Addr} {g:G} {R:List Int} {v:Int} {K:Value→Heap→Prop} (e:rd h fb=fileV t g R) (hK:K (.int .i64 (lookM g v)) h):C.bmap_file_look (some ⟨fb,0,none⟩) v h K:=by
 refine bmap_file_look.ok (os ⟨g.data,cell2 e rfl,cd (fun y=>?_) fun y=>os ⟨g.blocks,cell2 e rfl,cd (fun y2=>?_) fun y2=>?_⟩⟩)
 ·have:lookM g v=100:=by unfold lookM; rw [if_pos (.inl y)]
  rw [this] at hK; exact hK
 ·have:lookM g v=100:=by unfold lookM; rw [if_pos (.inr y2)]
  rw [this] at hK; exact hK
 ·have:lookM g v=0:=by unfold lookM; rw [if_neg (by omega)]
  rw [this] at hK; exact hK
theorem way_spec {k:Int} {h:Heap} {K:Value→Heap→Prop} (h0:0≤k) (h1:k<16522)
  (hK:∀ h',Fr No h h'→h.size<h'.size→rd h' h.size=(wayM k.toNat).flatMap stV→K (.slice (some ⟨h.size,0,none⟩) (wayM k.toNat).length (wayM k.toNat).length) h'):C.bmap_way k h K:=by
 have cast:((k.toNat:Nat):Int)=k:=by omega
 refine bmap_way.ok (cd (fun y=>⟨rfl,New.intro fun h2 n2=>?_⟩) fun y=>cd (fun y2=>⟨rfl,rfl,New.intro fun h2 n2=>?_⟩) fun y2=>⟨rfl,rfl,rfl,New.intro fun h2 n2=>?_⟩)
 ·have e:wayM k.toNat=[(0,k.toNat)]:=by unfold wayM; rw [if_pos (by omega)]
  rw [e] at hK
  refine hK h2 n2.fr n2.own.lt (n2.rd.trans ?_)
  show _=[Value.int .i64 ((0:Nat):Int),.int .i64 ((k.toNat:Nat):Int)]
  rw [cast]; rfl
 ·have e:wayM k.toNat=[(1,0),(3,k.toNat - 10)]:=by unfold wayM; rw [if_neg (by omega),if_pos (by omega)]
  rw [e] at hK
  refine hK h2 n2.fr n2.own.lt (n2.rd.trans ?_)
  show _=[Value.int .i64 ((1:Nat):Int),.int .i64 ((0:Nat):Int),.int .i64 ((3:Nat):Int),.int .i64 ((k.toNat - 10:Nat):Int)]
  rw [wrap_i64 (by omega) (by omega),show ((k.toNat - 10:Nat):Int)=k - 10 by omega]; rfl
 ·have e:wayM k.toNat=[(2,0),(3,(k.toNat - 138) / 128),(3,(k.toNat - 138) % 128)]:=by unfold wayM; rw [if_neg (by omega),if_neg (by omega)]
  rw [e] at hK
  refine hK h2 n2.fr n2.own.lt (n2.rd.trans ?_)
  show _=[Value.int .i64 ((2:Nat):Int),.int .i64 ((0:Nat):Int),.int .i64 ((3:Nat):Int),.int .i64 (((k.toNat - 138) / 128:Nat):Int),.int .i64 ((3:Nat):Int),.int .i64 (((k.toNat - 138) % 128:Nat):Int)]
  have e1:Int.tdiv (k - 138) 128=(((k.toNat - 138) / 128:Nat):Int):=by rw [Int.tdiv_eq_ediv_of_nonneg (by omega)]; omega
  have e2:Int.tmod (k - 138) 128=(((k.toNat - 138) % 128:Nat):Int):=by rw [Int.tmod_eq_emod_of_nonneg (by omega)]; omega
  rw [wrap_i64 (n:=k - 138) (by omega) (by omega),e1,e2,wrap_i64 (by omega) (by omega)]; rfl
def StOk (s:Nat×Nat):Prop:=s.1=0∧s.2<10∨s.1=1∨s.1=2∨s.1=3∧s.2<128
theorem wayM_ok {k:Nat} (h:k<16522):∀ s ∈ wayM k,StOk s:=by
 unfold wayM StOk
 intro s hs
 split at hs
 ·simp at hs; subst hs; exact .inl ⟨rfl,by assumption⟩
 ·split at hs
  ·simp at hs; rcases hs with rfl|rfl
   ·exact .inr (.inl rfl)
   ·exact .inr (.inr (.inr ⟨rfl,by simp only; omega⟩))
  ·simp at hs; rcases hs with rfl|rfl|rfl
   ·exact .inr (.inr (.inl rfl))
   ·exact .inr (.inr (.inr ⟨rfl,by simp only; omega⟩))
   ·exact .inr (.inr (.inr ⟨rfl,by simp only; omega⟩))
def ownI (s:Nat×Nat):Nat:=if s.1=0 then 3+s.2 else if s.1=1 then 13 else 14
theorem ownI_lt {s:Nat×Nat} (hs:StOk s):ownI s<15:=by
 unfold ownI
 rcases hs with ⟨h1,h2⟩|h1|h1|⟨h1,_⟩
 ·rw [if_pos h1]; omega
 ·rw [if_neg (by omega),if_pos h1]; decide
 ·rw [if_neg (by omega),if_neg (by omega)]; decide
 ·rw [if_neg (by omega),if_neg (by omega)]; decide
theorem own_spec {h:Heap} {fb:Nat} {s:Nat×Nat} {K:Value→Heap→Prop} (hs:StOk s) (hK:∀ h',Fr No h h'→K (.pointer (some ⟨fb,6+ownI s,none⟩)) h'):C.bmap_file_own (some ⟨fb,0,none⟩) (stV s) h K:=by
 refine bmap_file_own.ok (New.intro fun h2 n2=>⟨_,rda n2.rd rfl,ce (fun y=>⟨_,rda n2.rd rfl,os ⟨⟨by omega,?_⟩,?_⟩⟩) fun y=>ce (fun y2=>os ?_) fun y2=>os ?_⟩)
 ·rcases hs with ⟨_,h2⟩|h1|h1|⟨h1,_⟩ <;> omega
 ·have e:ownI s=3+s.2:=by unfold ownI; rw [if_pos (by omega)]
  have hK:=hK h2 n2.fr
  rw [add_mk,add_mk,add_mk,Int.toNat_natCast]
  rw [e] at hK
  rw [show 0+6+3+s.2=6+(3+s.2) by omega]; exact hK
 ·have e:ownI s=13:=by unfold ownI; rw [if_neg (by omega),if_pos (by omega)]
  have hK:=hK h2 n2.fr
  rw [e] at hK
  rw [add_mk,add_mk]; exact hK
 ·have e:ownI s=14:=by unfold ownI; rw [if_neg (by omega),if_neg (by omega)]
  have hK:=hK h2 n2.fr
  rw [e] at hK
  rw [add_mk,add_mk]; exact hK
theorem numM_own {T:TM} {R:List Int} {s:Nat×Nat} {a:Int} (hs:StOk s) (h:s.1≠3):numM T R s a=(R.getD (ownI s) 0,[],0):=by
 unfold numM ownI
 rcases hs with ⟨h1,_⟩|h1|h1|⟨h1,_⟩
 ·rw [if_pos h1,if_pos h1]
 ·rw [if_neg (by omega),if_pos h1,if_neg (by omega),if_pos h1]
 ·rw [if_neg (by omega),if_neg (by omega),if_pos h1,if_neg (by omega),if_neg (by omega)]
 ·exact absurd h1 h
theorem numM_t {T:TM} {R:List Int} {s:Nat×Nat} {a:Int} (h:s.1=3):numM T R s a=if (T.read a).2≠0 then ((0:Int),([]:Txt),(T.read a).2) else (((num4 (T.read a).1 s.2:Nat):Int),(T.read a).1,(0:Int)):=by
 unfold numM
 rw [if_neg (by omega),if_neg (by omega),if_neg (by omega)]
theorem number_spec {h:Heap} {F:Nat→Prop} {t d:Option Addr} {T:TM} {g:G} {R:List Int} {fb:Nat} {s:Nat×Nat} {a:Int} {K:Value→Heap→Prop} (gl:In.Glo h) (x:Tx h F t d T) (e:rd h fb=fileV t g R) (hR:R.length=15) (hs:StOk s)
  (hK:∀ sa sl sc h',Fr No h h'→sl=(numM T R s a).2.1.length→Sl h' 1 sa sl sc ((numM T R s a).2.1.map bv) (From h.size)→K (.tuple #[.int .i64 (numM T R s a).1,.slice sa sl sc,.int .i64 (numM T R s a).2.2]) h'):C.bmap_file_number (some ⟨fb,0,none⟩) (stV s) a h K:=by
 have fl:fb<h.size:=rd_lt (o:=0) (by rw [e]; rfl)
 refine bmap_file_number.ok (New.intro fun h2 n2=>⟨_,rda n2.rd rfl,cn (fun y=>⟨stV s,rfl,cellsAll n2.rd,own_spec hs fun h3 f3=>⟨_,rfl,os ?_⟩⟩) fun y=>os ?_⟩)
 ·rw [numM_own hs (by omega)] at hK
  have F3:=n2.fr.no f3
  refine ⟨_,rdc ((F3.rd fl fun y=>y).trans e) (fileV_get (by rw [hR]; exact ownI_lt hs)),hK none 0 0 h3 F3 rfl (Sl.nil _ _ _)⟩
 ·have hs3:s.1=3:=by omega
  have hs2:s.2<128:=by rcases hs with ⟨h1,_⟩|h1|h1|⟨_,h2⟩ <;> omega
  rw [numM_t hs3] at hK
  refine ⟨t,rda ((n2.at_ fl).trans e) rfl,Tm.Read_spec (x.no n2.fr) fun sa sl sc h4 f4 el s4=>⟨_,_,_,_,rfl,cn (fun he=>?_) fun he=>?_⟩⟩
  ·rw [if_pos he] at hK
   exact hK none 0 0 h4 (n2.fr.no f4) rfl (Sl.nil _ _ _)
  ·rw [if_neg (fun y=>y he)] at hK
   have hlen:(T.read a).1.length=512:=Tx.readLen x he
   have F4:=n2.fr.no f4
   have z2:=n2.size
   refine ⟨_,rda ((f4.rd n2.own.lt fun y=>y).trans n2.rd) rfl,?_⟩
   rw [wrap_i64 (n:=4*(s.2:Int)) (by omega) (by omega)]
   refine In.Get_w (gl.no F4) s4.str (by omega) (.inr (.inr (.inl rfl))) (by omega) (by omega) ⟨_,_,rfl,?_⟩
   have en:leN (((T.read a).1.drop (4*(s.2:Int)).toNat).take (Int.toNat 4))=num4 (T.read a).1 s.2:=by
    unfold num4
    rw [show (4*(s.2:Int)).toNat=4*s.2 by omega]; rfl
   rw [en]
   have lt:=num4_lt (T.read a).1 s.2
   rw [wrap_i64 (by omega) (by omega)]
   exact hK sa sl sc h4 F4 el (s4.mono fun b hb=>by have:h2.size≤b:=hb; show h.size≤b; omega)
theorem setM_own {T:TM} {R:List Int} {s:Nat×Nat} {a v:Int} {b:Txt} (hs:StOk s) (h:s.1≠3):setM T R s a b v=((T,R.set (ownI s) v),0):=by
 unfold setM ownI
 rcases hs with ⟨h1,_⟩|h1|h1|⟨h1,_⟩
 ·rw [if_pos h1,if_pos h1]
 ·rw [if_neg (by omega),if_pos h1,if_neg (by omega),if_pos h1]
 ·rw [if_neg (by omega),if_neg (by omega),if_pos h1,if_neg (by omega),if_neg (by omega)]
 ·exact absurd h1 h
theorem setM_t {T:TM} {R:List Int} {s:Nat×Nat} {a v:Int} {b:Txt} (h:s.1=3):setM T R s a b v=(((T.write a (set4 b s.2 v.toNat)).1,R),(T.write a (set4 b s.2 v.toNat)).2):=by
 unfold setM
 rw [if_neg (by omega),if_neg (by omega),if_neg (by omega)]
theorem setM_len {T:TM} {R:List Int} {s:Nat×Nat} {a v:Int} {b:Txt} (hs:StOk s) (hR:R.length=15):(setM T R s a b v).1.2.length=15:=by
 by_cases h:s.1=3
 ·rw [setM_t h]; exact hR
 ·rw [setM_own hs h]; show (R.set _ _).length=15; rw [List.length_set]; exact hR
theorem sl_rngB {h:Heap} {ec l c:Nat} {a:Option Addr} {xs:List Value} {F:Nat→Prop} (s:Sl h ec a l c xs F):Sl h ec a l c xs (fun b=>F b∧b<h.size):=by
 obtain ⟨h1,h2⟩:=s
 refine ⟨h1,?_⟩
 cases a with
 | none=>exact h2
 | some p=>exact ⟨h2.1,⟨h2.2.1,h2.2.2.1.lt⟩,h2.2.2.1,h2.2.2.2.1,h2.2.2.2.2⟩
theorem write_un (T:TM) (i:Int) (bs:Txt):(T.write i bs).1.undo.length≤T.undo.length+1:=by
 by_cases h:(T.write i bs).2=0
 ·obtain ⟨_,_,_,_,_,ew⟩:=TM.write_ok h
  rw [ew]
  show (T.undo++[_]).length≤_
  rw [List.length_append]; exact Nat.le_refl _
 ·rw [TM.write_bad h]; exact Nat.le_add_right _ _
theorem setM_un {T:TM} {R:List Int} {s:Nat×Nat} {a v:Int} {b:Txt} (hs:StOk s):(setM T R s a b v).1.1.undo.length≤T.undo.length+1:=by
 by_cases h:s.1=3
 ·rw [setM_t h]; exact write_un _ _ _
 ·rw [setM_own hs h]; exact Nat.le_add_right _ _
theorem setBit_un (T:TM) (g:G) (i:Nat) (on:Bool):(setBit T g i on).1.undo.length≤T.undo.length+1:=by
 unfold setBit
 split
 ·exact Nat.le_add_right _ _
 ·exact write_un _ _ _
theorem takeM_un (T:TM) (g:G):(takeM T g).1.undo.length≤T.undo.length+2:=by
 unfold takeM
 split
 ·unfold takeAt
  split
  ·exact Nat.le_add_right _ _
  ·split
   ·exact Nat.le_add_right _ _
   ·exact Nat.le_trans (write_un _ _ _) (Nat.succ_le_succ (setBit_un _ _ _ _))
 ·exact Nat.le_add_right _ _
theorem takeM_rng (T:TM) (g:G):0≤(takeM T g).2.1∧((takeM T g).2.1=0∨(takeM T g).2.1<g.blocks):=by
 unfold takeM
 split
 ·rename_i m hm
  have hm:=List.mem_of_find?_eq_some hm
  rw [List.mem_range] at hm
  unfold takeAt
  split
  ·exact ⟨Int.le_refl _,.inl rfl⟩
  ·split
   ·exact ⟨Int.le_refl _,.inl rfl⟩
   ·exact ⟨Int.natCast_nonneg _,.inr (by show (m:Int)<_; omega)⟩
 ·exact ⟨Int.le_refl _,.inl rfl⟩
theorem set_spec {h:Heap} {F:Nat→Prop} {t d:Option Addr} {T:TM} {g:G} {R:List Int} {fb lo:Nat} {s:Nat×Nat} {a v:Int} {sa:Option Addr} {sl sc:Nat} {b:Txt} {K:Value→Heap→Prop} (gl:In.Glo h) (x:Tx h F t d T) (e:rd h fb=fileV t g R) (fo:Own h fb) (hR:R.length=15) (hs:StOk s)
  (hf:¬ F fb) (hu:T.undo.length<1000000000) (hv:0≤v∧v<4294967296) (hb:s.1=3→b.length=512∧Sl h 1 sa sl sc (b.map bv) (fun y=>lo≤y∧¬ F y∧y≠fb))
  (hK:∀ h' F',Fr (fun y=>F y∨y=fb∨lo≤y) h h'→Gw h F h' F'→Tx h' F' t d (setM T R s a b v).1.1→rd h' fb=fileV t g (setM T R s a b v).1.2→Own h' fb→K (.int .i64 (setM T R s a b v).2) h'):C.bmap_file_set (some ⟨fb,0,none⟩) (stV s) a sa sl sc v h K:=by
 have fl:=fo.lt
 have Flt:=fun y (hy:F y)=>x.lt hy
 refine bmap_file_set.ok (New.intro fun h2 n2=>⟨_,rda n2.rd rfl,cn (fun y=>⟨stV s,rfl,cellsAll n2.rd,own_spec hs fun h3 f3=>⟨_,rfl,os ?_⟩⟩) fun y=>?_⟩)
 ·rw [setM_own hs (by omega)] at hK
  have F3:=n2.fr.no f3
  have r3:rd h3 fb=_:=(F3.rd fl fun y=>y).trans e
  have hi:=ownI_lt hs
  refine Put.intro (F3.own fl (fun y=>y) fo) (by rw [r3,fileV_len hR]; omega) fun h4 d4=>?_
  rw [r3,fileV_set] at d4
  have F4:Fr (fun y=>F y∨y=fb∨lo≤y) h h4:=(F3.mono fun _ _ y=>y.elim).did d4 fun _ => .inr (.inl rfl)
  exact hK h4 F F4 (Gw.refl F4.size Flt) ((x.no F3).fr d4.fr fun c hc y=>hf (by have y:c=fb:=y; rw [← y]; exact hc)) d4.rd d4.own
 ·have hs3:s.1=3:=by omega
  have hs2:s.2<128:=by rcases hs with ⟨h1,_⟩|h1|h1|⟨_,h2⟩ <;> omega
  rw [setM_t hs3] at hK
  obtain ⟨lb,S⟩:=hb hs3
  have z2:=n2.size
  have ll:sl=512:=by have:=S.1; rw [List.length_map] at this; omega
  subst ll
  obtain ⟨⟨pb,po,sp⟩,ep,_⟩:=S.get (by decide)
  subst ep
  have esp:sp=none:=S.2.1
  subst esp
  have k1:=S.2.2.1
  have k1:lo≤pb∧¬ F pb∧pb≠fb:=k1
  have pl:=S.lt
  have pl:pb<h.size:=pl
  refine ⟨_,rda n2.rd rfl,?_⟩
  rw [wrap_i64 (n:=4*(s.2:Int)) (by omega) (by omega),wrap_u64 (n:=v) hv.1 (by omega),show v=((v.toNat:Nat):Int) by omega]
  refine In.Put_w (gl.no n2.fr) (S.fr n2.fr fun _ _ _ y=>y) (by decide) (.inr (.inr rfl)) (by omega) (by omega) (by show _<256 ^ 4; omega) fun h5 f5 s5=>⟨_,rfl,os ?_⟩
  have z5:=f5.size
  have e5:putU b (4*(s.2:Int)).toNat (leBs (Int.toNat 4) v.toNat)=set4 b s.2 v.toNat:=by
   unfold set4
   rw [show (4*(s.2:Int)).toNat=4*s.2 by omega]; rfl
  rw [e5] at s5
  have F5:Fr (fun y=>y=pb) h h5:=(n2.fr.mono fun _ _ y=>y.elim).trans f5 fun _ _ y=>y
  have r5:rd h5 fb=_:=(F5.rd fl fun y=>k1.2.2 y.symm).trans e
  have x5:Tx h5 F t d T:=x.fr F5 fun c hc y=>k1.2.1 (by have y:c=pb:=y; rw [← y]; exact hc)
  refine ⟨t,rda r5 rfl,Tm.Write_spec x5 s5.str (by decide) (fun p e y=>?_) hu fun h6 F' f6 g6 x6=>⟨_,rfl,?_⟩⟩
  ·cases e; exact k1.2.1 y
  ·refine hK h6 F' ((F5.mono fun c _ y=>?_).trans f6 fun c _ y => .inl y) ((Gw.refl F5.size Flt).trans g6 F5.size) x6 ((f6.rd (by omega) hf).trans r5) (f6.own (by omega) hf (F5.own fl (fun y=>k1.2.2 y.symm) fo))
   have y:c=pb:=y
   rw [y]; exact .inr (.inr k1.1)
theorem Find_c1_spec {s:List Value} {a:Int} {sa:Option Addr} {sl sc:Nat} {h:Heap} {K:Value→Heap→Prop} (hK:∀ h',Fr No h h'→K (.tuple #[.int .i64 0,.int .i64 0]) h'):C.bmap_Find_c1 s a sa sl sc h K :=
 bmap_Find_c1.ok (New.intro fun h2 n2=>hK h2 n2.fr)
theorem st_cells {h:Heap} {b:Nat} {l:List (Nat×Nat)} (e:rd h b=l.flatMap stV) {j:Nat} (hj:j<l.length):Cells h (Addr.add ⟨b,0,none⟩ (j*2)) (stV l[j]):=by
 have c:Cells h ⟨b,0,none⟩ (l.flatMap stV):=cellsAll e
 have:=Cells.take (Cells.drop c (j*2)) 2
 rw [flat_part stV 2 l (fun _ _=>rfl) j hj] at this
 exact this
theorem drop_cons {α:Type} {l:List α} {j:Nat} (h:j<l.length):l.drop j=l[j]::l.drop (j+1):=List.drop_eq_getElem_cons h
theorem walkF_cons (T:TM) (g:G) (R:List Int) (s:Nat×Nat) (r:List (Nat×Nat)) (a:Int):walkF T g R (s::r) a=if (numM T R s a).2.2≠0 then (0,(numM T R s a).2.2) else if (numM T R s a).1=0 then (0,0) else
   if lookM g (numM T R s a).1≠0 then (0,lookM g (numM T R s a).1) else walkF T g R r (numM T R s a).1:=rfl
theorem one_st (s:Nat×Nat):∀ v ∈ stV s,v.oneCell'=true:=one2 rfl rfl
theorem walkF_spec {h:Heap} {F:Nat→Prop} {t d:Option Addr} {T:TM} {g:G} {R:List Int} {fb:Nat} {k:Int} {K:Value→Heap→Prop} (gl:In.Glo h) (x:Tx h F t d T) (e:rd h fb=fileV t g R) (hR:R.length=15) (h0:0≤k) (h1:k<16522)
  (hK:∀ h',Fr No h h'→K (.tuple #[.int .i64 (walkF T g R (wayM k.toNat) 0).1,.int .i64 (walkF T g R (wayM k.toNat) 0).2]) h'):C.bmap_file_walk (some ⟨fb,0,none⟩) k (Value.func (.func 204) #[] ⟨[]⟩) h K:=by
 have fl:fb<h.size:=rd_lt (o:=0) (by rw [e]; rfl)
 refine bmap_file_walk.ok (way_spec h0 h1 fun h2 f2 l2 rw2=>⟨_,_,_,rfl,?_⟩)
 have hok:=wayM_ok (k:=k.toNat) (by omega)
 have hwl:(wayM k.toNat).length≤3:=by
  unfold wayM
  split
  ·simp
  ·split <;> simp
 generalize wayM k.toNat=w at hK rw2 hok hwl
 refine ⟨fun a i hh=>∃ j:Nat,i=j∧j≤w.length∧Fr No h2 hh∧walkF T g R (w.drop j) a=walkF T g R w 0,fun _ i _=>((w.length:Int) - i).toNat,⟨0,rfl,Nat.zero_le _,Fr.refl _ _,by rw [List.drop_zero]⟩,?_⟩
 rintro a i h3 ⟨j,rfl,hj,f3,ew⟩
 refine cd (fun hl=>?_) fun hl=>?_
 ·have hj':j<w.length:=by omega
  rw [drop_cons hj',walkF_cons] at ew
  have F3:=f2.no f3
  have hs:=hok _ (List.getElem_mem hj')
  have z3:=f3.size
  rw [Int.toNat_natCast]
  refine ⟨⟨by omega,hl⟩,os ⟨stV w[j],rfl,st_cells ((f3.rd l2 fun y=>y).trans rw2) hj',NewRow.intro rfl (one_st _) rfl fun h5 n5=>⟨stV w[j],rfl,cellsAll n5.rd,?_⟩⟩⟩
  have F5:=F3.new n5
  refine number_spec (gl.no F5) (x.no F5) ((F5.rd fl fun y=>y).trans e) hR hs fun sa sl sc h6 f6 el s6=>⟨_,_,_,_,_,rfl,?_⟩
  have F6:=F5.no f6
  have z5:=n5.size
  have z6:=f6.size
  have wr:IntKind.wrap .i64 ((j:Int)+1)=((j+1:Nat):Int):=by rw [wrap_i64 (by omega) (by omega)]; omega
  have go:∀ h8,Fr No h3 h8→∀ (nu er:Int),(if er≠0 then ((0:Int),er) else if nu=0 then (0,0) else if lookM g nu≠0 then (0,lookM g nu) else walkF T g R (w.drop (j+1)) nu)=walkF T g R w 0 →
    bmap_file_walk.k1 (some ⟨fb,0,none⟩) a (j:Int) h3 (fun a i hh=>∃ j:Nat,i=j∧j≤w.length∧Fr No h2 hh∧walkF T g R (w.drop j) a=walkF T g R w 0) (fun _ i _=>((w.length:Int) - i).toNat) nu er h8 K:=fun h8 f8 nu er e8=>by
   have F8:=F3.no f8
   unfold bmap_file_walk.k1
   refine cn (fun y=>?_) fun y=>ce (fun y2=>?_) fun y2=>?_
   ·rw [if_pos y] at e8; rw [← e8] at hK; exact hK h8 F8
   ·rw [if_neg (fun z=>z y),if_pos y2] at e8; rw [← e8] at hK; exact hK h8 F8
   ·rw [if_neg (fun z=>z y),if_neg y2] at e8
    refine look_spec ((F8.rd fl fun y=>y).trans e) ⟨_,rfl,cn (fun y3=>?_) fun y3=>?_⟩
    ·rw [if_pos y3] at e8; rw [← e8] at hK; exact hK h8 F8
    ·rw [if_neg (fun z=>z y3)] at e8
     rw [wr]
     exact ⟨⟨j+1,rfl,hj',f3.no f8,e8⟩,by show ((w.length:Int) - ((j+1:Nat):Int)).toNat<((w.length:Int) - (j:Int)).toNat; omega⟩
  have F36:Fr No h3 h6:=n5.fr.no f6
  refine ce (fun y=>ce (fun y2=>?_) fun y2=>go h6 F36 _ _ ew) fun y=>go h6 F36 _ _ ew
  rw [if_neg (fun z=>z y),if_pos y2] at ew
  refine ⟨stV w[j],rfl,cellsAll ((f6.rd n5.own.lt fun y=>y).trans n5.rd),Find_c1_spec fun h7 f7=>⟨_,_,rfl,go h7 (F36.no f7) 0 0 ?_⟩⟩
  rw [if_neg (fun z=>z rfl),if_pos rfl]; exact ew
 ·have ej:j=w.length:=by omega
  subst ej
  rw [List.drop_length] at ew
  have ew:(a,(0:Int))=walkF T g R w 0:=ew
  rw [← ew] at hK
  exact hK h3 (f2.no f3)
theorem Find_spec {h:Heap} {F:Nat→Prop} {t d:Option Addr} {T:TM} {g:G} {R:List Int} {k:Int} {K:Value→Heap→Prop} (gl:In.Glo h) (x:Tx h F t d T) (hR:R.length=15)
  (hK:∀ h',Fr No h h'→K (.tuple #[.int .i64 (findM T g R k).1,.int .i64 (findM T g R k).2]) h'):C.bmap_Find t g.v (ints R) k h K:=by
 refine bmap_Find.ok (New.intro fun h2 n2=>New.intro fun h3 n3=>cd (fun y=>?_) fun y=>cd (fun y2=>?_) fun y2=>?_)
 ·have e:findM T g R k=(0,101):=by unfold findM; rw [if_pos (.inl y)]
  rw [e] at hK; exact hK h3 (n2.fr.new n3)
 ·have e:findM T g R k=(0,101):=by unfold findM; rw [if_pos (.inr y2)]
  rw [e] at hK; exact hK h3 (n2.fr.new n3)
 ·have e:findM T g R k=walkF T g R (wayM k.toNat) 0:=by unfold findM; rw [if_neg (by omega)]
  rw [e] at hK
  unfold bmap_Find.k1
  refine ⟨g.v,rfl,cellsAll ((n3.at_ n2.own.lt).trans n2.rd),ints R,by rw [ints_length,hR],cellsAll n3.rd,rfl,by rw [ints_length,hR],New.intro fun h4 n4=>?_⟩
  have F4:=(n2.fr.new n3).new n4
  exact walkF_spec (gl.no F4) (x.no F4) n4.rd hR (by omega) (by omega) fun h5 f5=>⟨_,_,rfl,hK h5 (F4.no f5)⟩
end Go.Proofs.YtiapingedfnlnaaGreatDoor.Bm
namespace Go.Proofs.YtiapingedfnlnaaGreatDoor.Bm
open Go Go.Proofs Wx Hp W Ad Tm Spc Re Av
open Hd (ints wrap_u64)
open In (Glo ints_length ints_one)
def holeM (T:TM) (g:G) (R:List Int) (s:Nat×Nat) (a:Int) (b:Txt):(TM×List Int)×Int×Int :=
 if (takeM T g).2.2≠0 then (((takeM T g).1,R),0,(takeM T g).2.2) else ((setM (takeM T g).1 R s a b (takeM T g).2.1).1,(takeM T g).2.1,(setM (takeM T g).1 R s a b (takeM T g).2.1).2)
def nextM (g:G) (TR:TM×List Int) (nu er:Int) (go:TM→List Int→Int→(TM×List Int)×Int×Int):(TM×List Int)×Int×Int :=
 if er≠0 then (TR,0,er) else if nu=0 then (TR,0,0) else if lookM g nu≠0 then (TR,0,lookM g nu) else go TR.1 TR.2 nu
theorem walkA_cons (g:G) (s:Nat×Nat) (r:List (Nat×Nat)) (T:TM) (R:List Int) (a:Int):walkA g (s::r) T R a =
  if (numM T R s a).2.2=0∧(numM T R s a).1=0 then nextM g (holeM T g R s a (numM T R s a).2.1).1 (holeM T g R s a (numM T R s a).2.1).2.1 (holeM T g R s a (numM T R s a).2.1).2.2 (walkA g r)
   else nextM g (T,R) (numM T R s a).1 (numM T R s a).2.2 (walkA g r):=by
 by_cases h1:(numM T R s a).2.2=0
 ·by_cases h2:(numM T R s a).1=0
  ·by_cases h3:(takeM T g).2.2=0
   ·simp [walkA,nextM,holeM,h1,h2,h3]
   ·simp [walkA,nextM,holeM,h1,h2,h3]
  ·simp [walkA,nextM,h1,h2]
 ·simp [walkA,nextM,h1]
theorem holeM_len {T:TM} {g:G} {R:List Int} {s:Nat×Nat} {a:Int} {b:Txt} (hs:StOk s) (hR:R.length=15):(holeM T g R s a b).1.2.length=15:=by
 unfold holeM
 split
 ·exact hR
 ·exact setM_len hs hR
theorem holeM_un {T:TM} {g:G} {R:List Int} {s:Nat×Nat} {a:Int} {b:Txt} (hs:StOk s):(holeM T g R s a b).1.1.undo.length≤T.undo.length+3:=by
 have h2:=takeM_un T g
 unfold holeM
 split
 ·exact Nat.le_succ_of_le h2
 ·have:=setM_un (T:=(takeM T g).1) (R:=R) (a:=a) (v:=(takeM T g).2.1) (b:=b) hs
  exact Nat.le_trans this (by omega)
structure Cap (h:Heap) (tb gb pb fb:Nat) (t:Option Addr) (g:G):Prop where
 t:rd h tb=[.pointer t]
 g:rd h gb=g.v
 p:rd h pb=[.pointer (some ⟨fb,0,none⟩)]
theorem Cap.lt {h:Heap} {tb gb pb fb:Nat} {t:Option Addr} {g:G} (c:Cap h tb gb pb fb t g):tb<h.size∧gb<h.size∧pb<h.size :=
 ⟨rd_lt (o:=0) (by rw [c.t]; rfl),rd_lt (o:=0) (by rw [c.g]; rfl),rd_lt (o:=0) (by rw [c.p]; rfl)⟩
theorem Cap.fr {h h':Heap} {tb gb pb fb:Nat} {t:Option Addr} {g:G} {G':Nat→Prop} (c:Cap h tb gb pb fb t g) (f:Fr G' h h') (h1:¬ G' tb) (h2:¬ G' gb) (h3:¬ G' pb):Cap h' tb gb pb fb t g:=by
 obtain ⟨l1,l2,l3⟩:=c.lt
 exact ⟨(f.rd l1 h1).trans c.t,(f.rd l2 h2).trans c.g,(f.rd l3 h3).trans c.p⟩
theorem hole_spec {h:Heap} {F:Nat→Prop} {t d:Option Addr} {T:TM} {n:Nat} {R:List Int} {fb tb gb pb lo:Nat} {s:Nat×Nat} {a:Int} {sa:Option Addr} {sl sc:Nat} {b:Txt} {K:Value→Heap→Prop} (gl:In.Glo h) (dm:Dim n) (x:Tx h F t d T) (e:rd h fb=fileV t (geoN n) R) (fo:Own h fb) (hR:R.length=15) (hs:StOk s)
  (cp:Cap h tb gb pb fb t (geoN n)) (hf:¬ F fb∧¬ F tb∧¬ F gb∧¬ F pb) (g0:∀ b,b<1→¬ F b) (hu:T.undo.length<800000000) (hb:s.1=3→b.length=512∧Sl h 1 sa sl sc (b.map bv) (fun y=>lo≤y∧¬ F y∧y≠fb))
  (hK:∀ h' F',Fr (fun y=>F y∨y=fb∨lo≤y) h h'→Gw h F h' F'→Tx h' F' t d (holeM T (geoN n) R s a b).1.1→rd h' fb=fileV t (geoN n) (holeM T (geoN n) R s a b).1.2→Own h' fb→K (.tuple #[.int .i64 (holeM T (geoN n) R s a b).2.1,.int .i64 (holeM T (geoN n) R s a b).2.2]) h') :
  C.bmap_Add_c2 (stV s) a sa sl sc (some ⟨tb,0,none⟩) (some ⟨gb,0,none⟩) (some ⟨pb,0,none⟩) h K:=by
 obtain ⟨l1,l2,l3⟩:=cp.lt
 have fl:=fo.lt
 refine bmap_Add_c2.ok (New.intro fun h2 n2=>os ⟨t,rdc ((n2.at_ l1).trans cp.t) rfl,os ⟨(geoN n).v,rfl,cellsAll ((n2.at_ l2).trans cp.g),?_⟩⟩)
 have z2:=n2.size
 refine Take_any (x.no n2.fr) dm (by omega) fun h3 F3 f3 g3 x3=>⟨_,_,rfl,?_⟩
 have F03:Fr F h h3:=(n2.fr.mono fun _ _ y=>y.elim).trans f3 fun _ _ y=>y
 have G03:Gw h F h3 F3:=(Gw.refl n2.fr.size fun b hb=>x.lt hb).trans g3 n2.fr.size
 have z3:=f3.size
 have old:∀ y,y<h.size→(F3 y↔F y):=G03.old
 have hf3:¬ F3 fb:=fun y=>hf.1 ((old _ fl).mp y)
 have tu:=takeM_un T (geoN n)
 have tr:=takeM_rng T (geoN n)
 refine cn (fun he=>?_) fun he=>?_
 ·have eh:holeM T (geoN n) R s a b=(((takeM T (geoN n)).1,R),0,(takeM T (geoN n)).2.2):=by unfold holeM; rw [if_pos he]
  rw [eh] at hK
  exact hK h3 F3 (F03.mono fun _ _ y => .inl y) G03 x3 ((F03.rd fl hf.1).trans e) (F03.own fl hf.1 fo)
 ·have eh:holeM T (geoN n) R s a b=((setM (takeM T (geoN n)).1 R s a b (takeM T (geoN n)).2.1).1,(takeM T (geoN n)).2.1,(setM (takeM T (geoN n)).1 R s a b (takeM T (geoN n)).2.1).2):=by unfold holeM; rw [if_neg (fun y=>y he)]
  rw [eh] at hK
  have hbl:((geoN n).blocks:Int)≤16384:=by have:=dm.hi; show (n:Int)≤_; omega
  have ns:¬ F h.size:=fun y=>by have:=x.lt y; omega
  refine os ⟨_,rdc ((F03.rd l3 hf.2.2.2).trans cp.p) rfl,stV s,rfl,cellsAll ((f3.rd n2.own.lt ns).trans n2.rd),?_⟩
  refine set_spec (lo:=lo) (b:=b) (gl.fr F03 g0) x3 ((F03.rd fl hf.1).trans e) (F03.own fl hf.1 fo) hR hs hf3 (by omega) ⟨tr.1,by omega⟩ (fun h3'=>?_) fun h4 F4 f4 g4 x4 r4 o4=>⟨_,rfl,?_⟩
  ·obtain ⟨lb,S⟩:=hb h3'
   exact ⟨lb,((sl_rngB S).fr F03 fun y _ hy z=>hy.1.2.1 z).mono fun y hy=>⟨hy.1.1,fun z=>hy.1.2.1 ((old y hy.2).mp z),hy.1.2.2⟩⟩
  ·refine hK h4 F4 ((F03.mono fun _ _ y => .inl y).trans f4 fun y hy z=>?_) (G03.trans g4 F03.size) x4 r4 o4
   rcases z with z|z
   ·exact .inl ((old y hy).mp z)
   ·exact .inr z
theorem walkA_spec {h:Heap} {F:Nat→Prop} {t d:Option Addr} {T:TM} {n:Nat} {R:List Int} {fb tb gb pb:Nat} {k:Int} {K:Value→Heap→Prop} (gl:In.Glo h) (dm:Dim n) (x:Tx h F t d T) (e:rd h fb=fileV t (geoN n) R) (fo:Own h fb) (hR:R.length=15) (h0:0≤k) (h1:k<16522)
  (cp:Cap h tb gb pb fb t (geoN n)) (hf:¬ F fb∧¬ F tb∧¬ F gb∧¬ F pb) (hne:tb≠fb∧gb≠fb∧pb≠fb) (g0:∀ b,b<1→¬ F b∧b≠fb) (hu:T.undo.length<700000000)
  (hK:∀ h' F',Fr (fun y=>F y∨y=fb) h h'→Gw h F h' F'→Tx h' F' t d (walkA (geoN n) (wayM k.toNat) T R 0).1.1→rd h' fb=fileV t (geoN n) (walkA (geoN n) (wayM k.toNat) T R 0).1.2→Own h' fb→(walkA (geoN n) (wayM k.toNat) T R 0).1.2.length=15→(walkA (geoN n) (wayM k.toNat) T R 0).1.1.undo.length≤T.undo.length+9 →
   K (.tuple #[.int .i64 (walkA (geoN n) (wayM k.toNat) T R 0).2.1,.int .i64 (walkA (geoN n) (wayM k.toNat) T R 0).2.2]) h') :
  C.bmap_file_walk (some ⟨fb,0,none⟩) k (Value.func (.func 208) #[] ⟨[.pointer (some ⟨tb,0,none⟩),.pointer (some ⟨gb,0,none⟩),.pointer (some ⟨pb,0,none⟩)]⟩) h K:=by
 have fl:=fo.lt
 have Flt:=fun y (hy:F y)=>x.lt hy
 refine bmap_file_walk.ok (way_spec h0 h1 fun h2 f2 l2 rw2=>⟨_,_,_,rfl,?_⟩)
 have hok:=wayM_ok (k:=k.toNat) (by omega)
 have hwl:(wayM k.toNat).length≤3:=by
  unfold wayM
  split
  ·simp
  ·split <;> simp
 generalize wayM k.toNat=w at hK rw2 hok hwl
 have z2:=f2.size
 refine ⟨fun a i hh=>∃ (j:Nat) (F':Nat→Prop) (T':TM) (R':List Int),i=j∧j≤w.length∧Fr (fun y=>F y∨y=fb) h2 hh∧Gw h2 F hh F'∧Tx hh F' t d T'∧rd hh fb=fileV t (geoN n) R'∧Own hh fb∧R'.length=15∧T'.undo.length≤T.undo.length+3*j∧walkA (geoN n) (w.drop j) T' R' a=walkA (geoN n) w T R 0,fun _ i _=>((w.length:Int) - i).toNat,
  ⟨0,F,T,R,rfl,Nat.zero_le _,Fr.refl _ _,Gw.refl (Nat.le_refl _) (fun b hb=>Nat.lt_of_lt_of_le (Flt b hb) z2),x.no f2,(f2.rd fl fun y=>y).trans e,f2.own fl (fun y=>y) fo,hR,Nat.le_refl _,by rw [List.drop_zero]⟩,?_⟩
 rintro a i h3 ⟨j,F',T',R',rfl,hj,f3,g3,x3,r3,o3,R3,u3,ew⟩
 have z3:=f3.size
 have f03:Fr (fun y=>F y∨y=fb) h h3:=(f2.mono fun _ _ y=>y.elim).trans f3 fun _ _ y=>y
 have old3:∀ y,y<h2.size→(F' y↔F y):=g3.old
 have G2:Gw h F h2 F:=Gw.refl z2 Flt
 refine cd (fun hl=>?_) fun hl=>?_
 ·have hj':j<w.length:=by omega
  rw [drop_cons hj',walkA_cons] at ew
  have hs:=hok _ (List.getElem_mem hj')
  have nP:¬ (F h.size∨h.size=fb):=by
   rintro (y|y)
   ·have:=Flt _ y; omega
   ·omega
  rw [Int.toNat_natCast]
  refine ⟨⟨by omega,hl⟩,os ⟨stV w[j],rfl,st_cells ((f3.rd l2 nP).trans rw2) hj',NewRow.intro rfl (one_st _) rfl fun h5 n5=>⟨stV w[j],rfl,cellsAll n5.rd,?_⟩⟩⟩
  have z5:=n5.size
  have fl3:=o3.lt
  have gl5:In.Glo h5:=(gl.fr f03 fun b hb y=>by rcases y with y|y; exact (g0 b hb).1 y; exact (g0 b hb).2 y).no n5.fr
  refine number_spec gl5 (x3.no n5.fr) ((n5.at_ fl3).trans r3) R3 hs fun sa sl sc h6 f6 el s6=>⟨_,_,_,_,_,rfl,?_⟩
  have z6:=f6.size
  have F36:Fr No h3 h6:=n5.fr.no f6
  have wr:IntKind.wrap .i64 ((j:Int)+1)=((j+1:Nat):Int):=by rw [wrap_i64 (by omega) (by omega)]; omega
  -- what a number does, at h8
  have go:∀ (h8:Heap) (F8:Nat→Prop) (TR:TM×List Int) (nu er:Int),Fr (fun y=>F y∨y=fb) h2 h8→Gw h2 F h8 F8→Tx h8 F8 t d TR.1→rd h8 fb=fileV t (geoN n) TR.2→Own h8 fb→TR.2.length=15→TR.1.undo.length≤T.undo.length+3*(j+1) →
    nextM (geoN n) TR nu er (walkA (geoN n) (w.drop (j+1)))=walkA (geoN n) w T R 0 →
    bmap_file_walk.k1 (some ⟨fb,0,none⟩) a (j:Int) h3 (fun a i hh=>∃ (j:Nat) (F':Nat→Prop) (T':TM) (R':List Int),i=j∧j≤w.length∧Fr (fun y=>F y∨y=fb) h2 hh∧Gw h2 F hh F'∧Tx hh F' t d T'∧rd hh fb=fileV t (geoN n) R'∧Own hh fb∧R'.length=15∧T'.undo.length≤T.undo.length+3*j∧walkA (geoN n) (w.drop j) T' R' a=walkA (geoN n) w T R 0) (fun _ i _=>((w.length:Int) - i).toNat) nu er h8 K:=fun h8 F8 TR nu er f8 g8 x8 r8 o8 R8 u8 e8=>by
   have f08:Fr (fun y=>F y∨y=fb) h h8:=(f2.mono fun _ _ y=>y.elim).trans f8 fun _ _ y=>y
   unfold nextM at e8
   unfold bmap_file_walk.k1
   refine cn (fun y=>?_) fun y=>ce (fun y2=>?_) fun y2=>?_
   ·rw [if_pos y] at e8; rw [← e8] at hK; exact hK h8 F8 f08 (G2.trans g8 z2) x8 r8 o8 R8 (by show TR.1.undo.length≤_; omega)
   ·rw [if_neg (fun z=>z y),if_pos y2] at e8; rw [← e8] at hK; exact hK h8 F8 f08 (G2.trans g8 z2) x8 r8 o8 R8 (by show TR.1.undo.length≤_; omega)
   ·rw [if_neg (fun z=>z y),if_neg y2] at e8
    refine look_spec r8 ⟨_,rfl,cn (fun y3=>?_) fun y3=>?_⟩
    ·rw [if_pos y3] at e8; rw [← e8] at hK; exact hK h8 F8 f08 (G2.trans g8 z2) x8 r8 o8 R8 (by show TR.1.undo.length≤_; omega)
    ·rw [if_neg (fun z=>z y3)] at e8
     rw [wr]
     exact ⟨⟨j+1,F8,TR.1,TR.2,rfl,hj',f8,g8,x8,r8,o8,R8,u8,e8⟩,by show ((w.length:Int) - ((j+1:Nat):Int)).toNat<((w.length:Int) - (j:Int)).toNat; omega⟩
  have f26:Fr (fun y=>F y∨y=fb) h2 h6:=f3.no F36
  have g36:Gw h2 F h6 F':=⟨g3.old,fun b hb=>Nat.lt_of_lt_of_le (g3.lt b hb) F36.size⟩
  have x6:=x3.no F36
  have r6:rd h6 fb=_:=(F36.rd fl3 fun y=>y).trans r3
  have o6:=F36.own fl3 (fun y=>y) o3
  have plain:¬ ((numM T' R' w[j] a).2.2=0∧(numM T' R' w[j] a).1=0)→bmap_file_walk.k1 (some ⟨fb,0,none⟩) a (j:Int) h3 (fun a i hh=>∃ (j:Nat) (F':Nat→Prop) (T':TM) (R':List Int),i=j∧j≤w.length∧Fr (fun y=>F y∨y=fb) h2 hh∧Gw h2 F hh F'∧Tx hh F' t d T'∧rd hh fb=fileV t (geoN n) R'∧Own hh fb∧R'.length=15∧T'.undo.length≤T.undo.length+3*j∧walkA (geoN n) (w.drop j) T' R' a=walkA (geoN n) w T R 0) (fun _ i _=>((w.length:Int) - i).toNat) (numM T' R' w[j] a).1 (numM T' R' w[j] a).2.2 h6 K:=fun hno=>by
   rw [if_neg hno] at ew
   exact go h6 F' (T',R') _ _ f26 g36 x6 r6 o6 R3 (by show T'.undo.length≤_; omega) ew
  refine ce (fun y=>ce (fun y2=>?_) fun y2=>plain fun z=>y2 z.2) fun y=>plain fun z=>y z.1
  rw [if_pos ⟨y,y2⟩] at ew
  refine ⟨stV w[j],rfl,cellsAll ((f6.rd n5.own.lt fun y=>y).trans n5.rd),?_⟩
  have f06:Fr (fun y=>F y∨y=fb) h h6:=f03.no F36
  obtain ⟨c1,c2,c3⟩:=cp.lt
  have cp6:Cap h6 tb gb pb fb t (geoN n):=cp.fr f06 (by rintro (y|y); exact hf.2.1 y; exact hne.1 y) (by rintro (y|y); exact hf.2.2.1 y; exact hne.2.1 y) (by rintro (y|y); exact hf.2.2.2 y; exact hne.2.2 y)
  have hb:w[j].1=3→(numM T' R' w[j] a).2.1.length=512∧Sl h6 1 sa sl sc ((numM T' R' w[j] a).2.1.map bv) (fun y=>h5.size≤y∧¬ F' y∧y≠fb):=fun h3'=>by
   refine ⟨?_,s6.mono fun y hy=>⟨hy,fun z=>?_,?_⟩⟩
   ·rw [numM_t h3'] at y ⊢
    by_cases hh:(T'.read a).2≠0
    ·rw [if_pos hh] at y; exact absurd y hh
    ·rw [if_neg hh]; exact Tx.readLen x3 (by omega)
   ·have hy:h5.size≤y:=hy
    have:=x3.lt z; omega
   ·have hy:h5.size≤y:=hy
    omega
  refine hole_spec (lo:=h5.size) (gl5.no f6) dm x6 r6 o6 R3 hs cp6 ⟨fun z=>hf.1 ((old3 _ (by omega)).mp z),fun z=>hf.2.1 ((old3 _ (by omega)).mp z),fun z=>hf.2.2.1 ((old3 _ (by omega)).mp z),fun z=>hf.2.2.2 ((old3 _ (by omega)).mp z)⟩ (fun b hb' z=>?_) (by omega) hb fun h7 F7 f7 g7 x7 r7 o7=>⟨_,_,rfl,?_⟩
  ·exact (g0 b hb').1 ((old3 b (by omega)).mp z)
  ·have z7:=f7.size
   have f27:Fr (fun y=>F y∨y=fb) h2 h7:=f26.trans f7 fun c hc z=>?_
   ·have hl7:=holeM_un (T:=T') (g:=geoN n) (R:=R') (a:=a) (b:=(numM T' R' w[j] a).2.1) hs
    exact go h7 F7 _ _ _ f27 (g36.trans g7 f26.size) x7 r7 o7 (holeM_len hs R3) (by omega) ew
   ·rcases z with z|z|z
    ·exact .inl ((old3 c hc).mp z)
    ·exact .inr z
    ·omega
 ·have ej:j=w.length:=by omega
  subst ej
  rw [List.drop_length] at ew
  have ew:((T',R'),a,(0:Int))=walkA (geoN n) w T R 0:=ew
  rw [← ew] at hK
  exact hK h3 F' f03 (G2.trans g3 z2) x3 r3 o3 R3 (by show T'.undo.length≤_; omega)
end Go.Proofs.YtiapingedfnlnaaGreatDoor.Bm
namespace Go.Proofs.YtiapingedfnlnaaGreatDoor.Bm
open Go Go.Proofs Wx Hp W Ad Tm Spc Re Av
open Hd (ints wrap_u64)
open In (Glo ints_length ints_one)
structure Gd (h:Heap) (ob tb mb:Nat) (t:Option Addr) (m:Int×Int):Prop where
 o:rd h ob=[.int .i64 m.2]
 t:rd h tb=[.pointer t]
 m:rd h mb=[.int .i64 m.1]
def gdV (ob tb mb:Nat):Value := .func (.func 275) ⟨[]⟩ ⟨[.pointer (some ⟨ob,0,none⟩),.pointer (some ⟨tb,0,none⟩),.pointer (some ⟨mb,0,none⟩)]⟩
theorem Gd.lt {h:Heap} {ob tb mb:Nat} {t:Option Addr} {m:Int×Int} (c:Gd h ob tb mb t m):ob<h.size∧tb<h.size∧mb<h.size :=
 ⟨rd_lt (o:=0) (by rw [c.o]; rfl),rd_lt (o:=0) (by rw [c.t]; rfl),rd_lt (o:=0) (by rw [c.m]; rfl)⟩
theorem Gd.fr {h h':Heap} {ob tb mb:Nat} {t:Option Addr} {m:Int×Int} {G:Nat→Prop} (c:Gd h ob tb mb t m) (f:Fr G h h') (h1:¬ G ob) (h2:¬ G tb) (h3:¬ G mb):Gd h' ob tb mb t m:=by
 obtain ⟨l1,l2,l3⟩:=c.lt
 exact ⟨(f.rd l1 h1).trans c.o,(f.rd l2 h2).trans c.t,(f.rd l3 h3).trans c.m⟩
theorem guard_spec {h:Heap} {F:Nat→Prop} {t d:Option Addr} {T:TM} {K:Value→Heap→Prop} (x:Tx h F t d T)
  (hK:∀ ob tb mb h',Fr No h h'→h.size≤ob→h.size≤tb→h.size≤mb→Gd h' ob tb mb t T.mark→K (gdV ob tb mb) h'):C.bmap_guard t h K:=by
 refine bmap_guard.ok (New.intro fun h2 n2=>⟨t,rdc n2.rd rfl,Mark_spec (x.no n2.fr) ⟨_,_,rfl,New.intro fun h4 n4=>New.intro fun h5 n5=>?_⟩⟩)
 have z2:=n2.size
 have z4:=n4.size
 have z5:=n5.size
 refine Put.intro (n5.ow n4.own) (by rw [n5.at_ n4.own.lt,n4.rd]; decide) fun h6 d6=>Put.intro (d6.ow n5.own) (by rw [d6.at_ n5.own.lt (by omega),n5.rd]; decide) fun h7 d7=>?_
 have z6:=d6.size
 have F7:Fr No h h7:=(((n2.fr.new n4).new n5).did d6 fun hl=>by omega).did d7 fun hl=>by omega
 refine hK h4.size h.size h2.size h7 F7 (by omega) (Nat.le_refl _) (by omega) ⟨?_,?_,?_⟩
 ·rw [d7.rd,d6.at_ n5.own.lt (by omega),n5.rd]; rfl
 ·exact (d7.at_ (by omega) (by omega)).trans ((d6.at_ (by omega) (by omega)).trans ((n5.at_ (by omega)).trans ((n4.at_ n2.own.lt).trans n2.rd)))
 ·rw [d7.at_ (by omega) (by omega),d6.rd,n5.at_ n4.own.lt,n4.rd]; rfl
theorem guard_c1_spec {h:Heap} {F:Nat→Prop} {t d:Option Addr} {T:TM} {ob tb mb:Nat} {m:Int×Int} {e:Int} {K:Value→Heap→Prop} (x:Tx h F t d T) (c:Gd h ob tb mb t m) (hu:T.undo.length<1000000000)
  (hK:∀ h',Fr F h h'→Tx h' F t d (if e≠0∧m.2=0 then (T.back m.1).1 else T)→K (.tuple #[]) h'):HCallsV Tryz.prog (gdV ob tb mb) [.int .i64 e] h K:=by
 show C.bmap_guard_c1 e (some ⟨ob,0,none⟩) (some ⟨tb,0,none⟩) (some ⟨mb,0,none⟩) h K
 refine bmap_guard_c1.ok (cn (fun he=>os ⟨_,rdc c.o rfl,ce (fun hm=>os ⟨t,rdc c.t rfl,os ⟨_,rdc c.m rfl,Back_spec x hu fun h2 f2 x2=>⟨_,rfl,?_⟩⟩⟩) fun hm=>?_⟩) fun he=>?_)
 ·rw [if_pos ⟨he,hm⟩] at hK; exact hK h2 f2 x2
 ·rw [if_neg (fun y=>hm y.2)] at hK; exact hK h (Fr.refl _ _) x
 ·rw [if_neg (fun y=>y.1 he)] at hK; exact hK h (Fr.refl _ _) x
theorem z15_one : ∀ v ∈ ints z15,v.oneCell'=true:=ints_one z15
theorem Add_spec {h:Heap} {F:Nat→Prop} {t d:Option Addr} {T:TM} {n:Nat} {R:List Int} {k:Int} {K:Value→Heap→Prop} (gl:In.Glo h) (dm:Dim n) (x:Tx h F t d T) (live:T.over=false) (hR:R.length=15) (g0:∀ b,b<1→¬ F b) (hu:T.undo.length<700000000)
  (hK:∀ h' F',Fr F h h'→Gw h F h' F'→Tx h' F' t d (addM T (geoN n) R k).1→K (.tuple #[.agg ⟨ints (addM T (geoN n) R k).2.1⟩,.int .i64 (addM T (geoN n) R k).2.2.1,.int .i64 (addM T (geoN n) R k).2.2.2]) h') :
  C.bmap_Add t (geoN n).v (ints R) k h K:=by
 have Flt:=fun y (hy:F y)=>x.lt hy
 have gl1:=gl.lt
 refine bmap_Add.ok (New.intro fun h2 n2=>New.intro fun h3 n3=>New.intro fun h4 n4=>New.intro fun h5 n5=>New.intro fun h6 n6=>New.intro fun h7 n7=>?_)
 have z2:=n2.size
 have z3:=n3.size
 have z4:=n4.size
 have z5:=n5.size
 have z6:=n6.size
 have z7:=n7.size
 have F7:Fr No h h7:=((((n2.fr.new n3).new n4).new n5).new n6).new n7
 have ry:rd h7 h4.size=ints z15:=(n7.at_ (by omega)).trans ((n6.at_ (by omega)).trans n5.rd)
 have oy:Own h7 h4.size:=n7.ow (n6.ow n5.own)
 have rn:rd h7 h5.size=[.int .i64 0]:=(n7.at_ (by omega)).trans n6.rd
 have on:Own h7 h5.size:=n7.ow n6.own
 have re:rd h7 h6.size=[.int .i64 0]:=n7.rd
 have oe':Own h7 h6.size:=n7.own
 by_cases hk:0≤k∧k<16522
 rotate_left
 ·have e0:addM T (geoN n) R k=(T,z15,0,101):=by unfold addM; rw [if_pos (by omega)]
  rw [e0] at hK
  have far:PutRow ⟨h4.size,0,none⟩ (ints z15) 15 h7 fun h8=>Put ⟨h5.size,0,none⟩ (.int .i64 0) h8 fun h9=>Put ⟨h6.size,0,none⟩ (.int .i64 101) h9 fun h10 =>
    ∃ res1:List Value,List.length res1=15∧Cells h10 ⟨h4.size,0,none⟩ res1∧∃ (res2:Int),cellOf h10 ⟨h5.size,0,none⟩=some (.int .i64 res2)∧∃ (res3:Int),cellOf h10 ⟨h6.size,0,none⟩=some (.int .i64 res3)∧K (.tuple #[.agg ⟨res1⟩,.int .i64 res2,.int .i64 res3]) h10:=by
   refine PutRow.intro oy rfl z15_one (by rw [ry]; exact Nat.le_refl _) fun h8 d8=>Put.intro (d8.ow on) (by rw [d8.at_ (by omega) (by omega),rn]; decide) fun h9 d9=>Put.intro (d9.ow (d8.ow oe')) (by rw [d9.at_ (by have:=d8.size; omega) (by omega),d8.at_ (by omega) (by omega),re]; decide) fun h10 d10=>?_
   have z8:=d8.size
   have z9:=d9.size
   have F10:Fr No h h10:=((F7.did d8 fun hl=>by omega).did d9 fun hl=>by omega).did d10 fun hl=>by omega
   refine ⟨ints z15,rfl,cellsAll ?_,0,rdc (xs:=[.int .i64 0]) ?_ rfl,101,rdc (xs:=[.int .i64 101]) ?_ rfl,hK h10 F (F10.mono fun _ _ y=>y.elim) (Gw.refl F10.size Flt) (x.no F10)⟩
   ·rw [d10.at_ (by omega) (by omega),d9.at_ (by omega) (by omega),d8.rd,ry]; exact put_all _ _ rfl
   ·rw [d10.at_ (by omega) (by omega),d9.rd,d8.at_ (by omega) (by omega),rn]; rfl
   ·rw [d10.rd,d9.at_ (by omega) (by omega),d8.at_ (by omega) (by omega),re]; rfl
  exact cd (fun _=>far) fun y=>cd (fun _=>far) fun y2=>by exfalso; omega
 refine cd (fun y=>by exfalso; omega) fun _=>cd (fun y=>by exfalso; omega) fun _=>?_
 have rt:rd h7 h.size=[.pointer t]:=(n7.at_ (by omega)).trans ((n6.at_ (by omega)).trans ((n5.at_ (by omega)).trans ((n4.at_ (by omega)).trans ((n3.at_ (by omega)).trans n2.rd))))
 have rg:rd h7 h2.size=(geoN n).v:=(n7.at_ (by omega)).trans ((n6.at_ (by omega)).trans ((n5.at_ (by omega)).trans ((n4.at_ (by omega)).trans n3.rd)))
 have rx:rd h7 h3.size=ints R:=(n7.at_ (by omega)).trans ((n6.at_ (by omega)).trans ((n5.at_ (by omega)).trans n4.rd))
 unfold bmap_Add.k1
 refine ⟨t,rdc rt rfl,guard_spec (x.no F7) fun ob tb mb h15 f15 b1 b2 b3 gd=>⟨_,_,_,rfl,New.intro fun h16 n16=>?_⟩⟩
 have z15':=f15.size
 have z16:=n16.size
 obtain ⟨gl1',gl2',gl3'⟩:=gd.lt
 refine Put.intro n16.own (by rw [n16.rd]; decide) fun h17 d17=>?_
 have z17:=d17.size
 have q17:∀ b,b<h15.size→rd h17 b=rd h15 b:=fun b hb=>(d17.at_ (by omega) (by omega)).trans (n16.at_ hb)
 have q7:∀ b,b<h7.size→rd h15 b=rd h7 b:=fun b hb=>f15.rd hb fun y=>y
 refine ⟨t,rdc ((q17 _ (by omega)).trans ((q7 _ (by omega)).trans rt)) rfl,(geoN n).v,rfl,cellsAll ((q17 _ (by omega)).trans ((q7 _ (by omega)).trans rg)),ints R,by rw [ints_length,hR],cellsAll ((q17 _ (by omega)).trans ((q7 _ (by omega)).trans rx)),rfl,by rw [ints_length,hR],New.intro fun h18 n18=>New.intro fun h19 n19=>?_⟩
 have z18:=n18.size
 have z19:=n19.size
 refine Put.intro n19.own (by rw [n19.rd]; decide) fun h20 d20=>?_
 have z20:=d20.size
 have q20:∀ b,b<h17.size→rd h20 b=rd h17 b:=fun b hb=>(d20.at_ (by omega) (by omega)).trans ((n19.at_ (by omega)).trans (n18.at_ hb))
 have o20:∀ {b},Own h17 b→Own h20 b:=fun w=>d20.ow (n19.ow (n18.ow w))
 have o17:∀ {b},Own h7 b→Own h17 b:=fun w=>d17.ow (n16.ow (f15.own w.lt (fun y=>y) w))
 have F17:Fr No h h17:=((F7.no f15).new n16).did d17 fun hl=>by omega
 have F20:Fr No h h20:=((F17.new n18).new n19).did d20 fun hl=>by omega
 have s7:=F7.size
 have notF:∀ b,h.size≤b→¬ F b:=fun b hb y=>by have:=Flt b y; omega
 have rf20:rd h20 h17.size=fileV t (geoN n) R:=(d20.at_ (by omega) (by omega)).trans ((n19.at_ (by omega)).trans n18.rd)
 have rp20:rd h20 h18.size=[.pointer (some ⟨h17.size,0,none⟩)]:=by rw [d20.rd,n19.rd]; rfl
 have cap:Cap h20 h.size h2.size h18.size h17.size t (geoN n):=⟨(q20 _ (by omega)).trans ((q17 _ (by omega)).trans ((q7 _ (by omega)).trans rt)),(q20 _ (by omega)).trans ((q17 _ (by omega)).trans ((q7 _ (by omega)).trans rg)),rp20⟩
 refine ⟨_,rdc rp20 rfl,walkA_spec (gl.no F20) dm (x.no F20) rf20 (d20.ow (n19.ow n18.own)) hR hk.1 hk.2 cap ⟨notF _ (by omega),notF _ (by omega),notF _ (by omega),notF _ (by omega)⟩ ⟨by omega,by omega,by omega⟩ (fun b hb=>⟨g0 b hb,by omega⟩) hu fun h21 F' f21 g21 x21 r21 o21 l21 u21=>⟨_,_,rfl,?_⟩⟩
 have ea:addM T (geoN n) R k=if (walkA (geoN n) (wayM k.toNat) T R 0).2.2≠0 then (((walkA (geoN n) (wayM k.toNat) T R 0).1.1.back T.undo.length).1,z15,0,(walkA (geoN n) (wayM k.toNat) T R 0).2.2)
   else ((walkA (geoN n) (wayM k.toNat) T R 0).1.1,(walkA (geoN n) (wayM k.toNat) T R 0).1.2,(walkA (geoN n) (wayM k.toNat) T R 0).2.1,0):=by unfold addM; rw [if_neg (by omega)]
 rw [ea] at hK
 generalize walkA (geoN n) (wayM k.toNat) T R 0=W at hK x21 r21 l21 u21
 obtain ⟨⟨T',R'⟩,n1,e1⟩:=W
 simp only at hK x21 r21 l21 u21
 have z21:=f21.size
 have q21:∀ b,h.size≤b→b<h20.size→b≠h17.size→rd h21 b=rd h20 b:=fun b h1 h2 h3=>f21.rd h2 (by rintro (y|y); exact notF b h1 y; exact h3 y)
 have w21:∀ {b},h.size≤b→b≠h17.size→Own h20 b→Own h21 b:=fun h1 h3 w=>f21.own w.lt (by rintro (y|y); exact notF _ h1 y; exact h3 y) w
 have rn21:rd h21 h5.size=[.int .i64 0]:=(q21 _ (by omega) (by omega) (by omega)).trans ((q20 _ (by omega)).trans ((q17 _ (by omega)).trans ((q7 _ (by omega)).trans rn)))
 have re21:rd h21 h6.size=[.int .i64 0]:=(q21 _ (by omega) (by omega) (by omega)).trans ((q20 _ (by omega)).trans ((q17 _ (by omega)).trans ((q7 _ (by omega)).trans re)))
 have ry21:rd h21 h4.size=ints z15:=(q21 _ (by omega) (by omega) (by omega)).trans ((q20 _ (by omega)).trans ((q17 _ (by omega)).trans ((q7 _ (by omega)).trans ry)))
 have on21:Own h21 h5.size:=w21 (by omega) (by omega) (o20 (o17 on))
 have oe21:Own h21 h6.size:=w21 (by omega) (by omega) (o20 (o17 oe'))
 have oy21:Own h21 h4.size:=w21 (by omega) (by omega) (o20 (o17 oy))
 have rp21:rd h21 h18.size=[.pointer (some ⟨h17.size,0,none⟩)]:=(q21 _ (by omega) (by omega) (by omega)).trans rp20
 have rb21:rd h21 h15.size=[gdV ob tb mb]:=(q21 _ (by omega) (by omega) (by omega)).trans ((q20 _ (by omega)).trans (by rw [d17.rd,n16.rd]; rfl))
 have F21:Fr F h h21:=(F20.mono fun _ _ y=>y.elim).trans f21 fun b hb y=>by
  rcases y with y|y
  ·exact y
  ·omega
 have G21:Gw h F h21 F':=(Gw.refl F20.size Flt).trans g21 F20.size
 have old:∀ b,b<h20.size→(F' b↔F b):=g21.old
 have notF':∀ b,h.size≤b→b<h20.size→¬ F' b:=fun b h1 h2 y=>notF b h1 ((old b h2).mp y)
 have gd21:Gd h21 ob tb mb t T.mark:=by
  have g17:Gd h17 ob tb mb t T.mark:=⟨(q17 _ gl1').trans gd.o,(q17 _ gl2').trans gd.t,(q17 _ gl3').trans gd.m⟩
  have g20:Gd h20 ob tb mb t T.mark:=⟨(q20 _ (by omega)).trans g17.o,(q20 _ (by omega)).trans g17.t,(q20 _ (by omega)).trans g17.m⟩
  exact ⟨(q21 _ (by omega) (by omega) (by omega)).trans g20.o,(q21 _ (by omega) (by omega) (by omega)).trans g20.t,(q21 _ (by omega) (by omega) (by omega)).trans g20.m⟩
 have lr:R'.length=15:=l21
 refine Put.intro on21 (by rw [rn21]; decide) fun h22 d22=>Put.intro (d22.ow oe21) (by rw [d22.at_ (by omega) (by omega),re21]; decide) fun h23 d23=>?_
 have z22:=d22.size
 have z23:=d23.size
 have q23:∀ b,b<h21.size→b≠h5.size→b≠h6.size→rd h23 b=rd h21 b:=fun b hb h1 h2=>(d23.at_ (by omega) h2).trans (d22.at_ hb h1)
 have rn23:rd h23 h5.size=[.int .i64 n1]:=(d23.at_ (by omega) (by omega)).trans (by rw [d22.rd,rn21]; rfl)
 have re23:rd h23 h6.size=[.int .i64 e1]:=by rw [d23.rd,d22.at_ (by omega) (by omega),re21]; rfl
 have rf23:rd h23 h17.size=fileV t (geoN n) R':=(q23 _ (by omega) (by omega) (by omega)).trans r21
 refine ⟨_,rdc ((q23 _ (by omega) (by omega) (by omega)).trans rp21) rfl,os ⟨ints R',by rw [ints_length,lr],cellsa rf23 ?_,n1,rdc rn23 rfl,e1,rdc re23 rfl,?_⟩⟩
 ·show (ints R').take _=_
  exact List.take_of_length_le (Nat.le_refl _)
 refine PutRow.intro (d23.ow (d22.ow oy21)) (by rw [ints_length,lr]) (ints_one _) (by rw [q23 _ (by omega) (by omega) (by omega),ry21]; exact Nat.le_refl _) fun h24 d24=>?_
 have z24:=d24.size
 have ry24:rd h24 h4.size=ints R':=by rw [d24.rd,q23 _ (by omega) (by omega) (by omega),ry21]; exact put_all _ _ (by rw [ints_length,lr]; rfl)
 have rn24:rd h24 h5.size=[.int .i64 n1]:=(d24.at_ (by omega) (by omega)).trans rn23
 have re24:rd h24 h6.size=[.int .i64 e1]:=(d24.at_ (by omega) (by omega)).trans re23
 refine ⟨rdc rn24 rfl,rdc re24 rfl,Put.intro (d24.ow (d23.ow (d22.ow on21))) (by rw [rn24]; exact Nat.zero_lt_one) fun h25 d25=>?_⟩
 have z25:=d25.size
 have re25:rd h25 h6.size=[.int .i64 e1]:=(d25.at_ (by omega) (by omega)).trans re24
 have oe25:Own h25 h6.size:=d25.ow (d24.ow (d23.ow (d22.ow oe21)))
 refine ⟨rdc re25 rfl,Put.intro oe25 (by rw [re25]; exact Nat.zero_lt_one) fun h26 d26=>?_⟩
 have z26:=d26.size
 have q26:∀ b,b<h21.size→b≠h4.size→b≠h5.size→b≠h6.size→rd h26 b=rd h21 b:=fun b hb h1 h2 h3=>(d26.at_ (by omega) h3).trans ((d25.at_ (by omega) h2).trans ((d24.at_ (by omega) h1).trans (q23 b hb h2 h3)))
 have re26:rd h26 h6.size=[.int .i64 e1]:=by rw [d26.rd,re25]; rfl
 have rn26:rd h26 h5.size=[.int .i64 n1]:=(d26.at_ (by omega) (by omega)).trans (by rw [d25.rd,rn24]; rfl)
 have ry26:rd h26 h4.size=ints R':=(d26.at_ (by omega) (by omega)).trans ((d25.at_ (by omega) (by omega)).trans ry24)
 have oy26:Own h26 h4.size:=d26.ow (d25.ow d24.own)
 have on26:Own h26 h5.size:=d26.ow d25.own
 have f2126:Fr (fun b=>b=h4.size∨b=h5.size∨b=h6.size) h21 h26:=((((Fr.refl _ _).did d22 fun _ => .inr (.inl rfl)).did d23 fun _ => .inr (.inr rfl)).did d24 fun _ => .inl rfl).did d25 (fun _ => .inr (.inl rfl)) |>.did d26 fun _ => .inr (.inr rfl)
 have x26:Tx h26 F' t d T':=x21.fr f2126 fun b hb y=>by
  rcases y with rfl|rfl|rfl
  ·exact notF' _ (by omega) (by omega) hb
  ·exact notF' _ (by omega) (by omega) hb
  ·exact notF' _ (by omega) (by omega) hb
 have gd26:Gd h26 ob tb mb t T.mark:=gd21.fr f2126 (by rintro (y|y|y) <;> omega) (by rintro (y|y|y) <;> omega) (by rintro (y|y|y) <;> omega)
 have F26:Fr F h h26:=F21.trans f2126 fun b hb y=>by rcases y with y|y|y <;> omega
 have G26:Gw h F h26 F':=⟨G21.old,fun b hb=>Nat.lt_of_lt_of_le (G21.lt b hb) f2126.size⟩
 have em:T.mark=((T.undo.length:Int),0):=by unfold TM.mark; rw [live,if_neg (by simp)]
 refine bmap_Add_c1.okD (os ⟨_,rdc ((q26 _ (by omega) (by omega) (by omega) (by omega)).trans rb21) rfl,os ⟨_,rdc re26 rfl,guard_c1_spec x26 gd26 (by omega) fun h27 f27 x27=>⟨rfl,?_⟩⟩⟩)
 have z27:=f27.size
 have q27:∀ b,h.size≤b→b<h20.size→rd h27 b=rd h26 b:=fun b h1 h2=>f27.rd (by omega) (notF' b h1 h2)
 have F27:Fr F h h27:=F26.trans f27 fun b hb y=>(old b (by omega)).mp y
 have G27:Gw h F h27 F':=⟨G26.old,fun b hb=>Nat.lt_of_lt_of_le (G26.lt b hb) f27.size⟩
 rw [em] at x27
 refine os ⟨_,rdc ((q27 _ (by omega) (by omega)).trans re26) rfl,cn (fun he=>?_) fun he=>?_⟩
 ·rw [if_pos ⟨he,rfl⟩] at x27
  rw [if_pos he] at hK
  refine os (PutRow.intro (f27.own (by omega) (notF' _ (by omega) (by omega)) oy26) rfl z15_one (by rw [q27 _ (by omega) (by omega),ry26,ints_length,lr]; exact Nat.le_refl _) fun h28 d28=>os (Put.intro (d28.ow (f27.own (by omega) (notF' _ (by omega) (by omega)) on26)) (by rw [d28.at_ (by omega) (by omega),q27 _ (by omega) (by omega),rn26]; exact Nat.zero_lt_one) fun h29 d29=>?_))
  have z28:=d28.size
  have z29:=d29.size
  have f2729:Fr (fun b=>b=h4.size∨b=h5.size) h27 h29:=((Fr.refl _ _).did d28 fun _ => .inl rfl).did d29 fun _ => .inr rfl
  refine ⟨ints z15,rfl,cellsAll ?_,0,rdc (xs:=[.int .i64 0]) ?_ rfl,e1,rdc (xs:=[.int .i64 e1]) ?_ rfl,hK h29 F' (F27.trans f2729 fun b hb y=>by rcases y with y|y <;> omega) ⟨G27.old,fun b hb=>Nat.lt_of_lt_of_le (G27.lt b hb) f2729.size⟩ (x27.fr f2729 fun b hb y=>?_)⟩
  ·rw [d29.at_ (by omega) (by omega),d28.rd,q27 _ (by omega) (by omega),ry26]; exact put_all _ _ (by rw [ints_length,lr]; rfl)
  ·rw [d29.rd,d28.at_ (by omega) (by omega),q27 _ (by omega) (by omega),rn26]; rfl
  ·rw [d29.at_ (by omega) (by omega),d28.at_ (by omega) (by omega),q27 _ (by omega) (by omega),re26]
  ·rcases y with rfl|rfl
   ·exact notF' _ (by omega) (by omega) hb
   ·exact notF' _ (by omega) (by omega) hb
 ·rw [if_neg (fun y=>y.1 he)] at x27
  rw [if_neg (fun y=>y he)] at hK
  have he:e1=0:=he
  subst he
  exact ⟨ints R',by rw [ints_length,lr],cellsAll ((q27 _ (by omega) (by omega)).trans ry26),n1,rdc ((q27 _ (by omega) (by omega)).trans rn26) rfl,0,rdc ((q27 _ (by omega) (by omega)).trans re26) rfl,hK h27 F' F27 G27 x27⟩
end Go.Proofs.YtiapingedfnlnaaGreatDoor.Bm
namespace Go.Proofs.YtiapingedfnlnaaGreatDoor.Ino
open Go Go.Proofs Wx Hp W Ad Tm Bt Spc Re
open Hd (ints)
open In (z15 mayR encR decA ints_one ints_length ints_eq pairs15 cell15 Glo getR_length encR_length z15_row)
def rblk (g:G) (n:Int):Int:=(g.inodes+n.toNat / 8:Nat)
def rat (n:Int):Nat:=64*(n.toNat % 8)
theorem rat_le (n:Int):rat n+64≤512:=by unfold rat; omega
theorem decA_length (bs:Txt):(decA bs).1.length=15:=by
 unfold decA; split
 ·exact List.length_replicate
 ·split
  ·exact getR_length bs
  ·exact List.length_replicate
def getM (T:TM) (g:G) (n:Int):List Int×Int :=
 if ¬ (1≤n∧n<g.count) then (z15,110) else if (T.read (rblk g n)).2≠0 then (z15,(T.read (rblk g n)).2) else decA (((T.read (rblk g n)).1.drop (rat n)).take 64)
theorem getM_length (T:TM) (g:G) (n:Int):(getM T g n).1.length=15:=by
 unfold getM
 split
 ·exact List.length_replicate
 ·split
  ·exact List.length_replicate
  ·exact decA_length _
def putM (T:TM) (g:G) (n:Int) (R:List Int):TM×Int :=
 if ¬ (1≤n∧n<g.count) then (T,110) else if mayR R=false then (T,111) else if (T.read (rblk g n)).2≠0 then (T,(T.read (rblk g n)).2) else
  T.write (rblk g n) (putU (T.read (rblk g n)).1 (rat n) (encR R))
structure Cok (g:G):Prop where
 ok:g.ok
 c:g.count≤1099511627776
theorem isInode_spec {g:G} {n:Int} {h:Heap} {K:Value→Heap→Prop} (ok:Cok g) (hK:∀ h',Fr No h h'→K (.bool (decide (1≤n∧n<g.count))) h'):C.inode_isInode g.v n h K:=by
 have:=ok.c
 refine inode_isInode.ok (New.intro fun h2 n2=>⟨_,rda n2.rd rfl,In.within_spec ⟨_,rfl,?_⟩⟩)
 rw [wrap_i64 (by omega) (by omega)]
 have e:(decide (1≤n) && decide (n≤(g.count:Int) - 1))=decide (1≤n∧n<g.count):=by
  rw [Bool.eq_iff_iff,Bool.and_eq_true,decide_eq_true_iff,decide_eq_true_iff,decide_eq_true_iff]
  omega
 rw [e]
 exact hK h2 n2.fr
theorem Record_spec {g:G} {n:Int} {h:Heap} {K:Value→Heap→Prop} (ok:Cok g) (h1:1≤n) (h2:n<g.count) (hK:∀ h',Fr No h h'→K (.tuple #[.int .i64 (rblk g n),.int .i64 (rat n),.int .i64 0]) h'):C.geo_Record g.v n h K:=by
 have c1:=ok.c
 have c2:=ok.ok.i
 refine geo_Record.ok (New.intro fun h2 n2=>cf (decide_eq_false (by omega)) ⟨_,rda n2.rd rfl,cf (decide_eq_false (by omega)) ⟨_,rda n2.rd rfl,?_⟩⟩)
 have hK:=hK h2 n2.fr
 have e1:Int.tdiv n 8=n / 8:=Int.tdiv_eq_ediv_of_nonneg (by omega)
 have e2:Int.tmod n 8=n % 8:=Int.tmod_eq_emod_of_nonneg (by omega)
 rw [e1,e2,wrap_i64 (n:=n / 8) (by omega) (by omega),wrap_i64 (n:=(g.inodes:Int)+n / 8) (by omega) (by omega),wrap_i64 (n:=n % 8*64) (by omega) (by omega)]
 have e3:n % 8*64=((rat n:Nat):Int):=by unfold rat; omega
 have e4:(g.inodes:Int)+n / 8=rblk g n:=by unfold rblk; omega
 rw [e3,e4]; exact hK
theorem place_spec {h:Heap} {F:Nat→Prop} {t d:Option Addr} {T:TM} {g:G} {n:Int} {K:Value→Heap→Prop} (x:Tx h F t d T) (ok:Cok g) (h1:1≤n) (h2:n<g.count)
  (hK:∀ a l c h',Fr No h h'→l=(T.read (rblk g n)).1.length→Sl h' 1 a l c ((T.read (rblk g n)).1.map bv) (From h.size)→K (.tuple #[.int .i64 (rblk g n),.slice a l c,.int .i64 (rat n),.int .i64 (T.read (rblk g n)).2]) h'):C.inode_place t g.v n h K:=by
 refine inode_place.ok (New.intro fun h2' n2=>⟨g.v,rfl,cellsAll n2.rd,Record_spec ok h1 h2 fun h3 f3=>⟨_,_,_,rfl,cn (fun y=>absurd rfl y) fun _=>?_⟩⟩)
 have F3:=n2.fr.no f3
 refine Tm.Read_spec (x.no F3) fun a l c h4 f4 hl s=>⟨_,_,_,_,rfl,?_⟩
 exact hK a l c h4 (F3.no f4) hl (s.mono fun b hb=>Nat.le_trans F3.size hb)
theorem Get_spec {h:Heap} {F:Nat→Prop} {t d:Option Addr} {T:TM} {g:G} {n:Int} {K:Value→Heap→Prop} (gl:In.Glo h) (x:Tx h F t d T) (ok:Cok g)
  (hK:∀ h',Fr No h h'→K (.tuple #[.agg ⟨ints (getM T g n).1⟩,.int .i64 (getM T g n).2]) h'):C.inode_Get t g.v n h K:=by
 have ha:=rat_le n
 refine inode_Get.ok (New.intro fun h2' n2=>New.intro fun h3 n3=>⟨g.v,rfl,cellsAll ((n3.at_ n2.own.lt).trans n2.rd),isInode_spec ok fun h4 f4=>⟨_,rfl,cnot ?_⟩⟩)
 have s2:=n2.size
 have s3:=n3.size
 have f3:Fr No h h3:=n2.fr.new n3
 have F4:=f3.no f4
 have z4:=f4.size
 have row:∀ {h':Heap},Fr No h4 h'→Own h' h2'.size∧(rd h' h2'.size).length=15:=fun f'=>by
  have f34:Fr No h3 _:=f4.no f'
  exact ⟨f34.own n3.own.lt (fun y=>y) n3.own,by rw [f34.rd n3.own.lt fun y=>y,n3.rd]; rfl⟩
 by_cases hn:1≤n∧n<g.count
 ·have e0:getM T g n=if (T.read (rblk g n)).2≠0 then (z15,(T.read (rblk g n)).2) else decA (((T.read (rblk g n)).1.drop (rat n)).take 64):=by unfold getM; rw [if_neg (fun y=>y hn)]
  rw [e0] at hK
  refine ct (decide_eq_true hn) ⟨g.v,rfl,cellsAll ((f4.rd (by omega) fun y=>y).trans ((n3.at_ n2.own.lt).trans n2.rd)),place_spec (x.no F4) ok hn.1 hn.2 fun a l c h6 f6 hl s6=>⟨_,_,_,_,_,_,rfl,cn (fun he=>?_) fun he=>?_⟩⟩
  ·rw [if_pos he] at hK
   obtain ⟨w,l15⟩:=row f6
   exact z15_row (h3:=h) (F4.no f6) (by omega) w l15 hK
  ·rw [if_neg (fun y=>y he)] at hK
   have hlen:(T.read (rblk g n)).1.length=512:=Tx.readLen x he
   have hc:=s6.le
   rw [wrap_i64 (by omega) (by omega)]
   refine ⟨⟨by omega,by omega,by omega⟩,?_⟩
   have B6:=StrAt.cut s6.str hc (i:=(rat n:Int).toNat) (j:=((rat n:Int)+64).toNat) (by omega) (by omega)
   rw [show ((rat n:Int)+64).toNat - (rat n:Int).toNat=64 by omega] at B6 ⊢
   refine In.Decode_spec (gl.no (F4.no f6)) B6 (by omega) fun h8 f8=>⟨_,_,rfl,?_⟩
   rw [show (rat n:Int).toNat=rat n by omega]
   obtain ⟨w,l15⟩:=row (f6.no f8)
   refine PutRow.intro w (by rw [ints_length,decA_length]) (ints_one _) (by omega) fun h9 d9=>⟨_,by rw [ints_length]; exact decA_length _,cellsAll ?_,hK h9 (((F4.no f6).no f8).did d9 fun hl=>by omega)⟩
   rw [d9.rd]; exact put_all _ _ (by rw [ints_length,decA_length,l15])
 ·have e0:getM T g n=(z15,110):=by unfold getM; rw [if_pos hn]
  rw [e0] at hK
  obtain ⟨w,l15⟩:=row (Fr.refl _ _)
  exact cf (decide_eq_false hn) (z15_row (h3:=h) F4 (by omega) w l15 hK)
theorem Put_spec {h:Heap} {F:Nat→Prop} {t d:Option Addr} {T:TM} {g:G} {n:Int} {R:List Int} {K:Value→Heap→Prop} (gl:In.Glo h) (x:Tx h F t d T) (ok:Cok g) (hR:R.length=15) (hu:T.undo.length<1000000000)
  (hK:∀ h' F',Fr F h h'→Gw h F h' F'→Tx h' F' t d (putM T g n R).1→K (.int .i64 (putM T g n R).2) h'):C.inode_Put t g.v n (ints R) h K:=by
 have ha:=rat_le n
 have same:∀ e h',Fr No h h'→putM T g n R=(T,e)→K (.int .i64 e) h':=fun e h' f e0=>by
  rw [e0] at hK
  exact hK h' F (f.mono fun _ _ y=>y.elim) (Gw.refl f.size fun b hb=>x.lt hb) (x.no f)
 refine inode_Put.ok (New.intro fun h2' n2=>New.intro fun h3 n3=>⟨g.v,rfl,cellsAll ((n3.at_ n2.own.lt).trans n2.rd),isInode_spec ok fun h4 f4=>⟨_,rfl,cnot ?_⟩⟩)
 have s2:=n2.size
 have s3:=n3.size
 have F4:=(n2.fr.new n3).no f4
 have z4:=f4.size
 by_cases hn:1≤n∧n<g.count
 ·refine ct (decide_eq_true hn) ⟨ints R,by rw [ints_length,hR],cellsAll ((f4.rd (by omega) fun y=>y).trans n3.rd),In.Encode_spec (gl.no F4) hR (fun hm h5 f5=>⟨_,_,_,_,rfl,cn (fun _=>?_) fun y=>absurd (show (111:Int)=0 from y) (by decide)⟩) fun hm eb h5 f5 heb s5=>⟨_,_,_,_,rfl,cn (fun y=>absurd rfl y) fun _=>?_⟩⟩
  ·exact same _ h5 (F4.no f5) (by unfold putM; rw [if_neg (fun y=>y hn),if_pos hm])
  have z5:=f5.size
  have leb:eb<h5.size:=s5.lt
  have F5:=F4.no f5
  refine ⟨g.v,rfl,cellsAll ((f5.rd (by omega) fun y=>y).trans ((f4.rd (by omega) fun y=>y).trans ((n3.at_ n2.own.lt).trans n2.rd))),place_spec (x.no F5) ok hn.1 hn.2 fun a l c h6 f6 hl s6=>⟨_,_,_,_,_,_,rfl,cn (fun he=>?_) fun he=>?_⟩⟩
  ·exact same _ h6 (F5.no f6) (by unfold putM; rw [if_neg (fun y=>y hn),if_neg (by rw [hm]; simp),if_pos he])
  have hlen:(T.read (rblk g n)).1.length=512:=Tx.readLen x he
  have e0:putM T g n R=T.write (rblk g n) (putU (T.read (rblk g n)).1 (rat n) (encR R)):=by unfold putM; rw [if_neg (fun y=>y hn),if_neg (by rw [hm]; simp),if_neg (fun y=>y he)]
  rw [e0] at hK
  generalize T.read (rblk g n)=rd0 at hl s6 hlen hK
  obtain ⟨bs,er⟩:=rd0
  simp only at hl s6 hlen hK
  obtain ⟨p,ep,_⟩:=s6.get (by omega)
  subst ep
  obtain ⟨pb,po,sp⟩:=p
  have esp:sp=none:=s6.2.1
  subst esp
  have z6:=f6.size
  have hc:=s6.le
  have F6:=F5.no f6
  have le:=encR_length hR
  refine ⟨⟨by omega,by omega⟩,?_⟩
  rw [if_neg (by omega)]
  show CopyP _ (some (Addr.add ⟨pb,po,none⟩ (rat n:Int).toNat)) _ _ _ _
  rw [add_mk]
  have hfrom:h5.size≤pb:=s6.2.2.1
  have e5:SlCells h6 (some ⟨eb,0,none⟩) ((encR R).map bv):=(s5.fr f6 fun _ _ _ y=>y).cells
  obtain ⟨w6,l6⟩:=s6.wr
  refine CopyP.intro (new:=(encR R).map bv) (by rw [List.length_map,le]; show 64=min 64 (l - _)*1; omega) e5 (bv_one _) w6 (by rw [List.length_map,le]; omega) fun h7 d7=>?_
  have s7:Sl h7 1 (some ⟨pb,po,none⟩) l c ((putU bs (rat n) (encR R)).map bv) (From h5.size):=by
   have:=s6.putAt (new:=(encR R).map bv) (j:=rat n) (by rw [List.length_map,le]; omega) (by rw [show po+rat n=po+(rat n:Int).toNat by omega]; exact d7)
   rw [putU_put (by rw [hlen,le]; omega)] at this; exact this
  have F7:=F6.did d7 fun hl=>by omega
  refine Tm.Write_spec (x.no F7) s7.str (by omega) (fun q eq y=>?_) hu fun h8 F8 f8 g8 x8=>⟨_,rfl,hK h8 F8 ?_ ?_ x8⟩
  ·cases eq
   have y:F pb:=y
   have:=x.lt y
   omega
  ·exact (F7.mono fun _ _ y=>y.elim).trans f8 fun _ _ y=>y
  ·exact (Gw.refl F7.size fun b hb=>x.lt hb).trans g8 F7.size
 ·exact cf (decide_eq_false hn) (same _ h4 F4 (by unfold putM; rw [if_pos hn]))
end Go.Proofs.YtiapingedfnlnaaGreatDoor.Ino
namespace Go.Proofs.YtiapingedfnlnaaGreatDoor.Fi
open Go Go.Proofs Wx Hp W Ad Tm Spc Re Av
open Hd (ints)
open In (Glo ints_length ints_one)
open Ino (getM putM Cok getM_length)
open Bm (findM addM)
theorem ints_at {R:List Int} {i:Nat} (hi:i<R.length):(ints R)[i]?=some (.int .i64 (R.getD i 0)):=by
 unfold ints
 rw [List.getElem?_map,List.getD_eq_getElem?_getD,List.getElem?_eq_getElem hi]; rfl
theorem ints_set {R:List Int} {i:Nat} {v:Int}:(ints R).set i (.int .i64 v)=ints (R.set i v):=by
 unfold ints; rw [List.map_set]
def blockM (T:TM) (g:G) (R:List Int) (k:Int):Txt×Int:=if (findM T g R k).2≠0 then ([],(findM T g R k).2) else if (findM T g R k).1=0 then (zeros,0) else T.read (findM T g R k).1
end Go.Proofs.YtiapingedfnlnaaGreatDoor.Fi
namespace Go.Proofs.YtiapingedfnlnaaGreatDoor.Bm
open Go Go.Proofs Wx Hp W Ad Tm Bt Spc Re Av
def edge (n j:Nat):Bool:=decide (j<(geoN n).data) || decide (n≤j)
def Z0 (L:Txt):Nat→Txt:=fun k=>(L.drop (k*512)).take 512
theorem fresh_av {n:Nat} {L:Txt} (hL:L.length=512*n):Av n (Z0 L) ⟨fresh (chunks L),[],[],false⟩:=by
 have hn:(chunks L).length=n:=by rw [chunks_length,hL]; omega
 refine ⟨rfl,hn,fun k hk=>?_,fun k hk=>by unfold Z0; rw [List.length_take,List.length_drop,hL]; omega,List.nodup_nil,fun x hx=>(by cases hx)⟩
 have hN:TM.N ⟨fresh (chunks L),[],[],false⟩=n:=hn
 rw [TM.read_live rfl,hN,if_neg (by omega),TM.get_none rfl,if_neg (by intro y; cases y)]
 have:readAt (fresh (chunks L)) ((k:Nat):Int).toNat=Z0 L k:=by
  show (chunks L).getD k []=_
  rw [List.getD_eq_getElem?_getD,List.getElem?_eq_getElem (by omega),Option.getD_some,chunks_get]; rfl
 rw [this]
theorem bitAt_chunk (L:Txt) (k t:Nat) (ht:t<4096):bitAt (Z0 L k) t=bitAt L (4096*k+t):=by
 unfold bitAt Z0
 rw [List.getD_eq_getElem?_getD,List.getElem?_take,if_pos (by omega),List.getElem?_drop,← List.getD_eq_getElem?_getD,show k*512+t / 8=(4096*k+t) / 8 by omega,show t % 8=(4096*k+t) % 8 by omega]
theorem num_nil {Z:Nat→Txt} {R:List Int} (h:∀ i,3≤i→i<15→R.getD i 0=0):∀ s,s<nS→num Z R s=0:=by
 refine slots (fun s hs e=>?_) fun s q p hs e ih=>?_
 ·rw [num_none e]
  have b:=par_none e
  have:root R s=0:=by
   unfold root
   split
   ·exact h _ (by omega) (by omega)
   ·split
    ·exact h _ (by omega) (by omega)
    ·exact h _ (by omega) (by omega)
  rw [this]; rfl
 ·rw [num_some e hs,ih]; rfl
theorem wf_nil {n:Nat} {Z:Nat→Txt} {R:List Int} (hl:R.length=15) (h:∀ i,3≤i→i<15→R.getD i 0=0):Wf n Z R :=
 ⟨hl,fun i h1 h2=>by rw [h i h1 h2]; exact Int.le_refl _,fun s hs h0=>absurd (num_nil h s hs) h0,fun s s' hs _ h0 _=>absurd (num_nil h s hs) h0⟩
end Go.Proofs.YtiapingedfnlnaaGreatDoor.Bm
namespace Go.Proofs.YtiapingedfnlnaaGreatDoor.Bm
open Go Go.Proofs Wx Hp W Ad Tm Bt Spc Re Av
def loS (q:Nat):Nat:=if q=16522 then 10 else if q=16523 then 138 else 138+128*(q - 16524)
def hiS (q:Nat):Nat:=if q=16522 then 138 else if q=16523 then 16522 else 138+128*(q - 16524)+128
def ch (q p:Nat):Nat:=if q=16522 then 10+p else if q=16523 then 16524+p else 138+128*(q - 16524)+p
theorem lo_tab (p:Nat):loS (16524+p)=138+128*p:=by unfold loS; rw [if_neg (by omega),if_neg (by omega),Nat.add_sub_cancel_left]
theorem hi_tab (p:Nat):hiS (16524+p)=138+128*p+128:=by unfold hiS; rw [if_neg (by omega),if_neg (by omega),Nat.add_sub_cancel_left]
theorem ch_tab (r p:Nat):ch (16524+r) p=138+128*r+p:=by unfold ch; rw [if_neg (by omega),if_neg (by omega),Nat.add_sub_cancel_left]
theorem ch_one (p:Nat):ch 16522 p=10+p:=rfl
theorem ch_two (p:Nat):ch 16523 p=16524+p:=rfl
theorem tab_cases {q:Nat} (h1:16522≤q) (h2:q<nS):q=16522∨q=16523∨∃ r,r<128∧q=16524+r:=by
 unfold nS at h2
 by_cases a:q=16522
 ·exact .inl a
 ·by_cases b:q=16523
  ·exact .inr (.inl b)
  ·exact .inr (.inr ⟨q - 16524,by omega,by omega⟩)
theorem ch_par {q p:Nat} (h1:16522≤q) (h2:q<nS) (hp:p<128):par (ch q p)=some (q,p)∧ch q p<nS:=by
 rcases tab_cases h1 h2 with rfl|rfl|⟨r,hr,rfl⟩
 ·rw [ch_one]
  refine ⟨?_,by unfold nS; omega⟩
  unfold par
  rw [if_neg (by omega),if_pos (by omega),Nat.add_sub_cancel_left]
 ·rw [ch_two]
  exact ⟨par_table hp,by unfold nS; omega⟩
 ·rw [ch_tab]
  refine ⟨?_,by unfold nS; omega⟩
  unfold par
  rw [if_neg (by omega),if_neg (by omega),if_pos (by omega),show (138+128*r+p - 138) / 128=r by omega,show (138+128*r+p - 138) % 128=p by omega]
def Sub (q s:Nat):Prop:=s=q∨(16522≤q∧loS q≤s∧s<hiS q)∨(q=16523∧16524≤s∧s<nS)
theorem sub_leaf {c s:Nat} (h:c<16522):Sub c s↔s=c:=by unfold Sub; omega
theorem sub_one {s:Nat}:Sub 16522 s↔s=16522∨(10≤s∧s<138):=by
 have e1:loS 16522=10:=rfl
 have e2:hiS 16522=138:=rfl
 unfold Sub; rw [e1,e2]; omega
theorem sub_two {s:Nat}:Sub 16523 s↔s=16523∨(138≤s∧s<16522)∨(16524≤s∧s<nS):=by
 have e1:loS 16523=138:=rfl
 have e2:hiS 16523=16522:=rfl
 unfold Sub; rw [e1,e2]; omega
theorem sub_tab {r s:Nat}:Sub (16524+r) s↔s=16524+r∨(138+128*r≤s∧s<138+128*r+128):=by
 unfold Sub; rw [lo_tab,hi_tab]; omega
theorem sub_split {q s:Nat} (h1:16522≤q) (h2:q<nS):Sub q s↔s=q∨∃ j,j<128∧Sub (ch q j) s:=by
 rcases tab_cases h1 h2 with rfl|rfl|⟨r,hr,rfl⟩
 ·rw [sub_one]
  constructor
  ·rintro (h|h)
   ·exact .inl h
   ·exact .inr ⟨s - 10,by omega,by rw [ch_one,sub_leaf (by omega)]; omega⟩
  ·rintro (h|⟨j,hj,h⟩)
   ·exact .inl h
   ·rw [ch_one,sub_leaf (by omega)] at h; omega
 ·rw [sub_two]
  constructor
  ·rintro (h|h|h)
   ·exact .inl h
   ·exact .inr ⟨(s - 138) / 128,by omega,by rw [ch_two,sub_tab]; omega⟩
   ·exact .inr ⟨s - 16524,by unfold nS at h; omega,by rw [ch_two,sub_tab]; omega⟩
  ·rintro (h|⟨j,hj,h⟩)
   ·exact .inl h
   ·rw [ch_two,sub_tab] at h; unfold nS; omega
 ·rw [sub_tab]
  constructor
  ·rintro (h|h)
   ·exact .inl h
   ·exact .inr ⟨s - (138+128*r),by omega,by rw [ch_tab,sub_leaf (by omega)]; omega⟩
  ·rintro (h|⟨j,hj,h⟩)
   ·exact .inl h
   ·rw [ch_tab,sub_leaf (by omega)] at h; omega
theorem data_sub {q s:Nat} (h1:16522≤q) (h2:q<nS) (h:loS q≤s) (h':s<hiS q):Sub q s∧s<16522:=by
 refine ⟨.inr (.inl ⟨h1,h,h'⟩),?_⟩
 rcases tab_cases h1 h2 with rfl|rfl|⟨r,hr,rfl⟩
 ·have:s<138:=h'; omega
 ·exact h'
 ·rw [hi_tab] at h'; omega
theorem sub_zero {Z:Nat→Txt} {R:List Int} {q:Nat} (hq:q<nS) (h0:num Z R q=0):∀ s,Sub q s→num Z R s=0:=by
 intro s h
 rcases Nat.lt_or_ge q 16522 with h1|h1
 ·rw [sub_leaf h1] at h; rw [h]; exact h0
 ·rcases (sub_split h1 hq).mp h with rfl|⟨j,hj,h⟩
  ·exact h0
  ·obtain ⟨e,hc⟩:=ch_par h1 hq hj
   have hz:num Z R (ch q j)=0:=by rw [num_some e hc,h0]; exact if_pos rfl
   rcases Nat.lt_or_ge (ch q j) 16522 with h2|h2
   ·rw [sub_leaf h2] at h; rw [h]; exact hz
   ·rcases (sub_split h2 hc).mp h with rfl|⟨i,hi,h⟩
    ·exact hz
    ·obtain ⟨e',hc'⟩:=ch_par h2 hc hi
     have:ch (ch q j) i<16522:=by
      rcases tab_cases h1 hq with rfl|rfl|⟨r,hr,rfl⟩
      ·rw [ch_one] at h2; omega
      ·rw [ch_two,ch_tab]; omega
      ·rw [ch_tab] at h2; omega
     rw [sub_leaf this] at h
     rw [h,num_some e' hc',hz]; exact if_pos rfl
def Tight (Z:Nat→Txt) (R:List Int):Prop:=∀ q,16522≤q→q<nS→num Z R q≠0→∃ x,loS q≤x∧x<hiS q∧num Z R x≠0
end Go.Proofs.YtiapingedfnlnaaGreatDoor.Bm
namespace Go.Proofs.YtiapingedfnlnaaGreatDoor.Bm
open Go Go.Proofs Wx Hp W Ad Tm Bt Spc Re Av
theorem nz60 {x:Int} (e:x=60):x≠0:=by rw [e]; decide
theorem nz90 {x:Int} (e:x=90):x≠0:=by rw [e]; decide
end Go.Proofs.YtiapingedfnlnaaGreatDoor.Bm
namespace Go.Proofs.YtiapingedfnlnaaGreatDoor.Bm
open Go Go.Proofs Wx Hp W Ad Tm Bt Spc Re Av
theorem root_dir {R:List Int} {i:Nat} (hi:i<10):root R i=R.getD (3+i) 0:=if_pos hi
end Go.Proofs.YtiapingedfnlnaaGreatDoor.Bm
namespace Go.Proofs.YtiapingedfnlnaaGreatDoor.Bm
open Go Go.Proofs Wx Hp W Ad Tm Bt Spc Re Av
theorem add_ok {n k:Nat} {Z:Nat→Txt} {R:List Int} {T:TM} (d:Dim n) (a:Av n Z T) (w:Wf n Z R) (hk:k<16522) :
  (addM T (geoN n) R k=(T,z15,0,60)∧96≤(ks T).length+9)∨(addM T (geoN n) R k=(T,z15,0,90)∧frees n Z<miss Z R (path k)) ∨
  ∃ T' R' Z',addM T (geoN n) R k=(T',R',((num Z' R' k:Nat):Int),0)∧Av n Z' T'∧Added n Z R none (path k) Z' R'∧(miss Z R (path k)=0→T'=T)∧(∀ x ∈ ks T',x ∈ ks T∨x<(geoN n).inodes∨∃ s ∈ path k,x=((num Z' R' s:Nat):Int))∧(∀ x ∈ ks T,x ∈ ks T')∧∀ s ∈ path k,num Z R s=0→((num Z' R' s:Nat):Int) ∈ ks T':=by
 obtain ⟨c,e⟩:=path_chain hk
 unfold addM
 rw [if_neg (by omega),Int.toNat_natCast,← e]
 have hl:(path k).length≤3:=by
  unfold path
  split
  ·simp
  ·split <;> simp
 obtain ⟨o,x⟩:=walkA_ok d (path k) none Z T T R a w c (fun q y=>by cases y) (Ext.refl T)
 have ea:at_ Z R none=0:=rfl
 rw [ea] at o x
 rcases o with ⟨Z',e1,a',ad,nf,kk,lk1,lk2⟩|⟨e1,h⟩|⟨e1,h⟩
 ·rw [if_neg (fun y=>y (by rw [e1]))]
  refine .inr (.inr ⟨_,_,Z',?_,a',ad,nf,fun x hx=>?_,lk1,lk2⟩)
  ·rw [e1,path_last]; rfl
  ·rcases kk x hx with h|h|h|⟨q,h,_⟩
   ·exact .inl h
   ·exact .inr (.inl h)
   ·exact .inr (.inr h)
   ·cases h
 ·rw [if_pos (nz60 (by rw [e1])),x.back a.live,e1]
  exact .inl ⟨rfl,by omega⟩
 ·rw [if_pos (nz90 (by rw [e1])),x.back a.live,e1]
  exact .inr (.inl ⟨rfl,h⟩)
theorem path_under {k q:Nat} (hk:k<16522) (h:q ∈ path k) (hq:16522≤q):loS q≤k∧k<hiS q:=by
 unfold path at h
 split at h
 ·rw [List.mem_singleton] at h; omega
 ·split at h
  ·simp only [List.mem_cons,List.not_mem_nil,or_false] at h
   rcases h with rfl|rfl
   ·show 10≤k∧k<138; omega
   ·omega
  ·simp only [List.mem_cons,List.not_mem_nil,or_false] at h
   rcases h with rfl|rfl|rfl
   ·show 138≤k∧k<16522; omega
   ·rw [lo_tab,hi_tab]; omega
   ·omega
theorem path_self (k:Nat):k ∈ path k:=List.mem_of_getLast? (path_last k)
theorem path_data {k s:Nat} (h:s ∈ path k) (hs:s<16522):s=k:=by
 unfold path at h
 split at h
 ·exact List.mem_singleton.mp h
 ·split at h
  ·simp only [List.mem_cons,List.not_mem_nil,or_false] at h; omega
  ·simp only [List.mem_cons,List.not_mem_nil,or_false] at h; omega
theorem Added.tight {n k:Nat} {Z Z':Nat→Txt} {R R':List Int} (a:Added n Z R none (path k) Z' R') (hk:k<16522) (tg:Tight Z R):Tight Z' R':=by
 intro q h1 h2 h0
 by_cases hq:q ∈ path k
 ·obtain ⟨b,c⟩:=path_under hk hq h1
  exact ⟨k,b,c,a.got k (path_self k)⟩
 ·rw [a.off q h2 hq] at h0
  obtain ⟨x,b,c,hx⟩:=tg q h1 h2 h0
  have hx2:=(data_sub h1 h2 b c).2
  refine ⟨x,b,c,?_⟩
  by_cases hp:x ∈ path k
  ·exact a.got x hp
  ·rw [a.off x (by unfold nS; omega) hp]; exact hx
theorem tight_nil {Z:Nat→Txt} {R:List Int} (h:∀ i,3≤i→i<15→R.getD i 0=0):Tight Z R:=fun q _ h2 h0=>absurd (num_nil h q h2) h0
theorem Added.data {n k:Nat} {Z Z':Nat→Txt} {R R':List Int} (a:Added n Z R none (path k) Z' R') {s:Nat} (hs:s<16522) (hne:s≠k):num Z' R' s=num Z R s :=
 a.off s (by unfold nS; omega) fun h=>hne (path_data h hs)
theorem roots_num {n:Nat} {Z:Nat→Txt} {R:List Int} (w:Wf n Z R):(∀ i,i<10→R.getD (3+i) 0=((num Z R i:Nat):Int))∧R.getD 13 0=((num Z R 16522:Nat):Int)∧R.getD 14 0=((num Z R 16523:Nat):Int) :=
 ⟨fun i hi=>by rw [← root_dir hi]; exact root_num w (by unfold nS; omega) (by unfold par; rw [if_pos hi]),root_num w (s:=16522) (by decide) rfl,root_num w (s:=16523) (by decide) rfl⟩
end Go.Proofs.YtiapingedfnlnaaGreatDoor.Bm
namespace Go.Proofs.YtiapingedfnlnaaGreatDoor.Bm
open Go Go.Proofs Wx Hp W Ad Tm Bt Spc Re Av
theorem walkA_un (g:G):∀ (l:List (Nat×Nat)) (T:TM) (R:List Int) (a:Int),(∀ s ∈ l,StOk s)→(walkA g l T R a).1.1.undo.length≤T.undo.length+3*l.length
 | [],T,R,a,_=>Nat.le_add_right _ _
 | s::r,T,R,a,h=>by
  have ih:=fun T' R' a'=>walkA_un g r T' R' a' fun x hx=>h x (List.mem_cons_of_mem _ hx)
  have nx:∀ (TR:TM×List Int) (nu er:Int),TR.1.undo.length≤T.undo.length+3→(nextM g TR nu er (walkA g r)).1.1.undo.length≤T.undo.length+3*(r.length+1):=fun TR nu er hle=>by
   unfold nextM
   split
   ·show TR.1.undo.length≤_; omega
   ·split
    ·show TR.1.undo.length≤_; omega
    ·split
     ·show TR.1.undo.length≤_; omega
     ·have:=ih TR.1 TR.2 nu; omega
  rw [walkA_cons,List.length_cons]
  split
  ·exact nx _ _ _ (holeM_un (h s (List.mem_cons_self ..)))
  ·exact nx (T,R) _ _ (Nat.le_add_right _ _)
theorem back_un (T:TM) (m:Int):(T.back m).1.undo.length≤T.undo.length:=by
 unfold TM.back
 split
 ·exact Nat.le_refl _
 ·split
  ·exact Nat.le_refl _
  ·show (T.undo.take _).length≤_
   rw [List.length_take]; omega
theorem addM_un {T:TM} {g:G} {R:List Int} {k:Int}:(addM T g R k).1.undo.length≤T.undo.length+9:=by
 unfold addM
 split
 ·exact Nat.le_add_right _ _
 ·rename_i hk
  have hl:(wayM k.toNat).length≤3:=by
   unfold wayM
   split
   ·simp
   ·split <;> simp
  have:=walkA_un g (wayM k.toNat) T R 0 (wayM_ok (by omega))
  split
  ·have hb:=back_un (walkA g (wayM k.toNat) T R 0).1.1 T.undo.length
   exact Nat.le_trans hb (by omega)
  ·exact Nat.le_trans this (by omega)
end Go.Proofs.YtiapingedfnlnaaGreatDoor.Bm
namespace Go.Proofs.YtiapingedfnlnaaGreatDoor.Fi
open Go Go.Proofs Wx Hp W Ad Tm Spc Re Av Rg
open Hd (ints)
open In (Glo ints_length ints_one)
open Ino (getM putM Cok getM_length)
open Bm (findM addM write_un)
theorem hv_yield {P:Program} {l:Nat} {args:List Value} {h:Heap} {k:Value→Heap→Prop} (y:YCalls P l args h k):HCallsV P (.func (.yield l) #[] #[]) args h k:=y
def undoM (T:TM) (r:TM×Int):TM×Int:=if r.2≠0 then ((r.1.back T.mark.1).1,r.2) else r
theorem putM_un {T:TM} {g:G} {n:Int} {R:List Int}:(putM T g n R).1.undo.length≤T.undo.length+1:=by
 unfold putM
 split
 ·exact Nat.le_add_right _ _
 ·split
  ·exact Nat.le_add_right _ _
  ·split
   ·exact Nat.le_add_right _ _
   ·exact write_un _ _ _
theorem cok {n:Nat} (d:Dim n):Cok (geoN n):=⟨geoN_ok d.hi,by have:=d.hi; show 8*(n / 64)≤_; omega⟩
theorem put_e {h:Heap} {eb:Nat} {e0 e:Int} {k:Heap→Prop} (w:Own h eb) (r:rd h eb=[.int .i64 e0]) (H:∀ h',Did eb h h' [.int .i64 e]→k h'):Put ⟨eb,0,none⟩ (.int .i64 e) h k :=
 Put.intro w (by rw [r]; exact Nat.zero_lt_one) fun h' d=>by rw [r] at d; exact H h' d
end Go.Proofs.YtiapingedfnlnaaGreatDoor.Fi
namespace Go.Proofs.YtiapingedfnlnaaGreatDoor.Fi
open Go Go.Proofs Wx Hp W Ad Tm Spc Re Av Rg
open Hd (ints)
open In (Glo ints_length ints_one mayR decA)
open Ino (getM putM Cok getM_length)
open Bm (findM addM write_un)
theorem getM_may {T:TM} {g:G} {n:Int} (h:(getM T g n).2=0):mayR (getM T g n).1=true:=by
 unfold getM at h ⊢
 split
 ·rename_i y; rw [if_pos y] at h; exact absurd h (by decide)
 ·rename_i y
  rw [if_neg y] at h
  split
  ·rename_i z; rw [if_pos z] at h; exact absurd h z
  ·rename_i z
   rw [if_neg z] at h
   unfold decA at h ⊢
   split
   ·rename_i w; rw [if_pos w] at h; exact absurd h (by decide)
   ·rename_i w
    rw [if_neg w] at h
    split
    ·rename_i v
     unfold In.decOk at v
     rw [Bool.and_eq_true] at v; exact v.2
    ·rename_i v
     rw [if_neg v] at h; exact absurd h (by decide)
end Go.Proofs.YtiapingedfnlnaaGreatDoor.Fi
namespace Go.Proofs.YtiapingedfnlnaaGreatDoor.Fi
open Go Go.Proofs Wx Hp W Ad Tm Spc Re Av Rg
open Hd (ints)
open In (Glo ints_length ints_one mayR decA)
open Ino (getM putM Cok getM_length)
open Bm (findM addM write_un addM_un setM walkA)
theorem setM_len (T:TM) (R:List Int) (s:Nat×Nat) (a:Int) (b:Txt) (v:Int):(setM T R s a b v).1.2.length=R.length:=by
 unfold setM
 split
 ·exact List.length_set
 ·split
  ·exact List.length_set
  ·split
   ·exact List.length_set
   ·rfl
theorem walkA_len (g:G):∀ (l:List (Nat×Nat)) (T:TM) (R:List Int) (a:Int),(walkA g l T R a).1.2.length=R.length
 | [],_,_,_=>rfl
 | s::r,T,R,a=>by
  unfold walkA
  split
  ·rfl
  ·split
   ·split
    ·rfl
    ·exact walkA_len g r T R _
   ·split
    ·rfl
    ·split
     ·exact setM_len ..
     ·split
      ·exact setM_len ..
      ·split
       ·exact setM_len ..
       ·rw [walkA_len g r]; exact setM_len ..
theorem addM_length {T:TM} {g:G} {R:List Int} {k:Int} (hR:R.length=15):(addM T g R k).2.1.length=15:=by
 unfold addM
 split
 ·rfl
 ·split
  ·rfl
  ·show (walkA g _ T R 0).1.2.length=15
   rw [walkA_len,hR]
end Go.Proofs.YtiapingedfnlnaaGreatDoor.Fi
namespace Go.Proofs.YtiapingedfnlnaaGreatDoor.Di
open Go Go.Proofs Ad Tm Bt Spc Av Fi Bm Ino Sk Ss
def openM (T:TM) (g:G) (n:Int):List Int×Int :=
 if (getM T g n).2≠0 then getM T g n else if (getM T g n).1.getD 0 0=0 then ((getM T g n).1,110) else if (getM T g n).1.getD 0 0≠2 then ((getM T g n).1,161) else getM T g n
theorem openM_ok {T:TM} {g:G} {n:Int} (h:(openM T g n).2=0):openM T g n=getM T g n∧(getM T g n).2=0∧(getM T g n).1.getD 0 0=2:=by
 unfold openM at h ⊢
 split
 ·rename_i y; rw [if_pos y] at h; exact absurd h y
 ·rename_i y
  rw [if_neg y] at h
  split
  ·rename_i z; rw [if_pos z] at h; exact absurd (show (110:Int)=0 from h) (by decide)
  ·rename_i z
   rw [if_neg z] at h
   split
   ·rename_i w; rw [if_pos w] at h; exact absurd (show (161:Int)=0 from h) (by decide)
   ·rename_i w; exact ⟨rfl,Classical.byContradiction y,Classical.byContradiction w⟩
theorem openM_length (T:TM) (g:G) (n:Int):(openM T g n).1.length=15:=by
 have l:=getM_length T g n
 unfold openM
 split
 ·exact l
 ·split
  ·exact l
  ·split <;> exact l
structure Leaf where
 index:Nat
 block:Int
 bytes:Tm.Txt
 cells:List E
def leafM (T:TM) (g:G) (R:List Int) (k:Nat):Leaf×Int:=(⟨k,(findM T g R k).1,(blockM T g R k).1,(ans (blockM T g R k).1).1⟩,if (blockM T g R k).2≠0 then (blockM T g R k).2 else (ans (blockM T g R k).1).2)
def leavesGo (T:TM) (g:G) (R:List Int):Nat→Nat→List Leaf×Int
 | 0,_=>([],0)
 | m+1,k=>if (leafM T g R k).2≠0 then ([],(leafM T g R k).2) else ((leafM T g R k).1::(leavesGo T g R m (k+1)).1,(leavesGo T g R m (k+1)).2)
def leavesM (T:TM) (g:G) (R:List Int):List Leaf×Int:=leavesGo T g R (R.getD 2 0 / 512).toNat 0
def cellOfName (l:Leaf) (s:Tm.Txt):Option E:=l.cells.find? fun c=>c.name == s
def seekGo (T:TM) (g:G) (R:List Int) (s:Tm.Txt):Nat→Nat→Option (Leaf×E)×Int
 | 0,_=>(none,160)
 | m+1,k=>if (leafM T g R k).2≠0 then (none,(leafM T g R k).2) else match cellOfName (leafM T g R k).1 s with
  | some c=>(some ((leafM T g R k).1,c),0)
  | none=>seekGo T g R s m (k+1)
def seekM (T:TM) (g:G) (n:Int) (s:Tm.Txt):Option (Leaf×E)×Int :=
 if nameOk s=false then (none,1) else if (openM T g n).2≠0 then (none,(openM T g n).2) else seekGo T g (openM T g n).1 s ((openM T g n).1.getD 2 0 / 512).toNat 0
theorem seekGo_some {T:TM} {g:G} {R:List Int} {s:Tm.Txt}:∀ (m k:Nat) (x:Leaf×E),(seekGo T g R s m k).1=some x→(seekGo T g R s m k).2=0∧x.2.name=s∧x.2 ∈ x.1.cells∧∃ j,k≤j∧j<k+m∧x.1=(leafM T g R j).1∧(leafM T g R j).2=0
 | 0,k,x,h=>by cases h
 | m+1,k,x,h=>by
  unfold seekGo at h ⊢
  split at h
  ·cases h
  ·rename_i y
   rw [if_neg y]
   split at h
   ·rename_i c hc
    cases h
    refine ⟨rfl,?_,List.mem_of_find?_eq_some (by unfold cellOfName at hc; exact hc),k,Nat.le_refl _,by omega,rfl,Classical.byContradiction y⟩
    unfold cellOfName at hc
    have q:=List.find?_some hc
    exact eq_of_beq q
   ·obtain ⟨a,b,c,j,j0,j1,j2⟩:=seekGo_some m (k+1) x h
    exact ⟨a,b,c,j,by omega,by omega,j2⟩
theorem seekGo_none {T:TM} {g:G} {R:List Int} {s:Tm.Txt}:∀ (m k:Nat),(seekGo T g R s m k).1=none→(seekGo T g R s m k).2≠0
 | 0,k,_=>by show (160:Int)≠0; decide
 | m+1,k,h=>by
  unfold seekGo at h ⊢
  split at h
  ·rename_i y; rw [if_pos y]; exact y
  ·rename_i y
   rw [if_neg y]
   split at h
   ·cases h
   ·exact seekGo_none m (k+1) h
def findD (T:TM) (g:G) (n:Int) (s:Tm.Txt):Int×Int:=((match (seekM T g n s).1 with
 | some x=>x.2.inode
 | none=>0),(seekM T g n s).2)
def putD (T:TM) (x:Leaf×E) (r:Int×Tm.Txt):TM×Int×Int :=
 if r.1≠0 then (T,0,r.1) else if (T.write x.1.block r.2).2≠0 then ((T.write x.1.block r.2).1,0,(T.write x.1.block r.2).2) else ((T.write x.1.block r.2).1,x.2.inode,0)
def removeD (T:TM) (g:G) (n:Int) (s:Tm.Txt):TM×Int×Int:=match (seekM T g n s).1 with
 | some x=>putD T x (clrA x.1.bytes x.2.place)
 | none=>(T,0,(seekM T g n s).2)
def hasI (g:G) (i:Int):Bool:=decide (1≤i) && decide (i<g.count)
def replaceD (T:TM) (g:G) (n:Int) (s:Tm.Txt) (i:Int):TM×Int×Int :=
 if nameOk s=false then (T,0,1) else if hasI g i=false then (T,0,110) else match (seekM T g n s).1 with
 | some x=>putD T x (putA x.1.bytes ⟨x.2.place,s,i⟩)
 | none=>(T,0,(seekM T g n s).2)
def placeGo (s:Tm.Txt):List Leaf→Int×Int×Bool→Int×Int×Bool
 | [],x=>x
 | l::r,(i,p,b)=>placeGo s r (if p<0∧0≤(lowA l.bytes).1∧(lowA l.bytes).2=0 then ((l.index:Int),(lowA l.bytes).1,b || (cellOfName l s).isSome) else (i,p,b || (cellOfName l s).isSome))
def addAt (T:TM) (g:G) (n:Int) (R:List Int) (index place:Int) (s:Tm.Txt) (i:Int):TM×Int :=
 if (addM T g R index).2.2.2≠0 then ((addM T g R index).1,(addM T g R index).2.2.2) else
 if ((addM T g R index).1.read (addM T g R index).2.2.1).2≠0 then ((addM T g R index).1,((addM T g R index).1.read (addM T g R index).2.2.1).2) else
 if (putA ((addM T g R index).1.read (addM T g R index).2.2.1).1 ⟨max place 0,s,i⟩).1≠0 then ((addM T g R index).1,(putA ((addM T g R index).1.read (addM T g R index).2.2.1).1 ⟨max place 0,s,i⟩).1) else
 if ((addM T g R index).1.write (addM T g R index).2.2.1 (putA ((addM T g R index).1.read (addM T g R index).2.2.1).1 ⟨max place 0,s,i⟩).2).2≠0 then (addM T g R index).1.write (addM T g R index).2.2.1 (putA ((addM T g R index).1.read (addM T g R index).2.2.1).1 ⟨max place 0,s,i⟩).2 else
 if (if place<0 then (addM T g R index).2.1.set 2 ((addM T g R index).2.1.getD 2 0+512) else (addM T g R index).2.1)=R then (((addM T g R index).1.write (addM T g R index).2.2.1 (putA ((addM T g R index).1.read (addM T g R index).2.2.1).1 ⟨max place 0,s,i⟩).2).1,0) else
  putM ((addM T g R index).1.write (addM T g R index).2.2.1 (putA ((addM T g R index).1.read (addM T g R index).2.2.1).1 ⟨max place 0,s,i⟩).2).1 g n (if place<0 then (addM T g R index).2.1.set 2 ((addM T g R index).2.1.getD 2 0+512) else (addM T g R index).2.1)
def addD (T:TM) (g:G) (n:Int) (s:Tm.Txt) (i:Int):TM×Int :=
 if nameOk s=false then (T,1) else if hasI g i=false then (T,110) else if (openM T g n).2≠0 then (T,(openM T g n).2) else
 if (leavesM T g (openM T g n).1).2≠0 then (T,(leavesM T g (openM T g n).1).2) else
 if (placeGo s (leavesM T g (openM T g n).1).1 ((openM T g n).1.getD 2 0 / 512,-1,false)).2.2=true then (T,150) else if T.mark.2≠0 then (T,T.mark.2) else
  undoM T (addAt T g n (openM T g n).1 (placeGo s (leavesM T g (openM T g n).1).1 ((openM T g n).1.getD 2 0 / 512,-1,false)).1 (placeGo s (leavesM T g (openM T g n).1).1 ((openM T g n).1.getD 2 0 / 512,-1,false)).2.1 s i)
def allE (l:List Leaf):List E:=l.flatMap fun x=>x.cells.map fun c=>⟨c.place+16*x.index,c.name,c.inode⟩
end Go.Proofs.YtiapingedfnlnaaGreatDoor.Di
namespace Go.Proofs.YtiapingedfnlnaaGreatDoor.Bm
open Go Go.Proofs Wx Hp W Ad Tm Bt Spc Re Av
open Hd (ints wrap_u64)
open In (Glo ints_length ints_one)
structure Im (n:Nat) (U:Nat→Bool) (L:Txt):Prop where
 len:L.length=512*n
 bits:∀ j,j<4096*((geoN n).inodes - 98)→bitAt L (98*4096+j)=U j
def updU (U:Nat→Bool) (i:Nat):Nat→Bool:=fun j=>if j=i then true else U j
theorem Im.put {n i:Nat} {U:Nat→Bool} {L:Txt} (a:Im n U L) (hn:128≤n∧n<4428) (hi:i<4096*((geoN n).inodes - 98)):Im n (updU U i) (putBit L (98*4096+i) true):=by
 have hle:(geoN n).inodes*512≤n*512:=by show (98+(n+4095) / 4096)*512≤_; omega
 have h98:98≤(geoN n).inodes:=by show 98≤98+_; omega
 refine ⟨(putBit_length ..).trans a.len,fun j hj=>?_⟩
 rw [bitAt_putBit _ _ _ _ (by rw [a.len]; omega)]
 unfold updU
 by_cases h:j=i
 ·rw [if_pos (by omega),if_pos h]
 ·rw [if_neg (by omega),if_neg h,a.bits j hj]
theorem Im.congr {n:Nat} {U U':Nat→Bool} {L:Txt} (a:Im n U L) (h:∀ j,U j=U' j):Im n U' L:=⟨a.len,fun j hj=>(a.bits j hj).trans (h j)⟩
def lowU (n k:Nat):Nat→Bool:=fun j=>decide (j<k) && edge n j
theorem lowU_hit {n k:Nat} (h:edge n k=true) (j:Nat):updU (lowU n k) k j=lowU n (k+1) j:=by
 unfold updU lowU
 by_cases e:j=k
 ·subst e; rw [if_pos rfl,h,decide_eq_true (by omega)]; rfl
 ·have:decide (j<k+1)=decide (j<k):=decide_eq_decide.mpr (by omega)
  rw [if_neg e,this]
theorem lowU_miss {n k:Nat} (h:edge n k=false) (j:Nat):lowU n k j=lowU n (k+1) j:=by
 unfold lowU
 by_cases e:j=k
 ·subst e; rw [h,Bool.and_false,Bool.and_false]
 ·have:decide (j<k+1)=decide (j<k):=decide_eq_decide.mpr (by omega)
  rw [this]
theorem Im.bit {n:Nat} {U:Nat→Bool} {L:Txt} (a:Im n U L) (hn:128≤n∧n<4428) {j:Nat} (hj:j<n):Av.bit (Z0 L) j=U j:=by
 have hino:(geoN n).inodes=98+(n+4095) / 4096:=rfl
 rw [← a.bits j (by omega)]
 unfold Av.bit
 rw [bitAt_chunk _ _ _ (Nat.mod_lt _ (by decide))]
 congr 1; omega
end Go.Proofs.YtiapingedfnlnaaGreatDoor.Bm
namespace Go.Proofs.YtiapingedfnlnaaGreatDoor.Bm
open Go Go.Proofs Wx Hp W Ad Tm Bt Spc Re Av
theorem up_num {Z:Nat→Txt} {R:List Int} {k q:Nat} (hk:k<16522) (h0:num Z R k≠0) (hq:q ∈ path k) (h2:q<nS):num Z R q≠0:=fun hz=>by
 rcases Nat.lt_or_ge q 16522 with h|h
 ·rw [path_data hq h] at hz; exact h0 hz
 ·obtain ⟨a,b⟩:=path_under hk hq h
  exact h0 (sub_zero h2 hz k (data_sub h h2 a b).1)
end Go.Proofs.YtiapingedfnlnaaGreatDoor.Bm
namespace Go.Proofs.YtiapingedfnlnaaGreatDoor.Bm
open Go Go.Proofs Wx Hp W Ad Tm Bt Spc Re Av
theorem miss_zero {Z:Nat→Txt} {R:List Int} {k:Nat} (hk:k<16522) (h0:num Z R k≠0):miss Z R (path k)=0:=by
 have:∀ l:List Nat,(∀ s ∈ l,num Z R s≠0)→miss Z R l=0:=by
  intro l
  induction l with
  | nil=>intro _; rfl
  | cons s l ih =>
   intro h
   show (if num Z R s=0 then 1 else 0)+miss Z R l=0
   rw [if_neg (h s (List.mem_cons_self ..)),ih fun x hx=>h x (List.mem_cons_of_mem _ hx)]
 exact this _ fun s hs=>up_num hk h0 hs (chain_nS (path_chain hk).1 s hs)
end Go.Proofs.YtiapingedfnlnaaGreatDoor.Bm
namespace Go.Proofs.YtiapingedfnlnaaGreatDoor.Fi
open Go Go.Proofs Wx Hp W Ad Tm Bt Spc Re Av
open Hd (ints)
open In (Glo ints_length ints_one mayR decA encR encR_length decOk getR_enc z15)
open Ino (getM putM Cok getM_length rblk rat)
open Bm (findM addM num num4 nS Wf Tight path Added find_ok add_ok num_congr path_self path_chain chain_nS path_data miss_zero many miss par)
def blkZ (n k:Nat):Nat:=(geoN n).inodes+k / 8
def recZ (n:Nat) (Z:Nat→Txt) (k:Nat):List Int×Int:=decA (((Z (blkZ n k)).drop (64*(k % 8))).take 64)
theorem blkZ_rng {n k:Nat} (d:Dim n) (h:k<(geoN n).count):(geoN n).inodes≤blkZ n k∧blkZ n k<(geoN n).data∧blkZ n k<n∧98≤blkZ n k:=by
 have hd:=d.data
 have e:(geoN n).count=8*(n / 64):=rfl
 have e2:(geoN n).data=98+(n+4095) / 4096+n / 64:=rfl
 have e3:(geoN n).inodes=98+(n+4095) / 4096:=rfl
 unfold blkZ
 omega
theorem part64 {b z:Txt} {o q:Nat} (hz:z.length=64) (hb:b.length=512) (ho:o<8) (hq:q<8):((putU b (64*o) z).drop (64*q)).take 64=if q=o then z else (b.drop (64*q)).take 64:=by
 unfold putU
 have l1:(b.take (64*o)).length=64*o:=by rw [List.length_take]; omega
 by_cases h:q=o
 ·rw [if_pos h,h,List.append_assoc,List.drop_append_of_le_length (by omega),List.drop_of_length_le (by omega),List.nil_append,List.take_append_of_le_length (by omega),List.take_of_length_le (by omega)]
 ·rw [if_neg h]
  rcases Nat.lt_or_ge q o with h1|h1
  ·rw [List.append_assoc,List.drop_append_of_le_length (by omega),List.take_append_of_le_length (by rw [List.length_drop]; omega),List.drop_take,List.take_take,Nat.min_eq_left (by omega)]
  ·have l2:(b.take (64*o)++z).length=64*o+64:=by rw [List.length_append]; omega
   rw [List.drop_append,List.drop_of_length_le (by omega),List.nil_append,List.drop_drop,l2,hz,show 64*o+64+(64*q - (64*o+64))=64*q by omega]
theorem decA_enc {P:List Int} (hP:P.length=15) (hm:mayR P=true):decA (encR P)=(P,0):=by
 obtain ⟨e1,e2⟩:=getR_enc hP hm
 have:decOk (encR P)=true:=by rw [decOk,e1,e2,hm]; rfl
 rw [decA,if_neg (by rw [encR_length hP]; decide),if_pos this,e1]
theorem getM_at {n k:Nat} {Z:Nat→Txt} {T:TM} (a:Av n Z T) (d:Dim n) (h1:1≤k) (h2:k<(geoN n).count):getM T (geoN n) k=recZ n Z k:=by
 have r:=blkZ_rng d h2
 have e:rblk (geoN n) (k:Int)=((blkZ n k:Nat):Int):=rfl
 unfold getM
 rw [if_neg (fun y=>y ⟨by omega,by omega⟩),e,a.z _ r.2.2.1,if_neg (fun y=>y rfl)]
 rfl
theorem putM_at {n k:Nat} {Z:Nat→Txt} {T:TM} {R:List Int} (a:Av n Z T) (d:Dim n) (h1:1≤k) (h2:k<(geoN n).count) (hm:mayR R=true) :
  putM T (geoN n) k R=T.write (blkZ n k:Nat) (putU (Z (blkZ n k)) (64*(k % 8)) (encR R)):=by
 have r:=blkZ_rng d h2
 have e:rblk (geoN n) (k:Int)=((blkZ n k:Nat):Int):=rfl
 unfold putM
 rw [if_neg (fun y=>y ⟨by omega,by omega⟩),if_neg (by rw [hm]; simp),e,a.z _ r.2.2.1,if_neg (fun y=>y rfl)]
 rfl
theorem recZ_put {n i k:Nat} {Z:Nat→Txt} {R:List Int} (hR:R.length=15) (hm:mayR R=true) (hl:(Z (blkZ n i)).length=512):recZ n (up Z (blkZ n i) (putU (Z (blkZ n i)) (64*(i % 8)) (encR R))) k=if k=i then (R,0) else recZ n Z k:=by
 have le:=encR_length hR
 unfold recZ
 by_cases hb:blkZ n k=blkZ n i
 ·rw [hb,up_at,part64 le hl (by omega) (by omega)]
  by_cases hk:k=i
  ·rw [if_pos (by rw [hk]),if_pos hk]; exact decA_enc hR hm
  ·have:¬ k % 8=i % 8:=fun y=>by unfold blkZ at hb; omega
   rw [if_neg this,if_neg hk]
 ·rw [up_ne _ _ hb,if_neg (fun y=>hb (by rw [y]))]
def pc (Z:Nat→Txt) (R:List Int) (k:Nat):Txt:=if num Z R k=0 then zeros else Z (num Z R k)
theorem blockM_ok {n k:Nat} {Z:Nat→Txt} {R:List Int} {T:TM} (a:Av n Z T) (w:Wf n Z R) (hk:k<16522):blockM T (geoN n) R k=(pc Z R k,0):=by
 unfold blockM pc
 rw [find_ok a w hk,if_neg (fun y=>y rfl)]
 by_cases h:num Z R k=0
 ·rw [if_pos (by show ((num Z R k:Nat):Int)=0; omega),if_pos h]
 ·rw [if_neg (by show ¬ ((num Z R k:Nat):Int)=0; omega),if_neg h]
  exact a.z _ (w.rng k (by unfold nS; omega) h).2.1
structure Gr (n:Nat) (Z:Nat→Txt) (R:List Int) (Z':Nat→Txt) (R':List Int) (ps:List Nat):Prop where
 w:Wf n Z' R'
 tg:Tight Z' R'
 keep:∀ s,s<nS→num Z R s≠0→num Z' R' s=num Z R s
 dom:∀ s,s<nS→(num Z' R' s≠0↔num Z R s≠0∨∃ k ∈ ps,s ∈ path k)
 new:∀ s,s<nS→num Z R s=0→num Z' R' s≠0→bit Z (num Z' R' s)=false
 bits:∀ j,j<n→(bit Z' j=true↔bit Z j=true∨∃ s,s<nS∧num Z R s=0∧num Z' R' s≠0∧num Z' R' s=j)
 head:∀ i,i<3→R'.getD i 0=R.getD i 0
 cont:∀ b,b<n→(geoN n).inodes≤b→(b<(geoN n).data∨bit Z b=true)→(∀ s,s<nS→num Z' R' s≠0→b≠num Z' R' s)→Z' b=Z b
 tot:frees n Z'+many Z' R'=frees n Z+many Z R
theorem Gr.refl {n:Nat} {Z:Nat→Txt} {R:List Int} (w:Wf n Z R) (tg:Tight Z R):Gr n Z R Z R [] :=
 ⟨w,tg,fun _ _ _=>rfl,fun s _=>⟨.inl,fun y=>y.elim id fun ⟨k,hk,_⟩=>by cases hk⟩,fun s _ h0 h1=>absurd h0 h1,fun j _=>⟨.inl,fun y=>y.elim id fun ⟨s,_,h0,h1,_⟩=>absurd h0 h1⟩,fun _ _=>rfl,fun _ _ _ _ _=>rfl,rfl⟩
theorem Added.keep {n k:Nat} {Z Z':Nat→Txt} {R R':List Int} (a:Added n Z R none (path k) Z' R') {s:Nat} (hs:s<nS) (h0:num Z R s≠0):num Z' R' s=num Z R s:=by
 by_cases h:s ∈ path k
 ·exact a.old s h h0
 ·exact a.off s hs h
theorem Gr.add {n k:Nat} {Z Z1 Z2:Nat→Txt} {R R1 R2:List Int} {ps:List Nat} (g:Gr n Z R Z1 R1 ps) (hk:k<16522) (a:Added n Z1 R1 none (path k) Z2 R2):Gr n Z R Z2 R2 (k::ps):=by
 have kp:=fun {s:Nat} (hs:s<nS) h0=>Added.keep a hs h0
 have z0:∀ s,s<nS→num Z1 R1 s=0→num Z R s=0:=fun s hs h=>Classical.byContradiction fun y=>by rw [g.keep s hs y] at h; exact y h
 have pn:=chain_nS (path_chain hk).1
 refine ⟨a.w,a.tight hk g.tg,fun s hs h0=>?_,fun s hs=>?_,fun s hs h0 h2=>?_,fun j hj=>?_,fun i hi=>(a.head i hi).trans (g.head i hi),fun b h1 h2 h3 h4=>?_,?_⟩
 ·have:=g.keep s hs h0
  rw [kp hs (by rw [this]; exact h0),this]
 ·have e:num Z2 R2 s≠0↔num Z1 R1 s≠0∨s ∈ path k:=by
   constructor
   ·intro h
    by_cases hp:s ∈ path k
    ·exact .inr hp
    ·rw [a.off s hs hp] at h; exact .inl h
   ·rintro (h|h)
    ·rw [kp hs h]; exact h
    ·exact a.got s h
  rw [e,g.dom s hs]
  constructor
  ·rintro ((h|⟨x,hx,h⟩)|h)
   ·exact .inl h
   ·exact .inr ⟨x,List.mem_cons_of_mem _ hx,h⟩
   ·exact .inr ⟨k,List.mem_cons_self ..,h⟩
  ·rintro (h|⟨x,hx,h⟩)
   ·exact .inl (.inl h)
   ·rcases List.mem_cons.mp hx with rfl|hx
    ·exact .inr h
    ·exact .inl (.inr ⟨x,hx,h⟩)
 ·by_cases h1:num Z1 R1 s=0
  ·have hp:s ∈ path k:=Classical.byContradiction fun y=>by rw [a.off s hs y] at h2; exact h2 h1
   have hb:=a.new s hp h1
   cases hz:bit Z (num Z2 R2 s) with
   | false=>rfl
   | true=>rw [(g.bits _ (a.w.rng s hs h2).2.1).mpr (.inl hz)] at hb; cases hb
  ·rw [kp hs h1]; exact g.new s hs h0 h1
 ·constructor
  ·intro h
   rcases a.ex j hj h with h|⟨s,hp,h1,h2⟩
   ·rcases (g.bits j hj).mp h with h|⟨s,hs,h0,h1,h2⟩
    ·exact .inl h
    ·exact .inr ⟨s,hs,h0,by rw [kp hs h1]; exact h1,by rw [kp hs h1]; exact h2⟩
   ·exact .inr ⟨s,pn s hp,z0 s (pn s hp) h1,a.got s hp,h2⟩
  ·rintro (h|⟨s,hs,h0,h1,h2⟩)
   ·exact a.bits j hj ((g.bits j hj).mpr (.inl h))
   ·rw [← h2]; exact (a.w.rng s hs h1).2.2
 ·rw [a.cont b h1 h2 (h3.imp id fun y=>(g.bits b h1).mpr (.inl y)) (fun q hq=>h4 q (pn q hq) (a.got q hq)) fun q e=>by cases e]
  exact g.cont b h1 h2 h3 fun s hs h=>by
   have:=kp hs h
   rw [← this]
   exact h4 s hs (by rw [this]; exact h)
 ·have h1:=a.many
  have h2:=a.frees
  have h3:=g.tot
  omega
theorem num_up {n k:Nat} {Z:Nat→Txt} {R:List Int} {bs:Txt} (w:Wf n Z R) (hk:k<16522) (h0:num Z R k≠0):∀ s,s<nS→num (up Z (num Z R k) bs) R s=num Z R s :=
 num_congr (fun _ _ _=>rfl) fun q h1 h2 h3 p _=>by
  rw [up_ne _ _ fun e=>by have:=w.inj q k h2 (by unfold nS; omega) h3 e; omega]
theorem bit_data {n v j:Nat} {Z:Nat→Txt} {bs:Txt} (d:Dim n) (hv:(geoN n).data≤v) (hj:j<n):bit (up Z v bs) j=bit Z j:=by
 have:=d.map hj
 exact bit_up (by omega)
theorem Wf.up {n k:Nat} {Z:Nat→Txt} {R:List Int} {bs:Txt} (d:Dim n) (w:Wf n Z R) (hk:k<16522) (h0:num Z R k≠0):Wf n (up Z (num Z R k) bs) R:=by
 have N:=num_up (bs:=bs) w hk h0
 have r:=w.rng k (by unfold nS; omega) h0
 refine ⟨w.rl,w.rr,fun s hs h=>?_,fun s s' hs hs' h e=>?_⟩
 ·rw [N s hs] at h ⊢
  obtain ⟨a,b,c⟩:=w.rng s hs h
  exact ⟨a,b,by rw [bit_data d r.1 b]; exact c⟩
 ·rw [N s hs] at h e
  rw [N s' hs'] at e
  exact w.inj s s' hs hs' h e
theorem Gr.put {n k:Nat} {Z Z1:Nat→Txt} {R R1:List Int} {ps:List Nat} (d:Dim n) (g:Gr n Z R Z1 R1 ps) (hk:k<16522) (h0:num Z1 R1 k≠0) (bs:Txt):Gr n Z R (up Z1 (num Z1 R1 k) bs) R1 ps:=by
 have N:=num_up (bs:=bs) g.w hk h0
 have hkn:k<nS:=by unfold nS; omega
 have r:=g.w.rng k hkn h0
 have eb:∀ j,j<n→bit (up Z1 (num Z1 R1 k) bs) j=bit Z1 j:=fun j hj=>bit_data d r.1 hj
 refine ⟨Wf.up d g.w hk h0,fun q h1 h2 h=>?_,fun s hs h=>by rw [N s hs]; exact g.keep s hs h,fun s hs=>by rw [N s hs]; exact g.dom s hs,fun s hs h1 h2=>?_,fun j hj=>?_,g.head,fun b h1 h2 h3 h4=>?_,?_⟩
 ·rw [N q h2] at h
  obtain ⟨x,a,b,c⟩:=g.tg q h1 h2 h
  exact ⟨x,a,b,by rw [N x (by have:=(Bm.data_sub h1 h2 a b).2; unfold nS; omega)]; exact c⟩
 ·rw [N s hs] at h2 ⊢
  exact g.new s hs h1 h2
 ·rw [eb j hj,g.bits j hj]
  constructor
  ·rintro (h|⟨s,hs,a,b,c⟩)
   ·exact .inl h
   ·exact .inr ⟨s,hs,a,by rw [N s hs]; exact b,by rw [N s hs]; exact c⟩
  ·rintro (h|⟨s,hs,a,b,c⟩)
   ·exact .inl h
   ·rw [N s hs] at b c
    exact .inr ⟨s,hs,a,b,c⟩
 ·have hne:b≠num Z1 R1 k:=by have:=h4 k hkn (by rw [N k hkn]; exact h0); rw [N k hkn] at this; exact this
  rw [up_ne _ _ hne]
  exact g.cont b h1 h2 h3 fun s hs h=>by
   have:=h4 s hs (by rw [N s hs]; exact h)
   rw [N s hs] at this; exact this
 ·have e1:many (up Z1 (num Z1 R1 k) bs) R1=many Z1 R1:=by
   unfold many
   exact cnt_congr fun s hs=>by rw [N s hs]
  have e2:frees n (up Z1 (num Z1 R1 k) bs)=frees n Z1:=by
   unfold frees
   exact cnt_congr fun j hj=>by unfold isFree; rw [eb j hj]
  rw [e1,e2]; exact g.tot
theorem pc_add {n k:Nat} {Z Z':Nat→Txt} {R R':List Int} (w:Wf n Z R) (a:Added n Z R none (path k) Z' R') (hk:k<16522) {x:Nat} (hx:x<16522):pc Z' R' x=pc Z R x:=by
 have hxn:x<nS:=by unfold nS; omega
 have hkn:k<nS:=by unfold nS; omega
 by_cases hm:num Z R k=0
 ·unfold pc
  by_cases e:x=k
  ·subst e
   rw [if_neg (a.got x (path_self x)),if_pos hm]
   exact a.zero x (path_self x) hx hm
  ·have en:=a.data hx e
   rw [en]
   split
   ·rfl
   ·rename_i h
    have r:=w.rng x hxn h
    refine a.cont _ r.2.1 ?_ (.inr r.2.2) (fun q hq y=>?_) fun q y=>by cases y
    ·have:(geoN n).inodes≤(geoN n).data:=Nat.le_add_right _ _
     omega
    ·rw [← en] at y
     have hqn:=chain_nS (path_chain hk).1 q hq
     have:=a.w.inj x q hxn hqn (by rw [en]; exact h) y
     subst this
     exact e (path_data hq hx)
 ·obtain ⟨e1,e2⟩:=a.same (miss_zero hk hm)
  rw [e1,e2]
theorem pc_up {n k:Nat} {Z:Nat→Txt} {R:List Int} {bs:Txt} (w:Wf n Z R) (hk:k<16522) (h0:num Z R k≠0) {x:Nat} (hx:x<16522):pc (up Z (num Z R k) bs) R x=if x=k then bs else pc Z R x:=by
 have hxn:x<nS:=by unfold nS; omega
 have hkn:k<nS:=by unfold nS; omega
 have N:=num_up (bs:=bs) w hk h0
 unfold pc
 rw [N x hxn]
 by_cases e:x=k
 ·subst e
  rw [if_neg h0,if_pos rfl,up_at]
 ·rw [if_neg e]
  split
  ·rfl
  ·rename_i h
   rw [up_ne _ _ fun y=>e (w.inj x k hxn hkn h y)]
end Go.Proofs.YtiapingedfnlnaaGreatDoor.Fi
namespace Go.Proofs.YtiapingedfnlnaaGreatDoor.Di
open Go Go.Proofs Ad Tm Bt Spc Av Ss
open Fi (blockM getM_at recZ pc blockM_ok undoM)
open Bm (findM addM num nS Wf find_ok)
open Ino (getM putM)
open Sk (E ents low nameOk dec dec_blk blk_length)
abbrev Cl := Nat×Tm.Txt
def seg (H:List Cl) (k:Nat):List Cl:=(H.drop (16*k)).take 16
theorem seg_len {H:List Cl} {k:Nat} (h6:H.length % 16=0) (hk:16*k<H.length):(seg H k).length=16:=by
 unfold seg; rw [List.length_take,List.length_drop]; omega
theorem seg_mem {H:List Cl} {k:Nat} {x:Cl} (h:x ∈ seg H k):x ∈ H:=List.mem_of_mem_drop (List.mem_of_mem_take h)
theorem drop_seg (H:List Cl) (k:Nat):H.drop (16*k)=seg H k++H.drop (16*(k+1)):=by
 unfold seg
 rw [show 16*(k+1)=16*k+16 by omega,← List.drop_drop,List.take_append_drop]
theorem seg_set {H:List Cl} {p:Nat} {c:Cl} (k:Nat):seg (H.set p c) k=if p / 16=k then (seg H k).set (p % 16) c else seg H k:=by
 unfold seg
 refine List.ext_getElem? fun i=>?_
 rw [List.getElem?_take]
 by_cases hi:i<16
 ·rw [if_pos hi,List.getElem?_drop,List.getElem?_set]
  by_cases hk:p / 16=k
  ·rw [if_pos hk,List.getElem?_set,List.length_take,List.length_drop]
   by_cases e:p=16*k+i
   ·rw [if_pos e]
    by_cases hl:p<H.length
    ·rw [if_pos hl,if_pos (show p % 16=i by omega),if_pos (show p % 16<min 16 (H.length - 16*k) by omega)]
    ·rw [if_neg hl,if_pos (show p % 16=i by omega),if_neg (show ¬ p % 16<min 16 (H.length - 16*k) by omega)]
   ·rw [if_neg e,if_neg (by omega),List.getElem?_take,if_pos hi,List.getElem?_drop]
  ·rw [if_neg hk,if_neg (by omega),List.getElem?_take,if_pos hi,List.getElem?_drop]
 ·rw [if_neg hi]
  split
  ·rw [List.getElem?_set,List.getElem?_take,if_neg hi]
   split
   ·rw [List.length_take,if_neg (by omega)]
   ·rfl
  ·rw [List.getElem?_take,if_neg hi]
structure Dir (Z:Nat→Tm.Txt) (R:List Int) (H:List Cl):Prop where
 kind:R.getD 0 0=2
 links:2≤R.getD 1 0∧R.getD 1 0≤65535
 size:R.getD 2 0=((32*H.length:Nat):Int)
 sixt:H.length % 16=0
 most:H.length≤160
 good:∀ x ∈ H,Sk.Good x
 dom:∀ s,s<nS→(num Z R s≠0↔16*s<H.length)
 blk:∀ k,16*k<H.length→pc Z R k=Sk.blk (seg H k)
theorem ans_blk {hs:List Cl} (hl:hs.length=16) (g:∀ x ∈ hs,Sk.Good x):ans (Sk.blk hs)=(ents 0 hs,0):=by
 have e:=dec_blk g
 rw [hl] at e
 unfold ans
 rw [if_neg (fun y=>y (by rw [blk_length g,hl])),e]
theorem lowA_blk {hs:List Cl} (hl:hs.length=16) (g:∀ x ∈ hs,Sk.Good x):lowA (Sk.blk hs)=(low 0 hs,0):=by
 have e:=dec_blk g
 rw [hl] at e
 unfold lowA
 rw [if_neg (fun y=>y (by rw [blk_length g,hl])),e]
def pos (s:Tm.Txt):List Cl→Option Nat
 | []=>none
 | x::r=>if x.1≠0∧x.2=s then some 0 else (pos s r).map (· + 1)
theorem pos_append (s:Tm.Txt) (b:List Cl):∀ a:List Cl,pos s (a++b)=match pos s a with
  | some p=>some p
  | none=>(pos s b).map (· + a.length)
 | []=>by
  show pos s b=(pos s b).map (· + 0)
  cases pos s b <;> rfl
 | x::r=>by
  have ih:=pos_append s b r
  show (if x.1≠0∧x.2=s then some 0 else (pos s (r++b)).map (· + 1))=match (if x.1≠0∧x.2=s then some 0 else (pos s r).map (· + 1)) with
   | some p=>some p
   | none=>(pos s b).map (· + (r.length+1))
  by_cases h:x.1≠0∧x.2=s
  ·rw [if_pos h,if_pos h]
  ·rw [if_neg h,if_neg h,ih]
   cases pos s r with
   | some p=>rfl
   | none =>
    cases pos s b with
    | none=>rfl
    | some q=>show some (q+r.length+1)=some (q+(r.length+1)); rw [Nat.add_assoc]
theorem pos_some {s:Tm.Txt}:∀ {H:List Cl} {p:Nat},pos s H=some p→p<H.length∧(H.getD p (0,[])).1≠0∧(H.getD p (0,[])).2=s
 | [],p,h=>by cases h
 | x::r,p,h=>by
  unfold pos at h
  by_cases c:x.1≠0∧x.2=s
  ·rw [if_pos c] at h
   cases h
   exact ⟨Nat.succ_pos _,c⟩
  ·rw [if_neg c] at h
   obtain ⟨q,hq,rfl⟩:=Option.map_eq_some_iff.mp h
   obtain ⟨a,b⟩:=pos_some hq
   exact ⟨Nat.succ_lt_succ a,b⟩
theorem find_ents (s:Tm.Txt):∀ (hs:List Cl) (k:Nat),(ents k hs).find? (fun c=>c.name == s)=match pos s hs with
  | some p=>some ⟨((k+p:Nat):Int),s,(((hs.getD p (0,[])).1:Nat):Int)⟩
  | none=>none
 | [],k=>rfl
 | x::r,k=>by
  have ih:=find_ents s r (k+1)
  show (ents k (x::r)).find? _=match (if x.1≠0∧x.2=s then some 0 else (pos s r).map (· + 1)) with
   | some p=>some ⟨((k+p:Nat):Int),s,((((x::r).getD p (0,[])).1:Nat):Int)⟩
   | none=>none
  have rest:(match (pos s r).map (· + 1) with
   | some p=>some (⟨((k+p:Nat):Int),s,((((x::r).getD p (0,[])).1:Nat):Int)⟩:E)
   | none=>none)=match pos s r with
   | some p=>some ⟨((k+1+p:Nat):Int),s,(((r.getD p (0,[])).1:Nat):Int)⟩
   | none=>none:=by
   cases pos s r with
   | none=>rfl
   | some p =>
    show some (⟨((k+(p+1):Nat):Int),s,((((x::r).getD (p+1) (0,[])).1:Nat):Int)⟩:E)=_
    rw [show k+(p+1)=k+1+p by omega]; rfl
  unfold ents
  by_cases h0:x.1=0
  ·rw [if_pos h0,if_neg (fun y=>y.1 h0),rest]; exact ih
  ·rw [if_neg h0]
   by_cases e:x.2=s
   ·rw [if_pos ⟨h0,e⟩,List.find?_cons_of_pos (by show (x.2 == s)=true; rw [e]; exact beq_self_eq_true s),e]; rfl
   ·rw [if_neg (fun y=>e y.2),rest,List.find?_cons_of_neg (by show ¬ (x.2 == s)=true; rw [beq_iff_eq]; exact e)]; exact ih
def free : List Cl→Option Nat
 | []=>none
 | x::r=>if x.1=0 then some 0 else (free r).map (· + 1)
theorem low_free : ∀ (hs:List Cl) (k:Nat),low k hs=match free hs with
  | some p=>((k+p:Nat):Int)
  | none => -1
 | [],k=>rfl
 | x::r,k=>by
  show (if x.1=0 then (k:Int) else low (k+1) r)=match (if x.1=0 then some 0 else (free r).map (· + 1)) with
   | some p=>((k+p:Nat):Int)
   | none => -1
  by_cases h:x.1=0
  ·rw [if_pos h,if_pos h]; rfl
  ·rw [if_neg h,if_neg h,low_free r (k+1)]
   cases free r with
   | none=>rfl
   | some p=>show ((k+1+p:Nat):Int)=((k+(p+1):Nat):Int); congr 1; omega
theorem free_append (b:List Cl):∀ a:List Cl,free (a++b)=match free a with
  | some p=>some p
  | none=>(free b).map (· + a.length)
 | []=>by
  show free b=(free b).map (· + 0)
  cases free b <;> rfl
 | x::r=>by
  have ih:=free_append b r
  show (if x.1=0 then some 0 else (free (r++b)).map (· + 1))=match (if x.1=0 then some 0 else (free r).map (· + 1)) with
   | some p=>some p
   | none=>(free b).map (· + (r.length+1))
  by_cases h:x.1=0
  ·rw [if_pos h,if_pos h]
  ·rw [if_neg h,if_neg h,ih]
   cases free r with
   | some p=>rfl
   | none =>
    cases free b with
    | none=>rfl
    | some q=>show some (q+r.length+1)=some (q+(r.length+1)); rw [Nat.add_assoc]
theorem free_some : ∀ {H:List Cl} {p:Nat},free H=some p→p<H.length∧(H.getD p (0,[])).1=0
 | [],p,h=>by cases h
 | x::r,p,h=>by
  unfold free at h
  by_cases c:x.1=0
  ·rw [if_pos c] at h
   cases h
   exact ⟨Nat.succ_pos _,c⟩
  ·rw [if_neg c] at h
   obtain ⟨q,hq,rfl⟩:=Option.map_eq_some_iff.mp h
   obtain ⟨a,b⟩:=free_some hq
   exact ⟨Nat.succ_lt_succ a,b⟩
def leafOf (Z:Nat→Tm.Txt) (R:List Int) (H:List Cl) (k:Nat):Leaf:=⟨k,((num Z R k:Nat):Int),Sk.blk (seg H k),ents 0 (seg H k)⟩
section
variable {n : Nat} {Z : Nat → Tm.Txt} {T : TM} {R : List Int} {H : List Cl}
theorem open_ok {i:Nat} (a:Av n Z T) (d:Dim n) (r1:1≤i) (r2:i<(geoN n).count) (gi:recZ n Z i=(R,0)) (D:Dir Z R H):openM T (geoN n) i=(R,0):=by
 have k:=D.kind
 unfold openM
 rw [getM_at a d r1 r2,gi,if_neg (fun y=>y rfl),if_neg (fun y=>by have y:R.getD 0 0=0:=y; omega),if_neg (fun y=>y k)]
theorem leaf_ok {k:Nat} (a:Av n Z T) (w:Wf n Z R) (D:Dir Z R H) (hk:16*k<H.length):leafM T (geoN n) R k=(leafOf Z R H k,0):=by
 have m:=D.most
 have e:=ans_blk (seg_len D.sixt hk) fun x hx=>D.good x (seg_mem hx)
 unfold leafM leafOf
 rw [find_ok a w (by omega),blockM_ok a w (by omega),D.blk k hk,if_neg (fun y=>y rfl)]
 show (({ index:=k,block:=((num Z R k:Nat):Int),bytes:=Sk.blk (seg H k),cells:=(ans (Sk.blk (seg H k))).1 }:Leaf),(ans (Sk.blk (seg H k))).2)=_
 rw [e]
def hit (Z:Nat→Tm.Txt) (R:List Int) (H:List Cl) (s:Tm.Txt) (p:Nat):Leaf×E:=(leafOf Z R H (p / 16),⟨((p % 16:Nat):Int),s,(((H.getD p (0,[])).1:Nat):Int)⟩)
theorem seekGo_ok {s:Tm.Txt} (a:Av n Z T) (w:Wf n Z R) (D:Dir Z R H):∀ m k,16*(k+m)=H.length→seekGo T (geoN n) R s m k=match pos s (H.drop (16*k)) with
  | some p=>(some (hit Z R H s (16*k+p)),0)
  | none=>(none,160)
 | 0,k,h=>by
  rw [List.drop_of_length_le (by omega)]; rfl
 | m+1,k,h=>by
  have ih:=seekGo_ok (s:=s) a w D m (k+1) (by omega)
  have hk:16*k<H.length:=by omega
  have l16:=seg_len D.sixt hk
  unfold seekGo
  rw [leaf_ok a w D hk,if_neg (fun y=>y rfl),drop_seg,pos_append]
  have ec:cellOfName (leafOf Z R H k,(0:Int)).1 s=match pos s (seg H k) with
   | some p=>some ⟨((0+p:Nat):Int),s,((((seg H k).getD p (0,[])).1:Nat):Int)⟩
   | none=>none:=find_ents s (seg H k) 0
  rw [ec]
  cases hp:pos s (seg H k) with
  | some p =>
   have hp16:=(pos_some hp).1
   rw [l16] at hp16
   have eg:(seg H k).getD p (0,[])=H.getD (16*k+p) (0,[]):=by
    unfold seg
    rw [List.getD_eq_getElem?_getD,List.getElem?_take,if_pos hp16,List.getElem?_drop,← List.getD_eq_getElem?_getD]
   show (some (leafOf Z R H k,(⟨((0+p:Nat):Int),s,((((seg H k).getD p (0,[])).1:Nat):Int)⟩:E)),(0:Int))=(some (hit Z R H s (16*k+p)),0)
   unfold hit
   rw [eg,show (16*k+p) / 16=k by omega,show (16*k+p) % 16=p by omega,Nat.zero_add]
  | none =>
   show seekGo T (geoN n) R s m (k+1)=_
   rw [ih]
   cases pos s (H.drop (16*(k+1))) with
   | none=>rfl
   | some q =>
    show (some (hit Z R H s (16*(k+1)+q)),(0:Int))=(some (hit Z R H s (16*k+(q+(seg H k).length))),0)
    rw [l16,show 16*(k+1)+q=16*k+(q+16) by omega]
theorem size16 (D:Dir Z R H):(R.getD 2 0 / 512).toNat=H.length / 16:=by
 have:=D.size
 have:=D.sixt
 omega
theorem seek_ok {i:Nat} {s:Tm.Txt} (a:Av n Z T) (d:Dim n) (w:Wf n Z R) (r1:1≤i) (r2:i<(geoN n).count) (gi:recZ n Z i=(R,0)) (D:Dir Z R H) (hs:nameOk s=true):seekM T (geoN n) i s=match pos s H with
  | some p=>(some (hit Z R H s p),0)
  | none=>(none,160):=by
 have h6:=D.sixt
 unfold seekM
 rw [if_neg (by rw [hs]; simp),open_ok a d r1 r2 gi D,if_neg (fun y=>y rfl),size16 D,seekGo_ok a w D (H.length / 16) 0 (by omega),Nat.mul_zero,List.drop_zero]
 cases pos s H with
 | none=>rfl
 | some p=>show (some (hit Z R H s (0+p)),(0:Int))=_; rw [Nat.zero_add]
theorem find_dir {i:Nat} {s:Tm.Txt} (a:Av n Z T) (d:Dim n) (w:Wf n Z R) (r1:1≤i) (r2:i<(geoN n).count) (gi:recZ n Z i=(R,0)) (D:Dir Z R H) (hs:nameOk s=true):findD T (geoN n) i s=match pos s H with
  | some p=>((((H.getD p (0,[])).1:Nat):Int),0)
  | none=>(0,160):=by
 unfold findD
 rw [seek_ok a d w r1 r2 gi D hs]
 cases pos s H <;> rfl
theorem leavesGo_ok (a:Av n Z T) (w:Wf n Z R) (D:Dir Z R H):∀ m k,16*(k+m)=H.length→leavesGo T (geoN n) R m k=((List.range' k m).map (leafOf Z R H),0)
 | 0,k,h=>rfl
 | m+1,k,h=>by
  have ih:=leavesGo_ok a w D m (k+1) (by omega)
  unfold leavesGo
  rw [leaf_ok a w D (by omega),if_neg (fun y=>y rfl),ih]
  rfl
theorem leaves_ok (a:Av n Z T) (w:Wf n Z R) (D:Dir Z R H):leavesM T (geoN n) R=((List.range' 0 (H.length / 16)).map (leafOf Z R H),0):=by
 have:=D.sixt
 unfold leavesM
 rw [size16 D]
 exact leavesGo_ok a w D _ 0 (by omega)
theorem cell_some (s:Tm.Txt) (k:Nat):(cellOfName (leafOf Z R H k) s).isSome=(pos s (seg H k)).isSome:=by
 have ec:cellOfName (leafOf Z R H k) s=match pos s (seg H k) with
   | some p=>some ⟨((0+p:Nat):Int),s,((((seg H k).getD p (0,[])).1:Nat):Int)⟩
   | none=>none:=find_ents s (seg H k) 0
 rw [ec]
 cases pos s (seg H k) <;> rfl
theorem placeGo_ok {s:Tm.Txt} (D:Dir Z R H):∀ m k (i p:Int) (b:Bool),16*(k+m)=H.length→placeGo s ((List.range' k m).map (leafOf Z R H)) (i,p,b)=match free (H.drop (16*k)) with
  | some q=>if p<0 then (((k+q / 16:Nat):Int),((q % 16:Nat):Int),b || (pos s (H.drop (16*k))).isSome) else (i,p,b || (pos s (H.drop (16*k))).isSome)
  | none=>(i,p,b || (pos s (H.drop (16*k))).isSome)
 | 0,k,i,p,b,h=>by
  rw [List.drop_of_length_le (by omega)]
  show (i,p,b)=(i,p,b || false)
  rw [Bool.or_false]
 | m+1,k,i,p,b,h=>by
  have hk:16*k<H.length:=by omega
  have l16:=seg_len D.sixt hk
  have ih:=fun i p b=>placeGo_ok (s:=s) D m (k+1) i p b (by omega)
  have el:=lowA_blk l16 fun x hx=>D.good x (seg_mem hx)
  have eb:(lowA (leafOf Z R H k).bytes)=(low 0 (seg H k),0):=el
  rw [List.range'_succ,List.map_cons]
  unfold placeGo
  rw [eb,cell_some,low_free,drop_seg,pos_append,free_append]
  have eo:∀ c:Bool,((b || (pos s (seg H k)).isSome) || (pos s (H.drop (16*(k+1)))).isSome)=(b || (match pos s (seg H k) with
   | some p=>some p
   | none=>(pos s (H.drop (16*(k+1)))).map (· + (seg H k).length)).isSome):=fun _=>by
   cases pos s (seg H k) <;> cases pos s (H.drop (16*(k+1))) <;> simp
  cases hf:free (seg H k) with
  | some q =>
   have hq:=(free_some hf).1
   rw [l16] at hq
   by_cases hp:p<0
   ·rw [if_pos ⟨hp,by show (0:Int)≤((0+q:Nat):Int); omega,rfl⟩,ih]
    show _=(if p<0 then (((k+q / 16:Nat):Int),((q % 16:Nat):Int),_) else _)
    rw [if_pos hp,← eo true,show q / 16=0 by omega,show q % 16=q by omega,Nat.add_zero]
    have e0:(((0+q:Nat):Int))=(q:Int):=by omega
    show (match free (H.drop (16*(k+1))) with
     | some q'=>if ((0+q:Nat):Int)<0 then _ else (((k:Nat):Int),((0+q:Nat):Int),_)
     | none=>(((k:Nat):Int),((0+q:Nat):Int),_))=_
    rw [e0]
    cases free (H.drop (16*(k+1))) with
    | none=>rfl
    | some q'=>exact if_neg (by omega)
   ·rw [if_neg (fun y=>hp y.1),ih]
    show _=(if p<0 then _ else (i,p,_))
    rw [if_neg hp,← eo true]
    cases free (H.drop (16*(k+1))) with
    | none=>rfl
    | some q'=>exact if_neg hp
  | none =>
   rw [if_neg (fun y=>absurd y.2.1 (by show ¬ (0:Int) ≤ -1; decide)),ih,← eo true]
   cases free (H.drop (16*(k+1))) with
   | none=>rfl
   | some q' =>
    show (if p<0 then (((k+1+q' / 16:Nat):Int),((q' % 16:Nat):Int),_) else _)=(if p<0 then (((k+(q'+(seg H k).length) / 16:Nat):Int),(((q'+(seg H k).length) % 16:Nat):Int),_) else _)
    rw [l16,show k+(q'+16) / 16=k+1+q' / 16 by omega,show (q'+16) % 16=q' % 16 by omega]
theorem place_ok {s:Tm.Txt} (D:Dir Z R H):placeGo s ((List.range' 0 (H.length / 16)).map (leafOf Z R H)) (R.getD 2 0 / 512,-1,false)=match free H with
  | some q=>(((q / 16:Nat):Int),((q % 16:Nat):Int),(pos s H).isSome)
  | none=>(((H.length / 16:Nat):Int),-1,(pos s H).isSome):=by
 have h6:=D.sixt
 have hz:=D.size
 rw [placeGo_ok D (H.length / 16) 0 _ _ _ (by omega),Nat.mul_zero,List.drop_zero,Bool.false_or,show R.getD 2 0 / 512=((H.length / 16:Nat):Int) by omega]
 cases free H with
 | none=>rfl
 | some q =>
  show (if (-1:Int)<0 then (((0+q / 16:Nat):Int),_,_) else _)=_
  rw [if_pos (by decide),Nat.zero_add]
end
end Go.Proofs.YtiapingedfnlnaaGreatDoor.Di
namespace Go.Proofs.YtiapingedfnlnaaGreatDoor.Fi
open Go Go.Proofs Wx Hp W Ad Tm Bt Spc Re Av
open Hd (ints)
open In (Glo ints_length ints_one mayR decA encR encR_length decOk getR_enc z15)
open Ino (getM putM Cok getM_length rblk rat)
open Bm (findM addM num num4 nS Wf Tight path Added find_ok add_ok num_congr path_self path_chain chain_nS path_data miss_zero many miss par walkA_ok)
theorem add_ext {n k:Nat} {Z:Nat→Txt} {R:List Int} {T T0:TM} (d:Dim n) (a:Av n Z T) (w:Wf n Z R) (hk:k<16522) (e0:Ext T0 T):Ext T0 (addM T (geoN n) R k).1:=by
 obtain ⟨c,e⟩:=path_chain hk
 unfold addM
 rw [if_neg (by omega),Int.toNat_natCast,← e]
 have x0:=(walkA_ok d (path k) none Z T T R a w c (fun q y=>by cases y) (Ext.refl T)).2
 have x1:=(walkA_ok d (path k) none Z T T0 R a w c (fun q y=>by cases y) e0).2
 have ea:Bm.at_ Z R none=0:=rfl
 rw [ea] at x0 x1
 split
 ·show Ext T0 (TM.back _ _).1
  rw [x0.back a.live]; exact e0
 ·exact x1
end Go.Proofs.YtiapingedfnlnaaGreatDoor.Fi
namespace Go.Proofs.YtiapingedfnlnaaGreatDoor.Fi
open Go Go.Proofs Wx Hp W Ad Tm Bt Spc Re Av
open Hd (ints)
open In (Glo ints_length ints_one mayR decA encR encR_length decOk getR_enc z15 wordOk kindOk)
open Ino (getM putM Cok getM_length rblk rat)
open Bm (findM addM num num4 nS Wf Tight path Added find_ok add_ok num_congr path_self path_chain chain_nS path_data miss_zero many miss par walkA_ok root)
theorem root_size {R:List Int} {v:Int} (s:Nat):root (R.set 2 v) s=root R s:=by
 have e:∀ i,3≤i→(R.set 2 v).getD i 0=R.getD i 0:=fun i hi=>by
  rw [List.getD_eq_getElem?_getD,List.getD_eq_getElem?_getD,List.getElem?_set_ne (by omega)]
 unfold root
 rw [e (3+s) (by omega),e 13 (by omega),e 14 (by omega)]
theorem num_size {Z:Nat→Txt} {R:List Int} {v:Int}:∀ s,s<nS→num Z (R.set 2 v) s=num Z R s:=num_congr (fun s _ _=>root_size s) fun _ _ _ _ _ _=>rfl
theorem pc_size {Z:Nat→Txt} {R:List Int} {v:Int} {k:Nat} (hk:k<16522):pc Z (R.set 2 v) k=pc Z R k:=by
 unfold pc; rw [num_size k (by unfold nS; omega)]
theorem Wf.alike {n:Nat} {Z Z':Nat→Txt} {R R':List Int} (w:Wf n Z R) (hl:R'.length=15) (hr:∀ i,3≤i→i<15→0≤R'.getD i 0) (N:∀ s,s<nS→num Z' R' s=num Z R s) (hb:∀ j,j<n→bit Z j=true→bit Z' j=true):Wf n Z' R':=by
 refine ⟨hl,hr,fun s hs h=>?_,fun s s' hs hs' h e=>?_⟩
 ·rw [N s hs] at h ⊢
  obtain ⟨a,b,c⟩:=w.rng s hs h
  exact ⟨a,b,hb _ b c⟩
 ·rw [N s hs] at h e
  rw [N s' hs'] at e
  exact w.inj s s' hs hs' h e
theorem tight_alike {Z Z':Nat→Txt} {R R':List Int} (tg:Tight Z R) (N:∀ s,s<nS→num Z' R' s=num Z R s):Tight Z' R':=fun q h1 h2 h=>by
 rw [N q h2] at h
 obtain ⟨x,a,b,c⟩:=tg q h1 h2 h
 exact ⟨x,a,b,by rw [N x (by have:=(Bm.data_sub h1 h2 a b).2; unfold nS; omega)]; exact c⟩
theorem many_alike {Z Z':Nat→Txt} {R R':List Int} (N:∀ s,s<nS→num Z' R' s=num Z R s):many Z' R'=many Z R:=by
 unfold many
 exact cnt_congr fun s hs=>by rw [N s hs]
theorem frees_alike {n:Nat} {Z Z':Nat→Txt} (hb:∀ j,j<n→bit Z' j=bit Z j):frees n Z'=frees n Z:=by
 unfold frees
 exact cnt_congr fun j hj=>by unfold isFree; rw [hb j hj]
theorem num_low {n b:Nat} {Z:Nat→Txt} {R:List Int} {bs:Txt} (w:Wf n Z R) (hb:b<(geoN n).data):∀ s,s<nS→num (up Z b bs) R s=num Z R s :=
 num_congr (fun _ _ _=>rfl) fun q h1 h2 h3 p _=>by
  have:=(w.rng q h2 h3).1
  rw [up_ne _ _ (by omega)]
theorem bit_low {n b:Nat} {Z:Nat→Txt} {bs:Txt} (d:Dim n) (hb:(geoN n).inodes≤b) {j:Nat} (hj:j<n):bit (up Z b bs) j=bit Z j:=by
 have:=d.map hj
 exact bit_up (by omega)
theorem pc_low {n b k:Nat} {Z:Nat→Txt} {R:List Int} {bs:Txt} (w:Wf n Z R) (hb:b<(geoN n).data) (hk:k<16522):pc (up Z b bs) R k=pc Z R k:=by
 have hkn:k<nS:=by unfold nS; omega
 unfold pc
 rw [num_low w hb k hkn]
 split
 ·rfl
 ·rename_i h
  have:=(w.rng k hkn h).1
  rw [up_ne _ _ (by omega)]
theorem Gr.other {n:Nat} {Z Z1:Nat→Txt} {R R1 S:List Int} {ps:List Nat} (g:Gr n Z R Z1 R1 ps) (w:Wf n Z S) (dis:∀ s s',s<nS→s'<nS→num Z R s≠0→num Z R s≠num Z S s') :
  (∀ s,s<nS→num Z S s≠0→Z1 (num Z S s)=Z (num Z S s))∧(∀ s s',s<nS→s'<nS→num Z1 R1 s≠0→num Z1 R1 s≠num Z S s'):=by
 have D:∀ s s',s<nS→s'<nS→num Z1 R1 s≠0→num Z1 R1 s≠num Z S s':=fun s s' hs hs' h e=>by
  by_cases h0:num Z R s=0
  ·have hb:=g.new s hs h0 h
   rw [e] at hb h
   rw [(w.rng s' hs' h).2.2] at hb; cases hb
  ·have:=g.keep s hs h0
   rw [this] at e
   exact dis s s' hs hs' h0 e
 refine ⟨fun s hs h=>?_,D⟩
 have r:=w.rng s hs h
 have:(geoN n).inodes≤(geoN n).data:=Nat.le_add_right _ _
 exact g.cont _ r.2.1 (by omega) (.inr r.2.2) fun s' hs' h' e=>D s' s hs' hs h' e.symm
theorem num_same {Z Z1:Nat→Txt} {S:List Int} (h:∀ s,s<nS→num Z S s≠0→Z1 (num Z S s)=Z (num Z S s)):∀ s,s<nS→num Z1 S s=num Z S s :=
 num_congr (fun _ _ _=>rfl) fun q _ h2 h3 p _=>by rw [h q h2 h3]
theorem pc_same {Z Z1:Nat→Txt} {S:List Int} (h:∀ s,s<nS→num Z S s≠0→Z1 (num Z S s)=Z (num Z S s)) {k:Nat} (hk:k<16522):pc Z1 S k=pc Z S k:=by
 have hkn:k<nS:=by unfold nS; omega
 unfold pc
 rw [num_same h k hkn]
 split
 ·rfl
 ·rename_i h0; exact h k hkn h0
end Go.Proofs.YtiapingedfnlnaaGreatDoor.Fi
namespace Go.Proofs.YtiapingedfnlnaaGreatDoor.In
open Go Go.Proofs Wx Hp W Su Re Hd
theorem append_from {elem:TI} {e:Nat} {a:Option Addr} {l c n:Nat} {xs new:List Value} {h0 h:Heap} {k:Option Addr→Nat→Nat→Heap→Prop} (f:Fr No h0 h)
  (s:Sl h elem.cells a l c xs (From h0.size)) (hn:new.length=n*elem.cells) (hz:elem.zero.length=elem.cells) (hb:(l+n)*elem.bytes≤140737488355328) (hb':l+n≤140737488355328)
  (hk:∀ a' c' h',Fr No h0 h'→Sl h' elem.cells a' (l+n) c' (xs++new) (From h0.size)→k a' (l+n) c' h') :
  AppendP elem e a l c n new h k:=by
 have hs:=f.size
 refine append_own s hn hz hb hb' fun a' c' h' f' s'=>hk a' c' h' (f.trans f' fun b hb e=>by have:h0.size≤b:=e; omega) (s'.mono fun b hb=>?_)
 rcases hb with hb|hb
 ·exact hb
 ·show h0.size≤b; omega
theorem bv_nat (m:Nat):(Value.int .u8 (IntKind.wrap .u8 (m:Int)))=bv (UInt8.ofNat m):=by
 rw [bv_wrap]
 congr 1
 apply UInt8.toNat_inj.mp
 rw [UInt8.toNat_ofNat',UInt8.toNat_ofNat']; omega
theorem bv_mod {n:Int} (h0:0≤n):(Value.int .u8 (IntKind.wrap .u8 (Int.tmod n 256)))=bv (UInt8.ofNat n.toNat):=by
 have e:Int.tmod n 256=((n.toNat % 256:Nat):Int):=by rw [Int.tmod_eq_emod_of_nonneg h0]; omega
 rw [e,bv_nat]
 congr 1
 apply UInt8.toNat_inj.mp
 rw [UInt8.toNat_ofNat',UInt8.toNat_ofNat']; omega
theorem rwithin_spec {v lo hi:Int} {h:Heap} {K:Value→Heap→Prop} (hK:K (.bool (decide (lo≤v) && decide (v≤hi))) h):C.boleref11_within v lo hi h K:=by
 refine boleref11_within.ok (cd (fun x=>?_) fun x=>?_)
 ·rw [decide_eq_true (show lo≤v from x)] at hK; exact hK
 ·rw [decide_eq_false (show ¬ lo≤v from x)] at hK; exact hK
theorem cell15' {h:Heap} {b:Nat} {R:List Int} (r:rd h b=ints R) {i:Nat} (hi:3+i<R.length):cellOf h (Addr.add (Addr.add ⟨b,0,none⟩ 3) i)=some (.int .i64 (R.getD (3+i) 0)):=by
 rw [add_mk]
 refine rda r ?_
 rw [Nat.zero_add,ints,List.getElem?_map,List.getD_eq_getElem?_getD,List.getElem?_eq_getElem hi]; rfl
theorem all_words {R:List Int} (hR:R.length=15):(R.drop 3).all wordOk=true↔∀ j,j<12→wordOk (R.getD (3+j) 0)=true:=by
 have e:∀ j (hj:j<(R.drop 3).length),(R.drop 3)[j]=R.getD (3+j) 0:=fun j hj=>by
  have:3+j<R.length:=by rw [List.length_drop] at hj; omega
  rw [List.getElem_drop,List.getD_eq_getElem?_getD,List.getElem?_eq_getElem this]; rfl
 have ld:(R.drop 3).length=12:=by rw [List.length_drop,hR]
 constructor
 ·intro h j hj
  rw [← e j (by omega)]
  exact List.all_eq_true.mp h _ (List.getElem_mem _)
 ·intro h
  refine List.all_eq_true.mpr fun x hx=>?_
  obtain ⟨j,hj,rfl⟩:=List.mem_iff_getElem.mp hx
  rw [e j hj]; exact h j (by omega)
theorem bad_word {R:List Int} (hR:R.length=15) {j:Nat} (hj:j<12) (h:wordOk (R.getD (3+j) 0)=false):mayR R=false:=by
 cases e:(R.drop 3).all wordOk with
 | false=>rw [mayR,e]; rfl
 | true=>rw [(all_words hR).mp e j hj] at h; cases h
theorem rMay_k1 {R:List Int} {h1 h:Heap} {K:Value→Heap→Prop} (hR:R.length=15) (hw:(R.drop 3).all wordOk=true) (r3:rd h h1.size=ints R) (hK:K (.bool (mayR R)) h):boleref11_May.k1 h1 h K:=by
 have em:mayR R=kindOk (R.getD 0 0) (R.getD 1 0) (R.getD 2 0) R:=by rw [mayR,hw,Bool.true_and]
 rw [em] at hK
 unfold kindOk at hK
 refine ⟨_,cell15 r3 (by omega),ce (fun h0=>?_) fun h0=>?_⟩
 ·rw [if_pos h0] at hK
  refine ⟨ints R,by rw [ints_length,hR],cellsAll r3,pairs15 hR (S:=z15) List.length_replicate,?_⟩
  rw [show ([.int .i64 0,.int .i64 0,.int .i64 0,.int .i64 0,.int .i64 0,.int .i64 0,.int .i64 0,.int .i64 0,.int .i64 0,.int .i64 0,.int .i64 0,.int .i64 0,.int .i64 0,.int .i64 0,.int .i64 0]:List Value)=ints z15 from rfl,ints_eq]
  exact hK
 ·rw [if_neg h0] at hK
  refine ce (fun h1=>?_) fun h1=>?_
  ·rw [if_pos h1] at hK
   refine ⟨_,cell15 r3 (by omega),rwithin_spec ⟨_,rfl,?_⟩⟩
   cases hb:(decide (0≤R.getD 1 0) && decide (R.getD 1 0≤1000)) with
   | false=>rw [hb] at hK; exact hK
   | true=>rw [hb] at hK; exact ⟨_,cell15 r3 (by omega),rwithin_spec ⟨_,rfl,hK⟩⟩
  ·rw [if_neg h1] at hK
   refine ce (fun h2'=>?_) fun h2'=>?_
   ·rw [if_pos h2'] at hK
    refine ⟨_,cell15 r3 (by omega),rwithin_spec ⟨_,rfl,?_⟩⟩
    cases hb:(decide (2≤R.getD 1 0) && decide (R.getD 1 0≤65535)) with
    | false=>rw [hb] at hK; exact hK
    | true =>
     rw [hb,Bool.true_and] at hK
     refine ⟨_,cell15 r3 (by omega),rwithin_spec ⟨_,rfl,?_⟩⟩
     cases hc:(decide (0≤R.getD 2 0) && decide (R.getD 2 0≤8459264)) with
     | false=>rw [hc] at hK; exact hK
     | true =>
      rw [hc,Bool.true_and] at hK
      rw [Bool.and_eq_true,decide_eq_true_eq] at hc
      refine ⟨_,cell15 r3 (by omega),?_⟩
      have e:(Int.tmod (R.getD 2 0) 512 == 0)=decide (R.getD 2 0 % 512=0):=by rw [Int.tmod_eq_emod_of_nonneg hc.1]; rfl
      rw [e]; exact hK
   ·rw [if_neg h2'] at hK
    refine ce (fun h3'=>?_) fun h3'=>?_
    ·rw [if_pos h3'] at hK
     refine ⟨_,cell15 r3 (by omega),rwithin_spec ⟨_,rfl,?_⟩⟩
     cases hb:(decide (1≤R.getD 1 0) && decide (R.getD 1 0≤1000)) with
     | false=>rw [hb] at hK; exact hK
     | true=>rw [hb] at hK; exact ⟨_,cell15 r3 (by omega),rwithin_spec ⟨_,rfl,hK⟩⟩
    ·rw [if_neg h3'] at hK; exact hK
theorem rMay_spec {R:List Int} {h:Heap} {K:Value→Heap→Prop} (hR:R.length=15) (hK:∀ h',Fr No h h'→K (.bool (mayR R)) h'):C.boleref11_May (ints R) h K:=by
 refine boleref11_May.ok (New.intro fun h2 n2=>?_)
 have hK:=hK h2 n2.fr
 refine ⟨fun i hh=>0≤i∧i≤10∧h2=hh∧∀ j,j<i.toNat→wordOk (R.getD (3+j) 0)=true,fun i _=>((10:Nat) - i).toNat,⟨by omega,by omega,rfl,fun j hj=>absurd hj (Nat.not_lt_zero _)⟩,?_⟩
 rintro i _ ⟨i0,i1,rfl,q⟩
 have bad:∀ j,j<12→wordOk (R.getD (3+j) 0)=false→K (.bool false) h2:=fun j hj e=>by
  rw [bad_word hR hj e] at hK; exact hK
 refine cd (fun hi=>?_) fun hi=>?_
 ·have hi:i<10:=hi
  refine ⟨⟨i0,hi⟩,_,cell15' n2.rd (by omega),rwithin_spec ⟨_,rfl,cnot ?_⟩⟩
  cases hw:wordOk (R.getD (3+i.toNat) 0) with
  | false=>exact cf hw (bad i.toNat (by omega) hw)
  | true =>
   rw [wrap_i64 (by omega) (by omega)]
   refine ct hw ⟨⟨by omega,by omega,rfl,fun j hj=>?_⟩,falls (m:=10) hi⟩
   by_cases e:j<i.toNat
   ·exact q j e
   ·have:j=i.toNat:=by omega
    rw [this]; exact hw
 ·have hi:¬ i<10:=hi
  have ei:i.toNat=10:=by omega
  rw [ei] at q
  refine ⟨_,cell15 n2.rd (by omega),rwithin_spec ⟨_,rfl,cnot ?_⟩⟩
  cases hw:wordOk (R.getD 13 0) with
  | false=>exact cf hw (bad 10 (by omega) hw)
  | true =>
   refine ct hw ⟨_,cell15 n2.rd (by omega),rwithin_spec ⟨_,rfl,cnot ?_⟩⟩
   cases hx:wordOk (R.getD 14 0) with
   | false=>exact cf hx (bad 11 (by omega) hx)
   | true =>
    refine ct hx (rMay_k1 hR ((all_words hR).mpr fun j hj=>?_) n2.rd hK)
    by_cases e:j<10
    ·exact q j e
    ·by_cases e':j=10
     ·subst e'; exact hw
     ·have:j=11:=by omega
      subst this; exact hx
theorem leB_snoc (k v:Nat):leBs (k+1) v=leBs k v++[UInt8.ofNat (v / 256 ^ k)]:=by
 rw [leBs,List.range_succ,List.map_append]; rfl
theorem low_spec {n:Int} {k:Nat} {h:Heap} {K:Value→Heap→Prop} (h0:0≤n) (h1:n≤9223372036854775807) (hk:k≤8)
  (hK:∀ a' c' h',Fr No h h'→Sl h' 1 a' k c' ((leBs k n.toNat).map bv) (From h.size)→K (.slice a' k c') h'):C.boleref11_low n (k:Int) h K:=by
 refine boleref11_low.ok ⟨fun m a l c i hh=>0≤i∧i≤k∧l=i.toNat∧0≤m∧m≤9223372036854775807∧m.toNat=n.toNat / 256 ^ i.toNat∧Fr No h hh∧Sl hh 1 a l c ((leBs i.toNat n.toNat).map bv) (From h.size),fun _ _ _ _ i _=>((k:Nat) - i).toNat,
  ⟨by omega,by omega,rfl,h0,h1,by show _=_ / 256 ^ 0; omega,Fr.refl _ _,Sl.nil _ _ _⟩,?_⟩
 rintro m a l c i h2 ⟨i0,i1,rfl,m0,m1,em,f2,s2⟩
 refine cd (fun hi=>?_) fun hi=>?_
 ·have hi:i<k:=hi
  refine New.intro fun h3 n3=>⟨[bv (UInt8.ofNat m.toNat)],rfl,cellsAll (by rw [n3.rd,bv_mod m0]),bv_one [UInt8.ofNat m.toNat],append_from (f2.new n3) (s2.fr n3.fr fun _ _ _ x=>x) rfl rfl (by show (i.toNat+1)*1≤_; omega) (by omega) fun a' c' h4 f4 s4=>?_⟩
  have ed:Int.tdiv m 256=m / 256:=Int.tdiv_eq_ediv_of_nonneg m0
  rw [ed,wrap_i64 (n:=m / 256) (by omega) (by omega),wrap_i64 (by omega) (by omega)]
  refine ⟨⟨by omega,by omega,by omega,by omega,by omega,?_,f4,?_⟩,falls (m:=k) hi⟩
  ·rw [show (i+1).toNat=i.toNat+1 by omega,Nat.pow_succ,← Nat.div_div_eq_div_mul,← em]; omega
  ·rw [show (i+1).toNat=i.toNat+1 by omega,leB_snoc,← em,List.map_append]; exact s4
 ·have hi:¬ i<k:=hi
  have:i.toNat=k:=by omega
  rw [this] at s2 ⊢
  exact hK a c h2 f2 s2
theorem low_app {n:Int} {k l c:Nat} {a:Option Addr} {xs:List UInt8} {h0 h:Heap} {K:Option Addr→Nat→Nat→Heap→Prop} (hn:0≤n) (hn':n≤9223372036854775807) (hk:k≤8) (hl:l+k≤1000) (f:Fr No h0 h)
  (s:Sl h 1 a l c (xs.map bv) (From h0.size)) (hK:∀ a' c' h',Fr No h0 h'→Sl h' 1 a' (l+k) c' ((xs++leBs k n.toNat).map bv) (From h0.size)→K a' (l+k) c' h') :
  C.boleref11_low n (k:Int) h fun r1 h4=>∃ (sA1:Option Addr) (sL1:Nat) (sC1:Nat),r1 = .slice sA1 sL1 sC1 ∧
   ∃ new1:List Value,List.length new1=sL1*1∧SlCells h4 sA1 new1∧(∀ v ∈ new1,v.oneCell'=true)∧AppendP ti5 5 a l c sL1 new1 h4 K:=by
 refine low_spec hn hn' hk fun a' c' h' f' s'=>⟨_,_,_,rfl,_,by rw [List.length_map,leB_length,Nat.mul_one],s'.cells,bv_one _,?_⟩
 refine append_from (f.no f') (s.fr f' fun _ _ _ x=>x) (by rw [List.length_map,leB_length]; show k=k*1; omega) rfl (by show (l+k)*1≤_; omega) (by omega) fun a2 c2 h2 f2 s2=>hK a2 c2 h2 f2 ?_
 rw [List.map_append]; exact s2
theorem rLaid_spec {R:List Int} {h:Heap} {K:Value→Heap→Prop} (hR:R.length=15) (hm:mayR R=true)
  (hK:∀ a' c' h',Fr No h h'→Sl h' 1 a' 64 c' ((encR R).map bv) (From h.size)→K (.slice a' 64 c') h'):C.boleref11_laid (ints R) h K:=by
 obtain ⟨k0,k1,l0,l1,z0,z1,hw⟩:=mayR_bounds hR hm
 have hx:∀ j,j<12→0≤R.getD (3+j) 0∧R.getD (3+j) 0≤4294967295:=fun j hj=>by
  have hj':3+j<R.length:=by omega
  have e:R.getD (3+j) 0=(R.drop 3)[j]'(by rw [List.length_drop]; omega):=by
   rw [List.getElem_drop,List.getD_eq_getElem?_getD,List.getElem?_eq_getElem hj']; rfl
  rw [e]; exact hw _ (List.getElem_mem _)
 have tk:∀ j,j<12→(R.drop 3).take (j+1)=(R.drop 3).take j++[R.getD (3+j) 0]:=fun j hj=>by
  have hj':3+j<R.length:=by omega
  rw [List.take_succ_eq_append_getElem (by rw [List.length_drop]; omega),List.getElem_drop,List.getD_eq_getElem?_getD,List.getElem?_eq_getElem hj']; rfl
 have fk:∀ j,j<12→flat4 ((R.drop 3).take (j+1))=flat4 ((R.drop 3).take j)++leBs 4 (R.getD (3+j) 0).toNat:=fun j hj=>by
  rw [tk j hj,flat4,List.flatMap_append]
  show _++(leBs 4 _++[])=_
  rw [List.append_nil,flat4]
 refine boleref11_laid.ok (New.intro fun h2 n2=>⟨_,cell15 n2.rd (by omega),New.intro fun h3 n3=>?_⟩)
 have s2:=n2.size
 have s3:=n3.size
 have F3:=n2.fr.new n3
 have kd:∀ {hq:Heap},Fr No h2 hq→rd hq h.size=ints R:=fun fq=>(fq.rd n2.own.lt fun x=>x).trans n2.rd
 have eK:(Value.int .u8 (IntKind.wrap .u8 (R.getD 0 0)))=bv (UInt8.ofNat (R.getD 0 0).toNat):=by
  rw [← bv_nat,Int.toNat_of_nonneg k0]
 have b3:Sl h3 1 (some ⟨h2.size,0,none⟩) 2 2 ((leBs 1 (R.getD 0 0).toNat++[0]).map bv) (From h2.size) :=
  Sl.made (zs:=[]) n3 (by rw [leB_one,eK]; rfl) (Nat.le_refl _) (by rw [leB_one]; rfl) (Nat.le_refl _) rfl
 refine ⟨_,cell15 (kd n3.fr) (by omega),low_app (k:=2) l0 (by omega) (by omega) (by omega) n3.fr b3 fun a5 c5 h5 f5 s5=>⟨_,cell15 (kd f5) (by omega),low_app (k:=4) z0 (by omega) (by omega) (by omega) f5 s5 fun a7 c7 h7 f7 s7=>?_⟩⟩
 generalize hH:(leBs 1 (R.getD 0 0).toNat++[0])++leBs 2 (R.getD 1 0).toNat++leBs 4 (R.getD 2 0).toNat=H at s7
 have eH:encR R=H++(flat4 (R.drop 3)++zeros 8):=by rw [encR,← hH]; simp only [List.append_assoc]
 clear hH
 refine ⟨fun a l c i hh=>0≤i∧i≤10∧l=8+4*i.toNat∧Fr No h2 hh∧Sl hh 1 a l c ((H++flat4 ((R.drop 3).take i.toNat)).map bv) (From h2.size),fun _ _ _ i _=>((10:Nat) - i).toNat,
  ⟨by omega,by omega,rfl,f7,by show Sl h7 1 _ _ _ ((H++[]).map bv) _; rw [List.append_nil]; exact s7⟩,?_⟩
 rintro a8 l8 c8 i h8 ⟨i0,i1,rfl,f8,s8⟩
 refine cd (fun hi=>?_) fun hi=>?_
 ·have hi:i<10:=hi
  have hb:=hx i.toNat (by omega)
  refine ⟨⟨i0,hi⟩,_,cell15' (kd f8) (by omega),low_app (k:=4) hb.1 (by omega) (by omega) (by omega) f8 s8 fun a9 c9 h9 f9 s9=>?_⟩
  rw [wrap_i64 (by omega) (by omega)]
  refine ⟨⟨by omega,by omega,by omega,f9,?_⟩,falls (m:=10) hi⟩
  rw [show (i+1).toNat=i.toNat+1 by omega,fk _ (by omega),← List.append_assoc]; exact s9
 ·have hi:¬ i<10:=hi
  have ei:i.toNat=10:=by omega
  rw [ei] at s8 ⊢
  refine ⟨_,cell15 (kd f8) (by omega),low_app (k:=4) (hx 10 (by omega)).1 (Int.le_trans (hx 10 (by omega)).2 (by decide)) (by omega) (by omega) f8 s8 fun a9 c9 h9 f9 s9=>?_⟩
  refine ⟨_,cell15 (kd f9) (by omega),low_app (k:=4) (hx 11 (by omega)).1 (Int.le_trans (hx 11 (by omega)).2 (by decide)) (by omega) (by omega) f9 s9 fun a10 c10 h10 f10 s10=>?_⟩
  refine New.intro fun h11 n11=>⟨(zeros 8).map bv,rfl,cellsAll n11.rd,bv_one _,append_from (f10.new n11) (s10.fr n11.fr fun _ _ _ x=>x) rfl rfl (by decide) (by decide) fun a12 c12 h12 f12 s12=>?_⟩
  refine hK a12 c12 h12 (n2.fr.no f12) ?_
  have e12:R.drop 3=(R.drop 3).take 12:=(List.take_of_length_le (by rw [List.length_drop]; omega)).symm
  rw [eH,e12,fk 11 (by omega),fk 10 (by omega)]
  rw [← List.map_append] at s12
  simp only [List.append_assoc] at s12 ⊢
  exact s12.mono fun b hb=>by have:h2.size≤b:=hb; show h.size≤b; omega
theorem rEncode_spec {R:List Int} {h:Heap} {K:Value→Heap→Prop} (hR:R.length=15) (hN:mayR R=false→∀ h',Fr No h h'→K (.tuple #[.slice none 0 0,.int .i64 111]) h')
  (hK:mayR R=true→∀ a' c' h',Fr No h h'→Sl h' 1 a' 64 c' ((encR R).map bv) (From h.size)→K (.tuple #[.slice a' 64 c',.int .i64 0]) h'):C.boleref11_Encode (ints R) h K:=by
 refine boleref11_Encode.ok (New.intro fun h2 n2=>⟨ints R,by rw [ints_length,hR],cellsAll n2.rd,rMay_spec hR fun h3 f3=>⟨_,rfl,cnot ?_⟩⟩)
 have s2:=n2.size
 have s3:=f3.size
 have F3:=n2.fr.no f3
 have r3:rd h3 h.size=ints R:=(f3.rd n2.own.lt fun x=>x).trans n2.rd
 cases hm:mayR R with
 | false=>exact hN hm h3 F3
 | true=>exact ct rfl ⟨ints R,by rw [ints_length,hR],cellsAll r3,rLaid_spec hR hm fun a' c' h4 f4 s4=>⟨_,_,_,rfl,hK hm a' c' h4 (F3.no f4) (s4.mono fun b hb=>by have:h3.size≤b:=hb; show h.size≤b; omega)⟩⟩
end Go.Proofs.YtiapingedfnlnaaGreatDoor.In
namespace Go.Proofs.YtiapingedfnlnaaGreatDoor.Fi
open Go Go.Proofs Wx Hp W Ad Tm Bt Spc Re Av
open Hd (ints)
open In (Glo ints_length ints_one mayR encR encR_length)
open Bm (Im updU edge lowU lowU_hit lowU_miss)
theorem set_range {α:Type} {N k:Nat} {f:Nat→α} {v:α}:((List.range N).map f).set k v=(List.range N).map fun j=>if j=k then v else f j:=by
 refine List.ext_getElem (by rw [List.length_set,List.length_map,List.length_map]) fun i h1 h2=>?_
 rw [List.getElem_set,List.getElem_map,List.getElem_map,List.getElem_range]
 by_cases e:k=i
 ·rw [if_pos e,if_pos e.symm]
 ·rw [if_neg e,if_neg (fun y=>e y.symm)]
theorem putU_snoc {Z W:Txt} {o m:Nat} (hm:m<W.length) (ho:o+W.length≤Z.length):(putU Z o (W.take m)).set (o+m) W[m]=putU Z o (W.take (m+1)):=by
 have l1:(W.take m).length=m:=by rw [List.length_take]; omega
 have l2:(W.take (m+1)).length=m+1:=by rw [List.length_take]; omega
 unfold putU
 rw [l1,l2,List.append_assoc,List.set_append_right _ _ (by rw [List.length_take]; omega),List.length_take,show o+m - min o Z.length=m by omega,List.set_append_right _ _ (by rw [l1]; exact Nat.le_refl _),l1,Nat.sub_self]
 have ed:Z.drop (o+m)=Z[o+m]::Z.drop (o+m+1):=List.drop_eq_getElem_cons (by omega)
 rw [ed,List.set_cons_zero,List.take_succ_eq_append_getElem hm,List.append_assoc,List.append_assoc]
 rfl
theorem bit_add : ∀ n:Fin 256,∀ s:Fin 8,n.val.testBit s.val=false→IntKind.wrap .u8 ((n.val:Int)+((2 ^ s.val:Nat):Int))=(setB n.val s.val true:Nat):=by decide +kernel
structure Ib (n:Nat) (W:Txt) (m:Nat) (L:Txt):Prop where
 im:Im n (lowU n m) L
 rest:∀ q,512*(geoN n).inodes≤q→L.getD q 0=(putU (List.replicate (512*n) 0) (512*(geoN n).inodes+64) W).getD q 0
theorem Ib.zero {n:Nat} {W:Txt} (hn:128≤n∧n<4428) (hW:W.length≤448):Ib n W 0 (putU (List.replicate (512*n) 0) (512*(geoN n).inodes+64) W):=by
 have hino:(geoN n).inodes=98+(n+4095) / 4096:=rfl
 refine ⟨⟨(putU_length (by rw [List.length_replicate]; omega)).trans List.length_replicate,fun j hj=>?_⟩,fun _ _=>rfl⟩
 have:lowU n 0 j=false:=by unfold lowU; rw [decide_eq_false (by omega)]; rfl
 rw [this]
 unfold bitAt putU
 rw [List.getD_eq_getElem?_getD,List.append_assoc,List.getElem?_append_left (by rw [List.length_take,List.length_replicate]; omega),List.getElem?_take,if_pos (by omega),List.getElem?_replicate]
 split <;> exact Nat.zero_testBit _
theorem Ib.miss {n m:Nat} {W L:Txt} (a:Ib n W m L) (h:edge n m=false):Ib n W (m+1) L:=⟨a.im.congr (lowU_miss h),a.rest⟩
theorem Ib.hit {n m:Nat} {W L:Txt} (a:Ib n W m L) (hn:128≤n∧n<4428) (hm:m<4096*((geoN n).inodes - 98)) (h:edge n m=true):Ib n W (m+1) (putBit L (98*4096+m) true):=by
 refine ⟨(a.im.put hn hm).congr (lowU_hit h),fun q hq=>?_⟩
 rw [← a.rest q hq]
 have h98:98≤(geoN n).inodes:=by show 98≤98+_; omega
 unfold putBit
 rw [List.getD_eq_getElem?_getD,List.getD_eq_getElem?_getD,List.getElem?_set,if_neg (by omega),← List.getD_eq_getElem?_getD]
theorem pow_step : ∀ s:Fin 7,IntKind.wrap .u8 (((2 ^ s.val:Nat):Int)*2)=((2 ^ (s.val+1):Nat):Int):=by decide +kernel
theorem image_spec {n:Nat} {recs:List (List Int)} {ra:Option Addr} {rc:Nat} {h:Heap} {K:Value→Heap→Prop} (hn:128≤n∧n<4428) (Y:SlCells h ra (recs.flatMap ints)) (hR:∀ R ∈ recs,R.length=15) (hm:∀ R ∈ recs,mayR R=true)
  (hd:∀ R ∈ recs,∀ i,i<10→R.getD (3+i) 0=0) (hc:recs.length≤7)
  (hK:∀ ib L h',Fr No h h'→Ib n (recs.flatMap encR) (4096*((geoN n).inodes - 98)) L→Own h' ib→h.size≤ib→rd h' ib=L.map bv→K (.slice (some ⟨ib,0,none⟩) (512*n) (512*n)) h'):C.boleref12_Image (geoN n).v ra recs.length rc h K:=by
 have hdat:(geoN n).data=98+(n+4095) / 4096+n / 64:=rfl
 have hino:(geoN n).inodes=98+(n+4095) / 4096:=rfl
 have hbit:(geoN n).bitmap=98:=rfl
 have hcnt:(geoN n).count=8*(n / 64):=rfl
 have hblk:(geoN n).blocks=n:=rfl
 refine boleref12_Image.ok (New.intro fun h2 n2=>⟨((geoN n).blocks:Int),rda n2.rd rfl,?_⟩)
 have e1:IntKind.wrap .i64 (((geoN n).blocks:Int)*512)=((512*n:Nat):Int):=by rw [wrap_i64 (by omega) (by omega)]; omega
 rw [e1,Int.toNat_natCast]
 refine ⟨⟨by omega,by omega,by omega,by omega⟩,New.intro fun h3 n3=>?_⟩
 have z2:=n2.size
 have z3:=n3.size
 have rg3:rd h3 h.size=(geoN n).v:=(n3.at_ n2.own.lt).trans n2.rd
 refine ⟨((geoN n).inodes:Int),rda rg3 rfl,((geoN n).bitmap:Int),rda rg3 rfl,?_⟩
 have e2:IntKind.wrap .i64 (IntKind.wrap .i64 (((geoN n).inodes:Int) - ((geoN n).bitmap:Int))*4096)=((4096*((geoN n).inodes - 98):Nat):Int):=by rw [wrap_i64 (n:=((geoN n).inodes:Int) - ((geoN n).bitmap:Int)) (by omega) (by omega),wrap_i64 (by omega) (by omega)]; omega
 rw [e2,Int.toNat_natCast]
 generalize hN:4096*((geoN n).inodes - 98)=N at hK ⊢
 refine ⟨⟨by omega,by omega,by omega,by omega⟩,New.intro fun h4 n4=>?_⟩
 have z4:=n4.size
 have F4:Fr No h h4:=(n2.fr.new n3).new n4
 have rg4:rd h4 h.size=(geoN n).v:=(n4.at_ (by omega)).trans rg3
 have rb4:rd h4 h2.size=(List.replicate (512*n) (0:UInt8)).map bv:=by rw [n4.at_ (by omega),n3.rd,List.map_replicate]; rfl
 have ob4:Own h4 h2.size:=n4.ow n3.own
 have ro4:rd h4 h3.size=(List.range N).map fun j=>Value.bool (lowU n 0 j):=by
  rw [n4.rd]
  show List.replicate N (Value.bool false)=_
  refine List.ext_getElem (by rw [List.length_replicate,List.length_map,List.length_range]) fun i h1 h2=>?_
  rw [List.getElem_replicate,List.getElem_map,List.getElem_range]
  unfold lowU
  rw [decide_eq_false (by omega)]; rfl
 -- which bits
 refine ⟨fun i hh=>∃ k:Nat,i=k∧k≤N∧Fr (fun b=>b=h3.size) h4 hh∧Own hh h3.size∧rd hh h3.size=(List.range N).map fun j=>Value.bool (lowU n k j),fun i _=>((N:Int) - i).toNat,⟨0,rfl,Nat.zero_le _,Fr.refl _ _,n4.own,ro4⟩,?_⟩
 rintro i h5 ⟨k,ei,hk,f5,o5,r5⟩
 have z5:=f5.size
 have rg5:rd h5 h.size=(geoN n).v:=(f5.rd (by omega) (by omega)).trans rg4
 have l5:(rd h5 h3.size).length=N:=by rw [r5,List.length_map,List.length_range]
 refine cd (fun hl=>?_) fun hl=>?_
 ·have hk':k<N:=by omega
  have set:∀ v,v=edge n k→(0≤i∧i<(N:Int))∧Put (Addr.add ⟨h3.size,0,none⟩ (Int.toNat i)) (.bool v) h5 fun h6=>(∃ k:Nat,IntKind.wrap .i64 (i+1)=k∧k≤N∧Fr (fun b=>b=h3.size) h4 h6∧Own h6 h3.size∧rd h6 h3.size=(List.range N).map fun j=>Value.bool (lowU n k j))∧((N:Int) - IntKind.wrap .i64 (i+1)).toNat<((N:Int) - i).toNat:=fun v hv=>by
   refine ⟨⟨by omega,by omega⟩,Put.add o5 (by rw [l5]; omega) fun h6 d6=>?_⟩
   rw [wrap_i64 (n:=i+1) (by omega) (by omega)]
   refine ⟨⟨k+1,by omega,hk',f5.trans d6.fr fun _ _ e=>e,d6.own,?_⟩,by omega⟩
   rw [d6.rd,r5,show 0+i.toNat=k by omega,set_range]
   refine List.map_congr_left fun j hj=>?_
   unfold lowU
   by_cases e:j=k
   ·subst e; rw [if_pos rfl,decide_eq_true (by omega),hv]; rfl
   ·have:decide (j<k+1)=decide (j<k):=decide_eq_decide.mpr (by omega)
    rw [if_neg e,this]
  refine ⟨((geoN n).data:Int),rda rg5 rfl,cd (fun hlt=>?_) fun hlt=>⟨((geoN n).blocks:Int),rda rg5 rfl,?_⟩⟩
  ·exact set true (by unfold edge; rw [decide_eq_true (by omega)]; rfl)
  ·refine set _ ?_
   unfold edge
   rw [decide_eq_false (show ¬ k<(geoN n).data by omega),Bool.false_or,decide_eq_decide]
   omega
 have ek:N=k:=by omega
 subst ek
 clear hl hk ei i
 -- the records
 have hW:∀ R ∈ recs,(encR R).length=64:=fun R hr=>encR_length (hR R hr)
 have lW:(recs.flatMap encR).length=recs.length*64:=by
  have:∀ l:List (List Int),(∀ R ∈ l,(encR R).length=64)→(l.flatMap encR).length=l.length*64:=by
   intro l
   induction l with
   | nil=>intro _; rfl
   | cons R l ih=>intro h; rw [List.flatMap_cons,List.length_append,h R (List.mem_cons_self ..),ih fun x hx=>h x (List.mem_cons_of_mem _ hx),List.length_cons]; omega
  exact this recs hW
 have hwr:recs.length*64≤448:=by omega
 have hz:(List.replicate (512*n) (0:UInt8)).length=512*n:=List.length_replicate
 have lP:∀ m,(putU (List.replicate (512*n) (0:UInt8)) (512*(geoN n).inodes+64) ((recs.flatMap encR).take m)).length=512*n:=fun m=>(putU_length (by rw [List.length_take,hz,lW]; omega)).trans hz
 have f5':Fr No h h5:=F4.trans f5 fun b hb y=>by omega
 have Y5:SlCells h5 ra (recs.flatMap ints):=SlCells.fr f5' Y fun _ _ y=>y
 refine ⟨fun i hh=>∃ k:Nat,i=k∧k≤recs.length∧Fr (fun b=>b=h2.size) h5 hh∧Own hh h2.size∧rd hh h2.size=(putU (List.replicate (512*n) (0:UInt8)) (512*(geoN n).inodes+64) ((recs.flatMap encR).take (64*k))).map bv,fun i _=>((recs.length:Int) - i).toNat,
  ⟨0,rfl,Nat.zero_le _,Fr.refl _ _,f5.own (by omega) (by omega) ob4,by rw [f5.rd (by omega) (by omega),rb4]; show _=(putU _ _ []).map bv; rw [putU_nil]⟩,?_⟩
 rintro i h8 ⟨k,ei,hk,f8,o8,r8⟩
 have z8:=f8.size
 have F8:Fr No h h8:=f5'.trans f8 fun b hb y=>by omega
 have rg8:rd h8 h.size=(geoN n).v:=(f8.rd (by omega) (by omega)).trans rg5
 refine cd (fun hl=>?_) fun hl=>?_
 ·have hk':k<recs.length:=by omega
  have Y8:=SlCells.fr f8 Y5 fun p hp y=>by
   subst hp
   have hb:p.block<h.size:=by
    have hl:0<(recs.flatMap ints).length:=by
     rw [flat_length ints 15 recs fun R hr=>by rw [ints_length,hR R hr]]; omega
    have:=Y 0 _ (List.getElem?_eq_getElem hl)
    obtain ⟨_,e2⟩:=cellOf_some this
    rw [Addr.add_zero] at e2
    exact rd_lt e2
   omega
  have hw:∀ R ∈ recs,(ints R).length=15:=fun R hr=>by rw [ints_length,hR R hr]
  obtain ⟨p,ep,cc⟩:∃ p,ra=some p∧Cells h8 (p.add (k*15)) (ints (recs[k]'hk')):=by
   cases ra with
   | none =>
    have c:recs.flatMap ints=[]:=Y8
    have:=flat_length ints 15 recs hw
    rw [c] at this
    exact absurd this (by simp; omega)
   | some p =>
    refine ⟨p,rfl,?_⟩
    have:=Cells.take (Cells.drop Y8 (k*15)) 15
    rw [flat_part ints 15 recs hw k hk'] at this
    exact this
  have hr:=List.getElem_mem hk'
  have lR:=hR _ hr
  have lE:=hW _ hr
  have mR:=hm _ hr
  have dR:=hd _ hr
  have eW:∀ m (h:m<64),(recs.flatMap encR)[64*k+m]'(by rw [lW]; omega)=(encR (recs[k]'hk'))[m]'(by rw [lE]; exact h):=fun m hm=>by
   have:∀ (l:List (List Int)),(∀ R ∈ l,(encR R).length=64)→∀ k (hk:k<l.length) (hx:64*k+m<(l.flatMap encR).length) (hy:m<(encR l[k]).length),(l.flatMap encR)[64*k+m]=(encR l[k])[m]:=by
    intro l
    induction l with
    | nil=>intro _ k hk; exact absurd hk (Nat.not_lt_zero _)
    | cons R l ih =>
     intro h k hk hx hy
     have hR:=h R (List.mem_cons_self ..)
     cases k with
     | zero =>
      simp only [List.flatMap_cons,Nat.mul_zero,Nat.zero_add,List.getElem_cons_zero]
      rw [List.getElem_append_left]
     | succ k =>
      simp only [List.flatMap_cons,List.getElem_cons_succ]
      rw [List.getElem_append_right (by omega)]
      have hx':64*k+m<(l.flatMap encR).length:=by rw [List.flatMap_cons,List.length_append] at hx; omega
      have:=ih (fun x hx=>h x (List.mem_cons_of_mem _ hx)) k (by rw [List.length_cons] at hk; omega) hx' hy
      rw [← this]
      congr 1; omega
   exact this recs hW k hk' _ _
  generalize recs[k]'hk'=R at cc lR lE mR dR eW
  refine ⟨⟨by omega,hl⟩,Tm.oe ep ⟨_,by rw [ints_length,lR],by rw [show i.toNat=k by omega]; exact cc,NewRow.intro (by rw [ints_length,lR]) (ints_one _) rfl fun h10 n10=>⟨_,by rw [ints_length,lR],cellsAll n10.rd,?_⟩⟩⟩
  have z10:=n10.size
  refine In.rEncode_spec lR (fun y=>by rw [mR] at y; cases y) fun _ a1 c1 h11 f11 s11=>⟨_,_,_,_,rfl,cn (fun y=>absurd rfl y) fun _=>?_⟩
  have z11:=f11.size
  have rg11:rd h11 h.size=(geoN n).v:=(f11.rd (by omega) fun y=>y).trans ((n10.at_ (by omega)).trans rg8)
  have r11:rd h11 h8.size=ints R:=(f11.rd (by omega) fun y=>y).trans n10.rd
  refine ⟨((geoN n).count:Int),rda rg11 rfl,?_⟩
  rw [wrap_i64 (n:=i+1) (by omega) (by omega)]
  refine cd (fun y=>by exfalso; omega) fun _=>?_
  unfold boleref12_Image.k1
  have ew:IntKind.wrap .i64 (i+1)=i+1:=wrap_i64 (by omega) (by omega)
  rw [ew,e1,Int.toNat_natCast]
  have f11':Fr (fun b=>b=h2.size) h5 h11:=(f8.new n10).no f11
  have b11:rd h11 h2.size=_:=(f11.rd (by omega) fun y=>y).trans ((n10.at_ (by omega)).trans r8)
  have o11:Own h11 h2.size:=f11.own (by omega) (fun y=>y) (n10.ow o8)
  obtain ⟨p2,ep2,c2⟩:=s11.get (by omega)
  subst ep2
  obtain ⟨pb,po,sp⟩:=p2
  have esp:sp=none:=s11.2.1
  subst esp
  have hfrom:h10.size≤pb:=s11.2.2.1
  refine ⟨fun j hh=>∃ m:Nat,j=m∧m≤64∧Fr (fun b=>b=h2.size) h11 hh∧Own hh h2.size∧rd hh h2.size=(putU (List.replicate (512*n) (0:UInt8)) (512*(geoN n).inodes+64) ((recs.flatMap encR).take (64*k+m))).map bv,fun j _=>(64 - j).toNat,⟨0,rfl,by omega,Fr.refl _ _,o11,b11⟩,?_⟩
  rintro j h12 ⟨m,ej,hm,f12,o12,r12⟩
  have z12:=f12.size
  have rg12:rd h12 h.size=(geoN n).v:=(f12.rd (by omega) (by omega)).trans rg11
  refine cd (fun hlt=>?_) fun hlt=>?_
  ·have hm':m<64:=by omega
   have s12:=s11.fr f12 fun b _ hb y=>by have hb:h10.size≤b:=hb; omega
   have c12:cellOf h12 (Addr.add ⟨pb,po,none⟩ m)=some (bv ((encR R)[m]'(by rw [lE]; exact hm'))):=s12.cells m _ (by rw [List.getElem?_map,List.getElem?_eq_getElem (by rw [lE]; exact hm')]; rfl)
   have eidx:IntKind.wrap .i64 ((IntKind.wrap .i64 ((IntKind.wrap .i64 (((geoN n).inodes:Int)*512))+(IntKind.wrap .i64 (64*(i+1)))))+j)=((512*(geoN n).inodes+64+(64*k+m):Nat):Int):=by
    rw [wrap_i64 (n:=((geoN n).inodes:Int)*512) (by omega) (by omega),wrap_i64 (n:=64*(i+1)) (by omega) (by omega),wrap_i64 (n:=((geoN n).inodes:Int)*512+64*(i+1)) (by omega) (by omega),wrap_i64 (by omega) (by omega)]
    omega
   refine ⟨((geoN n).inodes:Int),rda rg12 rfl,⟨by omega,by omega⟩,os ⟨_,by rw [show j.toNat=m by omega]; exact c12,?_⟩⟩
   rw [eidx]
   refine ⟨⟨by omega,by omega⟩,Put.add o12 (by rw [r12,List.length_map,lP]; omega) fun h13 d13=>?_⟩
   rw [wrap_i64 (n:=j+1) (by omega) (by omega)]
   refine ⟨⟨m+1,by omega,hm',f12.trans d13.fr fun _ _ e=>e,d13.own,?_⟩,by show (64 - (j+1)).toNat<(64 - j).toNat; omega⟩
   rw [d13.rd,r12,Int.toNat_natCast,Nat.zero_add]
   show (List.map bv _).set _ (bv _)=_
   rw [← List.map_set,← eW m hm',putU_snoc (by rw [lW]; omega) (by rw [lW,hz]; omega)]
   rfl
  have em:m=64:=by omega
  subst em
  have r12':rd h12 h8.size=ints R:=(f12.rd (by omega) (by omega)).trans r11
  refine ⟨ints ((R.drop 3).take 10),by rw [ints_length,List.length_take,List.length_drop,lR]; rfl,cellsa r12' ?_,?_⟩
  ·unfold ints
   rw [List.length_map,List.length_take,List.length_drop,lR,List.map_take,List.map_drop]
   rfl
  refine ⟨fun j hh=>∃ m:Nat,j=m∧m≤10∧hh=h12,fun j _=>(10 - j).toNat,⟨0,rfl,by omega,rfl⟩,?_⟩
  rintro j h14 ⟨m,ej',hm',rfl⟩
  refine cd (fun hlt=>⟨⟨by omega,by omega⟩,0,?_,((geoN n).data:Int),rda rg12 rfl,cd (fun y=>by exfalso; omega) fun _=>?_⟩) fun hlt=>?_
  ·have h10:m<10:=by omega
   have:=dR m h10
   rw [show j.toNat=m by omega]
   unfold ints
   rw [List.getElem?_map,List.getElem?_take_of_lt h10,List.getElem?_drop]
   rw [List.getD_eq_getElem?_getD,List.getElem?_eq_getElem (by omega)] at this
   rw [List.getElem?_eq_getElem (by omega)]
   show some (Value.int .i64 _)=_
   rw [show R[3+m]'(by omega)=0 from this]
  ·rw [wrap_i64 (n:=j+1) (by omega) (by omega)]
   exact ⟨⟨m+1,by omega,by omega,rfl⟩,by show (10 - (j+1)).toNat<(10 - j).toNat; omega⟩
  ·refine ⟨⟨k+1,by omega,hk',f11'.trans f12 fun _ _ e=>e,o12,?_⟩,by show ((recs.length:Int) - (i+1)).toNat<((recs.length:Int) - i).toNat; omega⟩
   rw [r12,show 64*(k+1)=64*k+64 by omega]
 have ek:k=recs.length:=by omega
 subst ek
 rw [List.take_of_length_le (by rw [lW]; omega)] at r8
 clear hl hk ei i
 -- the bits are set
 have ro8:rd h8 h3.size=(List.range N).map fun j=>Value.bool (lowU n N j):=(f8.rd (by omega) (by omega)).trans r5
 refine ⟨fun i hh=>∃ (k:Nat) (L:Txt),i=k∧k≤N∧Fr (fun b=>b=h2.size) h8 hh∧Own hh h2.size∧rd hh h2.size=L.map bv∧Ib n (recs.flatMap encR) k L,fun i _=>((N:Int) - i).toNat,⟨0,_,rfl,Nat.zero_le _,Fr.refl _ _,o8,r8,Ib.zero hn (by rw [lW]; exact hwr)⟩,?_⟩
 rintro i h16 ⟨k,L,ei,hk,f16,o16,r16,I⟩
 have z16:=f16.size
 have rg16:rd h16 h.size=(geoN n).v:=(f16.rd (by omega) (by omega)).trans rg8
 have lL:=I.im.len
 refine cd (fun hl=>⟨⟨by omega,hl⟩,edge n k,?_,?_⟩) fun hl=>?_
 ·have hk':k<N:=by omega
  refine rda ((f16.rd (by omega) (by omega)).trans ro8) ?_
  rw [List.getElem?_map,List.getElem?_eq_getElem (by rw [List.length_range]; omega),List.getElem_range]
  show some (Value.bool (lowU n N (0+i.toNat)))=_
  rw [show 0+i.toNat=k by omega]
  unfold lowU
  rw [decide_eq_true hk',Bool.true_and]
 ·have hk':k<N:=by omega
  rw [wrap_i64 (n:=i+1) (by omega) (by omega)]
  cases he:edge n k with
  | false=>exact cf rfl ⟨⟨k+1,L,by omega,hk',f16,o16,r16,I.miss he⟩,by show ((N:Int) - (i+1)).toNat<((N:Int) - i).toNat; omega⟩
  | true =>
   refine ct rfl ⟨fun v j hh=>∃ s:Nat,j=s∧s≤k % 8∧v=((2 ^ s:Nat):Int)∧hh=h16,fun _ j _=>(8 - j).toNat,⟨0,rfl,Nat.zero_le _,rfl,rfl⟩,?_⟩
   rintro v j h17 ⟨s,ej,hs,ev,rfl⟩
   rw [ei,tmod8,tdiv8]
   refine cd (fun hlt=>?_) fun hlt=>?_
   ·have h7:s<7:=by omega
    rw [wrap_i64 (n:=j+1) (by omega) (by omega),ev,pow_step ⟨s,h7⟩]
    exact ⟨⟨s+1,by omega,by omega,rfl,rfl⟩,by show (8 - (j+1)).toNat<(8 - j).toNat; omega⟩
   ·have es:s=k % 8:=by omega
    subst es
    have eidx:IntKind.wrap .i64 ((IntKind.wrap .i64 (((geoN n).bitmap:Int)*512))+(IntKind.wrap .i64 ((k / 8:Nat):Int)))=((98*512+k / 8:Nat):Int):=by
     rw [wrap_i64 (n:=((geoN n).bitmap:Int)*512) (by omega) (by omega),wrap_i64 (n:=((k / 8:Nat):Int)) (by omega) (by omega),wrap_i64 (by omega) (by omega)]
     omega
    have hi2:98*512+k / 8<L.length:=by omega
    have c17:cellOf h17 (Addr.add ⟨h2.size,0,none⟩ (98*512+k / 8))=some (bv (L.getD (98*512+k / 8) 0)):=by
     refine rda r16 ?_
     rw [Nat.zero_add,List.getElem?_map,List.getD_eq_getElem?_getD,List.getElem?_eq_getElem hi2]; rfl
    refine ⟨((geoN n).bitmap:Int),rda rg16 rfl,((geoN n).bitmap:Int),rda rg16 rfl,?_⟩
    rw [eidx,Int.toNat_natCast]
    refine ⟨⟨by omega,by omega⟩,_,c17,⟨by omega,by omega⟩,Put.add o16 (by rw [r16,List.length_map]; omega) fun h18 d18=>?_⟩
    have hx:(L.getD (98*512+k / 8) 0).toNat<256:=UInt8.toNat_lt _
    have hb:(L.getD (98*512+k / 8) 0).toNat.testBit (k % 8)=false:=by
     have:=I.im.bits k (by omega)
     unfold bitAt at this
     rw [show (98*4096+k) / 8=98*512+k / 8 by omega,show (98*4096+k) % 8=k % 8 by omega] at this
     rw [this]; unfold lowU; rw [decide_eq_false (by omega)]; rfl
    have ob:IntKind.wrap .u8 (((L.getD (98*512+k / 8) 0).toNat:Int)+v)=(setB (L.getD (98*512+k / 8) 0).toNat (k % 8) true:Nat):=by
     rw [ev]; exact bit_add ⟨_,hx⟩ ⟨k % 8,by omega⟩ hb
    have ex:(.int .u8 ((setB (L.getD (98*512+k / 8) 0).toNat (k % 8) true:Nat):Int):Value)=bv (UInt8.ofNat (setB (L.getD (98*512+k / 8) 0).toNat (k % 8) true)):=by
     show _=Value.int .u8 _
     rw [UInt8.toNat_ofNat_of_lt' (setB_lt' hx (by omega) true)]
    refine ⟨⟨k+1,putBit L (98*4096+k) true,by omega,hk',f16.trans d18.fr fun _ _ e=>e,d18.own,?_,I.hit hn (by omega) he⟩,by show ((N:Int) - ((k:Int)+1)).toNat<((N:Int) - (k:Int)).toNat; omega⟩
    rw [d18.rd,r16,ob,ex,← List.map_set,Nat.zero_add]
    unfold putBit
    rw [show (98*4096+k) / 8=98*512+k / 8 by omega,show (98*4096+k) % 8=k % 8 by omega]
 ·have ek:N=k:=by omega
  subst ek
  exact hK h2.size L h16 (F8.trans f16 fun b hb y=>by omega) I o16 (by omega) r16
end Go.Proofs.YtiapingedfnlnaaGreatDoor.Fi
namespace Go.Proofs.YtiapingedfnlnaaGreatDoor.Fi
open Go Go.Proofs Wx Hp W Ad Tm Bt Spc Re Av
open Hd (ints)
open In (Glo ints_length ints_one mayR decA encR encR_length decOk getR_enc wordOk kindOk)
open Ino (getM putM Cok getM_length rblk rat)
open Bm (findM addM num num4 nS Wf Tight path find_ok many Im edge Z0 fresh_av)
def dirR : List Int:=[2,2,0,0,0,0,0,0,0,0,0,0,0,0,0]
def filR : List Int:=[1,1,0,0,0,0,0,0,0,0,0,0,0,0,0]
theorem getD_putU {Z W:Txt} {o:Nat} (h:o+W.length≤Z.length) (p:Nat):(putU Z o W).getD p 0=if o≤p∧p<o+W.length then W.getD (p - o) 0 else Z.getD p 0:=by
 have lo:(Z.take o).length=o:=by rw [List.length_take]; omega
 unfold putU
 rw [List.getD_eq_getElem?_getD,List.append_assoc]
 by_cases h1:p<o
 ·rw [List.getElem?_append_left (by omega),List.getElem?_take_of_lt h1,if_neg (by omega),List.getD_eq_getElem?_getD]
 ·rw [List.getElem?_append_right (by omega),lo]
  by_cases h2:p - o<W.length
  ·rw [List.getElem?_append_left h2,if_pos (by omega),List.getD_eq_getElem?_getD]
  ·rw [List.getElem?_append_right (by omega),List.getElem?_drop,if_neg (by omega),List.getD_eq_getElem?_getD,show o+W.length+(p - o - W.length)=p by omega]
theorem slice0 {n k:Nat} {L:Txt} (d:Dim n) (hL:L.length=512*n) (h:k<(geoN n).count):((Z0 L (blkZ n k)).drop (64*(k % 8))).take 64=(List.range 64).map fun p=>L.getD (512*(geoN n).inodes+64*k+p) 0:=by
 have r:=blkZ_rng d h
 unfold Z0
 refine List.ext_getElem ?_ fun p h1 h2=>?_
 ·rw [List.length_take,List.length_drop,List.length_take,List.length_drop,hL,List.length_map,List.length_range]; omega
 ·rw [List.length_map,List.length_range] at h2
  rw [List.getElem_map,List.getElem_range,List.getElem_take,List.getElem_drop,List.getElem_take,List.getElem_drop]
  have e:blkZ n k*512+(64*(k % 8)+p)=512*(geoN n).inodes+64*k+p:=by unfold blkZ; omega
  rw [← e,List.getD_eq_getElem?_getD,List.getElem?_eq_getElem (by omega)]; rfl
end Go.Proofs.YtiapingedfnlnaaGreatDoor.Fi
namespace Go.Proofs.YtiapingedfnlnaaGreatDoor.Fi
open Go Go.Proofs Wx Hp W Ad Tm Bt Spc Re Av
open Hd (ints)
open In (Glo ints_length ints_one mayR decA encR encR_length)
open Ino (getM putM Cok getM_length rblk rat)
open Bm (num nS Wf Tight path path_self many miss Im edge Z0 fresh_av num_nil tight_nil wf_nil miss_zero path_chain chain_nS)
theorem cnt_from (a:Nat):∀ m,cnt (fun j=>decide (a≤j)) m=m - a
 | 0=>by rw [Nat.zero_sub]; rfl
 | m+1=>by
  show cnt (fun j=>decide (a≤j)) m+(if decide (a≤m)=true then 1 else 0)=_
  rw [cnt_from a m]
  by_cases h:a≤m
  ·rw [if_pos (decide_eq_true h)]; omega
  ·rw [if_neg (by rw [decide_eq_true_eq]; exact h)]; omega
theorem cnt_none {p:Nat→Bool}:∀ m,(∀ s,s<m→p s=false)→cnt p m=0
 | 0,_=>rfl
 | m+1,h=>by
  show cnt p m+(if p m=true then 1 else 0)=0
  rw [cnt_none m fun s hs=>h s (by omega),h m (by omega)]; rfl
end Go.Proofs.YtiapingedfnlnaaGreatDoor.Fi
namespace Go.Proofs.YtiapingedfnlnaaGreatDoor.Di
open Go Go.Proofs Ad Tm Bt Spc Av Ss Re
open Fi (blockM getM_at putM_at recZ recZ_put blkZ blkZ_rng pc pc_up pc_add pc_same pc_low pc_size blockM_ok undoM Gr Gr.refl num_up bit_data Wf.up num_size Wf.alike tight_alike many_alike frees_alike num_low bit_low num_same)
open Bm (findM addM num nS Wf Tight path Added find_ok add_ok path_self miss miss_zero many roots_num write_un addM_un)
open Ino (getM putM)
open In (mayR encR encR_length kindOk wordOk)
open Sk (E ents low nameOk dec dec_blk blk_length zero_good)
theorem mayR_dir {n:Nat} {Z:Nat→Tm.Txt} {R:List Int} (d:Dim n) (w:Wf n Z R) (h0:R.getD 0 0=2) (h1:2≤R.getD 1 0∧R.getD 1 0≤65535) (h2:0≤R.getD 2 0∧R.getD 2 0≤8459264) (h3:R.getD 2 0 % 512=0):mayR R=true:=by
 have hn:=d.hi
 unfold mayR
 rw [Bool.and_eq_true]
 constructor
 ·rw [List.all_eq_true]
  intro v hv
  obtain ⟨i,hi,e⟩:=List.mem_iff_getElem.mp hv
  rw [List.length_drop,w.rl] at hi
  rw [List.getElem_drop] at e
  have eg:R.getD (3+i) 0=v:=by rw [List.getD_eq_getElem?_getD,List.getElem?_eq_getElem (by rw [w.rl]; omega)]; exact e
  have lo:=w.rr (3+i) (by omega) (by omega)
  have hi2:v≤n:=by
   obtain ⟨a1,a2,a3⟩:=roots_num w
   have bd:∀ s,s<nS→((num Z R s:Nat):Int)≤n:=fun s hs=>by
    by_cases h:num Z R s=0
    ·omega
    ·have:=(w.rng s hs h).2.1; omega
   rw [← eg]
   rcases Nat.lt_or_ge i 10 with h|h
   ·rw [a1 i h]; exact bd i (by unfold nS; omega)
   ·rcases Nat.lt_or_ge i 11 with h'|h'
    ·rw [show 3+i=13 by omega,a2]; exact bd _ (by decide)
    ·rw [show 3+i=14 by omega,a3]; exact bd _ (by decide)
  unfold wordOk
  rw [Bool.and_eq_true,decide_eq_true_eq,decide_eq_true_eq]
  omega
 ·rw [In.kindOk,h0,if_neg (by decide),if_neg (by decide),if_pos rfl,Bool.and_eq_true,Bool.and_eq_true,Bool.and_eq_true,Bool.and_eq_true,decide_eq_true_eq,decide_eq_true_eq,decide_eq_true_eq,decide_eq_true_eq,decide_eq_true_eq]
  exact ⟨h1,h2,h3⟩
theorem Dir.alike {Z Z':Nat→Tm.Txt} {R:List Int} {H:List Cl} (D:Dir Z R H) (N:∀ s,s<nS→num Z' R s=num Z R s) (P:∀ k,k<16522→pc Z' R k=pc Z R k):Dir Z' R H :=
 ⟨D.kind,D.links,D.size,D.sixt,D.most,D.good,fun s hs=>by rw [N s hs]; exact D.dom s hs,fun k hk=>by
  have:=D.most
  rw [P k (by omega)]; exact D.blk k hk⟩
structure Dd (n u:Nat) (A:List Int) (Z:Nat→Tm.Txt) (T:TM) (i:Nat) (R:List Int) (H:List Cl) (j:Nat) (S:List Int) (J:List Cl):Prop where
 av:Av n Z T
 w:Wf n Z R
 w':Wf n Z S
 tg:Tight Z R
 tg':Tight Z S
 dis:∀ s s',s<nS→s'<nS→num Z R s≠0→num Z R s≠num Z S s'
 gi:recZ n Z i=(R,0)
 gj:recZ n Z j=(S,0)
 di:Dir Z R H
 dj:Dir Z S J
 ri:1≤i∧i<(geoN n).count
 rj:1≤j∧j<(geoN n).count
 ij:i≠j
 tot:frees n Z+many Z R+many Z S+u=n
 kin:∀ x ∈ ks T,x ∈ A∨x<(geoN n).data∨(∃ s,s<10∧x=((num Z R s:Nat):Int))∨∃ s,s<10∧x=((num Z S s:Nat):Int)
section
variable {n u i j : Nat} {A : List Int} {Z : Nat → Tm.Txt} {T : TM} {R S : List Int} {H J : List Cl}
theorem Dd.sym (f:Dd n u A Z T i R H j S J):Dd n u A Z T j S J i R H :=
 ⟨f.av,f.w',f.w,f.tg',f.tg,fun s s' hs hs' h e=>f.dis s' s hs' hs (by rw [← e]; exact h) e.symm,f.gj,f.gi,f.dj,f.di,f.rj,f.ri,fun e=>f.ij e.symm,by have:=f.tot; omega,fun x hx=>(f.kin x hx).imp id fun h=>h.imp id Or.symm⟩
theorem Dd.kl (f:Dd n u A Z T i R H j S J):(ks T).length≤A.length+((geoN n).data - 98)+20:=by
 have:=nodup_len (m:=A++((List.range ((geoN n).data - 98)).map fun k=>((98+k:Nat):Int))++(((List.range 10).map fun s=>((num Z R s:Nat):Int))++(List.range 10).map fun s=>((num Z S s:Nat):Int))) f.av.keys fun x hx=>by
  rw [List.mem_append,List.mem_append,List.mem_append]
  have r:=f.av.rng x hx
  rcases f.kin x hx with h|h|⟨s,hs,e⟩|⟨s,hs,e⟩
  ·exact .inl (.inl h)
  ·exact .inl (.inr (List.mem_map.mpr ⟨(x - 98).toNat,List.mem_range.mpr (by omega),by omega⟩))
  ·exact .inr (.inl (List.mem_map.mpr ⟨s,List.mem_range.mpr hs,e.symm⟩))
  ·exact .inr (.inr (List.mem_map.mpr ⟨s,List.mem_range.mpr hs,e.symm⟩))
 simp only [List.length_append,List.length_map,List.length_range] at this
 omega
theorem Dd.cell (d:Dim n) (f:Dd n u A Z T i R H j S J) (hA:A.length+((geoN n).data - 98)<60) {p:Nat} (hp:p<H.length) {c:Cl} (gc:Sk.Good c) :
  (T.write ((num Z R (p / 16):Nat):Int) (Sk.blk ((seg H (p / 16)).set (p % 16) c))).2=0∧Dd n u A (up Z (num Z R (p / 16)) (Sk.blk ((seg H (p / 16)).set (p % 16) c))) (T.write ((num Z R (p / 16):Nat):Int) (Sk.blk ((seg H (p / 16)).set (p % 16) c))).1 i R (H.set p c) j S J:=by
 have h6:=f.di.sixt
 have hm:=f.di.most
 have hk:p / 16<16522:=by omega
 have hkn:p / 16<nS:=by unfold nS; omega
 have h0:num Z R (p / 16)≠0:=(f.di.dom _ hkn).mpr (by omega)
 have r:=f.w.rng _ hkn h0
 have hd:=d.data
 have l16:=seg_len (H:=H) (k:=p / 16) h6 (by omega)
 have gs:∀ x ∈ (seg H (p / 16)).set (p % 16) c,Sk.Good x:=Sk.set_good (fun x hx=>f.di.good x (seg_mem hx)) gc
 have hl:(Sk.blk ((seg H (p / 16)).set (p % 16) c)).length=512:=by rw [blk_length gs,List.length_set,l16]
 have kl:=f.kl
 have hw:(T.write ((num Z R (p / 16):Nat):Int) (Sk.blk ((seg H (p / 16)).set (p % 16) c))).2=0:=by
  rcases f.av.write_full (i:=num Z R (p / 16)) (by omega) r.2.1 hl with h|⟨_,h,_⟩
  ·exact h
  ·exfalso; omega
 refine ⟨hw,?_⟩
 have kw:=write_keys hw
 generalize hbs:Sk.blk ((seg H (p / 16)).set (p % 16) c)=bs at hl hw kw ⊢
 have N:=num_up (bs:=bs) f.w hk h0
 have oz:∀ s,s<nS→num Z S s≠0→up Z (num Z R (p / 16)) bs (num Z S s)=Z (num Z S s):=fun s hs h=>up_ne _ _ fun e=>f.dis _ s hkn hs h0 e.symm
 have NS:=num_same oz
 have eb:∀ x,x<n→bit (up Z (num Z R (p / 16)) bs) x=bit Z x:=fun x hx=>bit_data d r.1 hx
 have reck:∀ k,k<(geoN n).count→recZ n (up Z (num Z R (p / 16)) bs) k=recZ n Z k:=fun k hk=>by
  have rb:=blkZ_rng d hk
  unfold recZ; rw [up_ne _ _ (by omega)]
 refine ⟨f.av.write (by omega) r.2.1 hl hw,Wf.up d f.w hk h0,Wf.alike f.w' f.w'.rl f.w'.rr NS fun x hx h=>by rw [eb x hx]; exact h,tight_alike f.tg N,tight_alike f.tg' NS,fun s s' hs hs' h=>?_,?_,?_,?_,f.dj.alike NS fun k hk=>pc_same oz hk,f.ri,f.rj,f.ij,?_,fun x hx=>?_⟩
 ·rw [N s hs] at h ⊢; rw [NS s' hs']; exact f.dis s s' hs hs' h
 ·rw [reck i f.ri.2]; exact f.gi
 ·rw [reck j f.rj.2]; exact f.gj
 ·have D:=f.di
  refine ⟨D.kind,D.links,by rw [List.length_set]; exact D.size,by rw [List.length_set]; exact h6,by rw [List.length_set]; exact hm,Sk.set_good D.good gc,fun s hs=>by rw [N s hs,List.length_set]; exact D.dom s hs,fun k hk'=>?_⟩
  rw [List.length_set] at hk'
  rw [pc_up f.w hk h0 (by omega),seg_set]
  by_cases e:p / 16=k
  ·rw [if_pos e.symm,if_pos e,← e,hbs]
  ·rw [if_neg fun y=>e y.symm,if_neg e]; exact D.blk k hk'
 ·rw [frees_alike eb,many_alike N,many_alike NS]; exact f.tot
 ·rcases (kw x).mp hx with h|h
  ·rcases f.kin x h with h|h|⟨s,hs,e⟩|⟨s,hs,e⟩
   ·exact .inl h
   ·exact .inr (.inl h)
   ·exact .inr (.inr (.inl ⟨s,hs,by rw [N s (by unfold nS; omega)]; exact e⟩))
   ·exact .inr (.inr (.inr ⟨s,hs,by rw [NS s (by unfold nS; omega)]; exact e⟩))
  ·exact .inr (.inr (.inl ⟨p / 16,by omega,by rw [N _ hkn]; exact h⟩))
theorem pathS {k:Nat} (h:k<10):path k=[k]:=by unfold path; rw [if_pos h]
def fresh16 (c:Cl):List Cl:=c::List.replicate 15 (0,[])
theorem fresh16_good {c:Cl} (g:Sk.Good c):∀ x ∈ fresh16 c,Sk.Good x:=fun x hx=>by
 rcases List.mem_cons.mp hx with rfl|hx
 ·exact g
 ·rw [List.eq_of_mem_replicate hx]; exact zero_good
theorem Dd.grow (d:Dim n) (f:Dd n u A Z T i R H j S J) (hA:A.length+((geoN n).data - 98)<60) (hH:H.length<160) (hf:1≤frees n Z) {c:Cl} (gc:Sk.Good c) :
  ∃ T2 R2 v,addM T (geoN n) R ((H.length / 16:Nat):Int)=(T2,R2,v,0)∧T2.read v=(Sk.blk (List.replicate 16 (0,[])),0)∧(T2.write v (Sk.blk (fresh16 c))).2=0∧R2.set 2 (R2.getD 2 0+512)≠R∧R2.length=15 ∧
   ∃ Z' T',putM (T2.write v (Sk.blk (fresh16 c))).1 (geoN n) i (R2.set 2 (R2.getD 2 0+512))=(T',0)∧Dd n u A Z' T' i (R2.set 2 (R2.getD 2 0+512)) (H++fresh16 c) j S J∧frees n Z'+1=frees n Z∧T'.undo.length≤T.undo.length+11∧T'.disk=T.disk:=by
 have D:=f.di
 have h6:=D.sixt
 have hm:=D.most
 have hsz:=D.size
 have kl:=f.kl
 have hk:H.length / 16<16522:=by omega
 have hkn:H.length / 16<nS:=by unfold nS; omega
 have k10:H.length / 16<10:=by omega
 have hz:num Z R (H.length / 16)=0:=Classical.byContradiction fun y=>by have:=(D.dom _ hkn).mp y; omega
 have hd:=d.data
 have hin:(geoN n).inodes≤(geoN n).data:=Nat.le_add_right _ _
 generalize hK:H.length / 16=k at hk hkn k10 hz ⊢
 have m1:miss Z R (path k)=1:=by rw [pathS k10]; unfold miss; rw [if_pos hz]; rfl
 rcases add_ok d f.av f.w hk with ⟨_,h⟩|⟨_,h⟩|⟨T2,R2,Z2,e,av2,ad,_,kk,_⟩
 ·exfalso; omega
 ·exfalso; omega
 have un2:=addM_un (T:=T) (g:=geoN n) (R:=R) (k:=(k:Int))
 rw [e] at un2
 have un2:T2.undo.length≤T.undo.length+9:=un2
 have x2:=Fi.add_ext d f.av f.w hk (Ext.refl T)
 rw [e] at x2
 have x3:=x2.write ((num Z2 R2 k:Nat):Int) (Sk.blk (fresh16 c))
 have g2:=(Gr.refl f.w f.tg).add hk ad
 have v0:num Z2 R2 k≠0:=ad.got _ (path_self _)
 have rv:=ad.w.rng _ hkn v0
 have ez:Z2 (num Z2 R2 k)=zeros:=ad.zero k (path_self _) hk hz
 have gs:=fresh16_good gc
 have lb:(Sk.blk (fresh16 c)).length=512:=by rw [blk_length gs]; rfl
 have k2:(ks T2).length≤A.length+((geoN n).data - 98)+21:=by
  have:=nodup_len (m:=ks T++((List.range ((geoN n).data - 98)).map fun k=>((98+k:Nat):Int))++[((num Z2 R2 k:Nat):Int)]) av2.keys fun x hx=>by
   rw [List.mem_append,List.mem_append]
   have r:=av2.rng x hx
   rcases kk x hx with h|h|⟨s,hs,e⟩
   ·exact .inl (.inl h)
   ·exact .inl (.inr (List.mem_map.mpr ⟨(x - 98).toNat,List.mem_range.mpr (by omega),by omega⟩))
   ·rw [pathS k10,List.mem_singleton] at hs
    rw [hs] at e
    exact .inr (List.mem_singleton.mpr e)
  simp only [List.length_append,List.length_map,List.length_range,List.length_singleton] at this
  have:=nodup_len (m:=A++((List.range ((geoN n).data - 98)).map fun k=>((98+k:Nat):Int))++(((List.range 10).map fun s=>((num Z R s:Nat):Int))++((List.range 10).map fun s=>((num Z S s:Nat):Int))++[((num Z2 R2 k:Nat):Int)])) av2.keys fun x hx=>by
   rw [List.mem_append,List.mem_append,List.mem_append,List.mem_append]
   have r:=av2.rng x hx
   rcases kk x hx with h|h|⟨s,hs,e⟩
   ·rcases f.kin x h with h|h|⟨s,hs,e⟩|⟨s,hs,e⟩
    ·exact .inl (.inl h)
    ·exact .inl (.inr (List.mem_map.mpr ⟨(x - 98).toNat,List.mem_range.mpr (by omega),by omega⟩))
    ·exact .inr (.inl (.inl (List.mem_map.mpr ⟨s,List.mem_range.mpr hs,e.symm⟩)))
    ·exact .inr (.inl (.inr (List.mem_map.mpr ⟨s,List.mem_range.mpr hs,e.symm⟩)))
   ·exact .inl (.inr (List.mem_map.mpr ⟨(x - 98).toNat,List.mem_range.mpr (by omega),by omega⟩))
   ·rw [pathS k10,List.mem_singleton] at hs
    rw [hs] at e
    exact .inr (.inr (List.mem_singleton.mpr e))
  simp only [List.length_append,List.length_map,List.length_range,List.length_singleton] at this
  omega
 have hw:(T2.write ((num Z2 R2 k:Nat):Int) (Sk.blk (fresh16 c))).2=0:=by
  rcases av2.write_full (i:=num Z2 R2 k) (by omega) rv.2.1 lb with h|⟨_,h,_⟩
  ·exact h
  ·exfalso; omega
 have l2:R2.length=15:=ad.w.rl
 have hd2:R2.getD 2 0=R.getD 2 0:=ad.head 2 (by decide)
 have gR3:(R2.set 2 (R2.getD 2 0+512)).getD 2 0=R2.getD 2 0+512:=by rw [List.getD_eq_getElem?_getD,List.getElem?_set_self (by omega)]; rfl
 have gn:∀ x,x≠2→(R2.set 2 (R2.getD 2 0+512)).getD x 0=R2.getD x 0:=fun x hx=>by
  rw [List.getD_eq_getElem?_getD,List.getElem?_set_ne (by omega),← List.getD_eq_getElem?_getD]
 refine ⟨T2,R2,_,e,?_,hw,fun y=>?_,l2,?_⟩
 ·rw [av2.z _ rv.2.1,ez]
  have:zeros=Sk.blk (List.replicate 16 (0,[])):=by decide +kernel
  rw [this]
 ·have:=congrArg (fun l:List Int=>l.getD 2 0) y
  simp only [gR3] at this
  omega
 have av3:=av2.write (by omega) rv.2.1 lb hw
 have kw:=write_keys hw
 have kl3:=(write_len hw).1
 have un3:=write_un T2 ((num Z2 R2 k:Nat):Int) (Sk.blk (fresh16 c))
 have x3:Ext T (T2.write ((num Z2 R2 k:Nat):Int) (Sk.blk (fresh16 c))).1:=x3
 generalize hT3:(T2.write ((num Z2 R2 k:Nat):Int) (Sk.blk (fresh16 c))).1=T3 at av3 kw kl3 un3 x3 ⊢
 have g3:=g2.put d hk v0 (Sk.blk (fresh16 c))
 have N3:=num_up (bs:=Sk.blk (fresh16 c)) ad.w hk v0
 have P3:∀ x,x<16522→pc (up Z2 (num Z2 R2 k) (Sk.blk (fresh16 c))) R2 x=if x=k then Sk.blk (fresh16 c) else pc Z R x:=fun x hx=>by rw [pc_up ad.w hk v0 hx,pc_add f.w ad hk hx]
 have k3:∀ x ∈ ks T3,x ∈ A∨x<(geoN n).data∨(∃ s,s<10∧x=((num (up Z2 (num Z2 R2 k) (Sk.blk (fresh16 c))) R2 s:Nat):Int))∨∃ s,s<10∧x=((num Z S s:Nat):Int):=fun x hx=>by
  have mine:x=((num Z2 R2 k:Nat):Int)→∃ s,s<10∧x=((num (up Z2 (num Z2 R2 k) (Sk.blk (fresh16 c))) R2 s:Nat):Int):=fun h=>⟨k,k10,by rw [N3 k hkn]; exact h⟩
  rcases (kw x).mp hx with h|h
  ·rcases kk x h with h|h|⟨s,hs,ex⟩
   ·rcases f.kin x h with h|h|⟨s,hs,ex⟩|h
    ·exact .inl h
    ·exact .inr (.inl h)
    ·by_cases hs0:num Z R s=0
     ·rw [hs0] at ex; exact .inr (.inl (by omega))
     ·have hsn:s<nS:=by unfold nS; omega
      exact .inr (.inr (.inl ⟨s,hs,by rw [g3.keep s hsn hs0]; exact ex⟩))
    ·exact .inr (.inr (.inr h))
   ·exact .inr (.inl (by omega))
   ·rw [pathS k10,List.mem_singleton] at hs
    rw [hs] at ex
    exact .inr (.inr (.inl (mine ex)))
  ·exact .inr (.inr (.inl (mine h)))
 generalize hZ3:up Z2 (num Z2 R2 k) (Sk.blk (fresh16 c))=Z3 at av3 g3 P3 k3
 obtain ⟨oz,od⟩:=g3.other f.w' f.dis
 have rb:=blkZ_rng d f.ri.2
 generalize hR3:R2.set 2 (R2.getD 2 0+512)=R3 at gR3 gn ⊢
 have NN:∀ Zx x,x<nS→num Zx R3 x=num Zx R2 x:=fun Zx x hx=>by rw [← hR3]; exact num_size x hx
 have l3:R3.length=15:=by rw [← hR3,List.length_set,l2]
 have w3:Wf n Z3 R3:=Wf.alike g3.w l3 (fun x hx _=>by rw [gn x (by omega)]; exact g3.w.rr x hx (by omega)) (NN Z3) fun _ _ h=>h
 have q0:R3.getD 0 0=2:=by rw [gn 0 (by decide),ad.head 0 (by decide)]; exact D.kind
 have q1:2≤R3.getD 1 0∧R3.getD 1 0≤65535:=by rw [gn 1 (by decide),ad.head 1 (by decide)]; exact D.links
 have q2:R3.getD 2 0=((32*(H.length+16):Nat):Int):=by rw [gR3,hd2,hsz]; omega
 have m3:mayR R3=true:=mayR_dir d w3 q0 q1 (by omega) (by omega)
 have ep:=putM_at av3 d f.ri.1 f.ri.2 m3
 have lz:=av3.len _ rb.2.2.1
 have lp:(putU (Z3 (blkZ n i)) (64*(i % 8)) (encR R3)).length=512:=by rw [putU_length (by rw [encR_length l3]; omega),lz]
 have hw4:(T3.write ((blkZ n i:Nat):Int) (putU (Z3 (blkZ n i)) (64*(i % 8)) (encR R3))).2=0:=by
  rcases av3.write_full rb.2.2.2 rb.2.2.1 lp with h|⟨_,h,_⟩
  ·exact h
  ·exfalso; omega
 have av4:=av3.write rb.2.2.2 rb.2.2.1 lp hw4
 have kw4:=write_keys hw4
 have un4:=write_un T3 ((blkZ n i:Nat):Int) (putU (Z3 (blkZ n i)) (64*(i % 8)) (encR R3))
 have rp:=fun k=>recZ_put (n:=n) (i:=i) (k:=k) (Z:=Z3) l3 m3 lz
 have rec3:∀ q,1≤q→q<(geoN n).count→recZ n Z3 q=recZ n Z q:=fun q _ h2=>by
  have r:=blkZ_rng d h2
  unfold recZ
  rw [g3.cont _ r.2.2.1 r.1 (.inl r.2.1) fun x hx h e=>by have:=(g3.w.rng x hx h).1; omega]
 have x4:=(x3.write ((blkZ n i:Nat):Int) (putU (Z3 (blkZ n i)) (64*(i % 8)) (encR R3))).disk
 generalize hbs:putU (Z3 (blkZ n i)) (64*(i % 8)) (encR R3)=bs at ep av4 kw4 rp un4 hw4 x4
 have bl:∀ x,x<n→bit (up Z3 (blkZ n i) bs) x=bit Z3 x:=fun x hx=>bit_low d rb.1 hx
 have NR:∀ x,x<nS→num (up Z3 (blkZ n i) bs) R3 x=num Z3 R2 x:=fun x hx=>(num_low w3 rb.2.1 x hx).trans (NN Z3 x hx)
 have wS3:Wf n Z3 S:=Wf.alike f.w' f.w'.rl f.w'.rr (num_same oz) fun x hx h=>(g3.bits x hx).mpr (.inl h)
 have NS:∀ x,x<nS→num (up Z3 (blkZ n i) bs) S x=num Z S x:=fun x hx=>(num_low wS3 rb.2.1 x hx).trans (num_same oz x hx)
 have PS:∀ x,x<16522→pc (up Z3 (blkZ n i) bs) S x=pc Z S x:=fun x hx=>by rw [pc_low wS3 rb.2.1 hx]; exact pc_same oz hx
 have PR:∀ x,x<16522→pc (up Z3 (blkZ n i) bs) R3 x=if x=k then Sk.blk (fresh16 c) else pc Z R x:=fun x hx=>by rw [pc_low w3 rb.2.1 hx,← hR3,pc_size hx,P3 x hx]
 have fr:frees n (up Z3 (blkZ n i) bs)=frees n Z3:=frees_alike bl
 have mR:many (up Z3 (blkZ n i) bs) R3=many Z3 R2:=many_alike NR
 have mS:many (up Z3 (blkZ n i) bs) S=many Z S:=many_alike NS
 have tot3:=g3.tot
 have tot:=f.tot
 have m2:many Z3 R2=many Z R+1:=by
  have:=ad.many
  rw [m1] at this
  rw [← this]
  exact many_alike fun x hx=>by rw [← hZ3]; exact N3 x hx
 refine ⟨up Z3 (blkZ n i) bs,(T3.write ((blkZ n i:Nat):Int) bs).1,by rw [ep]; exact Prod.ext rfl hw4,⟨av4,Wf.alike w3 l3 w3.rr (num_low w3 rb.2.1) (fun x hx h=>by rw [bl x hx]; exact h),Wf.alike wS3 wS3.rl wS3.rr (num_low wS3 rb.2.1) (fun x hx h=>by rw [bl x hx]; exact h),
  tight_alike g3.tg NR,tight_alike f.tg' NS,fun x x' hx hx' h=>?_,?_,?_,?_,f.dj.alike NS PS,f.ri,f.rj,f.ij,by omega,fun x hx=>?_⟩,by omega,by omega,x4⟩
 ·rw [NR x hx] at h ⊢
  rw [NS x' hx']
  exact od x x' hx hx' h
 ·rw [rp i,if_pos rfl]
 ·rw [rp j,if_neg (fun e=>f.ij e.symm),rec3 j f.rj.1 f.rj.2]; exact f.gj
 ·have lf:(fresh16 c).length=16:=rfl
  refine ⟨q0,q1,by rw [List.length_append,lf]; exact q2,by rw [List.length_append,lf]; omega,by rw [List.length_append,lf]; omega,fun x hx=>(List.mem_append.mp hx).elim (D.good x) (gs x),fun s hs=>?_,fun q hq=>?_⟩
  ·rw [NR s hs,g3.dom s hs,D.dom s hs,List.length_append,lf]
   constructor
   ·rintro (h|⟨q,hq,h⟩)
    ·omega
    ·rw [List.mem_singleton] at hq
     rw [hq,pathS k10,List.mem_singleton] at h
     omega
   ·intro h
    by_cases e:s=k
    ·exact .inr ⟨k,List.mem_singleton.mpr rfl,by rw [pathS k10,e]; exact List.mem_singleton.mpr rfl⟩
    ·left; omega
  ·rw [List.length_append,lf] at hq
   rw [PR q (by omega)]
   by_cases e:q=k
   ·rw [if_pos e,e]
    have:seg (H++fresh16 c) k=fresh16 c:=by
     unfold seg
     rw [List.drop_append,List.drop_of_length_le (by omega),List.nil_append,show 16*k - H.length=0 by omega,List.drop_zero,List.take_of_length_le (by rw [lf]; exact Nat.le_refl _)]
    rw [this]
   ·rw [if_neg e]
    have:seg (H++fresh16 c) q=seg H q:=by
     unfold seg
     rw [List.drop_append_of_le_length (by omega),List.take_append_of_le_length (by rw [List.length_drop]; omega)]
    rw [this]; exact D.blk q (by omega)
 ·rcases (kw4 x).mp hx with h|h
  ·rcases k3 x h with h|h|⟨s,hs,ex⟩|⟨s,hs,ex⟩
   ·exact .inl h
   ·exact .inr (.inl h)
   ·exact .inr (.inr (.inl ⟨s,hs,by rw [NR s (by unfold nS; omega)]; exact ex⟩))
   ·exact .inr (.inr (.inr ⟨s,hs,by rw [NS s (by unfold nS; omega)]; exact ex⟩))
  ·exact .inr (.inl (by omega))
end
end Go.Proofs.YtiapingedfnlnaaGreatDoor.Di
namespace Go.Proofs.YtiapingedfnlnaaGreatDoor.Di
open Go Go.Proofs Ad Tm Bt Spc Av Ss Re
open Fi (recZ pc undoM)
open Bm (findM addM num nS Wf path add_ok miss_zero write_un)
open Ino (getM putM)
open Sk (E ents low nameOk dec dec_blk blk_length zero_good form blk_set)
theorem clr_blk {hs:List Cl} {k:Nat} (hl:hs.length=16) (g:∀ x ∈ hs,Sk.Good x) (hk:k<16):clrA (Sk.blk hs) (k:Int)=(0,Sk.blk (hs.set k (0,[]))):=by
 unfold clrA
 rw [if_neg (fun y=>y (by rw [blk_length g,hl])),if_pos ⟨by omega,by omega⟩,Int.toNat_natCast,← blk_set g zero_good (by omega)]
 rfl
theorem put_blk {hs:List Cl} {k v:Nat} {s:Tm.Txt} (hl:hs.length=16) (g:∀ x ∈ hs,Sk.Good x) (hk:k<16) (h1:1≤v) (h2:v<4294967296) (hs':nameOk s=true):putA (Sk.blk hs) ⟨(k:Int),s,(v:Int)⟩=(0,Sk.blk (hs.set k (v,s))):=by
 have ok:putOk ⟨(k:Int),s,(v:Int)⟩=true:=by
  unfold putOk
  simp only [Bool.and_eq_true,decide_eq_true_eq]
  exact ⟨⟨⟨⟨by omega,by omega⟩,by omega⟩,by omega⟩,hs'⟩
 unfold putA
 rw [if_neg (fun y=>y (by rw [blk_length g,hl])),if_pos ok,← blk_set g (.inr ⟨h1,h2,hs'⟩) (by omega)]
 rfl
theorem good_cell {v:Nat} {s:Tm.Txt} (h1:1≤v) (h2:v<4294967296) (hs:nameOk s=true):Sk.Good (v,s) := .inr ⟨h1,h2,hs⟩
theorem hasI_iff {g:G} {v:Int}:hasI g v=true↔1≤v∧v<g.count:=by
 unfold hasI
 rw [Bool.and_eq_true,decide_eq_true_eq,decide_eq_true_eq]
theorem count_lt {n:Nat} (d:Dim n):(geoN n).count<4294967296:=by
 have:=d.hi
 have:(geoN n).count=8*(n / 64):=rfl
 omega
section
variable {n u i j : Nat} {A : List Int} {Z : Nat → Tm.Txt} {T : TM} {R S : List Int} {H J : List Cl} {s : Tm.Txt}
theorem Dd.find (d:Dim n) (f:Dd n u A Z T i R H j S J) (hs:nameOk s=true):findD T (geoN n) i s=match pos s H with
  | some p=>((((H.getD p (0,[])).1:Nat):Int),0)
  | none=>(0,160):=find_dir f.av d f.w f.ri.1 f.ri.2 f.gi f.di hs
theorem Dd.seek (d:Dim n) (f:Dd n u A Z T i R H j S J) (hs:nameOk s=true):seekM T (geoN n) i s=match pos s H with
  | some p=>(some (hit Z R H s p),0)
  | none=>(none,160):=seek_ok f.av d f.w f.ri.1 f.ri.2 f.gi f.di hs
structure Done (n u:Nat) (A:List Int) (Z:Nat→Tm.Txt) (T:TM) (i:Nat) (H:List Cl) (j:Nat) (S:List Int) (J:List Cl) (T':TM) (H':List Cl):Prop where
 ex:∃ Z' R',Dd n u A Z' T' i R' H' j S J∧frees n Z'=frees n Z
 un:T'.undo.length≤T.undo.length+20
theorem Dd.remove_some {p:Nat} (d:Dim n) (f:Dd n u A Z T i R H j S J) (hA:A.length+((geoN n).data - 98)<60) (hs:nameOk s=true) (hp:pos s H=some p) :
  ∃ T',removeD T (geoN n) i s=(T',(((H.getD p (0,[])).1:Nat):Int),0)∧Done n u A Z T i H j S J T' (H.set p (0,[])):=by
 have hl:=(pos_some hp).1
 have l16:=seg_len (H:=H) (k:=p / 16) f.di.sixt (by have:=f.di.sixt; omega)
 obtain ⟨hw,D⟩:=f.cell d hA hl zero_good
 have e1:removeD T (geoN n) i s=putD T (hit Z R H s p) (clrA (Sk.blk (seg H (p / 16))) ((p % 16:Nat):Int)):=by
  unfold removeD
  rw [f.seek d hs,hp]; rfl
 have un:=write_un T ((num Z R (p / 16):Nat):Int) (Sk.blk ((seg H (p / 16)).set (p % 16) (0,[])))
 have e2:=clr_blk l16 (fun x hx=>f.di.good x (seg_mem hx)) (show p % 16<16 by omega)
 refine ⟨_,?_,⟨_,R,D,?_⟩,by omega⟩
 ·rw [e1,e2]
  show (if (0:Int)≠0 then _ else if (T.write ((num Z R (p / 16):Nat):Int) (Sk.blk ((seg H (p / 16)).set (p % 16) (0,[])))).2≠0 then _ else _)=_
  rw [if_neg (fun y=>y rfl),if_neg (fun y=>y hw)]; rfl
 ·have h6:=f.di.sixt
  have h0:num Z R (p / 16)≠0:=(f.di.dom _ (by have:=f.di.most; unfold nS; omega)).mpr (by omega)
  have r:=f.w.rng _ (by have:=f.di.most; unfold nS; omega) h0
  exact Fi.frees_alike fun x hx=>Fi.bit_data d r.1 hx
theorem Dd.mark (f:Dd n u A Z T i R H j S J):T.mark=((T.undo.length:Int),0):=by
 unfold TM.mark
 rw [f.av.live]; rfl
theorem Dd.add_have {v:Nat} (d:Dim n) (f:Dd n u A Z T i R H j S J) (hs:nameOk s=true) (hv:1≤v∧v<(geoN n).count) (hp:pos s H≠none):addD T (geoN n) i s v=(T,150):=by
 have e:(pos s H).isSome=true:=by
  cases h:pos s H with
  | none=>exact absurd h hp
  | some p=>rfl
 unfold addD
 rw [if_neg (by rw [hs]; simp),if_neg (by rw [hasI_iff.mpr ⟨by omega,by omega⟩]; simp),open_ok f.av d f.ri.1 f.ri.2 f.gi f.di,if_neg (fun y=>y rfl),leaves_ok f.av f.w f.di,if_neg (fun y=>y rfl)]
 refine if_pos ?_
 show (placeGo s ((List.range' 0 (H.length / 16)).map (leafOf Z R H)) (R.getD 2 0 / 512,-1,false)).2.2=true
 rw [place_ok f.di]
 cases free H <;> exact e
theorem Dd.add_eq {v:Nat} (d:Dim n) (f:Dd n u A Z T i R H j S J) (hs:nameOk s=true) (hv:1≤v∧v<(geoN n).count) (hp:pos s H=none):addD T (geoN n) i s v=undoM T (match free H with
  | some q=>addAt T (geoN n) i R ((q / 16:Nat):Int) ((q % 16:Nat):Int) s v
  | none=>addAt T (geoN n) i R ((H.length / 16:Nat):Int) (-1) s v):=by
 unfold addD
 rw [if_neg (by rw [hs]; simp),if_neg (by rw [hasI_iff.mpr ⟨by omega,by omega⟩]; simp),open_ok f.av d f.ri.1 f.ri.2 f.gi f.di,if_neg (fun y=>y rfl),leaves_ok f.av f.w f.di,if_neg (fun y=>y rfl),f.mark]
 have e:=place_ok (s:=s) f.di
 rw [hp] at e
 show (if (placeGo s ((List.range' 0 (H.length / 16)).map (leafOf Z R H)) (R.getD 2 0 / 512,-1,false)).2.2=true then _ else if (0:Int)≠0 then _ else undoM T (addAt T (geoN n) i R (placeGo s ((List.range' 0 (H.length / 16)).map (leafOf Z R H)) (R.getD 2 0 / 512,-1,false)).1 (placeGo s ((List.range' 0 (H.length / 16)).map (leafOf Z R H)) (R.getD 2 0 / 512,-1,false)).2.1 s v))=_
 rw [e]
 cases free H with
 | none=>rw [if_neg (by show ¬ (none:Option Nat).isSome=true; simp),if_neg (fun y=>y rfl)]
 | some q=>rw [if_neg (by show ¬ (none:Option Nat).isSome=true; simp),if_neg (fun y=>y rfl)]
theorem undoM_ok (T T':TM):undoM T (T',0)=(T',0):=if_neg fun y=>y rfl
theorem Dd.add_new {v:Nat} (d:Dim n) (f:Dd n u A Z T i R H j S J) (hA:A.length+((geoN n).data - 98)<60) (hs:nameOk s=true) (hv:1≤v∧v<(geoN n).count) (hp:pos s H=none) (hq:free H=none) (hH:H.length<160) (hf:1≤frees n Z) :
  ∃ T' Z' R',addD T (geoN n) i s v=(T',0)∧Dd n u A Z' T' i R' (H++fresh16 (v,s)) j S J∧frees n Z'+1=frees n Z∧T'.undo.length≤T.undo.length+20∧T'.disk=T.disk:=by
 have hc:=count_lt d
 obtain ⟨T2,R2,w,e,er,hw,hne,l2,Z',T',ep,D,hfr,un,dk⟩:=f.grow d hA hH hf (good_cell hv.1 (show v<4294967296 by omega) hs)
 have un:T'.undo.length≤T.undo.length+20:=by omega
 refine ⟨T',Z',_,?_,D,hfr,un,dk⟩
 rw [f.add_eq d hs hv hp,hq]
 show undoM T (addAt T (geoN n) i R ((H.length / 16:Nat):Int) (-1) s v)=_
 have e2:=put_blk (hs:=List.replicate 16 (0,[])) (k:=0) List.length_replicate (fun x hx=>by rw [List.eq_of_mem_replicate hx]; exact zero_good) (by decide) hv.1 (show v<4294967296 by omega) hs
 have e3:(List.replicate 16 ((0:Nat),([]:Tm.Txt))).set 0 (v,s)=fresh16 (v,s):=rfl
 rw [e3] at e2
 clear e3 D un hfr dk
 generalize Sk.blk (fresh16 (v,s))=bs at e2 hw ep
 generalize Sk.blk (List.replicate 16 (0,[]))=zs at e2 er
 have:addAt T (geoN n) i R ((H.length / 16:Nat):Int) (-1) s v=(T',0):=by
  unfold addAt
  rw [e]
  dsimp only
  rw [er]
  dsimp only
  rw [show max (-1:Int) 0=((0:Nat):Int) from rfl,e2]
  dsimp only
  rw [if_neg (fun y=>y rfl),if_neg (fun y=>y rfl),if_neg (fun y=>y rfl),if_neg (fun y=>y hw),if_pos (show (-1:Int)<0 by decide),if_neg hne]
  exact ep
 rw [this,undoM_ok]
end
end Go.Proofs.YtiapingedfnlnaaGreatDoor.Di
namespace Go.Proofs.YtiapingedfnlnaaGreatDoor.Di
open Go Go.Proofs Ad Tm Bt Spc Av Ss Re
open Bm (num nS many)
open Sk (E ents low nameOk NameOk nameOk_iff zero_good)
open Go.Op (bytesLess)
theorem bl_irr : ∀ x:Tm.Txt,bytesLess x x=false
 | []=>rfl
 | a::r=>by
  unfold bytesLess
  rw [bl_irr r,Bool.and_false,Bool.or_false,decide_eq_false_iff_not]
  exact UInt8.lt_irrefl a
theorem bl_cons (a b:UInt8) (x y:Tm.Txt):bytesLess (a::x) (b::y)=true↔a<b∨(a=b∧bytesLess x y=true):=by
 show (decide (a<b) || (a == b && bytesLess x y))=true↔_
 rw [Bool.or_eq_true,Bool.and_eq_true,decide_eq_true_eq,beq_iff_eq]
theorem bl_nil (x:Tm.Txt):bytesLess x []=false:=by cases x <;> rfl
theorem bl_trans : ∀ {x y z:Tm.Txt},bytesLess x y=true→bytesLess y z=true→bytesLess x z=true
 | _,_,[],_,h=>by rw [bl_nil] at h; cases h
 | _,[],_::_,h,_=>by rw [bl_nil] at h; cases h
 | [],_::_,_::_,_,_=>rfl
 | a::x,b::y,c::z,h1,h2=>by
  rw [bl_cons] at h1 h2 ⊢
  rcases h1 with h1|⟨rfl,h1⟩
  ·rcases h2 with h2|⟨rfl,h2⟩
   ·exact .inl (UInt8.lt_trans h1 h2)
   ·exact .inl h1
  ·rcases h2 with h2|⟨rfl,h2⟩
   ·exact .inl h2
   ·exact .inr ⟨rfl,bl_trans h1 h2⟩
theorem bl_tri : ∀ {x y:Tm.Txt},bytesLess x y=false→bytesLess y x=false→x=y
 | [],[],_,_=>rfl
 | [],_::_,h,_=>by cases h
 | _::_,[],_,h=>by cases h
 | a::x,b::y,h1,h2=>by
  have h1:¬ (a<b∨(a=b∧bytesLess x y=true)):=fun z=>by rw [(bl_cons a b x y).mpr z] at h1; cases h1
  have h2:¬ (b<a∨(b=a∧bytesLess y x=true)):=fun z=>by rw [(bl_cons b a y x).mpr z] at h2; cases h2
  have e:a=b:=by
   have n1:¬ a<b:=fun z=>h1 (.inl z)
   have n2:¬ b<a:=fun z=>h2 (.inl z)
   rw [UInt8.lt_iff_toNat_lt] at n1 n2
   exact UInt8.toNat_inj.mp (by omega)
  subst e
  have:=bl_tri (x:=x) (y:=y) (by cases q:bytesLess x y with|false=>rfl|true=>exact absurd (.inr ⟨rfl,q⟩) h1) (by cases q:bytesLess y x with|false=>rfl|true=>exact absurd (.inr ⟨rfl,q⟩) h2)
  rw [this]
def ltE (a b:E):Bool:=bytesLess a.name b.name || (a.name == b.name && decide (a.place<b.place))
theorem ltE_iff {a b:E}:ltE a b=true↔bytesLess a.name b.name=true∨(a.name=b.name∧a.place<b.place):=by
 unfold ltE
 rw [Bool.or_eq_true,Bool.and_eq_true,decide_eq_true_eq,beq_iff_eq]
theorem ltE_irr (a:E):ltE a a=false:=by
 cases q:ltE a a with
 | false=>rfl
 | true =>
  rcases ltE_iff.mp q with h|⟨_,h⟩
  ·rw [bl_irr] at h; cases h
  ·omega
theorem ltE_trans {a b c:E} (h1:ltE a b=true) (h2:ltE b c=true):ltE a c=true:=by
 rw [ltE_iff] at h1 h2 ⊢
 rcases h1 with h1|⟨e1,h1⟩
 ·rcases h2 with h2|⟨e2,h2⟩
  ·exact .inl (bl_trans h1 h2)
  ·rw [← e2]; exact .inl h1
 ·rcases h2 with h2|⟨e2,h2⟩
  ·rw [e1]; exact .inl h2
  ·exact .inr ⟨e1.trans e2,by omega⟩
theorem ltE_tri {a b:E} (h1:ltE a b=false) (h2:ltE b a=false):a.name=b.name∧a.place=b.place:=by
 have h1:¬ (bytesLess a.name b.name=true∨(a.name=b.name∧a.place<b.place)):=fun z=>by rw [ltE_iff.mpr z] at h1; cases h1
 have h2:¬ (bytesLess b.name a.name=true∨(b.name=a.name∧b.place<a.place)):=fun z=>by rw [ltE_iff.mpr z] at h2; cases h2
 have e:a.name=b.name:=bl_tri (by cases q:bytesLess a.name b.name with|false=>rfl|true=>exact absurd (.inl q) h1) (by cases q:bytesLess b.name a.name with|false=>rfl|true=>exact absurd (.inl q) h2)
 refine ⟨e,?_⟩
 have n1:¬ a.place<b.place:=fun z=>h1 (.inr ⟨e,z⟩)
 have n2:¬ b.place<a.place:=fun z=>h2 (.inr ⟨e.symm,z⟩)
 omega
def leE (a b:E):Prop:=ltE b a=false
def insE (c:E):List E→List E
 | []=>[c]
 | x::r=>if ltE c x=true then c::x::r else x::insE c r
def sortE : List E→List E
 | []=>[]
 | c::r=>insE c (sortE r)
theorem insE_perm (c:E):∀ l,(insE c l).Perm (c::l)
 | [] => .refl _
 | x::r=>by
  unfold insE
  split
  ·exact .refl _
  ·exact ((insE_perm c r).cons x).trans (.swap c x r)
theorem sortE_perm : ∀ l,(sortE l).Perm l
 | [] => .refl _
 | c::r=>(insE_perm c (sortE r)).trans ((sortE_perm r).cons c)
theorem insE_sorted {c:E}:∀ {l:List E},l.Pairwise leE→(insE c l).Pairwise leE
 | [],_=>List.pairwise_singleton _ _
 | x::r,h=>by
  have ⟨h1,h2⟩:=List.pairwise_cons.mp h
  unfold insE
  by_cases q:ltE c x=true
  ·rw [if_pos q]
   refine List.pairwise_cons.mpr ⟨fun y hy=>?_,h⟩
   have nx:ltE x c=false:=by
    cases z:ltE x c with
    | false=>rfl
    | true=>have:=ltE_trans q z; rw [ltE_irr] at this; cases this
   rcases List.mem_cons.mp hy with rfl|hy
   ·exact nx
   ·show ltE y c=false
    cases z:ltE y c with
    | false=>rfl
    | true=>have:=ltE_trans z q; rw [show ltE y x=false from h1 y hy] at this; cases this
  ·rw [if_neg q]
   refine List.pairwise_cons.mpr ⟨fun y hy=>?_,insE_sorted h2⟩
   rcases List.mem_cons.mp ((insE_perm c r).mem_iff.mp hy) with rfl|hy
   ·show ltE y x=false
    cases z:ltE y x with
    | false=>rfl
    | true=>exact absurd z q
   ·exact h1 y hy
theorem sortE_sorted : ∀ l:List E,(sortE l).Pairwise leE
 | [] => .nil
 | _::r=>insE_sorted (sortE_sorted r)
def Rise (l:List E):Prop:=l.Pairwise fun a b=>a.place<b.place
theorem Rise.inj : ∀ {l:List E},Rise l→∀ a ∈ l,∀ b ∈ l,a.place=b.place→a=b
 | [],_,a,ha,_,_,_=>by cases ha
 | x::r,h,a,ha,b,hb,e=>by
  have ⟨h1,h2⟩:=List.pairwise_cons.mp h
  rcases List.mem_cons.mp ha with ea|ha'
  ·rcases List.mem_cons.mp hb with eb|hb'
   ·rw [ea,eb]
   ·have:=h1 b hb'; rw [ea] at e; omega
  ·rcases List.mem_cons.mp hb with eb|hb'
   ·have:=h1 a ha'; rw [eb] at e; omega
   ·exact Rise.inj h2 a ha' b hb' e
theorem sorted_eq {l m:List E} (u:Rise l) (p:m.Perm l) (s:m.Pairwise leE):m=sortE l :=
 List.Perm.eq_of_pairwise (fun a b ha hb h1 h2=>u.inj a (p.mem_iff.mp ha) b ((sortE_perm l).mem_iff.mp hb) (ltE_tri h2 h1).2) s (sortE_sorted l) (p.trans (sortE_perm l).symm)
theorem ents_rise : ∀ (hs:List Cl) (k:Nat),Rise (ents k hs)
 | [],_ => .nil
 | x::r,k=>by
  unfold ents
  split
  ·exact ents_rise r (k+1)
  ·refine List.pairwise_cons.mpr ⟨fun y hy=>?_,ents_rise r (k+1)⟩
   obtain ⟨a,_,_⟩:=Sk.ents_range r (k+1) y hy
   show (k:Int)<y.place
   omega
theorem ans_rise (bs:List UInt8):Rise (ans bs).1∧∀ e ∈ (ans bs).1,0≤e.place∧e.place<16:=by
 unfold ans
 split
 ·exact ⟨.nil,fun _ h=>by cases h⟩
 ·rename_i hl
  cases hd:Sk.dec 16 bs with
  | none=>exact ⟨.nil,fun _ h=>by cases h⟩
  | some hs =>
   refine ⟨ents_rise hs 0,fun e he=>?_⟩
   obtain ⟨a,b,_⟩:=Sk.ents_range hs 0 e he
   have:=(Sk.blk_dec (n:=16) (b:=bs) (by have:¬ bs.length≠512:=hl; omega) hd).1
   omega
structure LeafOk (l:Leaf):Prop where
 rise:Rise l.cells
 rng:∀ e ∈ l.cells,0≤e.place∧e.place<16
theorem leafM_ok (T:TM) (g:G) (R:List Int) (k:Nat):LeafOk (leafM T g R k).1:=⟨(ans_rise _).1,(ans_rise _).2⟩
theorem leavesGo_rise (T:TM) (g:G) (R:List Int):∀ m k,Rise (allE (leavesGo T g R m k).1)∧∀ e ∈ allE (leavesGo T g R m k).1,16*(k:Int)≤e.place∧e.place<16*((k+m:Nat):Int)
 | 0,k=>⟨.nil,fun _ h=>by cases h⟩
 | m+1,k=>by
  unfold leavesGo
  split
  ·exact ⟨.nil,fun _ h=>by cases h⟩
  ·obtain ⟨a,b⟩:=leavesGo_rise T g R m (k+1)
   obtain ⟨c1,c2⟩:=leafM_ok T g R k
   have key:∀ e ∈ (leafM T g R k).1.cells.map (fun c=>(⟨c.place+16*((leafM T g R k).1.index:Int),c.name,c.inode⟩:E)),16*(k:Int)≤e.place∧e.place<16*((k:Nat):Int)+16:=fun e he=>by
    obtain ⟨c,hc,rfl⟩:=List.mem_map.mp he
    have:=c2 c hc
    show 16*(k:Int)≤c.place+16*(k:Int)∧c.place+16*(k:Int)<_
    omega
   show Rise ((leafM T g R k).1.cells.map _++allE _)∧∀ e ∈ (leafM T g R k).1.cells.map _++allE _,_
   refine ⟨List.pairwise_append.mpr ⟨List.pairwise_map.mpr (c1.imp fun h=>?_),a,fun x hx y hy=>?_⟩,fun e he=>?_⟩
   ·rename_i x y
    show x.place+16*(k:Int)<y.place+16*(k:Int)
    omega
   ·have:=key x hx
    have:=b y hy
    show x.place<y.place
    omega
   ·rcases List.mem_append.mp he with h|h
    ·have:=key e h; omega
    ·have:=b e h; omega
def listD (T:TM) (g:G) (n:Int):List E×Int:=if (openM T g n).2≠0 then ([],(openM T g n).2) else if (leavesM T g (openM T g n).1).2≠0 then ([],(leavesM T g (openM T g n).1).2) else (sortE (allE (leavesM T g (openM T g n).1).1),0)
end Go.Proofs.YtiapingedfnlnaaGreatDoor.Di
namespace Go.Proofs.YtiapingedfnlnaaGreatDoor.Tm
open Go Go.Proofs Wx Hp W Ad
def TM.ended (S:RD):TM:=⟨S,[],[],true⟩
theorem end_body {h:Heap} {b:Nat} {q x y z:Value} {K:Value→Heap→Prop} (o:Own h b) (e:rd h b=[q,x,y,z]) (hK:∀ h',Did b h h' [q,.map none,.slice none 0 0,.bool true]→K (.tuple #[]) h'):txn_Txn_end (some ⟨b,0,none⟩) K h:=by
 refine os (Put.add o (by rw [e]; show 1<4; omega) fun h2 d2=>?_)
 rw [e] at d2
 refine os (Put.add d2.own (by rw [d2.rd]; show 2<4; omega) fun h3 d3=>?_)
 rw [d2.rd] at d3
 refine os (Put.add d3.own (by rw [d3.rd]; show 3<4; omega) fun h4 d4=>?_)
 rw [d3.rd] at d4
 exact hK h4 ⟨by rw [d4.size,d3.size,d2.size],(d2.fr.trans d3.fr fun _ _ x=>x).trans d4.fr fun _ _ x=>x,d4.own,d4.rd⟩
theorem TxC.shut {h h7 h8:Heap} {F:Nat→Prop} {col:Nat→Nat} {d:Option Addr} {r:TR} {T:TM} {S:RD} {D:Nat→Prop} (X:TxC h col d r T) (hF:∀ b,F b↔1≤col b∧col b≤5) (f:Fr (fun b=>col b=5) h h7) (g:Gw h (fun b=>col b=5) h7 D) (A:DiskF h7 D d S)
  (d8:Did r.tb h7 h8 [.pointer d,.map none,.slice none 0 0,.bool true]):∃ F',Fr F h h8∧Gw h F h8 F'∧Tx h8 F' (some ⟨r.tb,0,none⟩) d (TM.ended S):=by
 have tl:=X.own.lt
 have s1:=X.sc
 have z7:=f.size
 have z8:=d8.size
 obtain ⟨col',k1,k2⟩:∃ col':Nat→Nat,(∀ b,D b→col' b=5)∧∀ b,¬ D b→col' b=if b<h.size∧col b≠5 then col b else 0 :=
  ⟨fun b=>@ite _ (D b) (Classical.propDecidable _) 5 (if b<h.size∧col b≠5 then col b else 0),fun b x=>if_pos x,fun b x=>if_neg x⟩
 have old:∀ b,b<h.size→col' b=col b:=fun b hb=>by
  by_cases x:D b
  ·rw [k1 b x]; exact ((g.old b hb).mp x).symm
  ·have:col b≠5:=fun e=>x ((g.old b hb).mpr e)
   rw [k2 b x,if_pos ⟨hb,this⟩]
 have five:∀ b,col' b=5↔D b:=fun b=>⟨fun e=>by
  by_cases x:D b
  ·exact x
  ·rw [k2 b x] at e
   split at e
   ·rename_i y; exact absurd e y.2
   ·exact absurd e (by decide),k1 b⟩
 have big:∀ b,h8.size≤b→col' b=0:=fun b hb=>by
  have x:¬ D b:=fun x=>by have:=A.lt x; omega
  rw [k2 b x,if_neg (by omega)]
 refine ⟨fun b=>1≤col' b∧col' b≤5,?_,⟨fun b hb=>by rw [old b hb]; exact (hF b).symm,fun b hb=>?_⟩,.inr ⟨col',r.tb,rfl,⟨big,(old _ tl).trans s1,d8.own,d8.rd,⟨rfl,rfl⟩,rfl,?_⟩,fun b=>Iff.rfl⟩⟩
 ·refine (f.mono fun b _ e=>(hF b).mpr ?_).trans d8.fr fun b _ e=>(hF b).mpr ?_
  ·have e:col b=5:=e; omega
  ·have e:b=r.tb:=e; subst e; omega
 ·rcases Nat.lt_or_ge b h8.size with x|x
  ·exact x
  ·rw [big b x] at hb; omega
 ·refine (A.fr d8.fr fun b hb e=>?_).iff five
  have e:b=r.tb:=e
  subst e
  have:=(g.old _ tl).mp hb
  have this:col r.tb=5:=this
  omega
theorem Abort_spec {h:Heap} {F:Nat→Prop} {t d:Option Addr} {T:TM} {K:Value→Heap→Prop} (x:Tx h F t d T) (hK:∀ h' F',Fr F h h'→Gw h F h' F'→Tx h' F' t d (TM.ended T.disk)→K (.tuple #[]) h'):C.txn_Txn_Abort t h K:=by
 have hlt:=fun b hb=>x.lt (b:=b) hb
 rcases x with ⟨col,r,rfl,X,hF⟩|⟨col,tb,rfl,X,hF⟩
 ·refine txn_Txn_Abort.ok (txn_Txn_end.ok (end_body X.own X.cell fun h2 d2=>⟨rfl,?_⟩))
  obtain ⟨F',f,g,y⟩:=X.shut hF (Fr.refl _ _) (Gw.refl (Nat.le_refl _) fun b hb=>X.dk.lt hb) X.dk d2
  exact hK h2 F' f g y
 ·refine txn_Txn_Abort.ok (txn_Txn_end.ok (end_body X.own X.cell fun h2 d2=>⟨rfl,?_⟩))
  have s1:=X.sc
  have f2:Fr F h h2:=d2.fr.mono fun b _ e=>by have e:b=tb:=e; subst e; exact (hF _).mpr (by omega)
  have z2:=d2.size
  exact hK h2 F f2 (Gw.refl f2.size hlt) (.inr ⟨col,tb,rfl,⟨fun b hb=>X.nrm b (by omega),s1,d2.own,d2.rd,⟨rfl,rfl⟩,rfl,X.dk.fr d2.fr fun b hb e=>by
   have e:b=tb:=e
   subst e
   have hb:col b=5:=hb
   omega⟩,hF⟩)
end Go.Proofs.YtiapingedfnlnaaGreatDoor.Tm
namespace Go.Proofs.YtiapingedfnlnaaGreatDoor.Di
open Go Go.Proofs Ad Tm Bt Spc Av Ss Re
open Bm (num nS many Z0 edge num_nil wf_nil tight_nil fresh_av)
open Sk (E ents low nameOk)
open In (encR mayR)
open Fi (recZ blkZ dirR filR slice0 getD_putU cnt_from cnt_none)
def recsD : List (List Int):=[dirR,dirR,filR]
theorem recZD {n k:Nat} {L:Tm.Txt} (d:Dim n) (hn:n<4428) (I:Fi.Ib n (recsD.flatMap encR) (4096*((geoN n).inodes - 98)) L) (h1:1≤k) (h:k<(geoN n).count):recZ n (Z0 L) k=if k≤2 then (dirR,0) else if k=3 then (filR,0) else (List.replicate 15 0,0):=by
 have hL:=I.im.len
 have hlo:=d.lo
 have hino:(geoN n).inodes=98+(n+4095) / 4096:=rfl
 have hc:(geoN n).count=8*(n / 64):=rfl
 have lW:(recsD.flatMap encR).length=192:=rfl
 have e:((Z0 L (blkZ n k)).drop (64*(k % 8))).take 64=(List.range 64).map fun p=>if 64≤64*k+p∧64*k+p<256 then (recsD.flatMap encR).getD (64*k+p - 64) 0 else 0:=by
  rw [slice0 d hL h]
  refine List.map_congr_left fun p hp=>?_
  rw [I.rest _ (by omega),getD_putU (by rw [lW,List.length_replicate]; omega),lW]
  by_cases hx:64≤64*k+p∧64*k+p<256
  ·rw [if_pos (by omega),if_pos hx]; congr 1; omega
  ·rw [if_neg (by omega),if_neg hx,List.getD_eq_getElem?_getD,List.getElem?_replicate]
   split <;> rfl
 unfold recZ
 rw [e]
 by_cases k1:k=1
 ·subst k1; rw [if_pos (by decide)]; decide +kernel
 ·by_cases k2:k=2
  ·subst k2; rw [if_pos (by decide)]; decide +kernel
  ·rw [if_neg (by omega)]
   by_cases k3:k=3
   ·subst k3; rw [if_pos rfl]; decide +kernel
   ·rw [if_neg (by omega)]
    have:(List.range 64).map (fun p=>if 64≤64*k+p∧64*k+p<256 then (recsD.flatMap encR).getD (64*k+p - 64) 0 else 0)=List.replicate 64 0:=by
     refine List.ext_getElem (by simp) fun p h1 h2=>?_
     rw [List.getElem_map,List.getElem_range,List.getElem_replicate,if_neg (by omega)]
    rw [this]; decide +kernel
theorem dir_zero : ∀ i,3≤i→i<15→dirR.getD i 0=0:=fun i h1 h2=>by
 have:∀ i:Fin 15,3≤i.val→dirR.getD i.val 0=0:=by decide
 exact this ⟨i,h2⟩ h1
theorem dd0 {n:Nat} {L:Tm.Txt} (d:Dim n) (hn:n<4428) (I:Fi.Ib n (recsD.flatMap encR) (4096*((geoN n).inodes - 98)) L):Dd n (geoN n).data [] (Z0 L) ⟨fresh (chunks L),[],[],false⟩ 1 dirR [] 2 dirR []∧frees n (Z0 L)=n - (geoN n).data:=by
 have hlo:=d.lo
 have hd:=d.data
 have hc:(geoN n).count=8*(n / 64):=rfl
 have hino:(geoN n).inodes=98+(n+4095) / 4096:=rfl
 have z:=num_nil (Z:=Z0 L) (R:=dirR) dir_zero
 have m0:many (Z0 L) dirR=0:=by
  unfold many
  exact cnt_none _ fun s hs=>decide_eq_false fun y=>y (z s hs)
 have fl:Dir (Z0 L) dirR []:=⟨rfl,⟨by decide,by decide⟩,rfl,rfl,Nat.zero_le _,fun x hx=>(by cases hx),fun s hs=>⟨fun y=>absurd (z s hs) y,fun y=>absurd y (Nat.not_lt_zero _)⟩,fun k hk=>absurd hk (Nat.not_lt_zero _)⟩
 have fr:frees n (Z0 L)=n - (geoN n).data:=by
  rw [← cnt_from]
  unfold frees
  refine cnt_congr fun j hj=>?_
  unfold isFree
  rw [I.im.bit ⟨hlo,hn⟩ hj]
  unfold Bm.lowU edge
  rw [decide_eq_true hj,decide_eq_true (show j<4096*((geoN n).inodes - 98) by omega),decide_eq_false (show ¬ n≤j by omega)]
  by_cases h:(geoN n).data≤j
  ·rw [decide_eq_true h,decide_eq_false (by omega)]; rfl
  ·rw [decide_eq_false h,decide_eq_true (by omega)]; rfl
 refine ⟨⟨fresh_av I.im.len,wf_nil rfl dir_zero,wf_nil rfl dir_zero,tight_nil dir_zero,tight_nil dir_zero,fun s _ hs _ h=>absurd (z s hs) h,?_,?_,fl,fl,⟨by decide,by show (1:Nat)<_; omega⟩,⟨by decide,by show (2:Nat)<_; omega⟩,by decide,?_,fun x hx=>by cases hx⟩,fr⟩
 ·rw [recZD d hn I (by decide) (by omega),if_pos (by decide)]
 ·rw [recZD d hn I (by decide) (by omega),if_pos (by decide)]
 ·rw [m0,fr]; omega
def nmA : Tm.Txt:=[97]
theorem first_dir {n:Nat} {L:Tm.Txt} (d:Dim n) (hn:n<1000) (I:Fi.Ib n (recsD.flatMap encR) (4096*((geoN n).inodes - 98)) L) :
  ∃ T',addD ⟨fresh (chunks L),[],[],false⟩ (geoN n) 1 nmA 2=(T',0)∧findD T' (geoN n) 1 nmA=(2,0)∧findD T' (geoN n) 2 nmA=(0,160)∧T'.disk=fresh (chunks L)∧T'.undo.length≤100:=by
 obtain ⟨f0,fr⟩:=dd0 d (by omega) I
 have hlo:=d.lo
 have hd:=d.data
 have hc:(geoN n).count=8*(n / 64):=rfl
 have hino:(geoN n).inodes=98+(n+4095) / 4096:=rfl
 have hda:(geoN n).data=98+(n+4095) / 4096+n / 64:=rfl
 have ok:nameOk nmA=true:=by decide
 obtain ⟨T',Z',R',e,D,_,un,dk⟩:=f0.add_new (s:=nmA) (v:=2) d (by show 0+_<60; omega) ok ⟨by decide,by omega⟩ rfl rfl (by decide) (by omega)
 refine ⟨T',e,?_,?_,dk,?_⟩
 ·show findD T' (geoN n) ((1:Nat):Int) nmA=_
  rw [D.find d ok]; rfl
 ·show findD T' (geoN n) ((2:Nat):Int) nmA=_
  rw [D.sym.find d ok]; rfl
 ·have:T'.undo.length≤0+20:=un
  omega
end Go.Proofs.YtiapingedfnlnaaGreatDoor.Di
namespace Go.Proofs.YtiapingedfnlnaaGreatDoor.Di
open Go Go.Proofs Wx Hp W Ad Tm Bt Spc Av Bm Ss
open Fi (dirR filR recZ getM_at)
open Ino (getM)
open Sk (E ents nameOk)
section
variable {T : TM} {g : G} {n i w : Int} {s : Tm.Txt}
theorem bad_name (h:nameOk s=false):findD T g n s=(0,1)∧removeD T g n s=(T,0,1)∧replaceD T g n s i=(T,0,1)∧addD T g n s i=(T,1):=by
 have e:seekM T g n s=(none,1):=if_pos h
 refine ⟨?_,?_,if_pos h,if_pos h⟩
 ·unfold findD; rw [e]
 ·unfold removeD; rw [e]
theorem bad_inode (h:nameOk s=true) (hi:hasI g i=false):replaceD T g n s i=(T,0,110)∧addD T g n s i=(T,110):=by
 constructor
 ·unfold replaceD; rw [if_neg (by rw [h]; simp),if_pos hi]
 ·unfold addD; rw [if_neg (by rw [h]; simp),if_pos hi]
theorem bad_dir (h:nameOk s=true) (ho:(openM T g n).2=w) (hw:w≠0) (hi:hasI g i=true):findD T g n s=(0,w)∧removeD T g n s=(T,0,w)∧replaceD T g n s i=(T,0,w)∧listD T g n=([],w)∧addD T g n s i=(T,w):=by
 subst ho
 have e:seekM T g n s=(none,(openM T g n).2):=by unfold seekM; rw [if_neg (by rw [h]; simp),if_pos hw]
 refine ⟨?_,?_,?_,if_pos hw,?_⟩
 ·unfold findD; rw [e]
 ·unfold removeD; rw [e]
 ·unfold replaceD; rw [if_neg (by rw [h]; simp),if_neg (by rw [hi]; simp),e]
 ·unfold addD; rw [if_neg (by rw [h]; simp),if_neg (by rw [hi]; simp),if_pos hw]
end
theorem open_want {n:Nat} {L:Tm.Txt} (d:Dim n) (hn:n<4428) (I:Fi.Ib n (recsD.flatMap In.encR) (4096*((geoN n).inodes - 98)) L) {k:Int} (h1:k≠1) (h2:k≠2) :
  (openM ⟨fresh (chunks L),[],[],false⟩ (geoN n) k).2=if k=3 then 161 else 110:=by
 obtain ⟨f0,_⟩:=dd0 d hn I
 by_cases h:1≤k∧k<(geoN n).count
 ·obtain ⟨m,rfl⟩:∃ m:Nat,k=m:=⟨k.toNat,by omega⟩
  have e:=getM_at f0.av d (k:=m) (by omega) (by omega)
  rw [recZD d hn I (by omega) (by omega),if_neg (by omega)] at e
  by_cases h3:m=3
  ·rw [if_pos h3] at e
   rw [show (if (m:Int)=3 then (161:Int) else 110)=161 from if_pos (by omega)]
   unfold openM; rw [e]; rfl
  ·rw [if_neg h3] at e
   rw [show (if (m:Int)=3 then (161:Int) else 110)=110 from if_neg (by omega)]
   unfold openM; rw [e]; rfl
 ·have e:getM ⟨fresh (chunks L),[],[],false⟩ (geoN n) k=(In.z15,110):=if_pos h
  have:k≠3:=fun y=>by
   have:=d.lo
   have hc:(geoN n).count=8*(n / 64):=rfl
   omega
  rw [if_neg this]
  unfold openM; rw [e]; rfl
theorem pos_zero (s:Tm.Txt) (m:Nat):pos s (List.replicate m (0,[]))=none:=by
 cases h:pos s (List.replicate m (0,[])) with
 | none=>rfl
 | some p =>
  obtain ⟨a,b,_⟩:=pos_some h
  rw [List.length_replicate] at a
  rw [List.getD_eq_getElem?_getD,List.getElem?_replicate,if_pos a] at b
  exact absurd rfl b
theorem name_once {n u i j:Nat} {A:List Int} {Z:Nat→Tm.Txt} {T:TM} {R S:List Int} {s:Tm.Txt} (d:Dim n) (f:Dd n u A Z T i R [] j S []) (hA:A.length+((geoN n).data - 98)<60) (hc:6<(geoN n).count) (hf:1≤frees n Z) (hs:nameOk s=true) :
  ∃ T1 T2,addD T (geoN n) i s 5=(T1,0)∧addD T1 (geoN n) i s 6=(T1,150)∧findD T1 (geoN n) i s=(5,0)∧removeD T1 (geoN n) i s=(T2,5,0)∧findD T2 (geoN n) i s=(0,160)∧T1.undo.length≤T.undo.length+20:=by
 obtain ⟨T1,Z1,R1,e1,D1,_,un1,_⟩:=f.add_new (v:=5) d hA hs ⟨by decide,by omega⟩ rfl rfl (by decide) hf
 have e:pos s ([]++fresh16 (5,s))=some 0:=by
  show (if (5:Nat)≠0∧s=s then some 0 else _)=some 0
  rw [if_pos ⟨by decide,rfl⟩]
 have e2:=D1.add_have (v:=6) d hs ⟨by decide,by omega⟩ (by rw [e]; exact fun y=>by cases y)
 have e3:=D1.find d hs
 rw [e] at e3
 obtain ⟨T2,e4,⟨Z2,R2,D2,_⟩,_⟩:=D1.remove_some d hA hs e
 have e5:=D2.find d hs
 have e6:(([]:List Cl)++fresh16 (5,s)).set 0 (0,[])=List.replicate 16 (0,[]):=rfl
 rw [e6,pos_zero] at e5
 exact ⟨T1,T2,e1,e2,e3,e4,e5,un1⟩
end Go.Proofs.YtiapingedfnlnaaGreatDoor.Di
namespace Go.Proofs.YtiapingedfnlnaaGreatDoor.Ch
open Go Go.Proofs Wx Hp W Re
theorem get_mk {ss:List UInt8} {j:Nat} (hj:j<ss.length):(mkStr ss).get! j=ss[j]:=by
 simp [mkStr,ByteArray.get!,hj]
theorem decode_low {ss:List UInt8} {i:Nat} (hi:i<ss.length) (h:ss[i].toNat<128):Utf8.decode (mkStr ss) i=(ss[i].toNat,1):=by
 have g:=get_mk hi
 simp only [Utf8.decode,Nat.add_zero,g,if_pos (show ss[i].toNat<0x80 from h)]
theorem decode_high {ss:List UInt8} {i:Nat} (hi:i<ss.length) (h:128≤ss[i].toNat) :
  128≤(Utf8.decode (mkStr ss) i).1∧1≤(Utf8.decode (mkStr ss) i).2∧∀ k,k<(Utf8.decode (mkStr ss) i).2→∃ h:i+k<ss.length,128≤ss[i+k].toNat:=by
 have g:=get_mk hi
 have c:∀ k,(decide (i+k<(mkStr ss).size) && ((mkStr ss).get! (i+k)).toNat / 64 == 2)=true→∃ h:i+k<ss.length,128≤ss[i+k].toNat:=by
  intro k hk
  rw [Bool.and_eq_true,decide_eq_true_eq,beq_iff_eq] at hk
  have h1:i+k<ss.length:=hk.1
  refine ⟨h1,?_⟩
  have:=hk.2
  rw [get_mk h1] at this
  omega
 have z:∀ k,k<1→∃ h:i+k<ss.length,128≤ss[i+k].toNat:=by
  intro k hk
  obtain rfl:k=0:=by omega
  exact ⟨hi,h⟩
 have e:128≤Utf8.runeError:=by decide
 simp only [Utf8.decode,Nat.add_zero,g,if_neg (show ¬ ss[i].toNat<0x80 by omega)]
 split
 ·rename_i h1
  rw [Bool.and_eq_true] at h1
  have c1:=c 1 h1.2
  split
  ·rename_i h2
   refine ⟨h2,by show 1≤2; omega,fun k hk=>?_⟩
   have hk:k<2:=hk
   obtain rfl|rfl:k=0∨k=1:=by omega
   ·exact ⟨hi,h⟩
   ·exact c1
  ·exact ⟨e,Nat.le_refl _,z⟩
 ·split
  ·rename_i _ h1
   rw [Bool.and_eq_true,Bool.and_eq_true] at h1
   have c1:=c 1 h1.1.2
   have c2:=c 2 h1.2
   split
   ·rename_i h2
    rw [Bool.and_eq_true,decide_eq_true_eq] at h2
    refine ⟨Nat.le_trans (by omega) h2.1,by show 1≤3; omega,fun k hk=>?_⟩
    have hk:k<3:=hk
    obtain rfl|rfl|rfl:k=0∨k=1∨k=2:=by omega
    ·exact ⟨hi,h⟩
    ·exact c1
    ·exact c2
   ·exact ⟨e,Nat.le_refl _,z⟩
  ·split
   ·rename_i _ _ h1
    rw [Bool.and_eq_true,Bool.and_eq_true,Bool.and_eq_true] at h1
    have c1:=c 1 h1.1.1.2
    have c2:=c 2 h1.1.2
    have c3:=c 3 h1.2
    split
    ·rename_i h2
     rw [Bool.and_eq_true,decide_eq_true_eq] at h2
     refine ⟨Nat.le_trans (by omega) h2.1,by show 1≤4; omega,fun k hk=>?_⟩
     have hk:k<4:=hk
     obtain rfl|rfl|rfl|rfl:k=0∨k=1∨k=2∨k=3:=by omega
     ·exact ⟨hi,h⟩
     ·exact c1
     ·exact c2
     ·exact c3
    ·exact ⟨e,Nat.le_refl _,z⟩
   ·exact ⟨e,Nat.le_refl _,z⟩
theorem encode_high {r:Int} (h:128≤r):∃ l b,Utf8.encode r=mkStr (l++[b])∧1≤l.length∧l.length≤3∧128≤b.toNat:=by
 have hc:128≤(if Utf8.valid r then r.toNat else Utf8.runeError):=by
  split
  ·omega
  ·show 128≤65533; omega
 have hb:∀ c:Nat,128≤(UInt8.ofNat (0x80+c % 64)).toNat:=fun c=>by rw [UInt8.toNat_ofNat']; omega
 unfold Utf8.encode
 dsimp only
 generalize (if Utf8.valid r=true then r.toNat else Utf8.runeError)=c at hc ⊢
 rw [if_neg (by omega)]
 split
 ·exact ⟨[_],_,rfl,by simp,by simp,hb _⟩
 ·split
  ·exact ⟨[_,_],_,rfl,by simp,by simp,hb _⟩
  ·exact ⟨[_,_,_],_,rfl,by simp,by simp,hb _⟩
def slz : List UInt8:=[47,0]
def isBad (b:UInt8):Bool:=b == 47 || b == 0
theorem fr_push {h:Heap} (o:Obj):Fr No h (h.push o):=⟨by rw [Array.size_push]; omega,fun b hb _=>by rw [Array.getElem?_push,if_neg (by omega)]⟩
theorem get_push {h:Heap} (o:Obj):(h.push o)[h.size]?=some o:=by rw [Array.getElem?_push,if_pos rfl]
theorem NewI.intro {s:ByteArray} {h:Heap} {k:Heap→Prop} (H:∀ h',Fr No h h'→h'.size=h.size+1→h'[h.size]?=some (.stringIter s 0)→k h'):NewI s h k:=H _ (fr_push _) (Array.size_push _) (get_push _)
theorem slz_next {pos:Nat} (h:pos<2):Utf8.decode (mkStr slz) pos=((slz[pos]'h).toNat,1)∧(slz[pos]'h).toNat<128:=by
 obtain rfl|rfl:pos=0∨pos=1:=by omega
 ·exact ⟨decode_low (ss:=slz) (i:=0) (by decide) (by show (47:UInt8).toNat<128; decide),by show (47:UInt8).toNat<128; decide⟩
 ·exact ⟨decode_low (ss:=slz) (i:=1) (by decide) (by show (0:UInt8).toNat<128; decide),by show (0:UInt8).toNat<128; decide⟩
theorem IndexByte_spec {ss:List UInt8} {c:UInt8} {h:Heap} {K:Value→Heap→Prop} (hK:K (.int .i64 (byteIn ss c)) h):C.strings_IndexByte (mkStr ss) (c.toNat:Int) h K:=by
 refine strings_IndexByte.ok (internal_stringslite_IndexByte.ok ⟨rfl,_,rfl,?_⟩)
 have e:UInt8.ofNat ((c.toNat:Int)).toNat=c:=by
  rw [Int.toNat_natCast]
  apply UInt8.toNat_inj.mp
  have:=c.toNat_lt
  rw [UInt8.toNat_ofNat']
  omega
 rw [toList_mkStr,e]; exact hK
theorem IndexRune_spec {r:Nat} {h:Heap} {K:Value→Heap→Prop} (hr:r≤1114111) (hK:∀ h' n,Fr No h h'→decide (n≥0)=(decide (r=47) || decide (r=0))→K (.int .i64 n) h'):C.strings_IndexRune (mkStr slz) (r:Int) h K:=by
 generalize hri:((r:Nat):Int)=ri
 refine strings_IndexRune.ok (ct (decide_eq_true (by omega)) (cd (fun hlt=>?_) fun hge=>?_))
 ·have e:IntKind.wrap .u8 ri=((UInt8.ofNat r).toNat:Int):=by
   rw [wrap_u8 (by omega) (by omega),UInt8.toNat_ofNat']; omega
  rw [e]
  refine IndexByte_spec ⟨_,rfl,hK h _ (Fr.refl _ _) ?_⟩
  have:∀ k:Fin 128,decide (byteIn slz (UInt8.ofNat k.val)≥0)=(decide (k.val=47) || decide (k.val=0)):=by decide +kernel
  exact this ⟨r,by omega⟩
 ·have no:(decide (r=47) || decide (r=0))=false:=by
   rw [decide_eq_false (by omega),decide_eq_false (by omega)]; rfl
  rw [no] at hK
  have fin:∀ h',Fr No h h'→K (.int .i64 (-1)) h':=fun h' f=>hK h' (-1) f (by decide)
  refine ce (fun _=>?_) fun hne=>?_
  ·refine NewI.intro fun h3 f3 _ g3=>?_
   refine ⟨fun hh=>∃ pos,Fr No h hh∧hh[h.size]?=some (.stringIter (mkStr slz) pos),fun hh=>match hh[h.size]? with|some (.stringIter _ pos)=>2 - pos|_=>0,⟨0,f3,g3⟩,?_⟩
   rintro h4 ⟨pos,f4,g4⟩
   refine ⟨rfl,_,_,g4,fun hp h5 it=>?_,fun _=>fin h4 f4⟩
   have hp:pos<2:=hp
   obtain ⟨e1,e2⟩:=slz_next hp
   have f5:Fr No h h5:=f4.trans (G:=fun x=>x=h.size) ⟨by rw [it.size]; exact Nat.le_refl _,fun b _ hb=>it.same b hb⟩ (fun b hb e=>by omega)
   refine ce (fun x=>?_) fun _=>⟨⟨_,f5,it.at_⟩,?_⟩
   ·exfalso; rw [e1] at x; have x:(((slz[pos]'hp).toNat:Nat):Int)=65533:=x; omega
   ·have i1:h5[h.size]?=some (.stringIter (mkStr slz) (pos+(Utf8.decode (mkStr slz) pos).2)):=it.at_
    rw [e1] at i1
    simp only [i1,g4]
    omega
  ·have vr:∀ (K':Value→Heap→Prop),(∀ b,K' (.bool b) h)→C.unicode_utf8_ValidRune ri h K':=fun K' hk=>by
    refine unicode_utf8_ValidRune.ok (ct (decide_eq_true (by omega)) (cd (fun _=>hk _) fun _=>cd (fun _=>cd (fun _=>hk _) fun _=>hk _) fun _=>hk _))
   refine vr _ fun b=>⟨b,rfl,?_⟩
   cases b with
   | false=>exact fin h (Fr.refl _ _)
   | true =>
    show ∃ _,_
    obtain ⟨l,b,ee,l1,l3,hb⟩:=encode_high (r:=ri) (by omega)
    have es:(Utf8.encode ri).size=l.length+1:=by rw [ee]; show (l++[b]).length=_; rw [List.length_append]; rfl
    rw [es,wrap_i64 (n:=((l.length+1:Nat):Int) - 1) (by omega) (by omega)]
    refine ⟨fun i hh=>h=hh∧i=l.length,fun _ _=>0,⟨rfl,by omega⟩,?_⟩
    rintro i _ ⟨rfl,rfl⟩
    refine cd (fun hi=>?_) fun hi=>fin h (Fr.refl _ _)
    have hi:((l.length:Nat):Int)<2:=hi
    have e1:l.length=1:=by omega
    have gl:(Utf8.encode ri).toList[(((l.length+1:Nat):Int) - 1).toNat]?=some b:=by
     rw [ee,toList_mkStr,show (((l.length+1:Nat):Int) - 1).toNat=l.length by omega,List.getElem?_append_right (Nat.le_refl _),Nat.sub_self]; rfl
    refine ⟨⟨by omega,by show ((l.length:Nat):Int)<2; omega⟩,0,?_,⟨by omega,by omega⟩,b,gl,?_⟩
    ·rw [toList_mkStr,Int.toNat_natCast,e1]; rfl
    ·refine cn (fun _=>?_) fun x=>?_
     ·rw [wrap_i64 (n:=((l.length:Nat):Int)+1) (by omega) (by omega)]
      refine ⟨⟨by omega,by show ((l.length:Nat):Int)+1≤2; omega⟩,⟨by omega,by omega⟩,b,gl,?_⟩
      have ex:ByteArray.extract (mkStr slz) (((l.length:Nat):Int)+1).toNat (mkStr slz).size=mkStr []:=by
       rw [show (((l.length:Nat):Int)+1).toNat=2 by omega]
       show (mkStr slz).extract 2 2=_
       decide +kernel
      rw [ex]
      refine IndexByte_spec ⟨_,rfl,ct (decide_eq_true (by show (-1:Int)<0; decide)) (fin h (Fr.refl _ _))⟩
     ·exfalso
      have x:(0:Int)=(b.toNat:Int):=x
      omega
theorem decode_max (s:ByteArray) (pos:Nat):(Utf8.decode s pos).1≤1114111:=by
 have v:∀ c:Nat,(decide (c≥2048) && Utf8.valid (c:Int))=true→c≤1114111:=by
  intro c h
  rw [Bool.and_eq_true] at h
  have:=h.2
  simp only [Utf8.valid,Bool.or_eq_true,Bool.and_eq_true,decide_eq_true_eq] at this
  omega
 have v4:∀ c:Nat,(decide (c≥65536) && Utf8.valid (c:Int))=true→c≤1114111:=by
  intro c h
  rw [Bool.and_eq_true] at h
  have:=h.2
  simp only [Utf8.valid,Bool.or_eq_true,Bool.and_eq_true,decide_eq_true_eq] at this
  omega
 have e:Utf8.runeError≤1114111:=by decide
 have b:∀ k,(s.get! k).toNat<256:=fun k=>(s.get! k).toNat_lt
 simp only [Utf8.decode]
 split
 ·have:=b (pos+0); show (s.get! (pos+0)).toNat≤_; omega
 ·split
  ·split
   ·show _≤1114111
    have:=b (pos+1)
    have:=Nat.mod_lt (s.get! (pos+0)).toNat (show 0<32 by omega)
    have:=Nat.mod_lt (s.get! (pos+1)).toNat (show 0<64 by omega)
    simp only [Nat.add_zero] at *
    omega
   ·exact e
  ·split
   ·split
    ·rename_i h; exact v _ h
    ·exact e
   ·split
    ·split
     ·rename_i h; exact v4 _ h
     ·exact e
    ·exact e
def setL : List Bool:=(List.range 256).map fun k=>decide (k=47) || decide (k=0)
theorem makeASCIISet_spec {h:Heap} {K:Value→Heap→Prop} (hK:∀ h',Fr No h h'→K (.tuple #[.agg ⟨setL.map .bool⟩,.bool true]) h'):C.strings_makeASCIISet (mkStr slz) h K:=by
 refine strings_makeASCIISet.ok (New.intro fun h2 n2=>?_)
 have hs2:=n2.size
 refine ⟨fun i hh=>0≤i∧i≤2∧Fr No h hh∧Own hh h.size∧rd hh h.size=(((slz.take i.toNat).foldl (fun (l:List Bool) b=>l.set b.toNat true) (List.replicate 256 false)).map .bool),fun i _=>(2 - i).toNat,⟨by omega,by omega,n2.fr,n2.own,n2.rd.trans (by kernel_rfl)⟩,?_⟩
 rintro i h3 ⟨i0,i2,f3,o3,r3⟩
 have hs3:=f3.size
 have lf:∀ l:List UInt8,(l.foldl (fun (l:List Bool) b=>l.set b.toNat true) (List.replicate 256 false)).length=256:=by
  have:∀ (l:List UInt8) (x:List Bool),(l.foldl (fun (l:List Bool) b=>l.set b.toNat true) x).length=x.length:=by
   intro l
   induction l with
   | nil=>intro x; rfl
   | cons b r ih=>intro x; rw [List.foldl_cons,ih,List.length_set]
  intro l; rw [this,List.length_replicate]
 refine cd (fun hi=>?_) fun hi=>?_
 ·have hi:i<2:=hi
  have hi':i.toNat<slz.length:=by show i.toNat<2; omega
  refine ⟨⟨i0,hi⟩,slz[i.toNat],by rw [toList_mkStr,List.getElem?_eq_getElem hi'],?_⟩
  have hb:(slz[i.toNat]).toNat<128:=(slz_next (pos:=i.toNat) hi').2
  generalize hbb:slz[i.toNat]=b at hb
  refine cf (decide_eq_false (by omega)) ⟨⟨by omega,by omega⟩,Put.add o3 (by rw [r3,List.length_map,lf]; omega) fun h5 d5=>?_⟩
  rw [wrap_i64 (by omega) (by omega)]
  refine ⟨⟨by omega,by omega,f3.did d5 (fun x=>by omega),d5.own,?_⟩,by show (2 - (i+1)).toNat<(2 - i).toNat; omega⟩
  rw [d5.rd,r3,show (i+1).toNat=i.toNat+1 by omega,List.take_succ_eq_append_getElem hi',List.foldl_append,hbb]
  show _=(List.set (List.foldl (fun (l:List Bool) b=>l.set b.toNat true) (List.replicate 256 false) (slz.take i.toNat)) b.toNat true).map Value.bool
  rw [List.map_set,Nat.zero_add,Int.toNat_natCast]
 ·have hi:¬ i<2:=hi
  have e:slz.take i.toNat=slz:=List.take_of_length_le (by show 2≤i.toNat; omega)
  have es:slz.foldl (fun (l:List Bool) b=>l.set b.toNat true) (List.replicate 256 false)=setL:=by decide +kernel
  rw [e,es] at r3
  have ml:(setL.map Value.bool).length=256:=by rw [List.length_map,setL,List.length_map,List.length_range]
  refine ⟨setL.map .bool,ml,cellsAll r3,PutRow.intro o3 ml (fun v hv=>by obtain ⟨b,_,rfl⟩:=List.mem_map.mp hv; rfl) (by rw [r3,ml]; omega) fun h6 d6=>⟨setL.map .bool,ml,cellsAll ?_,hK h6 (f3.did d6 fun x=>by omega)⟩⟩
  rw [d6.rd,put_all _ _ (by rw [r3])]
theorem setL_get (b:UInt8):(setL.map Value.bool)[b.toNat]?=some (.bool (isBad b)):=by
 have hb:=b.toNat_lt
 rw [List.getElem?_map,setL,List.getElem?_map,List.getElem?_range hb]
 show some (Value.bool (decide (b.toNat=47) || decide (b.toNat=0)))=_
 congr 2
 unfold isBad
 congr 1
 ·by_cases h:b=47
  ·subst h; decide
  ·rw [beq_eq_false_iff_ne.mpr h]; exact decide_eq_false (fun e=>h (UInt8.toNat_inj.mp e))
 ·by_cases h:b=0
  ·subst h; decide
  ·rw [beq_eq_false_iff_ne.mpr h]; exact decide_eq_false (fun e=>h (UInt8.toNat_inj.mp e))
theorem bad_nat (b:UInt8):(decide (b.toNat=47) || decide (b.toNat=0))=isBad b:=by
 have:=setL_get b
 have hb:=b.toNat_lt
 rw [List.getElem?_map,setL,List.getElem?_map,List.getElem?_range hb] at this
 have this:=Option.some.inj this
 have this:Value.bool (decide (b.toNat=47) || decide (b.toNat=0)) = .bool (isBad b):=this
 exact Value.bool.inj this
theorem IndexAny_slow {ss:List UInt8} {h h10:Heap} {K:Value→Heap→Prop} (f10:Fr No h h10) (hK:∀ h' n,Fr No h h'→decide (n≥0)=ss.any isBad→K (.int .i64 n) h'):strings_IndexAny.k1 (mkStr ss) (mkStr slz) h10 K:=by
 have hs10:=f10.size
 refine NewI.intro fun h11 f11 s11 g11=>?_
 refine ⟨fun hh=>∃ pos,Fr No h hh∧h10.size<hh.size∧hh[h10.size]?=some (.stringIter (mkStr ss) pos)∧(ss.take pos).any isBad=false,fun hh=>match hh[h10.size]? with|some (.stringIter _ pos)=>ss.length - pos|_=>0,⟨0,f10.no f11,by omega,g11,rfl⟩,?_⟩
 rintro h12 ⟨pos,f12,s12,g12,nb⟩
 refine ⟨rfl,_,_,g12,fun hp h13 it=>?_,fun hp=>?_⟩
 ·have hp:pos<ss.length:=hp
  have f13:Fr No h h13:=f12.trans (G:=fun x=>x=h10.size) ⟨by rw [it.size]; exact Nat.le_refl _,fun b _ hb=>it.same b hb⟩ (fun b hb e=>by omega)
  have g13:=it.at_
  have hsplit:ss.any isBad=(ss.drop pos).any isBad:=by
   conv=>lhs; rw [← List.take_append_drop pos ss,List.any_append,nb,Bool.false_or]
  refine IndexRune_spec (decode_max _ _) fun h14 n f14 hn=>⟨n,rfl,?_⟩
  have s13:h10.size<h13.size:=by rw [it.size]; exact s12
  have g14:h14[h10.size]?=some (.stringIter (mkStr ss) (pos+(Utf8.decode (mkStr ss) pos).2)):=(f14.same _ s13 fun x=>x).trans g13
  have go:1≤(Utf8.decode (mkStr ss) pos).2→(ss.take (pos+(Utf8.decode (mkStr ss) pos).2)).any isBad=false →
    (∃ p,Fr No h h14∧h10.size<h14.size∧h14[h10.size]?=some (.stringIter (mkStr ss) p)∧(ss.take p).any isBad=false)∧(match h14[h10.size]? with|some (.stringIter _ pos)=>ss.length - pos|_=>0)<(match h12[h10.size]? with|some (.stringIter _ pos)=>ss.length - pos|_=>0):=by
   intro w1 w2
   refine ⟨⟨_,f13.no f14,by have:=f14.size; omega,g14,w2⟩,?_⟩
   simp only [g14,g12]
   exact Nat.sub_lt_sub_left hp (by omega)
  rcases Nat.lt_or_ge ss[pos].toNat 128 with hlow|hhigh
  ·have e1:=decode_low hp hlow
   rw [e1] at hn go
   have hn:decide (n≥0)=(decide (ss[pos].toNat=47) || decide (ss[pos].toNat=0)):=hn
   rw [bad_nat] at hn
   cases hb:isBad ss[pos] with
   | true =>
    rw [hb] at hn
    refine ct hn (hK h14 _ (f13.no f14) ?_)
    rw [hsplit,List.drop_eq_getElem_cons hp,List.any_cons,hb,decide_eq_true (by omega)]; rfl
   | false =>
    rw [hb] at hn
    refine cf hn (go (Nat.le_refl _) ?_)
    show (ss.take (pos+1)).any isBad=false
    rw [List.take_succ_eq_append_getElem hp,List.any_append,nb,List.any_cons,hb]; rfl
  ·obtain ⟨e1,e2,e3⟩:=decode_high hp hhigh
   have a1:¬ (Utf8.decode (mkStr ss) pos).1=47:=by omega
   have a2:¬ (Utf8.decode (mkStr ss) pos).1=0:=by omega
   rw [decide_eq_false a1,decide_eq_false a2] at hn
   refine cf hn (go e2 ?_)
   generalize (Utf8.decode (mkStr ss) pos).2=w at e2 e3
   clear hn go g14 g13 it e1 e2
   induction w with
   | zero=>exact nb
   | succ w ih =>
    obtain ⟨hl,hb⟩:=e3 w (by omega)
    rw [← Nat.add_assoc,List.take_succ_eq_append_getElem hl,List.any_append,ih fun k hk=>e3 k (by omega),List.any_cons]
    have:isBad ss[pos+w]=false:=by rw [← bad_nat,decide_eq_false (by omega),decide_eq_false (by omega)]; rfl
    rw [this]; rfl
 ·have hp:¬ pos<ss.length:=hp
  refine hK h12 _ f12 ?_
  rw [List.take_of_length_le (by omega)] at nb
  rw [nb]; decide
theorem ContainsAny_spec {ss:List UInt8} {h:Heap} {K:Value→Heap→Prop} (hl:ss.length≤140737488355328) (hK:∀ h',Fr No h h'→K (.bool (ss.any isBad)) h'):C.strings_ContainsAny (mkStr ss) (mkStr slz) h K:=by
 have fin:∀ h' n,Fr No h h'→decide (n≥0)=ss.any isBad→(fun v h'=>∃ n:Int,v = .int .i64 n∧K (.bool (decide (n≥0))) h') (Value.int .i64 n) h':=fun h' n f e=>⟨n,rfl,by rw [e]; exact hK h' f⟩
 refine strings_ContainsAny.ok (strings_IndexAny.ok (cf (by rw [toList_mkStr,toList_mkStr]; rfl) (cf (by show ((2:Int) == 1)=false; decide) ?_)))
 refine strings_shouldUseASCIISet.ok ⟨_,rfl,?_⟩
 refine cs (fun hb=>?_) fun _=>IndexAny_slow (Fr.refl _ _) fin
 refine makeASCIISet_spec fun h5 f5=>⟨_,_,rfl,?_⟩
 have ml:(setL.map Value.bool).length=256:=by rw [List.length_map,setL,List.length_map,List.length_range]
 refine NewRow.intro ml (fun v hv=>by obtain ⟨b,_,rfl⟩:=List.mem_map.mp hv; rfl) (by kernel_rfl) fun h7 n7=>ct rfl ?_
 have f7:=f5.new n7
 have hsz:((mkStr ss).size:Int)=ss.length:=rfl
 rw [hsz]
 refine ⟨fun i hh=>0≤i∧i≤ss.length∧h7=hh∧ss.any isBad=(ss.drop i.toNat).any isBad,fun i _=>(ss.length - i).toNat,⟨by omega,by omega,rfl,rfl⟩,?_⟩
 rintro i _ ⟨i0,i1,rfl,e⟩
 refine cd (fun hi=>?_) fun hi=>?_
 ·have hi':i.toNat<ss.length:=by omega
  refine ⟨⟨i0,hi⟩,ss[i.toNat],by rw [toList_mkStr,List.getElem?_eq_getElem hi'],strings_asciiSet_contains.ok (os ⟨⟨by omega,by have:=(ss[i.toNat]).toNat_lt; omega⟩,isBad ss[i.toNat],?_,_,rfl,?_⟩)⟩
  ·refine rda n7.rd ?_
   rw [Nat.zero_add,Int.toNat_natCast]; exact setL_get _
  ·rw [List.drop_eq_getElem_cons hi',List.any_cons] at e
   cases hb:isBad ss[i.toNat] with
   | true =>
    rw [hb] at e
    exact ct rfl (fin h7 _ f7 (by rw [e,decide_eq_true (by omega)]; rfl))
   | false =>
    rw [hb,Bool.false_or] at e
    rw [wrap_i64 (by omega) (by omega)]
    refine cf rfl ⟨⟨by omega,by omega,rfl,by rw [e,show (i+1).toNat=i.toNat+1 by omega]⟩,by show ((ss.length:Int) - (i+1)).toNat<((ss.length:Int) - i).toNat; omega⟩
 ·rw [List.drop_of_length_le (by omega)] at e
  exact fin h7 _ f7 (by rw [e]; decide)
theorem mapTo_fr {d:D} {h h':Heap} {r:Nat} {m:MapC} (t:MapTo d h r m h'):Fr (fun x=>x=r) h h':=⟨by rw [t.size]; exact Nat.le_refl _,fun b _ hb=>t.same b hb⟩
theorem NewM.intro {d:D} {h:Heap} {k:Heap→Prop} (H:∀ h',Fr No h h'→h'.size=h.size+1→MapAt d h' h.size []→k h'):NewM h k :=
 H _ (fr_push _) (Array.size_push _) ⟨#[],0,get_push _,rfl,fun _ h=>absurd h (by simp),MapKept.stamped_empty _⟩
theorem does_spec {ss:List UInt8} {h:Heap} {K:Value→Heap→Prop} (hK:∀ h' v,Fr No h h'→K (.tuple #[v,.bool (ss == [46] || ss == [46,46])]) h'):C.path_does (mkStr ss) h K:=by
 refine path_does.ok ?_
 unfold path_does
 simp only [toList_mkStr]
 refine NewM.intro (d := .str) fun h2 f2 s2 m2=>⟨[],m2,fun h3 m3=>⟨_,m3.at_,fun h4 m4=>⟨_,m4.at_,_,rfl,?_⟩⟩⟩
 have f4:Fr No h h4:=(f2.trans (mapTo_fr m3) fun b hb e=>by omega).trans (mapTo_fr m4) fun b hb e=>by omega
 refine (show ∀ b v,b=(ss == [46] || ss == [46,46])→K (.tuple #[v,.bool b]) h4 from fun b v e=>by rw [e]; exact hK h4 v f4) _ _ ?_
 show (mget (bif MKey.same (.s [46,46]) (.s [46]) then _ else _) (.s ss)).isSome=_
 rw [show MKey.same (.s [46,46]) (.s [46])=false from by decide]
 show (bif ss == [46] then some _ else bif ss == [46,46] then some _ else none).isSome=_
 cases h1:ss == [46] <;> cases h2:ss == [46,46] <;> rfl
theorem Name_spec {ss:List UInt8} {h:Heap} {K:Value→Heap→Prop} (hK:∀ h',Fr No h h'→K (.bool (Sk.nameOk ss)) h'):C.path_Name (mkStr ss) h K:=by
 have hsz:(mkStr ss).size=ss.length:=rfl
 refine path_Name.ok (does_spec fun h2 v f2=>⟨_,_,rfl,?_⟩)
 rw [hsz]
 have no:Sk.nameOk ss=false→K (.bool false) h2:=fun e=>by rw [← e]; exact hK h2 f2
 have nn:∀ x,(Sk.nameOk ss=true→x)→(¬ x)→Sk.nameOk ss=false:=fun x hx hn=>by
  cases e:Sk.nameOk ss with
  | false=>rfl
  | true=>exact absurd (hx e) hn
 refine cd (fun h1=>cd (fun h3=>cnot ?_) fun h3=>?_) fun h1=>?_
 ·cases hd:(ss == [46] || ss == [46,46]) with
  | true =>
   refine no (nn (¬ ((ss == [46] || ss == [46,46])=true)) (fun e=>?_) (by rw [hd]; simp))
   have:=Sk.nameOk_iff.mp e
   rw [Bool.or_eq_true,beq_iff_eq,beq_iff_eq]
   rintro (x|x)
   ·exact this.dot x
   ·exact this.dots x
  | false =>
   rw [Bool.or_eq_false_iff,beq_eq_false_iff_ne,beq_eq_false_iff_ne] at hd
   refine ContainsAny_spec (by omega) fun h3' f3=>⟨_,rfl,?_⟩
   have e:(!ss.any isBad)=Sk.nameOk ss:=by
    unfold Sk.nameOk
    rw [decide_eq_true (by omega),decide_eq_true (by omega),show (ss != [46])=true from bne_iff_ne.mpr hd.1,show (ss != [46,46])=true from bne_iff_ne.mpr hd.2]
    rw [Bool.true_and,Bool.true_and,Bool.true_and,List.not_any_eq_all_not]
    congr 1
    funext b
    unfold isBad
    rw [Bool.not_or]; rfl
   rw [e]; exact hK h3' (f2.no f3)
 ·exact no (nn _ (fun e=>(Sk.nameOk_iff.mp e).le) (by omega))
 ·exact no (nn _ (fun e=>(Sk.nameOk_iff.mp e).pos) (by omega))
end Go.Proofs.YtiapingedfnlnaaGreatDoor.Ch
namespace Go.Proofs.YtiapingedfnlnaaGreatDoor.Ss
open Go Go.Proofs Wx Hp W Re Sk Ch
def E.v (e:E):List Value:=[.int .i64 e.place,.string (mkStr e.name),.int .i64 e.inode]
theorem E.len (e:E):(E.v e).length=3:=rfl
theorem E.one (e:E):∀ v ∈ E.v e,v.oneCell'=true:=by
 intro v hv
 simp only [E.v,List.mem_cons,List.not_mem_nil,or_false] at hv
 rcases hv with rfl|rfl|rfl <;> rfl
theorem cell_spec {a:Option Addr} {l c:Nat} {bs:List UInt8} {k:Int} {h:Heap} {K:Value→Heap→Prop} (B:StrAt h a l bs) (hl:l=512) (hlc:l≤c) (h0:0≤k) (h1:k<16)
  (hK:StrAt h (Option.map (Addr.add · (32*k.toNat)) a) 32 ((bs.drop (32*k.toNat)).take 32)→K (.slice (Option.map (Addr.add · (32*k.toNat)) a) 32 32) h):C.slots_cell a l c k h K:=by
 refine slots_cell.ok ?_
 unfold slots_cell
 rw [wrap_i64 (n:=32*k) (by omega) (by omega),wrap_i64 (n:=32*k+32) (by omega) (by omega)]
 refine ⟨⟨by omega,by omega,by omega,by omega⟩,?_⟩
 rw [if_neg (by omega),show (32*k+32).toNat - (32*k).toNat=32 by omega,show (32*k).toNat=32*k.toNat by omega]
 exact hK (StrAt.take (StrAt.drop B (32*k.toNat)) (by omega))
theorem read_spec {a:Option Addr} {bs:List UInt8} {h:Heap} {K:Value→Heap→Prop} (g:In.Glo h) (B:StrAt h a 32 bs)
  (hK:∀ h' x,Fr No h h'→one bs=some x→K (.tuple #[.int .i64 (x.1:Nat),.string (mkStr x.2),.bool true]) h') (hN:∀ h' n s,Fr No h h'→one bs=none→K (.tuple #[.int .i64 n,.string s,.bool false]) h'):C.slots_read a 32 32 h K:=by
 have hb:=B.1
 have e0:one bs=one bs:=rfl
 refine slots_read.ok (In.Get_w g B (by omega) (by omega) (by omega) (by omega) ⟨_,_,rfl,In.Get_w g B (by omega) (by omega) (by omega) (by omega) ⟨_,_,rfl,?_⟩⟩)
 rw [show (0:Int).toNat=0 from rfl,show (4:Int).toNat=4 from rfl,show (1:Int).toNat=1 from rfl,List.drop_zero]
 have h4:4<bs.length:=by omega
 have e1:leN ((bs.drop 4).take 1)=(bs.getD 4 0).toNat:=by
  rw [List.drop_eq_getElem_cons h4,List.getD_eq_getElem?_getD,List.getElem?_eq_getElem h4]
  show bs[4].toNat+256*0=bs[4].toNat
  omega
 rw [e1]
 have lt:leN (bs.take 4)<4294967296:=by
  have:=leN_lt (bs.take 4)
  rw [List.length_take,show min 4 bs.length=4 by omega] at this
  exact this
 conv at e0=>rhs; unfold one
 generalize leN (bs.take 4)=i at lt e0 ⊢
 have bt:=(bs.getD 4 0).toNat_lt
 generalize (bs.getD 4 0).toNat=n at bt e0 ⊢
 refine ce (fun hi=>?_) fun hi=>?_
 ·refine Zero_spec B (by omega) (by omega) (by omega) (by omega) (by omega) ⟨_,_,rfl,?_⟩
  rw [if_pos (by omega)] at e0
  rw [show (0:Int).toNat=0 from rfl,show (32:Int).toNat=32 from rfl,List.drop_zero,List.take_of_length_le (by omega)]
  cases hz:allZero bs with
  | true=>rw [hz] at e0; exact hK h _ (Fr.refl _ _) e0
  | false=>rw [hz] at e0; exact hN h _ _ (Fr.refl _ _) e0
 ·rw [if_neg (by omega)] at e0
  refine cd (fun hn=>hN h _ _ (Fr.refl _ _) (by rw [e0,if_pos (by omega)])) fun hn=>cd (fun hn2=>hN h _ _ (Fr.refl _ _) (by rw [e0,if_pos (by omega)])) fun hn2=>?_
  rw [if_neg (by omega)] at e0
  have wu:IntKind.wrap .u64 (5+(n:Int))=5+n:=by
   show (5+(n:Int)) % 18446744073709551616=_
   omega
  unfold slots_read.k1
  rw [wu,wrap_i64 (n:=(n:Int)) (by omega) (by omega),wrap_i64 (n:=5+(n:Int)) (by omega) (by omega),wrap_i64 (n:=27 - (n:Int)) (by omega) (by omega),wrap_i64 (n:=(i:Int)) (by omega) (by omega)]
  refine ⟨⟨by omega,by omega,by omega,by omega⟩,(bs.drop 5).take n,?_,?_⟩
  ·have:=StrAt.cut B (c:=32) (by omega) (i:=5) (j:=5+n) (by omega) (by omega)
   rw [show (5+(n:Int)).toNat=5+n by omega,show (5:Int).toNat=5 from rfl,if_neg (by omega)]
   rw [if_neg (by omega),show 5+n - 5=n by omega] at this
   rw [show 5+n - 5=n by omega]
   exact this
  ·refine Zero_spec B (by omega) (by omega) (by omega) (by omega) (by omega) ⟨_,_,rfl,?_⟩
   have ez:List.take (27 - (n:Int)).toNat (List.drop (5+(n:Int)).toNat bs)=bs.drop (5+n):=by
    rw [show (5+(n:Int)).toNat=5+n by omega,List.take_of_length_le (by rw [List.length_drop]; omega)]
   rw [ez]
   cases hz:allZero (bs.drop (5+n)) with
   | false =>
    rw [hz] at e0
    exact hN h _ _ (Fr.refl _ _) e0
   | true =>
    refine Name_spec fun h' f'=>⟨_,rfl,?_⟩
    rw [hz,Bool.true_and] at e0
    cases hn:nameOk ((bs.drop 5).take n) with
    | true=>rw [hn] at e0; exact hK h' _ f' e0
    | false=>rw [hn] at e0; exact hN h' _ _ f' e0
theorem Read_spec {a:Option Addr} {l c:Nat} {bs:List UInt8} {h:Heap} {K:Value→Heap→Prop} (g:In.Glo h) (B:StrAt h a l bs) (hlc:l≤c)
  (hK:∀ h' a' l' c',Fr No h h'→Sl h' 3 a' l' c' ((ans bs).1.flatMap E.v) (From h.size)→K (.tuple #[.slice a' l' c',.int .i64 (ans bs).2]) h'):C.slots_Read a l c h K:=by
 have hb:=B.1
 refine slots_Read.ok (cn (fun hl=>?_) fun hl=>?_)
 ·have e:ans bs=([],32):=by rw [ans,if_pos (by omega)]
  rw [e] at hK
  exact hK h none 0 0 (Fr.refl _ _) (Sl.nil _ _ _)
 have hl:l=512:=by omega
 have e:ans bs=match dec 16 bs with
  | none=>([],140)
  | some hs=>(ents 0 hs,0):=by
  rw [ans,if_neg (by omega)]
  cases dec 16 bs <;> rfl
 refine ⟨fun la ll lc n hh=>0≤n∧n≤16∧Fr No h hh∧∃ pre:List (Nat×Txt),pre.length=n.toNat∧dec 16 bs=(dec (16 - n.toNat) (bs.drop (32*n.toNat))).map (pre ++ ·)∧Sl hh 3 la ll lc ((ents 0 pre).flatMap E.v) (From h.size),fun _ _ _ n _=>(16 - n).toNat,
  ⟨by omega,by omega,Fr.refl _ _,[],rfl,by rw [show (0:Int).toNat=0 from rfl,Nat.mul_zero,List.drop_zero]; simp,Sl.nil _ _ _⟩,?_⟩
 rintro la ll lc n h2 ⟨n0,n1,f2,pre,pl,pd,ps⟩
 have hs2:=f2.size
 have pll:=ents_len pre 0
 have hll:ll=(ents 0 pre).length:=by
  have:=ps.1
  rw [flat_length E.v 3 _ (fun x _=>E.len x)] at this
  omega
 refine cd (fun hn=>?_) fun hn=>?_
 ·rw [dec_step (by omega)] at pd
  refine cell_spec (StrAt.fr f2 B fun _ _ x=>x) hl hlc n0 hn fun B2=>⟨_,_,_,rfl,?_⟩
  rw [wrap_i64 (n:=n+1) (by omega) (by omega)]
  refine read_spec (g.no f2) B2 (fun h4 x f4 ho=>⟨_,_,_,rfl,?_⟩) fun h4 m s f4 ho=>⟨_,_,_,rfl,?_⟩
  ·have f24:=f2.no f4
   rw [ho] at pd
   have pd':dec 16 bs=(dec (16 - (n+1).toNat) (bs.drop (32*(n+1).toNat))).map ((pre++[x]) ++ ·):=by
    rw [pd,show (n+1).toNat=n.toNat+1 by omega]
    cases dec (16 - (n.toNat+1)) (bs.drop (32*(n.toNat+1))) with
    | none=>rfl
    | some r=>simp
   have ee:ents 0 (pre++[x])=ents 0 pre++(if x.1=0 then [] else [⟨n,x.2,x.1⟩]):=by
    rw [ents_append,pl,ents,ents,show ((0+n.toNat:Nat):Int)=n by omega]
   have ps4:=ps.fr f4 fun _ _ _ x=>x
   refine cf rfl (cn (fun hx=>⟨rfl,New.intro fun h5 n5=>⟨E.v ⟨n,x.2,x.1⟩,rfl,cellsAll n5.rd,E.one _,?_⟩⟩) fun hx=>⟨⟨by omega,by omega,f24,pre++[x],by rw [List.length_append,pl,List.length_singleton]; omega,pd',?_⟩,by show (16 - (n+1)).toNat<(16 - n).toNat; omega⟩)
   ·have hx0:x.1≠0:=fun e=>hx (by rw [e]; rfl)
    rw [if_neg hx0] at ee
    have f25:=f24.new n5
    have hs5:=f25.size
    have hbytes:(ti113).bytes=32:=rfl
    refine append_own (elem:=ti113) (ps4.fr n5.fr fun _ _ _ x=>x) rfl rfl (by rw [hbytes]; omega) (by omega) fun a' c' h6 f6 s6=>⟨⟨by omega,by omega,?_,pre++[x],by rw [List.length_append,pl,List.length_singleton]; omega,pd',?_⟩,by show (16 - (n+1)).toNat<(16 - n).toNat; omega⟩
    ·exact f25.trans f6 fun b hb hF=>by have:h.size≤b:=hF; omega
    ·rw [ee,List.flatMap_append]
     refine Sl.mono (s6:Sl h6 3 a' (ll+1) c' _ _) fun b hF=>?_
     rcases hF with hF|hF
     ·exact hF
     ·show h.size≤b; omega
   ·have hx0:x.1=0:=by omega
    rw [if_pos hx0,List.append_nil] at ee
    rw [ee]; exact ps4
  ·rw [ho] at pd
   have e2:ans bs=([],140):=by rw [e,pd]; rfl
   rw [e2] at hK
   exact ct rfl (hK h4 none 0 0 (f2.no f4) (Sl.nil _ _ _))
 ·have en:n.toNat=16:=by omega
  rw [en] at pd
  have e2:ans bs=(ents 0 pre,0):=by
   have z:dec (16 - 16) (bs.drop (32*16))=some []:=by rw [Nat.sub_self]; rfl
   rw [e,pd,z,Option.map_some,List.append_nil]
  rw [e2] at hK
  exact hK h2 la ll lc f2 ps
theorem isPlace_spec {k:Int} {h:Heap} {K:Value→Heap→Prop} (hK:K (.bool (decide (0≤k) && decide (k<16))) h):C.slots_isPlace k h K:=by
 refine slots_isPlace.ok (cd (fun x=>?_) fun x=>?_)
 ·rw [decide_eq_true (by omega)] at hK; exact hK
 ·rw [decide_eq_false (by omega)] at hK; exact hK
theorem low_split : ∀ (hs pre:List (Nat×Txt)),(∀ x ∈ pre,x.1≠0)→(ents 0 (pre++hs)).length=pre.length+(ents pre.length hs).length∧low 0 (pre++hs)=low pre.length hs∧(ents 0 (pre++hs)).drop pre.length=ents pre.length hs:=by
 have full:∀ (pre:List (Nat×Txt)) (k:Nat),(∀ x ∈ pre,x.1≠0)→(ents k pre).length=pre.length:=by
  intro pre
  induction pre with
  | nil=>intro k _; rfl
  | cons x r ih =>
   intro k h
   rw [ents,if_neg (h x (List.mem_cons_self ..)),List.length_cons,List.length_cons,ih _ fun y hy=>h y (List.mem_cons_of_mem _ hy)]
 have lowp:∀ (pre hs:List (Nat×Txt)) (k:Nat),(∀ x ∈ pre,x.1≠0)→low k (pre++hs)=low (k+pre.length) hs:=by
  intro pre
  induction pre with
  | nil=>intro hs k _; rfl
  | cons x r ih =>
   intro hs k h
   rw [List.cons_append,low,if_neg (h x (List.mem_cons_self ..)),ih _ _ fun y hy=>h y (List.mem_cons_of_mem _ hy),List.length_cons]
   congr 1; omega
 intro hs pre h
 rw [ents_append,List.length_append,full pre 0 h,Nat.zero_add]
 refine ⟨rfl,?_,?_⟩
 ·rw [lowp pre hs 0 h,Nat.zero_add]
 ·have:=full pre 0 h
  rw [← this,List.drop_left]
theorem Lowest_spec {a:Option Addr} {l c:Nat} {bs:List UInt8} {h:Heap} {K:Value→Heap→Prop} (g:In.Glo h) (B:StrAt h a l bs) (hlc:l≤c)
  (hK:∀ h',Fr No h h'→K (.tuple #[.int .i64 (lowA bs).1,.int .i64 (lowA bs).2]) h'):C.slots_Lowest a l c h K:=by
 have hb:=B.1
 refine slots_Lowest.ok (Read_spec g B hlc fun h2 a' l' c' f2 s2=>⟨_,_,_,_,rfl,?_⟩)
 have out:∀ x y,ans bs=([],y)→lowA bs=(0,y)→x=(ans bs).2→K (.tuple #[.int .i64 0,.int .i64 x]) h2:=by
  intro x y e1 e2 e3
  have:=hK h2 f2
  rw [e2] at this
  rw [e3,e1]; exact this
 by_cases hl:bs.length≠512
 ·have e1:ans bs=([],32):=by rw [ans,if_pos hl]
  have e2:lowA bs=(0,32):=by rw [lowA,if_pos hl]
  exact ct (by rw [e1]; rfl) (out _ _ e1 e2 rfl)
 cases hd:dec 16 bs with
 | none =>
  have e1:ans bs=([],140):=by rw [ans,if_neg hl,hd]
  have e2:lowA bs=(0,140):=by rw [lowA,if_neg hl,hd]
  exact ct (by rw [e1]; rfl) (out _ _ e1 e2 rfl)
 | some hs =>
  have e1:ans bs=(ents 0 hs,0):=by rw [ans,if_neg hl,hd]
  have e2:lowA bs=(low 0 hs,0):=by rw [lowA,if_neg hl,hd]
  obtain ⟨hsl,_,_⟩:=blk_dec (by omega) hd
  rw [e1] at s2 ⊢
  rw [e2] at hK
  have hll:l'=(ents 0 hs).length:=by
   have:((ents 0 hs).flatMap E.v).length=l'*3:=s2.1
   rw [flat_length E.v 3 _ (fun x _=>E.len x)] at this
   omega
  refine cf rfl ⟨fun n hh=>0≤n∧n≤16∧h2=hh∧∃ pre rest:List (Nat×Txt),hs=pre++rest∧pre.length=n.toNat∧∀ x ∈ pre,x.1≠0,fun n _=>(16 - n).toNat,⟨by omega,by omega,rfl,[],hs,rfl,rfl,fun x hx=>absurd hx (by simp)⟩,?_⟩
  rintro n _ ⟨n0,n1,rfl,pre,rest,rfl,pl,pz⟩
  obtain ⟨q1,q2,q3⟩:=low_split rest pre pz
  rw [List.length_append] at hsl
  refine cd (fun hn=>?_) fun hn=>?_
  ·cases rest with
   | nil=>rw [List.length_nil] at hsl; omega
   | cons x r =>
    have eres:x.1=0→low 0 (pre++x::r)=n:=fun hx=>by rw [q2,low,if_pos hx]; omega
    refine ce (fun hx=>?_) fun hx=>?_
    ·have:x.1=0:=by
      rcases Nat.eq_zero_or_pos x.1 with h|h
      ·exact h
      ·rw [ents,if_neg (by omega),List.length_cons] at q1; omega
     rw [eres this] at hK; exact hK h2 f2
    ·have hlen:n.toNat<(ents 0 (pre++x::r)).length:=by omega
     have hd0:(ents 0 (pre++x::r)).drop n.toNat=ents n.toNat (x::r):=by rw [← pl]; exact q3
     have hel:ents n.toNat (x::r)=(ents 0 (pre++x::r))[n.toNat]::(ents 0 (pre++x::r)).drop (n.toNat+1):=by rw [← hd0,List.drop_eq_getElem_cons hlen]
     generalize hee:(ents 0 (pre++x::r))[n.toNat]=ee at hel
     obtain ⟨p,rfl,cc⟩:=s2.get (by omega)
     refine ⟨⟨n0,by omega⟩,os ⟨ee.place,?_,?_⟩⟩
     ·have c2:=Cells.part cc (n.toNat*3) 3
      rw [flat_part E.v 3 _ (fun x _=>E.len x) n.toNat hlen,hee] at c2
      exact c2 0 _ rfl
     ·rw [ents] at hel
      refine cn (fun hp=>?_) fun hp=>?_
      ·have hx0:x.1=0:=by
        rcases Nat.eq_zero_or_pos x.1 with h|h
        ·exact h
        ·rw [if_neg (by omega)] at hel
         have:=(List.cons.inj hel).1
         rw [← this] at hp
         exact absurd (show ((n.toNat:Nat):Int)=n by omega) hp
       rw [eres hx0] at hK; exact hK h2 f2
      ·have hx0:x.1≠0:=by
        intro h0
        rw [if_pos h0] at hel
        have:=(ents_range r (n.toNat+1) ee (by rw [hel]; exact List.mem_cons_self ..)).1
        omega
       rw [wrap_i64 (by omega) (by omega)]
       refine ⟨⟨by omega,by omega,rfl,pre++[x],r,by rw [List.append_assoc]; rfl,by rw [List.length_append,pl,List.length_singleton]; omega,fun y hy=>?_⟩,by show (16 - (n+1)).toNat<(16 - n).toNat; omega⟩
       rcases List.mem_append.mp hy with hy|hy
       ·exact pz y hy
       ·rw [List.mem_singleton.mp hy]; exact hx0
  ·have:rest=[]:=List.length_eq_zero_iff.mp (by omega)
   subst this
   rw [q2] at hK
   exact hK h2 f2
end Go.Proofs.YtiapingedfnlnaaGreatDoor.Ss
namespace Go.Proofs.YtiapingedfnlnaaGreatDoor.Ss
open Go Go.Proofs Wx Hp W Re Sk Ch
theorem put_self {h:Heap} {b o l c:Nat} {xs:List Value} {F:Nat→Prop} (s:Sl h 1 (some ⟨b,o,none⟩) l c xs F):put (rd h b) o xs=rd h b:=by
 obtain ⟨w1,w2⟩:=s.wr
 obtain ⟨h1,a1,a2,a3,a4,a5,a6⟩:=s
 simp only at a5 a6
 have e:=put_eq xs (rd h b) o (by omega)
 rw [e]
 conv=>rhs; rw [← List.take_append_drop o (rd h b),← List.take_append_drop xs.length ((rd h b).drop o),a5,List.drop_drop]
 rw [List.append_assoc]
theorem put_sub {h:Heap} {b o l c j:Nat} {bs ys:List UInt8} {F:Nat→Prop} (s:Sl h 1 (some ⟨b,o,none⟩) l c (bs.map bv) F) (hj:j+ys.length≤bs.length) :
  put (rd h b) (o+j) (ys.map bv)=put (rd h b) o ((putU bs j ys).map bv):=by
 obtain ⟨w1,w2⟩:=s.wr
 have hl:=s.1
 rw [List.length_map] at hl
 have e0:=put_self s
 have lp:=putU_length hj
 apply List.ext_getElem?
 intro i
 rw [put_get _ _ _ _ (by rw [List.length_map]; omega),put_get _ _ _ _ (by rw [List.length_map]; omega),List.length_map,List.length_map,lp,← putU_put hj]
 by_cases hi:o≤i∧i<o+bs.length
 ·rw [if_pos hi,put_get _ _ _ _ (by rw [List.length_map,List.length_map]; exact hj),List.length_map]
  by_cases h2:o+j≤i∧i<o+j+ys.length
  ·rw [if_pos h2,if_pos (by omega)]
   congr 1; omega
  ·rw [if_neg h2,if_neg (by omega)]
   have:=congrArg (·[i]?) e0
   simp only [put_get _ _ _ _ (show o+(bs.map bv).length≤(rd h b).length by rw [List.length_map]; omega),List.length_map,if_pos hi] at this
   exact this.symm
 ·rw [if_neg hi,if_neg (by omega)]
theorem Sl.all {h h':Heap} {b o l c:Nat} {bs bs':List UInt8} {F:Nat→Prop} (s:Sl h 1 (some ⟨b,o,none⟩) l c (bs.map bv) F) (hl:bs'.length=bs.length) (d:Wrote b h h' (put (rd h b) o (bs'.map bv))) :
  Sl h' 1 (some ⟨b,o,none⟩) l c (bs'.map bv) F:=by
 have e:=s.1
 rw [List.length_map] at e
 have:=Sl.wrote (j:=0) (new:=bs'.map bv) s (by rw [List.length_map]; omega) d
 rw [put_all _ _ (by rw [List.length_map,List.length_map,hl])] at this
 exact this
theorem wrote_id {h h':Heap} {b o l c:Nat} {bs:List UInt8} {F:Nat→Prop} (s:Sl h 1 (some ⟨b,o,none⟩) l c (bs.map bv) F) (f:Fr No h h'):Wrote b h h' (put (rd h b) o (bs.map bv)) :=
 ⟨f.mono fun _ _ x=>x.elim,f.own s.wr.1.lt (fun x=>x) s.wr.1,by rw [put_self s]; exact f.rd s.wr.1.lt fun x=>x⟩
theorem Put_spec {b o l c:Nat} {bs:List UInt8} {e:E} {F:Nat→Prop} {h:Heap} {K:Value→Heap→Prop} (g:In.Glo h) (hb1:1≤b) (s:Sl h 1 (some ⟨b,o,none⟩) l c (bs.map bv) F)
  (hK:∀ h',Wrote b h h' (put (rd h b) o ((putA bs e).2.map bv))→K (.int .i64 (putA bs e).1) h'):C.slots_Put (some ⟨b,o,none⟩) l c (E.v e) h K:=by
 have hbl:=s.1
 rw [List.length_map,Nat.mul_one] at hbl
 obtain ⟨w,wl⟩:=s.wr
 have hbs:=w.lt
 refine slots_Put.ok (New.intro fun h2 n2=>?_)
 have r2:=n2.rd
 have o2:=n2.own
 have f2:=n2.fr
 have hs2:=n2.size
 have no:∀ h' m,Fr No h h'→putA bs e=(m,bs)→K (.int .i64 m) h':=by
  intro h' m f ee
  have:=hK h'
  rw [ee] at this
  exact this (wrote_id s f)
 refine cn (fun hl=>no h2 32 f2 (by rw [putA,if_pos (by omega)])) fun hl=>?_
 have bad:∀ h',Fr No h h'→putOk e=false→K (.int .i64 140) h':=fun h' f ee=>no h' 140 f (by rw [putA,if_neg (by omega),ee]; rfl)
 refine ⟨e.place,rdc r2 rfl,isPlace_spec ⟨_,rfl,cnot ?_⟩⟩
 cases hp:(decide (0≤e.place) && decide (e.place<16)) with
 | false=>exact bad h2 f2 (by rw [putOk,hp]; rfl)
 | true =>
  refine ct rfl ⟨e.inode,rdc r2 rfl,cd (fun x=>bad h2 f2 (by rw [putOk,hp,decide_eq_false (by omega)]; rfl)) fun x1=>⟨e.inode,rdc r2 rfl,cd (fun x=>bad h2 f2 (by rw [putOk,hp,decide_eq_true (by omega),decide_eq_false (by omega)]; rfl)) fun x2=>⟨mkStr e.name,rdc r2 rfl,Name_spec fun h4 f4=>⟨_,rfl,cnot ?_⟩⟩⟩⟩
  have f24:=f2.no f4
  cases hn:nameOk e.name with
  | false=>exact bad h4 f24 (by rw [putOk,hn,Bool.and_false])
  | true =>
   have ok:putOk e=true:=by rw [putOk,hp,decide_eq_true (by omega),decide_eq_true (by omega),hn]; rfl
   obtain ⟨p0,p1,i0,i1,_,gd⟩:=putOk_good ok
   have nm:=nameOk_iff.mp hn
   have npos:=nm.pos
   have nle:=nm.le
   have fl:(form e.inode.toNat e.name).length=32:=form_length gd
   have ea:putA bs e=(0,putU bs (32*e.place.toNat) (form e.inode.toNat e.name)):=by rw [putA,if_neg (by omega),if_pos ok]
   rw [ea] at hK
   have r4:rd h4 h.size=E.v e:=(f4.rd o2.lt fun x=>x).trans r2
   have s4:=s.fr f24 fun _ _ _ x=>x
   refine ct rfl ⟨e.place,rdc r4 rfl,cell_spec s4.str (by omega) s4.le p0 p1 fun _=>⟨_,_,_,rfl,e.inode,rdc r4 rfl,?_⟩⟩
   rw [Option.map_some,add_mk]
   have wu:∀ n:Int,0≤n→n≤4294967295→IntKind.wrap .u64 n=((n.toNat:Nat):Int):=fun n a b=>by
    show n % 18446744073709551616=_
    omega
   rw [wu _ (by omega) i1]
   obtain ⟨w4,wl4⟩:=s4.wr
   have x4:rd h4 b=rd h b:=f24.rd hbs fun x=>x
   refine Put_did (g.no f24) w4 (by omega) (by omega) (by omega) (by omega) (by omega) (by show e.inode.toNat<256 ^ 4; omega) fun h7 d7=>⟨_,rfl,?_⟩
   have hne:h.size≠b:=by omega
   have lt4:h.size<h4.size:=by have:=f4.size; omega
   have r7:rd h7 h.size=E.v e:=(d7.fr.rd lt4 hne).trans r4
   have g7:In.Glo h7:=(g.no f24).fr d7.fr fun x hx=>by omega
   have l7:(rd h7 b).length=(rd h b).length:=by rw [d7.rd,put_length,x4]
   refine ⟨mkStr e.name,rdc r7 rfl,?_⟩
   have hsz:(mkStr e.name).size=e.name.length:=rfl
   rw [hsz,wu _ (by omega) (by omega),Int.toNat_natCast]
   refine Put_did g7 d7.own (by omega) (by omega) (by omega) (by omega) (by omega) (by show e.name.length<256 ^ 1; omega) fun h8 d8=>⟨_,rfl,?_⟩
   have lt7:h.size<h7.size:=by have:=d7.fr.size; omega
   have r8:rd h8 h.size=E.v e:=(d8.fr.rd lt7 hne).trans r7
   have l8:(rd h8 b).length=(rd h b).length:=by rw [d8.rd,put_length,l7]
   refine ⟨mkStr e.name,rdc r8 rfl,PutText_did d8.own (by omega) (by omega) (by omega) (by omega) (by omega) (by omega) (by omega) (fun x hx=>(nm.all x hx).2) fun h9 d9=>⟨_,rfl,?_⟩⟩
   refine hK h9 ⟨?_,d9.own,?_⟩
   ·exact (((f24.mono fun _ _ x=>x.elim).trans d7.fr fun _ _ x=>x).trans d8.fr fun _ _ x=>x).trans d9.fr fun _ _ x=>x
   ·rw [d9.rd,d8.rd,d7.rd,x4,← put_sub s (by omega)]
    have l4:=leB_length 4 e.inode.toNat
    have ef:form e.inode.toNat e.name=leBs 4 e.inode.toNat++(leBs 1 e.name.length++(e.name++List.replicate (27 - e.name.length) 0)):=by
     rw [form,if_neg (by omega)]
     congr 1
     rw [show leBs 1 e.name.length=[UInt8.ofNat e.name.length] by rw [leB_succ]; rfl]
     rfl
    have em:(form e.inode.toNat e.name).map bv=(leBs 4 e.inode.toNat).map bv++((leBs 1 e.name.length).map bv++(e.name++List.replicate (27 - e.name.length) 0).map bv):=by
     rw [ef,List.map_append,List.map_append]
    rw [em]
    have key:∀ (X A B C:List Value) (o:Nat),A.length=4→B.length=1→put (put (put X (o+0) A) (o+4) B) (o+5) C=put X o (A++(B++C)):=by
     intro X A B C o h1 h2
     rw [put_app,put_app,h1,h2]
     rfl
    exact key _ _ _ _ _ (by rw [List.length_map]; exact l4) (by rw [List.length_map]; exact leB_length 1 _)
theorem ClearP_did {b o l:Nat} {h:Heap} {K:Heap→Prop} (w:Own h b) (hw:o+l≤(rd h b).length) (hK:∀ h',Wrote b h h' (put (rd h b) o ((List.replicate l (0:UInt8)).map bv))→K h'):ClearP ti5 (some ⟨b,o,none⟩) l h K:=by
 have erep:∀ m,repCells [Value.int .u8 0] m=(List.replicate m (0:UInt8)).map bv:=fun m=>by
  induction m with
  | zero=>rfl
  | succ m ih=>rw [List.replicate_succ,List.map_cons,← ih]; rfl
 refine ⟨trivial,?_,?_⟩
 ·rw [show (ti5).cells=1 from rfl,Nat.mul_one]
  simp only [WrS,Addr.add_zero]
  exact wrN_rd w (by omega)
 ·show K (setS h _ 0 (repCells [Value.int .u8 0] l))
  rw [erep]
  simp only [setS,Addr.add_zero]
  refine hK _ ⟨Fr.setRow (F:=fun x=>x=b) (Or.inl rfl) (Fr.refl _ _),own_setRow w,?_⟩
  rw [rd_setRow_at,Nat.add_zero]
theorem Clear_spec {b o l c:Nat} {bs:List UInt8} {k:Int} {F:Nat→Prop} {h:Heap} {K:Value→Heap→Prop} (s:Sl h 1 (some ⟨b,o,none⟩) l c (bs.map bv) F)
  (hK:∀ h',Wrote b h h' (put (rd h b) o ((clrA bs k).2.map bv))→K (.int .i64 (clrA bs k).1) h'):C.slots_Clear (some ⟨b,o,none⟩) l c k h K:=by
 have hbl:=s.1
 rw [List.length_map,Nat.mul_one] at hbl
 obtain ⟨w,wl⟩:=s.wr
 have no:∀ m,clrA bs k=(m,bs)→K (.int .i64 m) h:=by
  intro m ee
  have:=hK h
  rw [ee] at this
  exact this (wrote_id s (Fr.refl _ _))
 refine slots_Clear.ok (cn (fun hl=>no 32 (by rw [clrA,if_pos (by omega)])) fun hl=>isPlace_spec ⟨_,rfl,cnot ?_⟩)
 cases hp:(decide (0≤k) && decide (k<16)) with
 | false =>
  have:¬ (0≤k∧k<16):=by
   rintro ⟨a,b⟩
   rw [decide_eq_true a,decide_eq_true b] at hp; cases hp
  exact no 140 (by rw [clrA,if_neg (by omega),if_neg this])
 | true =>
  rw [Bool.and_eq_true,decide_eq_true_eq,decide_eq_true_eq] at hp
  have ea:clrA bs k=(0,putU bs (32*k.toNat) (List.replicate 32 0)):=by rw [clrA,if_neg (by omega),if_pos hp]
  rw [ea] at hK
  refine ct rfl (cell_spec s.str (by omega) s.le hp.1 hp.2 fun _=>⟨_,_,_,rfl,?_⟩)
  rw [Option.map_some,add_mk]
  refine ClearP_did w (by omega) fun h4 d4=>hK h4 ⟨d4.fr,d4.own,?_⟩
  rw [d4.rd,put_sub s (by rw [List.length_replicate]; omega)]
end Go.Proofs.YtiapingedfnlnaaGreatDoor.Ss
