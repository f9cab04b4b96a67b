/-
  TEXTS FOR walkThrough_card: TvN TvO TvQ TvR.
-/
import Derived.Test.YtiapingedfnlnaaGreatDoorGp5
namespace Go.Proofs.YtiapingedfnlnaaGreatDoor.Tr
open Go Go.Proofs Wx Hp Spc Re
open Sk (nameOk nameOk_iff)
open Pa (comps parseA makeA okPart okPart_iff Taken)
open Wl (St Pl noPl here upC more mu)
section
variable {n : Nat} {s : Ts} {fl beh : Bool} {i : Nat}
theorem nameOk_dots {c:Tm.Txt} (h:nameOk c=true):c≠[46,46]:=(nameOk_iff.mp h).dots
theorem has_name {l:List Tm.Txt} {m:List Int} {i:Int} (hl:l.length=m.length) (nd:l.Nodup) (h:i ∈ m):hasN l m (nameN l m i)=i∧nameN l m i ∈ l:=by
 induction l generalizing m with
 | nil =>
  have:m=[]:=List.length_eq_zero_iff.mp hl.symm
  subst this; cases h
 | cons x r ih =>
  cases m with
  | nil=>cases hl
  | cons v m =>
   have nd':=List.nodup_cons.mp nd
   show hasN (x::r) (v::m) (if v=i then x else nameN r m i)=i∧(if v=i then x else nameN r m i) ∈ x::r
   by_cases e:v=i
   ·rw [if_pos e]
    exact ⟨(if_pos rfl).trans e,List.mem_cons_self⟩
   ·rw [if_neg e]
    rcases List.mem_cons.mp h with h|h
    ·exact absurd h.symm e
    ·obtain ⟨a,b⟩:=ih (Nat.succ.inj hl) nd'.2 h
     refine ⟨?_,List.mem_cons_of_mem _ b⟩
     show (if x=nameN r m i then v else hasN r m (nameN r m i))=i
     rw [if_neg (fun y:x=nameN r m i=>nd'.1 (by rw [y]; exact b))]; exact a
end
end Go.Proofs.YtiapingedfnlnaaGreatDoor.Tr
namespace Go.Proofs.YtiapingedfnlnaaGreatDoor.Tr
open Go Go.Proofs Wx Hp W Spc Re
open Tm (TM Tx)
open Hd (ints)
open In (ints_length ints_one)
open Sk (nameOk nameOk_iff)
open Pa (parseA makeA)
open Wl (Pl noPl here toM makeW plV plV_one To_spec)
theorem mk_cat (x y:Tm.Txt):mkStr x++mkStr y=mkStr (x++y):=by
 apply ByteArray.ext
 rw [ByteArray.data_append]
 apply Array.ext'
 simp [mkStr]
end Go.Proofs.YtiapingedfnlnaaGreatDoor.Tr
namespace Go.Proofs.YtiapingedfnlnaaGreatDoor.Tr
open Go Go.Proofs Wx Hp Spc Re
open Sk (nameOk nameOk_iff)
open Pa (comps pieces noDot pieces_split pieces_word pieces_slash parseA Taken taken_of wrongB not_wrong wrong_mk compA fits)
open Wl (St Pl noPl here upC more mu)
theorem noDot_app (a b:List Tm.Txt):noDot (a++b)=noDot a++noDot b:=by unfold noDot; rw [List.filter_append]
theorem comps_split (u v:Tm.Txt):comps (u++47::v)=comps u++comps v:=by
 unfold comps
 rw [pieces_split,noDot_app]
theorem comps_slash (v:Tm.Txt):comps (47::v)=comps v:=by unfold comps; rw [pieces_slash]
theorem comps_name {c:Tm.Txt} (h:nameOk c=true):comps c=[c]:=by
 have a:=nameOk_iff.mp h
 have hne:c≠[]:=fun e=>by have:=a.pos; rw [e] at this; exact absurd this (by decide)
 have:=pieces_word (w:=c) (r:=[]) hne (fun b hb=>(a.all b hb).1) (.inl rfl)
 rw [List.append_nil] at this
 unfold comps
 rw [this]
 show noDot [c]=[c]
 unfold noDot
 rw [List.filter_cons_of_pos (by simp [a.dot]),List.filter_nil]
theorem taken_is {p:Tm.Txt} {b:Bool} (h:(parseA p b).2=0):(parseA p b).1=comps p:=(taken_of h).is.2.1
section
variable {n : Nat} {s : Ts} {fl beh : Bool}
theorem nxt_fol (f:Nat→Nd) (c:List Int) (l:List Tm.Txt) (k:Nat) (hk:k+1≤8):nxt f fl beh ⟨c,l,k+1⟩ = .inl (noPl,162)∨(∃ x,nxt f fl beh ⟨c,l,k+1⟩ = .inl x∧nxt f fl beh ⟨c,l,k⟩ = .inl x) ∨
  ∃ c' l' k',nxt f fl beh ⟨c,l,k+1⟩ = .inr ⟨c',l',k'+1⟩∧nxt f fl beh ⟨c,l,k⟩ = .inr ⟨c',l',k'⟩:=by
 unfold nxt
 cases l with
 | nil=>exact .inr (.inl ⟨_,rfl,rfl⟩)
 | cons x r =>
  dsimp only
  by_cases c1:x=[46,46]
  ·rw [if_pos c1,if_pos c1]; exact .inr (.inr ⟨_,_,k,rfl,rfl⟩)
  ·rw [if_neg c1,if_neg c1]
   by_cases c2:hasN (f (here c).toNat).names (f (here c).toNat).nums x=0
   ·rw [if_pos c2,if_pos c2]; exact .inr (.inl ⟨_,rfl,rfl⟩)
   ·rw [if_neg c2,if_neg c2]
    by_cases c3:(f (hasN (f (here c).toNat).names (f (here c).toNat).nums x).toNat).kind=2∧more beh r=true
    ·rw [if_pos c3,if_pos c3]; exact .inr (.inr ⟨_,_,k,rfl,rfl⟩)
    ·rw [if_neg c3,if_neg c3]
     by_cases c4:(f (hasN (f (here c).toNat).names (f (here c).toNat).nums x).toNat).kind=3∧(more beh r=true∨fl=true)
     ·rw [if_pos c4,if_pos c4]
      by_cases c5:k+1=8
      ·rw [if_pos c5]; exact .inl rfl
      ·rw [if_neg c5,if_neg (show ¬ k=8 by omega)]; exact .inr (.inr ⟨_,_,k+1,rfl,rfl⟩)
     ·rw [if_neg c4,if_neg c4]
      split
      ·exact .inr (.inl ⟨_,rfl,rfl⟩)
      ·exact .inr (.inl ⟨_,rfl,rfl⟩)
theorem goes_fol (g:Good n s) (tx:∀ k,TxOk (s.nd k)):∀ (N:Nat) (c:List Int) (l:List Tm.Txt) (k:Nat),mu ⟨c,l,k+1⟩≤N→On s ⟨c,l,k+1⟩→(goesM s.nd fl beh ⟨c,l,k+1⟩).2=162∨goesM s.nd fl beh ⟨c,l,k+1⟩=goesM s.nd fl beh ⟨c,l,k⟩
 | N,c,l,k,hN,o=>by
  have hk:k+1≤8:=o.fol
  have o0:On s ⟨c,l,k⟩:=⟨o.ne,by show k≤8; omega,o.dir,o.left⟩
  rw [goes_nxt g tx o,goes_nxt g tx o0]
  rcases nxt_fol (fl:=fl) (beh:=beh) s.nd c l k hk with e|⟨x,e1,e2⟩|⟨c',l',k',e1,e2⟩
  ·rw [e]; exact .inl rfl
  ·rw [e1,e2]; exact .inr rfl
  ·obtain ⟨o',hm⟩:=nxt_ok g tx o e1
   rw [e1,e2]
   cases N with
   | zero=>omega
   | succ N=>exact goes_fol g tx N c' l' k' (by omega) o'
theorem through_goes (g:Good n s) (tx:∀ k,TxOk (s.nd k)) {c:Tm.Txt} {q:Nat} {tail:List Tm.Txt} (hc:nameOk c=true) (hq:hasN (s.nd 1).names (s.nd 1).nums c=(q:Int)) (q1:1≤q) (q3:(s.nd q).kind=3) (ht:tail≠[]) (hco:∀ x ∈ tail,CompOk x) :
  (goesM s.nd false false ⟨[1],c::tail,0⟩).2=162∨goesM s.nd false false ⟨[1],c::tail,0⟩=goesM s.nd false false ⟨[1],comps (s.nd q).text++tail,0⟩:=by
 have o:=on_root g (s:=s) (l:=c::tail) (Nat.zero_le 8) fun x hx=>by
  rcases List.mem_cons.mp hx with rfl|hx
  ·exact .inr hc
  ·exact hco x hx
 have mo:more false tail=true:=by
  unfold more
  rw [decide_eq_true (List.length_pos_iff.mpr ht),Bool.or_true]
 have h1:here [1]=1:=rfl
 have en:nxt s.nd false false ⟨[1],c::tail,0⟩ = .inr ⟨[1],comps (s.nd q).text++tail,0+1⟩:=by
  unfold nxt
  dsimp only
  rw [if_neg (nameOk_dots hc),show here ([1]:List Int)=1 from rfl,show ((1:Int)).toNat=1 from rfl,hq,if_neg (by omega),Int.toNat_natCast,if_neg (fun y=>by have:=y.1; omega),if_pos ⟨q3,.inl mo⟩,if_neg (by decide)]
  have:(if (s.nd q).text.head?=some 47 then ([1]:List Int) else [1])=[1]:=by split <;> rfl
  rw [this]
 have nx:=nxt_ok g tx o en
 rw [goes_nxt g tx o,en]
 exact goes_fol g tx _ _ _ 0 (Nat.le_refl _) nx.1
theorem through_ans (g:Good n s) (tx:∀ k,TxOk (s.nd k)) {c rest:Tm.Txt} {q:Nat} (hc:nameOk c=true) (hq:hasN (s.nd 1).names (s.nd 1).nums c=(q:Int)) (q1:1≤q) (q3:(s.nd q).kind=3)
  (h0:(parseA (47::rest) true).2=0) (ht:(parseA (47::rest) true).1≠[]) (hj:(parseA (47::(s.nd q).text++47::rest) true).2=0) (hw:(parseA (47::c++47::rest) true).2=0) :
  ((toT s.nd (47::c++47::rest) false).2=162∨toT s.nd (47::c++47::rest) false=toT s.nd (47::(s.nd q).text++47::rest) false) ∧
  ((47::c++47::rest).length+3≤1024→toT s.nd ([47,46,47]++(47::c++47::rest)) false=toT s.nd (47::c++47::rest) false):=by
 have e0:=taken_is h0
 have ej:=taken_is hj
 have ew:=taken_is hw
 have c0:comps (47::rest)=comps rest:=comps_slash rest
 have cj:comps (47::(s.nd q).text++47::rest)=comps (s.nd q).text++comps rest:=by rw [comps_split,comps_slash]
 have cw:comps (47::c++47::rest)=c::comps rest:=by rw [comps_split,comps_slash,comps_name hc]; rfl
 rw [e0,c0] at ht
 have hco:∀ x ∈ comps rest,CompOk x:=by
  have:=taken_comp (taken_of h0)
  rw [e0,c0] at this; exact this
 constructor
 ·unfold toT
  rw [if_neg (fun y=>y hw),if_neg (fun y=>y hj),ew,ej,cw,cj]
  exact through_goes g tx hc hq q1 q3 ht hco
 ·intro hl
  have t:=taken_of hw
  have nw:=not_wrong t.w
  have cd:comps ([47,46,47]++(47::c++47::rest))=comps (47::c++47::rest):=by
   show comps ([47,46]++47::(47::c++47::rest))=_
   rw [comps_split,show comps [47,46]=[] from rfl,List.nil_append]
  have td:Taken ([47,46,47]++(47::c++47::rest)) true (comps (47::c++47::rest)):=by
   refine Taken.mk' (wrong_mk (by simp) (fun x hx=>?_) fun _=>rfl) (by rw [List.length_append]; show 3+_≤1024; omega) cd ?_
   ·rcases List.mem_append.mp hx with hx|hx
    ·simp only [List.mem_cons,List.not_mem_nil,or_false] at hx
     rcases hx with rfl|rfl|rfl <;> decide
    ·exact nw.2.1 x hx
   ·have:=t.is.2.2
    rw [t.is.2.1] at this; exact this
  unfold toT
  rw [td.eq,if_neg (fun y=>y rfl),if_neg (fun y=>y hw),ew]
end
end Go.Proofs.YtiapingedfnlnaaGreatDoor.Tr
namespace Go.Proofs.YtiapingedfnlnaaGreatDoor.Tr
open Go Go.Proofs Wx Hp W Spc Re
open Tm (TM Tx)
open Hd (ints)
open In (ints_length ints_one)
open Sk (nameOk nameOk_iff)
open Pa (parseA makeA Parse_spec)
open Wl (Pl noPl here toM makeW plV plV_one To_spec)
section
variable {h : Heap} {K : Value → Heap → Prop} {n : Nat} {s : Ts} {D : Dt} {tb : Nat} {F : Nat → Prop} {dd : Option Addr} {T : TM} {h3 h21 h27 h32 h20 : Heap}
theorem thr_k5 {a1 a2:Option Addr} {c1 c2 bb:Nat} {p q:Pl} {e f:Int} (r1:rd h32 h21.size=plV a1 c1 p) (r2:rd h32 bb=plV a2 c2 q) (A:SlCells h32 a1 (ints p.chain)) (B:SlCells h32 a2 (ints q.chain)) (bl:p.chain.length≤140737488355328)
  (he:(p,e).2=162∨(p,e)=(q,f)) (hK:∀ h',Fr No h32 h'→K (.bool true) h'):bolelaw16_WalkThrough.k5 h21 e f (some ⟨bb,0,none⟩) h32 K:=by
 unfold bolelaw16_WalkThrough.k5
 refine num_spec ⟨_,rfl,ce (fun _=>hK h32 (Fr.refl _ _)) fun ne=>?_⟩
 have eq:=he.resolve_left ne
 have ep:p=q:=(Prod.mk.inj eq).1
 have ee:e=f:=(Prod.mk.inj eq).2
 subst ep ee
 refine ce (fun _=>⟨_,rda r1 rfl,os ⟨_,rda r2 rfl,?_⟩⟩) fun y=>absurd rfl y
 rw [toList_mkStr]
 refine ct (beq_self_eq_true _) ⟨_,rda r1 rfl,os ⟨_,rda r2 rfl,ce (fun _=>⟨_,_,_,rda r1 rfl,os ⟨_,_,_,rda r2 rfl,same_spec A rfl B rfl bl ⟨_,rfl,?_⟩⟩⟩) fun y=>absurd rfl y⟩⟩
 rw [decide_eq_true rfl]
 exact hK h32 (Fr.refl _ _)
theorem thr_k4 {a1 a2:Option Addr} {c1 c2 bb:Nat} {q:Pl} {f:Int} {c rest:Tm.Txt} (g:Good n s) (tx:∀ k,TxOk (s.nd k)) (S:Shows T (geoN n) s) (gl:In.Glo h27) (X:Tx h27 F (some ⟨tb,0,none⟩) dd T) (rg:rd h27 h3.size=(geoN n).v) (hr:rest.length≤1000000000) (hcl:c.length≤27)
  (r1:rd h27 h21.size=plV a1 c1 (toT s.nd (47::c++47::rest) false).1) (r2:rd h27 bb=plV a2 c2 q) (A:SlCells h27 a1 (ints (toT s.nd (47::c++47::rest) false).1.chain)) (B:SlCells h27 a2 (ints q.chain)) (bl:(toT s.nd (47::c++47::rest) false).1.chain.length≤400)
  (he:(toT s.nd (47::c++47::rest) false).2=162∨toT s.nd (47::c++47::rest) false=(q,f)) (hd:(47::c++47::rest).length+3≤1024→toT s.nd ([47,46,47]++(47::c++47::rest)) false=toT s.nd (47::c++47::rest) false)
  (hK:∀ h',Fr No h27 h'→K (.bool true) h'):bolelaw16_WalkThrough.k4 (mkStr rest) h3 (some ⟨tb,0,none⟩) (mkStr c) h21 (toT s.nd (47::c++47::rest) false).2 f (some ⟨bb,0,none⟩) h27 K:=by
 have gbl:h3.size<h27.size:=rd_lt (o:=0) (v := .int .i64 (geoN n).blocks) (by rw [rg]; rfl)
 have l1:h21.size<h27.size:=rd_lt (o:=0) (v:=(plV a1 c1 (toT s.nd (47::c++47::rest) false).1)[0]'(by show 0<3; decide)) (by rw [r1]; rfl)
 have l2:bb<h27.size:=rd_lt (o:=0) (v:=(plV a2 c2 q)[0]'(by show 0<3; decide)) (by rw [r2]; rfl)
 have es:mkStr [47]++mkStr c++mkStr [47]++mkStr rest=mkStr (47::c++47::rest):=by
  rw [mk_cat,mk_cat,mk_cat,List.append_assoc]; rfl
 have wl:(47::c++47::rest).length=c.length+rest.length+2:=by rw [List.length_append,List.length_cons,List.length_cons]; omega
 have ez:(mkStr (47::c++47::rest)).size=c.length+rest.length+2:=wl
 have e3:(mkStr [47,46,47]).size=3:=rfl
 generalize hw:47::c++47::rest=w at *
 unfold bolelaw16_WalkThrough.k4
 rw [es,mk_cat,ez,e3]
 refine ⟨_,rfl,cellsAll rg,by omega,To_spec gl g.dim X (by rw [List.length_append]; show 3+_≤_; omega) fun h28 a3 c3 f28 L3=>⟨_,_,rfl,NewRow.intro rfl plV_one rfl fun h30 n30=>?_⟩⟩
 have z28:=f28.size
 have z30:=n30.size
 have f30:Fr No h27 h30:=f28.new n30
 have r1':rd h30 h21.size=plV a1 c1 (toT s.nd w false).1:=(f30.rd l1 fun y=>y).trans r1
 have r2':rd h30 bb=plV a2 c2 q:=(f30.rd l2 fun y=>y).trans r2
 have A':SlCells h30 a1 (ints (toT s.nd w false).1.chain):=SlCells.fr f30 A fun _ _ y=>y
 have B':SlCells h30 a2 (ints q.chain):=SlCells.fr f30 B fun _ _ y=>y
 rw [to_tree g tx S] at L3 n30 ⊢
 refine cd (fun hs=>?_) fun hs=>thr_k5 r1' r2' A' B' (by omega) he fun h' f=>hK h' (f30.no f)
 rw [wrap_i64 (by omega) (by omega)] at hs
 rw [hd (by omega)] at L3 n30 ⊢
 refine cn (fun y=>absurd rfl y) fun _=>⟨_,rda r1' rfl,_,rda n30.rd rfl,?_⟩
 rw [toList_mkStr]
 refine cnot (ct (beq_self_eq_true _) ⟨_,rda r1' rfl,_,rda n30.rd rfl,cn (fun y=>absurd rfl y) fun _=>⟨_,_,_,rda r1' rfl,_,_,_,rda n30.rd rfl,same_spec A' rfl (SlCells.fr n30.fr L3.cells fun _ _ y=>y) rfl (by omega) ⟨_,rfl,?_⟩⟩⟩)
 rw [decide_eq_true rfl]
 exact cnot (ct rfl (thr_k5 r1' r2' A' B' (by omega) he fun h' f=>hK h' (f30.no f)))
theorem to_len {p:Tm.Txt} {fl:Bool} (g:Good n s) (tx:∀ k,TxOk (s.nd k)) (S:Shows T (geoN n) s):(toT s.nd p fl).1.chain.length≤400:=by
 rw [← to_tree g tx S]; exact Wo.to_chain _ _ _ _
theorem thr_k3 {c rest:Tm.Txt} {q:Nat} (g:Good n s) (tx:∀ k,TxOk (s.nd k)) (S:Shows T (geoN n) s) (gl:In.Glo h20) (X:Tx h20 F (some ⟨tb,0,none⟩) dd T) (Tt:Tree h20 s D) (rg:rd h20 h3.size=(geoN n).v) (hr:rest.length≤1000000000) (hc:nameOk c=true) (hq:hasN (s.nd 1).names (s.nd 1).nums c=(q:Int)) (q1:1≤q) (q2:q<s.n) (q3:(s.nd q).kind=3)
  (h0:(parseA (47::rest) true).2=0) (ht:(parseA (47::rest) true).1≠[]) (hj:(parseA (47::(s.nd q).text++47::rest) true).2=0) (hw:(parseA (47::c++47::rest) true).2=0)
  (hK:∀ h',Fr No h20 h'→K (.bool true) h'):bolelaw16_WalkThrough.k3 (mkStr rest) h3 (some ⟨tb,0,none⟩) D.pa s.n (q:Int) (mkStr c) h20 K:=by
 have gbl:h3.size<h20.size:=rd_lt (o:=0) (v := .int .i64 (geoN n).blocks) (by rw [rg]; rfl)
 have ans:=through_ans g tx hc hq q1 q3 h0 ht hj hw
 have hcl:=(nameOk_iff.mp hc).le
 have kt:=(g.kt q).2.2 q3
 have es:mkStr [47]++mkStr c++mkStr [47]++mkStr rest=mkStr (47::c++47::rest):=by
  rw [mk_cat,mk_cat,mk_cat,List.append_assoc]; rfl
 have es2:mkStr [47]++mkStr (s.nd q).text++mkStr [47]++mkStr rest=mkStr (47::(s.nd q).text++47::rest):=by
  rw [mk_cat,mk_cat,mk_cat,List.append_assoc]; rfl
 have wl:(47::c++47::rest).length=c.length+rest.length+2:=by rw [List.length_append,List.length_cons,List.length_cons]; omega
 have wl2:(47::(s.nd q).text++47::rest).length=(s.nd q).text.length+rest.length+2:=by rw [List.length_append,List.length_cons,List.length_cons]; omega
 have z1:((mkStr [47]).size+(mkStr (s.nd q).text).size:Nat)=1+(s.nd q).text.length:=rfl
 have z2:((mkStr [47]++mkStr (s.nd q).text).size+(mkStr [47]).size:Nat)=2+(s.nd q).text.length:=by
  rw [mk_cat]
  show ([47]++(s.nd q).text).length+1=_
  rw [List.length_append]; show 1+_+1=_; omega
 have z3:((mkStr [47]++mkStr (s.nd q).text++mkStr [47]).size+(mkStr rest).size:Nat)=2+(s.nd q).text.length+rest.length:=by
  rw [mk_cat,mk_cat]
  show ([47]++(s.nd q).text++[47]).length+rest.length=_
  rw [List.length_append,List.length_append]; show 1+_+1+_=_; omega
 have bw:=to_len (fl:=false) (p:=47::c++47::rest) g tx S
 have ea:=to_tree g tx S (47::c++47::rest) (fl:=false)
 have eb:=to_tree g tx S (47::(s.nd q).text++47::rest) (fl:=false)
 unfold bolelaw16_WalkThrough.k3
 rw [es]
 refine ⟨_,rfl,cellsAll rg,To_spec gl g.dim X (by rw [wl]; omega) fun h21 a1 c1 f21 L1=>⟨_,_,rfl,NewRow.intro rfl plV_one rfl fun h23 n23=>?_⟩⟩
 rw [ea] at L1 n23 ⊢
 have y21:=f21.size
 have y23:=n23.size
 have f23:Fr No h20 h23:=f21.new n23
 have gl23:=gl.no f23
 have X23:=X.no f23
 have rg23:rd h23 h3.size=(geoN n).v:=(f23.rd gbl fun y=>y).trans rg
 obtain ⟨p,ep,cp⟩:=(Tt.no f23).ptr q q1 q2
 have N:=(Tt.no f23).nd q q1 q2
 have L23:SlCells h23 a1 (ints (toT s.nd (47::c++47::rest) false).1.chain):=SlCells.fr n23.fr L1.cells fun _ _ y=>y
 have plen:(47::(s.nd q).text++47::rest).length≤9223372036854775806:=by rw [wl2]; omega
 rw [ep,Int.toNat_natCast]
 refine ⟨_,rfl,cellsAll rg23,⟨by omega,by omega⟩,os ⟨_,cp,os ⟨mkStr (s.nd q).text,rda N.r rfl,?_⟩⟩⟩
 rw [z1,z2,z3,es2]
 refine ⟨by omega,by omega,by omega,?_,?_⟩
 ·refine To_spec gl23 g.dim X23 plen fun h24 a2 c2 f24 L2=>⟨_,_,rfl,New.intro fun h25 n25=>?_⟩
  rw [eb] at L2 ⊢
  have y24:=f24.size
  have y25:=n25.size
  have f25:Fr No h23 h25:=f24.new n25
  have rg25:rd h25 h3.size=(geoN n).v:=(f25.rd (by omega) fun y=>y).trans rg23
  refine ⟨⟨rfl,cellsAll rg25⟩,cell_no cp f25,cell_no (rda N.r rfl) f25,PutRow.intro n25.own rfl plV_one (by rw [n25.rd]; show 0+3≤3; omega) fun h26 d26=>?_⟩
  have y26:=d26.size
  have r26:rd h26 h24.size=plV a2 c2 (toT s.nd (47::(s.nd q).text++47::rest) false).1:=by rw [d26.rd,put_all _ _ (by rw [n25.rd]; rfl)]
  have fd:Fr No h23 h26:=f25.trans d26.fr fun b hb y=>by have y:b=h24.size:=y; omega
  refine thr_k4 (q:=(toT s.nd (47::(s.nd q).text++47::rest) false).1) g tx S (gl23.no fd) (X23.no fd) ((fd.rd (by omega) fun y=>y).trans rg23) hr hcl ((fd.rd (by omega) fun y=>y).trans n23.rd) r26 (SlCells.fr fd L23 fun _ _ y=>y) ?_ bw ans.1 ans.2 fun h' f=>hK h' ((f23.no fd).no f)
  refine SlCells.fr d26.fr (SlCells.fr n25.fr L2.cells fun _ _ y=>y) fun p hp y=>?_
  subst hp
  have y:p.block=h24.size:=y
  have:=(show Sl h24 1 (some p) _ c2 _ _ from L2).lt
  omega
 ·refine New.intro fun h35 n35=>?_
  have y35:=n35.size
  have rg35:rd h35 h3.size=(geoN n).v:=(n35.at_ (by omega)).trans rg23
  refine ⟨⟨rfl,cellsAll rg35⟩,cell_no cp n35.fr,cell_no (rda N.r rfl) n35.fr,To_spec (gl23.no n35.fr) g.dim (X23.no n35.fr) plen fun h36 a2 c2 f36 L2=>⟨_,_,rfl,?_⟩⟩
  rw [eb] at L2 ⊢
  have y36:=f36.size
  have rl36:rd h36 h23.size=rd h35 h23.size:=f36.rd (by omega) fun y=>y
  refine PutRow.intro (f36.own (by omega) (fun y=>y) n35.own) rfl plV_one (by rw [rl36,n35.rd]; show 0+3≤3; omega) fun h37 d37=>?_
  have y37:=d37.size
  have r37:rd h37 h23.size=plV a2 c2 (toT s.nd (47::(s.nd q).text++47::rest) false).1:=by rw [d37.rd,put_all _ _ (by rw [rl36,n35.rd]; rfl)]
  have fd:Fr No h23 h37:=(n35.fr.no f36).trans d37.fr fun b hb y=>by have y:b=h23.size:=y; omega
  refine thr_k4 (q:=(toT s.nd (47::(s.nd q).text++47::rest) false).1) g tx S (gl23.no fd) (X23.no fd) ((fd.rd (by omega) fun y=>y).trans rg23) hr hcl ((fd.rd (by omega) fun y=>y).trans n23.rd) r37 (SlCells.fr fd L23 fun _ _ y=>y) ?_ bw ans.1 ans.2 fun h' f=>hK h' ((f23.no fd).no f)
  refine SlCells.fr d37.fr L2.cells fun p hp y=>?_
  subst hp
  have y:p.block=h23.size:=y
  have:h35.size≤p.block:=L2.2.2.1
  omega
theorem thr_k2 {rest:Tm.Txt} {which:Int} {xs:List Int} {la:Option Addr} (g:Good n s) (tx:∀ k,TxOk (s.nd k)) (S:Shows T (geoN n) s) (gl:In.Glo h20) (X:Tx h20 F (some ⟨tb,0,none⟩) dd T) (Tt:Tree h20 s D) (rg:rd h20 h3.size=(geoN n).v) (hr:rest.length≤1000000000)
  (A:SlCells h20 la (ints xs)) (hx:∀ x ∈ xs,∃ q:Nat,x=q∧1≤q∧q<s.n∧(s.nd q).kind=3∧nameN (s.nd 1).names (s.nd 1).nums q≠[]) (h1:xs≠[]) (hxl:xs.length≤1000) (h0:(parseA (47::rest) true).2=0) (ht:(parseA (47::rest) true).1≠[])
  (hK:∀ h',Fr No h20 h'→K (.bool true) h'):bolelaw16_WalkThrough.k2 (mkStr rest) which h3 (some ⟨tb,0,none⟩) D.pa s.n la xs.length h20 K:=by
 have gbl:h3.size<h20.size:=rd_lt (o:=0) (v := .int .i64 (geoN n).blocks) (by rw [rg]; rfl)
 have hp:0<xs.length:=List.length_pos_iff.mpr h1
 have u1:IntKind.wrap .u64 (xs.length:Int)=(xs.length:Int):=by rw [wrap_uu]; omega
 have hm:=modU_lt (x:=which) hp
 have em:Int.tmod (IntKind.wrap .u64 which) (xs.length:Int)=((modU which xs.length:Nat):Int):=by
  have a:=Int.emod_nonneg which (show (18446744073709551616:Int)≠0 by decide)
  rw [wrap_uu,Int.tmod_eq_emod_of_nonneg a]
  unfold modU
  have b:=Int.emod_nonneg (which % 18446744073709551616) (show (xs.length:Int)≠0 by omega)
  omega
 obtain ⟨p4,ep4,cp4⟩:=cells_int A hm
 obtain ⟨q,eq,q1,q2,q3,qn⟩:=hx _ (List.getElem_mem hm)
 rw [eq] at cp4
 have mem:(q:Int) ∈ (s.nd 1).nums:=Classical.byContradiction fun y=>qn (nameN_no fun x hx e=>y (e▸hx))
 have s2:=g.tr.n2
 have hn:=has_name (g.len 1).1 (g.tr.nodup 1 (by omega)) mem
 have hc:=g.nm (k:=1) (by omega) _ hn.2
 have kt:=(g.kt q).2.2 q3
 obtain ⟨p,ep,cp⟩:=(Tt.no (Fr.refl _ _)).ptr q q1 q2
 have N:=Tt.nd q q1 q2
 have ep0:=ep
 have z1:((mkStr [47]).size+(mkStr (s.nd q).text).size:Nat)=1+(s.nd q).text.length:=rfl
 have z2:((mkStr [47]++mkStr (s.nd q).text).size+(mkStr [47]).size:Nat)=2+(s.nd q).text.length:=by
  rw [mk_cat]
  show ([47]++(s.nd q).text).length+1=_
  rw [List.length_append]; show 1+_+1=_; omega
 have z3:((mkStr [47]++mkStr (s.nd q).text++mkStr [47]).size+(mkStr rest).size:Nat)=2+(s.nd q).text.length+rest.length:=by
  rw [mk_cat,mk_cat]
  show ([47]++(s.nd q).text++[47]).length+rest.length=_
  rw [List.length_append,List.length_append]; show 1+_+1+_=_; omega
 have es2:mkStr [47]++mkStr (s.nd q).text++mkStr [47]++mkStr rest=mkStr (47::(s.nd q).text++47::rest):=by
  rw [mk_cat,mk_cat,mk_cat,List.append_assoc]; rfl
 have wl2:(47::(s.nd q).text++47::rest).length=(s.nd q).text.length+rest.length+2:=by rw [List.length_append,List.length_cons,List.length_cons]; omega
 unfold bolelaw16_WalkThrough.k2
 rw [u1,if_neg (by omega),em,wrap_i64 (show -9223372036854775808≤((modU which xs.length:Nat):Int) by omega) (by omega),Int.toNat_natCast]
 refine ⟨⟨by omega,by omega⟩,?_⟩
 rw [ep4]
 refine os ⟨_,cp4,⟨by omega,by omega⟩,?_⟩
 rw [ep,Int.toNat_natCast]
 refine os ⟨_,cp,os ⟨mkStr (s.nd q).text,rda N.r rfl,?_⟩⟩
 rw [z1,z2,z3,es2]
 refine ⟨by omega,by omega,by omega,Parse_spec (by rw [wl2]; omega) fun a4 l4 c4 h15 f15 Z4=>⟨_,_,_,_,rfl,⟨by decide,by omega⟩,?_⟩⟩
 obtain ⟨p1,ep1,cp1⟩:=(Tt.no f15).ptr 1 (Nat.le_refl _) (by omega)
 have N1:=(Tt.no f15).nd 1 (Nat.le_refl _) (by omega)
 have len1:=g.len 1
 have epp:p1=p:=by rw [ep1] at ep0; exact Option.some.inj ep0
 subst epp
 refine os ⟨_,cp1,nameOf_spec N1 (by omega) ⟨_,rfl,?_⟩⟩
 generalize nameN (s.nd 1).names (s.nd 1).nums q=c at hn hc
 have hcl:=(nameOk_iff.mp hc).le
 have y1:((mkStr [47]).size+(mkStr c).size:Nat)=1+c.length:=rfl
 have y2:((mkStr [47]++mkStr c).size+(mkStr [47]).size:Nat)=2+c.length:=by
  rw [mk_cat]
  show ([47]++c).length+1=_
  rw [List.length_append]; show 1+_+1=_; omega
 have y3:((mkStr [47]++mkStr c++mkStr [47]).size+(mkStr rest).size:Nat)=2+c.length+rest.length:=by
  rw [mk_cat,mk_cat]
  show ([47]++c++[47]).length+rest.length=_
  rw [List.length_append,List.length_append]; show 1+_+1+_=_; omega
 have es:mkStr [47]++mkStr c++mkStr [47]++mkStr rest=mkStr (47::c++47::rest):=by
  rw [mk_cat,mk_cat,mk_cat,List.append_assoc]; rfl
 have wl:(47::c++47::rest).length=c.length+rest.length+2:=by rw [List.length_append,List.length_cons,List.length_cons]; omega
 rw [y1,y2,y3,es]
 refine ⟨by omega,by omega,by omega,Parse_spec (by rw [wl]; omega) fun a5 l5 c5 h17 f17 Z5=>⟨_,_,_,_,rfl,num_spec ⟨_,rfl,cn (fun _=>hK h17 (f15.no f17)) fun hj=>num_spec ⟨_,rfl,cn (fun _=>hK h17 (f15.no f17)) fun hw=>ce (fun _=>hK h17 (f15.no f17)) fun _=>?_⟩⟩⟩⟩
 have F17:=f15.no f17
 rw [← ep0]
 exact thr_k3 g tx S (gl.no F17) (X.no F17) (Tt.no F17) ((F17.rd gbl fun y=>y).trans rg) hr hc hn.1 q1 q2 q3 h0 ht hj hw fun h' f=>hK h' (F17.no f)
variable {more which : Int} {ta pa : Option Addr} {tl tc pl pc : Nat} {ts : List Th} {rest : Tm.Txt}
theorem WalkThrough_spec (gl:In.Glo h) (Z:SlCells h ta (ts.flatMap thV)) (hl:ts.length=tl) (htl:tl≤1000000000) (ht:∀ t ∈ ts,t.name.length≤1000000000∧t.text.length≤1000000000) (hr:rest.length≤1000000000) (hK:∀ h',Fr No h h'→K (.bool true) h'):C.bolelaw16_WalkThrough (setV more ta tl tc pa pl pc) (mkStr rest) which h K:=by
 have bn:=blocksN_rng more
 refine bolelaw16_WalkThrough.ok (New.intro fun h2 n2=>⟨_,rfl,cellsAll n2.rd,right_spec (SlCells.fr n2.fr Z fun _ _ y=>y) hl htl ht fun tb dd F D h3 f3 x3 hF T3=>⟨_,_,_,_,_,_,rfl,NewRow.intro rfl (Spc.G.one _) rfl fun h5 n5=>cnot (ct rfl (known_spec (gl.no ((n2.fr.no f3).new n5)) fun h6 f6=>⟨_,rfl,cnot (ct rfl ?_)⟩))⟩⟩)
 have S:=chunks_shows (n:=blocksN more) (ts:=ts) ⟨bn.1,bn.2⟩
 have tx:=tree_tx (blocksN more) ts
 generalize hn:blocksN more=n at *
 have g:=tree_good ⟨bn.1,bn.2⟩ ts
 generalize treeP n ts=s at *
 generalize (⟨Ad.fresh (Ad.chunks (imgP n s)),[],[],false⟩:TM)=T at x3 S
 have z2:=n2.size
 have z3:=f3.size
 have z5:=n5.size
 have z6:=f6.size
 have f36:Fr No h3 h6:=n5.fr.no f6
 have F6:Fr No h h6:=(n2.fr.no f3).no f36
 have gl6:In.Glo h6:=gl.no F6
 have rg6:rd h6 h3.size=(geoN n).v:=(f6.rd (by omega) fun y=>y).trans n5.rd
 have X6:=x3.no f36
 have T6:=T3.no f36
 have s2:=g.tr.n2
 have hc:(geoN n).count=8*(n / 64):=rfl
 have hcnt:=g.tr.cnt
 have len1:=g.len 1
 unfold bolelaw16_WalkThrough.k1
 refine ⟨fun lA lL lC i1 hx=>∃ (i:Nat) (xs:List Int),i1=i∧i≤s.n∧Fr No h6 hx∧lL=xs.length∧xs.length≤i∧Sl hx 1 lA lL lC (ints xs) (From h6.size)∧∀ x ∈ xs,∃ q:Nat,x=q∧1≤q∧q<s.n∧(s.nd q).kind=3∧nameN (s.nd 1).names (s.nd 1).nums q≠[],
  fun _ _ _ i1 _=>((s.n:Int) - i1).toNat,⟨0,[],rfl,Nat.zero_le _,Fr.refl _ _,rfl,Nat.le_refl _,Sl.nil _ _ _,fun x hx=>by cases hx⟩,?_⟩
 rintro lA lL lC i1 h8 ⟨i,xs,rfl,hi,f8,rfl,hxi,S8,hx⟩
 have z8:=f8.size
 have rg8:rd h8 h3.size=(geoN n).v:=(f8.rd (by omega) fun y=>y).trans rg6
 have T8:=T6.no f8
 refine cd (fun hlt=>?_) fun hge=>?_
 ·have hlt:i<s.n:=by omega
  have w1:IntKind.wrap .i64 ((i:Int)+1)=((i+1:Nat):Int):=by rw [wrap_i64 (by omega) (by omega)]; omega
  have next:∀ h',Fr No h8 h'→(∃ (j:Nat) (ys:List Int),IntKind.wrap .i64 ((i:Int)+1)=j∧j≤s.n∧Fr No h6 h'∧xs.length=ys.length∧ys.length≤j∧Sl h' 1 lA xs.length lC (ints ys) (From h6.size)∧∀ x ∈ ys,∃ q:Nat,x=q∧1≤q∧q<s.n∧(s.nd q).kind=3∧nameN (s.nd 1).names (s.nd 1).nums q≠[]) ∧
    ((s.n:Int) - IntKind.wrap .i64 ((i:Int)+1)).toNat<((s.n:Int) - (i:Int)).toNat:=fun h' f=>by
   rw [w1]
   exact ⟨⟨i+1,xs,rfl,by omega,f8.no f,rfl,by omega,Sl.fr f S8 fun _ _ _ y=>y,hx⟩,by omega⟩
  refine ⟨⟨by omega,by omega⟩,?_⟩
  by_cases i0:i=0
  ·subst i0
   obtain ⟨p,ep,cp⟩:=T8.nul
   rw [ep]
   exact os ⟨none,cp,cd (fun y=>absurd y (by decide)) fun _=>next h8 (Fr.refl _ _)⟩
  ·obtain ⟨p,ep,cp⟩:=T8.ptr i (by omega) hlt
   have N8:=T8.nd i (by omega) hlt
   obtain ⟨p1,ep1,cp1⟩:=T8.ptr 1 (Nat.le_refl _) (by omega)
   have N1:=T8.nd 1 (Nat.le_refl _) (by omega)
   have epp:p1=p:=by rw [ep1] at ep; exact Option.some.inj ep
   subst epp
   rw [ep,Int.toNat_natCast]
   refine os ⟨_,cp,cd (fun _=>os ⟨_,rda N8.r rfl,ce (fun k3=>⟨⟨by decide,by omega⟩,os ⟨_,cp1,nameOf_spec N1 (by omega) ⟨_,rfl,?_⟩⟩⟩) fun k3=>next h8 (Fr.refl _ _)⟩) fun y=>by omega⟩
   rw [toList_mkStr,toList_mkStr]
   refine cnot (cs (fun hz=>next h8 (Fr.refl _ _)) fun hz=>New.intro fun h10 n10=>?_)
   have hz:nameN (s.nd 1).names (s.nd 1).nums i≠[]:=fun y=>by rw [y] at hz; simp at hz
   have z10:=n10.size
   have hbytes:(ti3).bytes=8:=rfl
   refine ⟨_,rfl,cellsAll n10.rd,fun v hv=>by rw [List.mem_singleton.mp hv]; rfl,append_own (elem:=ti3) (Sl.fr n10.fr S8 fun _ _ _ y=>y) rfl rfl (by rw [hbytes]; omega) (by omega) fun a' c' h11 f11 S11=>?_⟩
   have z11:=f11.size
   have F11:Fr No h6 h11:=(f8.new n10).trans f11 fun b hb y=>by have y:h6.size≤b:=y; omega
   rw [w1]
   refine ⟨⟨i+1,xs++[(i:Int)],rfl,by omega,F11,by rw [List.length_append]; rfl,by rw [List.length_append]; show xs.length+1≤i+1; omega,?_,fun x hx'=>?_⟩,by show ((s.n:Int) - ((i+1:Nat):Int)).toNat<((s.n:Int) - (i:Int)).toNat; omega⟩
   ·rw [show ints (xs++[(i:Int)])=ints xs++[.int .i64 (i:Int)] from List.map_append]
    exact S11.mono fun b hb=>by
     rcases hb with hb|hb
     ·exact hb
     ·show h6.size≤b; omega
   ·rcases List.mem_append.mp hx' with hx'|hx'
    ·exact hx x hx'
    ·rw [List.mem_singleton.mp hx']
     exact ⟨i,rfl,by omega,hlt,k3,hz⟩
 ·have es:mkStr [47]++mkStr rest=mkStr (47::rest):=mk_cat _ _
  have ez:((mkStr [47]).size+(mkStr rest).size:Nat)=1+rest.length:=rfl
  rw [ez,es]
  refine ⟨by omega,Parse_spec (by rw [List.length_cons]; omega) fun a3 l3 c3 h12 f12 Z3=>⟨_,_,_,_,rfl,ce (fun _=>hK h12 ((F6.no f8).no f12)) fun hl0=>num_spec ⟨_,rfl,cn (fun _=>hK h12 ((F6.no f8).no f12)) fun h0=>ce (fun _=>hK h12 ((F6.no f8).no f12)) fun ht0=>?_⟩⟩⟩
  have z12:=f12.size
  have hne:(parseA (47::rest) true).1≠[]:=fun y=>ht0 (by
   have:=Z3.1
   rw [y] at this
   have this:l3=0:=this
   omega)
  have hxs:xs≠[]:=fun y=>hl0 (by rw [y]; rfl)
  have nn:s.n≤1000:=by omega
  exact thr_k2 g tx S (gl6.no (f8.no f12)) (X6.no (f8.no f12)) (T6.no (f8.no f12)) ((f12.rd (by omega) fun y=>y).trans rg8) hr (SlCells.fr f12 S8.cells fun _ _ y=>y) hx hxs (by omega) h0 hne fun h' f=>hK h' (((F6.no f8).no f12).no f)
end
end Go.Proofs.YtiapingedfnlnaaGreatDoor.Tr
