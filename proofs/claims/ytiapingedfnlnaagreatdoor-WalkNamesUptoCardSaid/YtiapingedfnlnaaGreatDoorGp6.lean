/-
  TEXTS FOR walkNames_card: TvN TvO TvP.
-/
import Derived.Test.YtiapingedfnlnaaGreatDoorGp5
namespace Go.Proofs.YtiapingedfnlnaaGreatDoor.Tr
open Go Go.Proofs Wx Hp Spc Re
open Sk (nameOk nameOk_iff)
open Ch (slashed)
open Pa (comps parseA makeA okPart okPart_iff longB joinT join_taken make_join Taken slashed_cons)
open Wl (St Pl noPl here upC more mu)
def PathTo (s:Ts) (i:Nat):Nat→List Tm.Txt→List Int→Prop
 | k,[],R=>k=i∧R=[]
 | k,c::ns,R=>∃ q:Nat,∃ R',R=(q:Int)::R'∧nameOk c=true∧hasN (s.nd k).names (s.nd k).nums c=(q:Int)∧1≤q∧q<s.n∧(s.nd q).kind=2∧PathTo s i q ns R'
theorem here_snoc (C:List Int) (x:Int):here (C++[x])=x:=by unfold here; simp
section
variable {n : Nat} {s : Ts} {fl beh : Bool} {i : Nat}
theorem path_last : ∀ {ns:List Tm.Txt} {k:Nat} {R:List Int} (C:List Int),PathTo s i k ns R→here (C++(k:Int)::R)=(i:Int)
 | [],k,R,C,⟨e1,e2⟩=>by subst e1 e2; exact here_snoc C _
 | c::ns,k,R,C,⟨q,R',e,_,_,_,_,_,h⟩=>by
  subst e
  have:=path_last (C++[(k:Int)]) h
  rw [List.append_assoc] at this
  exact this
theorem path_len : ∀ {ns:List Tm.Txt} {k:Nat} {R:List Int},PathTo s i k ns R→R.length=ns.length
 | [],k,R,⟨_,e2⟩=>by rw [e2]; rfl
 | c::ns,k,R,⟨q,R',e,_,_,_,_,_,h⟩=>by rw [e,List.length_cons,List.length_cons,path_len h]
theorem path_ok : ∀ {ns:List Tm.Txt} {k:Nat} {R:List Int},PathTo s i k ns R→∀ c ∈ ns,nameOk c=true
 | [],_,_,_,c,hc=>by cases hc
 | c::ns,k,R,⟨q,R',e,hn,_,_,_,_,h⟩,x,hx=>by
  rcases List.mem_cons.mp hx with rfl|hx
  ·exact hn
  ·exact path_ok h x hx
theorem path_dir : ∀ {ns:List Tm.Txt} {k:Nat} {R:List Int},PathTo s i k ns R→∀ x ∈ R,IsDir s x
 | [],_,_,⟨_,e2⟩,x,hx=>by rw [e2] at hx; cases hx
 | c::ns,k,R,⟨q,R',e,hn,hq,q1,q2,q3,h⟩,x,hx=>by
  subst e
  rcases List.mem_cons.mp hx with rfl|hx
  ·exact ⟨q,rfl,q1,q2,q3⟩
  ·exact path_dir h x hx
theorem nameOk_dots {c:Tm.Txt} (h:nameOk c=true):c≠[46,46]:=(nameOk_iff.mp h).dots
theorem goes_down (g:Good n s) (tx:∀ k,TxOk (s.nd k)) {l:List Tm.Txt} (hl:l≠[]∨beh=true):∀ {ns:List Tm.Txt} {k:Nat} {R:List Int} (C:List Int) (fol:Nat),PathTo s i k ns R→On s ⟨C++[(k:Int)],ns++l,fol⟩ →
  goesM s.nd fl beh ⟨C++[(k:Int)],ns++l,fol⟩=goesM s.nd fl beh ⟨C++(k:Int)::R,l,fol⟩
 | [],k,R,C,fol,⟨_,e2⟩,_=>by rw [e2]; rfl
 | c::ns,k,R,C,fol,⟨q,R',e,hn,hq,q1,q2,q3,h⟩,o=>by
  subst e
  have mo:more beh (ns++l)=true:=by
   unfold more
   rcases hl with y|y
   ·rw [decide_eq_true (show 0<(ns++l).length by rw [List.length_append]; have:=List.length_pos_iff.mpr y; omega),Bool.or_true]
   ·rw [y]; rfl
  have en:nxt s.nd fl beh ⟨C++[(k:Int)],(c::ns)++l,fol⟩ = .inr ⟨C++[(k:Int)]++[(q:Int)],ns++l,fol⟩:=by
   unfold nxt
   show (if c=[46,46] then _ else _)=_
   rw [if_neg (nameOk_dots hn),here_snoc,Int.toNat_natCast,hq,if_neg (by omega),Int.toNat_natCast,if_pos ⟨q3,mo⟩]
   rfl
  have nx:=nxt_ok g tx o en
  rw [goes_nxt g tx o,en]
  show goesM s.nd fl beh ⟨C++[(k:Int)]++[(q:Int)],ns++l,fol⟩=_
  rw [goes_down g tx hl (C++[(k:Int)]) fol h nx.1,List.append_assoc]
  rfl
theorem name_goes (g:Good n s) (tx:∀ k,TxOk (s.nd k)) {ns:List Tm.Txt} {R:List Int} {c:Tm.Txt} {q:Nat} (h:PathTo s i 1 ns R) (hc:nameOk c=true) (hq:hasN (s.nd i).names (s.nd i).nums c=(q:Int)) (q1:1≤q) :
  goesM s.nd false false ⟨[1],ns++[c],0⟩=(⟨1::R,c,q⟩,0):=by
 have o:=on_root g (s:=s) (l:=ns++[c]) (Nat.zero_le 8) fun x hx=>by
  rcases List.mem_append.mp hx with hx|hx
  ·exact .inr (path_ok h x hx)
  ·rw [List.mem_singleton.mp hx]; exact .inr hc
 have e:=goes_down (fl:=false) (beh:=false) g tx (l:=[c]) (.inl (by simp)) [] 0 h o
 have e:goesM s.nd false false ⟨[1],ns++[c],0⟩=goesM s.nd false false ⟨1::R,[c],0⟩:=e
 have pl:=path_last [] h
 have pl:here (1::R)=(i:Int):=pl
 have o2:On s ⟨1::R,[c],0⟩:=⟨by simp,Nat.zero_le 8,fun x hx=>by
  rcases List.mem_cons.mp hx with rfl|hx
  ·exact ⟨1,rfl,Nat.le_refl _,g.tr.n2,g.tr.root.1⟩
  ·exact path_dir h x hx,fun x hx=>by rw [List.mem_singleton.mp hx]; exact .inr hc⟩
 rw [e,goes_nxt g tx o2]
 have en:nxt s.nd false false ⟨1::R,[c],0⟩ = .inl (⟨1::R,c,q⟩,0):=by
  unfold nxt
  show (if c=[46,46] then _ else _)=_
  rw [if_neg (nameOk_dots hc),pl,Int.toNat_natCast,hq,if_neg (by omega),if_neg (fun y=>absurd y.2 (by decide)),if_neg (fun y=>absurd y.2 (by decide)),if_neg (by decide)]
 rw [en]; rfl
theorem back_goes (g:Good n s) (tx:∀ k,TxOk (s.nd k)) {ns:List Tm.Txt} {R:List Int} {c:Tm.Txt} {q:Nat} (h:PathTo s i 1 ns R) (hc:nameOk c=true) (hq:hasN (s.nd i).names (s.nd i).nums c=(q:Int)) (q1:1≤q) (q2:q<s.n) :
  ((s.nd q).kind=2→goesM s.nd true false ⟨[1],ns++[c,[46,46]],0⟩=(⟨1::R,[],i⟩,0))∧((s.nd q).kind=1→goesM s.nd true false ⟨[1],ns++[c,[46,46]],0⟩=(noPl,161)):=by
 have o:=on_root g (s:=s) (l:=ns++[c,[46,46]]) (Nat.zero_le 8) fun x hx=>by
  rcases List.mem_append.mp hx with hx|hx
  ·exact .inr (path_ok h x hx)
  ·rcases List.mem_cons.mp hx with rfl|hx
   ·exact .inr hc
   ·rw [List.mem_singleton.mp hx]; exact .inl rfl
 have e:=goes_down (fl:=true) (beh:=false) g tx (l:=[c,[46,46]]) (.inl (by simp)) [] 0 h o
 have e:goesM s.nd true false ⟨[1],ns++[c,[46,46]],0⟩=goesM s.nd true false ⟨1::R,[c,[46,46]],0⟩:=e
 have pl:=path_last [] h
 have pl:here (1::R)=(i:Int):=pl
 have dir:∀ x ∈ (1:Int)::R,IsDir s x:=fun x hx=>by
  rcases List.mem_cons.mp hx with rfl|hx
  ·exact ⟨1,rfl,Nat.le_refl _,g.tr.n2,g.tr.root.1⟩
  ·exact path_dir h x hx
 have o2:On s ⟨1::R,[c,[46,46]],0⟩:=⟨by simp,Nat.zero_le 8,dir,fun x hx=>by
  rcases List.mem_cons.mp hx with rfl|hx
  ·exact .inr hc
  ·rw [List.mem_singleton.mp hx]; exact .inl rfl⟩
 have mo:more false [([46,46]:Tm.Txt)]=true:=rfl
 rw [e]
 constructor
 ·intro k2
  have en:nxt s.nd true false ⟨1::R,[c,[46,46]],0⟩ = .inr ⟨1::R++[(q:Int)],[[46,46]],0⟩:=by
   unfold nxt
   show (if c=[46,46] then _ else _)=_
   rw [if_neg (nameOk_dots hc),pl,Int.toNat_natCast,hq,if_neg (by omega),Int.toNat_natCast,if_pos ⟨k2,mo⟩]
  have nx:=nxt_ok g tx o2 en
  rw [goes_nxt g tx o2,en]
  show goesM s.nd true false ⟨1::R++[(q:Int)],[[46,46]],0⟩=_
  have en2:nxt s.nd true false ⟨1::R++[(q:Int)],[[46,46]],0⟩ = .inr ⟨1::R,[],0⟩:=by
   unfold nxt
   show (if ([46,46]:Tm.Txt)=[46,46] then _ else _)=_
   rw [if_pos rfl]
   have:upC (1::R++[(q:Int)])=1::R:=by
    unfold upC
    rw [if_pos (by rw [List.length_append]; show 1<R.length+1+1; omega),List.dropLast_concat]
   rw [this]
  have nx2:=nxt_ok g tx nx.1 en2
  rw [goes_nxt g tx nx.1,en2]
  show goesM s.nd true false ⟨1::R,[],0⟩=_
  rw [goes_nxt g tx nx2.1]
  show ((⟨1::R,[],here (1::R)⟩:Pl),(0:Int))=_
  rw [pl]
 ·intro k1
  have en:nxt s.nd true false ⟨1::R,[c,[46,46]],0⟩ = .inl (noPl,161):=by
   unfold nxt
   show (if c=[46,46] then _ else _)=_
   rw [if_neg (nameOk_dots hc),pl,Int.toNat_natCast,hq,if_neg (by omega),Int.toNat_natCast,if_neg (fun y=>by have:=y.1; omega),if_neg (fun y=>by have:=y.1; omega),if_pos mo]
  rw [goes_nxt g tx o2,en]; rfl
theorem dirs_goes (g:Good n s) (tx:∀ k,TxOk (s.nd k)) {ns:List Tm.Txt} {R:List Int} (h:PathTo s i 1 ns R):goesM s.nd false true ⟨[1],ns,0⟩=(⟨1::R,[],i⟩,0):=by
 have o:=on_root g (s:=s) (l:=ns++[]) (Nat.zero_le 8) fun x hx=>by
  rw [List.append_nil] at hx
  exact .inr (path_ok h x hx)
 have e:=goes_down (fl:=false) (beh:=true) g tx (l:=[]) (.inr rfl) [] 0 h o
 have e:goesM s.nd false true ⟨[1],ns++[],0⟩=goesM s.nd false true ⟨1::R,[],0⟩:=e
 rw [List.append_nil] at e
 have pl:=path_last [] h
 have pl:here (1::R)=(i:Int):=pl
 have o2:On s ⟨1::R,[],0⟩:=⟨by simp,Nat.zero_le 8,fun x hx=>by
  rcases List.mem_cons.mp hx with rfl|hx
  ·exact ⟨1,rfl,Nat.le_refl _,g.tr.n2,g.tr.root.1⟩
  ·exact path_dir h x hx,fun x hx=>by cases hx⟩
 rw [e,goes_nxt g tx o2]
 show ((⟨1::R,[],here (1::R)⟩:Pl),(0:Int))=_
 rw [pl]
theorem okP {c:Tm.Txt} (h:nameOk c=true):okPart c=true:=by
 have a:=nameOk_iff.mp h
 exact okPart_iff.mpr ⟨fun e=>by have:=a.pos; rw [e] at this; exact absurd this (by decide),a.dot,a.all⟩
theorem name_ans (g:Good n s) (tx:∀ k,TxOk (s.nd k)) {ns:List Tm.Txt} {R:List Int} {c:Tm.Txt} {q:Nat} (h:PathTo s i 1 ns R) (hc:nameOk c=true) (hq:hasN (s.nd i).names (s.nd i).nums c=(q:Int)) (q1:1≤q) (q2:q<s.n) (hl:ns.length≤31) :
  toT s.nd (slashed ns++47::c) false=(⟨1::R,c,q⟩,0)∧makeT s.nd (slashed ns++47::c)=(⟨1::R,c,q⟩,0) ∧
  (ns.length≤30→((s.nd q).kind=2→toT s.nd (slashed ns++47::c++[47,46,46]) true=(⟨1::R,[],i⟩,0))∧((s.nd q).kind=1→toT s.nd (slashed ns++47::c++[47,46,46]) true=(noPl,161))):=by
 have pk:=path_ok h
 have lens:∀ (l:List Tm.Txt),l.length≤32→(∀ x ∈ l,x.length≤27)→longB l=false:=fun l h1 h2=>by
  rw [longB,Bool.or_eq_false_iff,decide_eq_false_iff_not,List.any_eq_false]
  exact ⟨by omega,fun p hp=>by have:=h2 p hp; simpa using this⟩
 have e1:joinT (ns++[c])=slashed ns++47::c:=by
  unfold joinT
  rw [if_neg (by simp)]
  unfold slashed
  rw [List.flatMap_append,List.flatMap_cons,List.flatMap_nil,List.append_nil]
 have e2:joinT (ns++[c,[46,46]])=slashed ns++47::c++[47,46,46]:=by
  unfold joinT
  rw [if_neg (by simp)]
  unfold slashed
  rw [List.flatMap_append,List.flatMap_cons,List.flatMap_cons,List.flatMap_nil,List.append_nil,List.append_assoc]
 have al:(ns++[c]).all okPart=true:=List.all_eq_true.mpr fun x hx=>by
  rcases List.mem_append.mp hx with hx|hx
  ·exact okP (pk x hx)
  ·rw [List.mem_singleton.mp hx]; exact okP hc
 have ll:longB (ns++[c])=false:=lens _ (by rw [List.length_append]; show ns.length+1≤32; omega) fun x hx=>by
  rcases List.mem_append.mp hx with hx|hx
  ·exact (nameOk_iff.mp (pk x hx)).le
  ·rw [List.mem_singleton.mp hx]; exact (nameOk_iff.mp hc).le
 refine ⟨?_,?_,fun h30=>?_⟩
 ·unfold toT
  rw [← e1,(join_taken true al ll).eq,if_neg (fun y=>y rfl)]
  exact name_goes g tx h hc hq q1
 ·have gl:(ns++[c]).getLastD []=c:=by simp
  have dl:(ns++[c]).dropLast=ns:=List.dropLast_concat
  have em:makeA (joinT (ns++[c]))=(ns,c,0):=by
   rw [make_join al ll,if_neg (by simp),gl,if_neg (nameOk_dots hc),dl]
  unfold makeT
  rw [← e1,em]
  dsimp only
  rw [if_neg (fun y=>y rfl),if_neg (fun e=>by have:=(nameOk_iff.mp hc).pos; rw [e] at this; exact absurd this (by decide)),dirs_goes g tx h,if_neg (fun y=>y rfl)]
  have pl:here (1::R)=(i:Int):=path_last [] h
  rw [pl,Int.toNat_natCast,hq]
 ·have al2:(ns++[c,[46,46]]).all okPart=true:=List.all_eq_true.mpr fun x hx=>by
   rcases List.mem_append.mp hx with hx|hx
   ·exact okP (pk x hx)
   ·rcases List.mem_cons.mp hx with rfl|hx
    ·exact okP hc
    ·rw [List.mem_singleton.mp hx]; decide
  have ll2:longB (ns++[c,[46,46]])=false:=lens _ (by rw [List.length_append]; show ns.length+2≤32; omega) fun x hx=>by
   rcases List.mem_append.mp hx with hx|hx
   ·exact (nameOk_iff.mp (pk x hx)).le
   ·rcases List.mem_cons.mp hx with rfl|hx
    ·exact (nameOk_iff.mp hc).le
    ·rw [List.mem_singleton.mp hx]; decide
  have bg:=back_goes g tx h hc hq q1 q2
  have et:toT s.nd (slashed ns++47::c++[47,46,46]) true=goesM s.nd true false ⟨[1],ns++[c,[46,46]],0⟩:=by
   unfold toT
   rw [← e2,(join_taken true al2 ll2).eq,if_neg (fun y=>y rfl)]
  rw [et]; exact bg
theorem has_at : ∀ {l:List Tm.Txt} {m:List Int} {q:Nat} (h1:q<l.length) (h2:q<m.length),l.Nodup→hasN l m l[q]=m[q]
 | x::r,v::m,0,_,_,_=>if_pos rfl
 | x::r,v::m,q+1,h1,h2,nd=>by
  have nd:=List.nodup_cons.mp nd
  have hq:q<r.length:=Nat.lt_of_succ_lt_succ h1
  show (if x=r[q] then v else hasN r m r[q])=m[q]'_
  rw [if_neg (fun e:x=r[q]=>nd.1 (by rw [e]; exact List.getElem_mem hq))]
  exact has_at hq (Nat.lt_of_succ_lt_succ h2) nd.2
theorem has_name {l:List Tm.Txt} {m:List Int} {i:Int} (hl:l.length=m.length) (nd:l.Nodup) (h:i ∈ m):hasN l m (nameN l m i)=i∧nameN l m i ∈ l:=by
 induction l generalizing m with
 | nil =>
  have:m=[]:=List.length_eq_zero_iff.mp hl.symm
  subst this; cases h
 | cons x r ih =>
  cases m with
  | nil=>cases hl
  | cons v m =>
   have nd':=List.nodup_cons.mp nd
   show hasN (x::r) (v::m) (if v=i then x else nameN r m i)=i∧(if v=i then x else nameN r m i) ∈ x::r
   by_cases e:v=i
   ·rw [if_pos e]
    exact ⟨(if_pos rfl).trans e,List.mem_cons_self⟩
   ·rw [if_neg e]
    rcases List.mem_cons.mp h with h|h
    ·exact absurd h.symm e
    ·obtain ⟨a,b⟩:=ih (Nat.succ.inj hl) nd'.2 h
     refine ⟨?_,List.mem_cons_of_mem _ b⟩
     show (if x=nameN r m i then v else hasN r m (nameN r m i))=i
     rw [if_neg (fun y:x=nameN r m i=>nd'.1 (by rw [y]; exact b))]; exact a
theorem path_up (g:Good n s) {k u:Nat} {ns:List Tm.Txt} {R:List Int} (h:PathTo s i k ns R) (k1:1≤k) (k2:k<s.n) (k3:(s.nd k).kind=2) (u2:u<s.n) (hm:(k:Int) ∈ (s.nd u).nums) :
  PathTo s i u (nameN (s.nd u).names (s.nd u).nums k::ns) ((k:Int)::R):=by
 obtain ⟨a,b⟩:=has_name (g.len u).1 (g.tr.nodup u u2) hm
 exact ⟨k,R,rfl,g.nm u2 _ b,a,k1,k2,k3,h⟩
end
end Go.Proofs.YtiapingedfnlnaaGreatDoor.Tr
namespace Go.Proofs.YtiapingedfnlnaaGreatDoor.Tr
open Go Go.Proofs Wx Hp W Spc Re
open Tm (TM Tx)
open Hd (ints)
open In (ints_length ints_one)
open Sk (nameOk nameOk_iff)
open Ch (slashed)
open Pa (parseA makeA)
open Wl (Pl noPl here toM makeW plV plV_one To_spec)
theorem mk_cat (x y:Tm.Txt):mkStr x++mkStr y=mkStr (x++y):=by
 apply ByteArray.ext
 rw [ByteArray.data_append]
 apply Array.ext'
 simp [mkStr]
theorem slashed_len : ∀ (ns:List Tm.Txt),(∀ c ∈ ns,nameOk c=true)→(slashed ns).length≤28*ns.length
 | [],_=>Nat.le_refl _
 | c::r,h=>by
  have ih:=slashed_len r fun x hx=>h x (List.mem_cons_of_mem _ hx)
  have:=(nameOk_iff.mp (h c List.mem_cons_self)).le
  show ((47::c)++slashed r).length≤28*(r.length+1)
  rw [List.length_append,List.length_cons]
  omega
section
variable {hh : Heap} {K : Value → Heap → Prop} {n : Nat} {s : Ts} {D : Dt}
theorem nameOf2_spec {k u:Nat} (g:Good n s) (T:Tree hh s D) (k1:1≤k) (k2:k<s.n) (hu:(s.nd k).up=(u:Int)) (u1:1≤u) (u2:u<s.n) (hK:K (.string (mkStr (nameN (s.nd u).names (s.nd u).nums k))) hh):C.bolelaw16_nameOf D.pa s.n D.pc (k:Int) hh K:=by
 obtain ⟨p,ep,cp⟩:=T.ptr k k1 k2
 obtain ⟨p',ep',cp'⟩:=T.ptr u u1 u2
 have epp:p'=p:=by rw [ep'] at ep; exact Option.some.inj ep
 subst epp
 have N:=T.nd k k1 k2
 have M:=T.nd u u1 u2
 have len:=g.len u
 refine bolelaw16_nameOf.ok ⟨⟨by omega,by omega⟩,?_⟩
 rw [ep,Int.toNat_natCast]
 refine os ⟨_,cp,os ⟨(u:Int),by rw [← hu]; exact rda N.r rfl,⟨by omega,by omega⟩,os ⟨_,by rw [Int.toNat_natCast]; exact cp',os ⟨_,_,_,rda M.r rfl,fun i hx=>∃ q:Nat,i=q∧q≤(s.nd u).nums.length∧hh=hx∧∀ j (hj:j<(s.nd u).nums.length),j<q→(s.nd u).nums[j]≠(k:Int),fun i _=>(((s.nd u).nums.length:Int) - i).toNat,⟨0,rfl,Nat.zero_le _,rfl,fun j _ y=>absurd y (Nat.not_lt_zero _)⟩,?_⟩⟩⟩⟩
 rintro i hx ⟨q,rfl,hq,rfl,e⟩
 refine cd (fun hlt=>?_) fun hge=>?_
 ·have hlt:q<(s.nd u).nums.length:=by omega
  obtain ⟨p5,ep5,cp5⟩:=cells_int M.ma hlt
  obtain ⟨p7,ep7,cp7⟩:=cells_str M.na (j:=q) (by omega)
  rw [ep5,Int.toNat_natCast]
  refine ⟨⟨by omega,by omega⟩,os ⟨_,cp5,ce (fun he=>os ⟨_,_,_,rda M.r rfl,⟨by omega,by omega⟩,?_⟩) fun he=>?_⟩⟩
  ·rw [ep7]
   refine os ⟨_,cp7,?_⟩
   rw [← nameN_at (l:=(s.nd u).names) (by omega) hlt e he]
   exact hK
  ·rw [wrap_i64 (show -9223372036854775808≤(q:Int)+1 by omega) (by omega)]
   refine ⟨⟨q+1,by omega,by omega,rfl,fun j hj y=>?_⟩,by show (((s.nd u).nums.length:Int) - ((q:Int)+1)).toNat<(((s.nd u).nums.length:Int) - (q:Int)).toNat; omega⟩
   by_cases hjq:j=q
   ·subst hjq; exact he
   ·exact e j hj (by omega)
 ·rw [nameN_no fun y hy=>by
   obtain ⟨j,hj,rfl⟩:=List.mem_iff_getElem.mp hy
   exact e j hj (by omega)] at hK
  exact hK
variable {tb : Nat} {F : Nat → Prop} {dd : Option Addr} {T : TM} {h3 h6 h8 h12 h25 : Heap}
theorem names_k3 {I3:Int→Heap→Prop} {M3:Int→Heap→Nat} {i q j:Nat} {ns:List Tm.Txt} {R:List Int} {c:Tm.Txt} {a:Option Addr} {cc:Nat} (g:Good n s) (tx:∀ k,TxOk (s.nd k)) (S:Shows T (geoN n) s) (gl:In.Glo h25) (X:Tx h25 F (some ⟨tb,0,none⟩) dd T) (Tt:Tree h25 s D) (rg:rd h25 h3.size=(geoN n).v)
  (h:PathTo s i 1 ns R) (hc:nameOk c=true) (hq:hasN (s.nd i).names (s.nd i).nums c=(q:Int)) (q1:1≤q) (q2:q<s.n) (hl:ns.length≤31) (A:SlCells h25 a (ints (1::R)))
  (hN:∀ h',Fr No h25 h'→I3 (IntKind.wrap .i64 ((j:Int)+1)) h'∧M3 (IntKind.wrap .i64 ((j:Int)+1)) h'<M3 (j:Int) h12) :
  bolelaw16_WalkNames.k3 h3 (some ⟨tb,0,none⟩) D.pa s.n (i:Int) (mkStr (slashed ns)) a (1+R.length) cc (j:Int) h12 I3 M3 (mkStr c) (q:Int) h25 K:=by
 have gbl:h3.size<h25.size:=rd_lt (o:=0) (v := .int .i64 (geoN n).blocks) (by rw [rg]; rfl)
 have ans:=name_ans g tx h hc hq q1 q2 hl
 have sl:=slashed_len ns (path_ok h)
 have cl:=(nameOk_iff.mp hc).le
 have rl:=path_len h
 have es:mkStr (slashed ns)++mkStr [47]++mkStr c++mkStr [47,46,46]=mkStr (slashed ns++47::c++[47,46,46]):=by
  rw [mk_cat,mk_cat,mk_cat,List.append_assoc (slashed ns)]; rfl
 have ez:((mkStr (slashed ns)++mkStr [47]++mkStr c).size+(mkStr [47,46,46]).size:Nat)=(slashed ns).length+1+c.length+3:=by
  rw [mk_cat,mk_cat]
  show (slashed ns++[47]++c).length+3=_
  rw [List.length_append,List.length_append]; rfl
 unfold bolelaw16_WalkNames.k3
 rw [es,ez]
 refine ⟨_,rfl,cellsAll rg,by omega,To_spec gl g.dim X (by rw [List.length_append,List.length_append,List.length_cons]; show _+3≤_; omega) fun h26 a1 c1 f26 L1=>⟨_,_,rfl,NewRow.intro rfl plV_one rfl fun h28 n28=>?_⟩⟩
 have z26:=f26.size
 have z28:=n28.size
 have f28:Fr No h25 h28:=f26.new n28
 have et:=to_tree g tx S (slashed ns++47::c++[47,46,46]) (fl:=true)
 rw [et] at L1 n28 ⊢
 have four:∀ hx,Fr No h25 hx→((s.nd q).kind=1→ns.length≤30→(toT s.nd (slashed ns++47::c++[47,46,46]) true).2=161)→bolelaw16_WalkNames.k4 D.pa s.n (1+R.length) (j:Int) h12 I3 M3 (q:Int) (toT s.nd (slashed ns++47::c++[47,46,46]) true).2 hx K:=fun hx fx h161=>by
  obtain ⟨p,ep,cp⟩:=(Tt.no fx).ptr q q1 q2
  have N:=(Tt.no fx).nd q q1 q2
  unfold bolelaw16_WalkNames.k4
  rw [ep,Int.toNat_natCast]
  refine ⟨⟨by omega,by omega⟩,os ⟨_,cp,os ⟨_,rda N.r rfl,ce (fun k1=>cd (fun h32=>?_) fun h32=>hN hx fx) fun k1=>hN hx fx⟩⟩⟩
  have e:=h161 k1 (by omega)
  rw [e]
  exact num_spec ⟨_,rfl,cn (fun y=>absurd rfl y) fun _=>hN hx fx⟩
 obtain ⟨p,ep,cp⟩:=(Tt.no f28).ptr q q1 q2
 have N:=(Tt.no f28).nd q q1 q2
 have ep0:=ep
 rw [ep,Int.toNat_natCast]
 refine ⟨⟨by omega,by omega⟩,os ⟨_,cp,os ⟨_,rda N.r rfl,?_⟩⟩⟩
 rw [← ep0]
 refine ce (fun k2=>cd (fun h32=>?_) fun h32=>four h28 f28 fun y=>by omega) fun k2=>four h28 f28 fun k1 h30=>by rw [(ans.2.2 h30).2 k1]
 have e:=(ans.2.2 (by omega)).1 k2
 have L28:SlCells h28 a1 (ints (toT s.nd (slashed ns++47::c++[47,46,46]) true).1.chain):=SlCells.fr n28.fr L1.cells fun _ _ y=>y
 have er:(1+R.length)=(⟨1::R,[],(i:Int)⟩:Pl).chain.length:=by show 1+R.length=R.length+1; omega
 refine ⟨_,rfl,cellsAll n28.rd,?_⟩
 have hv:[Value.slice a (1+R.length) cc,.string (mkStr []),.int .i64 (i:Int),.int .i64 0]=spotV a cc ⟨1::R,[],(i:Int)⟩ 0:=by rw [er]; rfl
 rw [hv]
 refine is_true L28 (q:=⟨1::R,[],(i:Int)⟩) (SlCells.fr f28 A fun _ _ y=>y) (by rw [e]; show R.length+1≤_; omega) (by rw [e]) (by rw [e]) fun h29 f29=>⟨_,rfl,cnot (ct rfl (four h29 (f28.no f29) fun y=>by omega))⟩
end
end Go.Proofs.YtiapingedfnlnaaGreatDoor.Tr
namespace Go.Proofs.YtiapingedfnlnaaGreatDoor.Tr
open Go Go.Proofs Wx Hp W Spc Re
open Tm (TM Tx)
open Hd (ints)
open In (ints_length ints_one)
open Sk (nameOk nameOk_iff)
open Ch (slashed)
open Pa (parseA makeA)
open Wl (Pl noPl here toM makeW plV plV_one To_spec)
section
variable {h hh : Heap} {K : Value → Heap → Prop} {n : Nat} {s : Ts} {D : Dt} {tb : Nat} {F : Nat → Prop} {dd : Option Addr} {T : TM} {h3 h8 : Heap}
theorem names_k2 {I1:Int→Heap→Prop} {M1:Int→Heap→Nat} {i:Nat} (g:Good n s) (tx:∀ k,TxOk (s.nd k)) (S:Shows T (geoN n) s) (gl:In.Glo h8) (X:Tx h8 F (some ⟨tb,0,none⟩) dd T) (Tt:Tree h8 s D) (rg:rd h8 h3.size=(geoN n).v)
  (i1:1≤i) (i2:i<s.n) (i3:(s.nd i).kind=2) (hN:∀ h',Fr No h8 h'→I1 (IntKind.wrap .i64 ((i:Int)+1)) h'∧M1 (IntKind.wrap .i64 ((i:Int)+1)) h'<M1 (i:Int) h8) :
  bolelaw16_WalkNames.k2 h3 (some ⟨tb,0,none⟩) D.pa s.n D.pc (i:Int) h8 I1 M1 (some ⟨D.P i,0,none⟩) K:=by
 have gbl:h3.size<h8.size:=rd_lt (o:=0) (v := .int .i64 (geoN n).blocks) (by rw [rg]; rfl)
 have dp:∀ k,0≤(s.nd k).depth:=fun k=>by
  obtain ⟨j,hj,o⟩:=g.ok
  exact (o.dep k).1
 have d32:=g.tr.d32 i i2
 unfold bolelaw16_WalkNames.k2
 refine ⟨fun rA rL rC pre n3 hx=>∃ (k:Nat) (ns:List Tm.Txt) (R:List Int),n3=k∧1≤k∧k<s.n∧(s.nd k).kind=2∧PathTo s i k ns R∧pre=mkStr (slashed ns)∧SlCells hx rA (ints R)∧rL=R.length∧Fr No h8 hx∧(s.nd i).depth=(s.nd k).depth+(ns.length:Int),
  fun _ _ _ _ n3 _=>(s.nd n3.toNat).depth.toNat,⟨i,[],[],rfl,i1,i2,i3,⟨rfl,rfl⟩,rfl,rfl,rfl,Fr.refl _ _,by show _=(s.nd i).depth+0; omega⟩,?_⟩
 rintro rA rL rC pre n3 h9 ⟨k,ns,R,rfl,k1,k2,k3,hp,rfl,A,rfl,f9,hd⟩
 have dk:=dp k
 have rl:=path_len hp
 have hns:ns.length≤32:=by omega
 have pk:=path_ok hp
 have sl:=slashed_len ns pk
 refine New.intro fun h10 n10=>⟨ints R,by rw [ints_length]; exact (Nat.mul_one _).symm,SlCells.fr n10.fr A fun _ _ y=>y,ints_one _,?_⟩
 have z9:=f9.size
 have z10:=n10.size
 have S10:Sl h10 1 (some ⟨h9.size,0,none⟩) 1 1 [.int .i64 (k:Int)] (From h9.size):=Sl.made (zs:=[]) n10 rfl (Nat.le_refl _) rfl (Nat.le_refl _) rfl
 have hbytes:(ti3).bytes=8:=rfl
 refine append_own (elem:=ti3) S10 (by rw [ints_length]; exact (Nat.mul_one _).symm) rfl (by rw [hbytes]; omega) (by omega) fun a2 c2 h11 f11' S11=>?_
 have z11:=f11'.size
 have f11:Fr No h9 h11:=n10.fr.trans f11' fun b hb y=>by have y:h9.size≤b:=y; omega
 have F11:Fr No h8 h11:=f9.no f11
 have A11:SlCells h11 a2 (ints ((k:Int)::R)):=S11.cells
 refine ce (fun hk1=>?_) fun hk1=>?_
 ·have:k=1:=by omega
  subst this
  have r0:=g.tr.root.2.1
  have N11:=(Tt.no F11).nd i i1 i2
  have len:=g.len i
  refine os ⟨_,_,_,rda N11.r rfl,fun n4 hx=>∃ j:Nat,n4=j∧j≤(s.nd i).names.length∧Fr No h8 hx∧Fr No h11 hx,fun n4 _=>(((s.nd i).names.length:Int) - n4).toNat,⟨0,rfl,Nat.zero_le _,F11,Fr.refl _ _⟩,?_⟩
  rintro n4 h12 ⟨j,rfl,hj,F12,f12⟩
  have z12:=f12.size
  refine cd (fun hlt=>?_) fun hge=>hN h12 F12
  have hj':j<(s.nd i).names.length:=by omega
  have d31:=g.tr.d31 i i2 fun e=>by rw [e] at hj'; exact absurd hj' (Nat.not_lt_zero _)
  have N12:=(Tt.no F12).nd i i1 i2
  obtain ⟨p4,ep4,cp4⟩:=cells_str N12.na hj'
  obtain ⟨p6,ep6,cp6⟩:=cells_int N12.ma (j:=j) (by omega)
  have mc:=g.nm i2 _ (List.getElem_mem hj')
  have mv:=g.nu i2 _ (List.getElem_mem (l:=(s.nd i).nums) (n:=j) (by omega))
  have hq:=has_at (q:=j) hj' (show j<(s.nd i).nums.length by omega) (g.tr.nodup i i2)
  rw [ep4,Int.toNat_natCast]
  generalize (s.nd i).names[j]=c at cp4 mc hq
  generalize (s.nd i).nums[j]'(by omega)=v at cp6 mv hq
  obtain ⟨q,rfl⟩:∃ q:Nat,v=q:=⟨v.toNat,by omega⟩
  have cl:=(nameOk_iff.mp mc).le
  have next:∀ h',Fr No h12 h'→(∃ m:Nat,IntKind.wrap .i64 ((j:Int)+1)=m∧m≤(s.nd i).names.length∧Fr No h8 h'∧Fr No h11 h')∧(((s.nd i).names.length:Int) - IntKind.wrap .i64 ((j:Int)+1)).toNat<(((s.nd i).names.length:Int) - (j:Int)).toNat:=fun h' f=>by
   rw [wrap_i64 (show -9223372036854775808≤(j:Int)+1 by omega) (by omega)]
   exact ⟨⟨j+1,by omega,by omega,F12.no f,f12.no f⟩,by omega⟩
  have es:mkStr (slashed ns)++mkStr [47]++mkStr c=mkStr (slashed ns++47::c):=by
   rw [mk_cat,mk_cat,List.append_assoc]; rfl
  have e1:((mkStr (slashed ns)).size+(mkStr [47]).size:Nat)=(slashed ns).length+1:=rfl
  have e2:((mkStr (slashed ns)++mkStr [47]).size+(mkStr c).size:Nat)=(slashed ns).length+1+c.length:=by
   rw [mk_cat]
   show (slashed ns++[47]).length+c.length=_
   rw [List.length_append]; rfl
  have ans:=name_ans g tx hp mc hq (by omega) (by omega) (by omega)
  have gl12:=gl.no F12
  have X12:=X.no F12
  have rg12:rd h12 h3.size=(geoN n).v:=(F12.rd gbl fun y=>y).trans rg
  have pl:(slashed ns++47::c).length≤9223372036854775806:=by rw [List.length_append,List.length_cons]; omega
  refine ⟨⟨by omega,by omega⟩,os ⟨_,cp4,?_⟩⟩
  rw [e1,e2,es]
  refine ⟨by omega,by omega,os ⟨_,_,_,rda N12.r rfl,⟨by omega,by omega⟩,?_⟩⟩
  rw [ep6]
  refine os ⟨_,cp6,_,rfl,cellsAll rg12,To_spec gl12 g.dim X12 pl fun h13 a3 c3 f13 L3=>⟨_,_,rfl,NewRow.intro rfl plV_one rfl fun h15 n15=>?_⟩⟩
  have z13:=f13.size
  have z15:=n15.size
  have f15:Fr No h12 h15:=f13.new n15
  have rg15:rd h15 h3.size=(geoN n).v:=(f15.rd (by omega) fun y=>y).trans rg12
  refine ⟨_,rfl,cellsAll rg15,Wl.Make_spec (gl12.no f15) g.dim (X12.no f15) pl fun h16 a4 c4 f16 L4=>⟨_,_,rfl,NewRow.intro rfl plV_one rfl fun h18 n18=>?_⟩⟩
  have z16:=f16.size
  have z18:=n18.size
  rw [to_tree g tx S,ans.1] at L3 n15 ⊢
  rw [make_tree g tx S,ans.2.1] at L4 n18 ⊢
  refine cd (fun h32=>by exfalso; omega) fun _=>?_
  have er:(1+R.length)=(⟨1::R,c,(q:Int)⟩:Pl).chain.length:=by show 1+R.length=R.length+1; omega
  have hv:[Value.slice a2 (1+R.length) c2,.string (mkStr c),.int .i64 (q:Int),.int .i64 0]=spotV a2 c2 ⟨1::R,c,(q:Int)⟩ 0:=by rw [er]; rfl
  rw [hv]
  refine NewRow.intro rfl spot_one rfl fun h22 n22=>?_
  have z22:=n22.size
  have r13:rd h22 h13.size=plV a3 c3 ⟨1::R,c,(q:Int)⟩:=(n22.at_ (by omega)).trans ((n18.at_ (by omega)).trans ((f16.rd (by omega) fun y=>y).trans n15.rd))
  have r16:rd h22 h16.size=plV a4 c4 ⟨1::R,c,(q:Int)⟩:=(n22.at_ (by omega)).trans n18.rd
  have f1322:Fr No h13 h22:=((n15.fr.no f16).new n18).new n22
  have f1622:Fr No h16 h22:=n18.fr.new n22
  have f22:Fr No h12 h22:=((f15.no f16).new n18).new n22
  have A22:SlCells h22 a2 (ints (1::R)):=SlCells.fr (f12.no f22) A11 fun _ _ y=>y
  have bl:R.length+1≤140737488355328:=by omega
  refine ⟨_,rfl,cellsAll r13,_,rfl,cellsAll n22.rd,is_true (p:=⟨1::R,c,(q:Int)⟩) (q:=⟨1::R,c,(q:Int)⟩) (SlCells.fr f1322 L3.cells fun _ _ y=>y) A22 bl rfl rfl fun h23 f23=>⟨_,rfl,cnot (ct rfl ?_)⟩⟩
  have r16':rd h23 h16.size=plV a4 c4 ⟨1::R,c,(q:Int)⟩:=(f23.rd (by omega) fun y=>y).trans r16
  have r18':rd h23 h18.size=spotV a2 c2 ⟨1::R,c,(q:Int)⟩ 0:=(f23.rd (by omega) fun y=>y).trans n22.rd
  refine ⟨_,rfl,cellsAll r16',_,rfl,cellsAll r18',is_true (p:=⟨1::R,c,(q:Int)⟩) (q:=⟨1::R,c,(q:Int)⟩) (SlCells.fr (f1622.no f23) L4.cells fun _ _ y=>y) (SlCells.fr f23 A22 fun _ _ y=>y) bl rfl rfl fun h24 f24=>⟨_,rfl,cnot (ct rfl ?_)⟩⟩
  have f24':Fr No h12 h24:=(f22.no f23).no f24
  exact names_k3 g tx S (gl12.no f24') (X12.no f24') (Tt.no (F12.no f24')) ((f24'.rd (by omega) fun y=>y).trans rg12) hp mc hq (by omega) (by omega) (by omega) (SlCells.fr (f23.no f24) A22 fun _ _ y=>y) fun h' f=>next h' (f24'.no f)
 ·obtain ⟨u,u1,u2,u3,u4,u5,u6⟩:=g.tr.par k (by omega) k2 k3
  have T11:=Tt.no F11
  obtain ⟨p,ep,cp⟩:=T11.ptr k k1 k2
  have N:=T11.nd k k1 k2
  have hup:=path_up g hp k1 k2 k3 (show u<s.n by omega) u5
  have hnm:=path_ok hup _ List.mem_cons_self
  refine nameOf2_spec g T11 k1 k2 u1 u2 (by omega) ⟨_,rfl,?_⟩
  generalize nameN (s.nd u).names (s.nd u).nums k=c at hup hnm
  have cl:=(nameOk_iff.mp hnm).le
  have e1:((mkStr [47]).size+(mkStr c).size:Nat)=1+c.length:=rfl
  have e2:((mkStr [47]++mkStr c).size+(mkStr (slashed ns)).size:Nat)=1+c.length+(slashed ns).length:=by
   rw [mk_cat]
   show ([47]++c).length+(slashed ns).length=_
   rw [List.length_append]; rfl
  have es:mkStr [47]++mkStr c++mkStr (slashed ns)=mkStr (slashed (c::ns)):=by
   rw [mk_cat,mk_cat]; rfl
  rw [e1,e2,es,ep,Int.toNat_natCast]
  refine ⟨by omega,by omega,⟨by omega,by omega⟩,os ⟨_,cp,os ⟨(u:Int),by rw [← u1]; exact rda N.r rfl,⟨u,c::ns,(k:Int)::R,rfl,u2,by omega,u4,hup,rfl,A11,by show 1+R.length=R.length+1; omega,F11,by rw [List.length_cons]; omega⟩,?_⟩⟩⟩
  show (s.nd (u:Int).toNat).depth.toNat<(s.nd (k:Int).toNat).depth.toNat
  rw [Int.toNat_natCast,Int.toNat_natCast]
  have:=dp u
  omega
variable {more : Int} {ta pa : Option Addr} {tl tc pl pc : Nat} {ts : List Th}
theorem WalkNames_spec (gl:In.Glo h) (Z:SlCells h ta (ts.flatMap thV)) (hl:ts.length=tl) (htl:tl≤1000000000) (ht:∀ t ∈ ts,t.name.length≤1000000000∧t.text.length≤1000000000) (hK:∀ h',Fr No h h'→K (.bool true) h'):C.bolelaw16_WalkNames (setV more ta tl tc pa pl pc) h K:=by
 have bn:=blocksN_rng more
 refine bolelaw16_WalkNames.ok (New.intro fun h2 n2=>⟨_,rfl,cellsAll n2.rd,right_spec (SlCells.fr n2.fr Z fun _ _ y=>y) hl htl ht fun tb dd F D h3 f3 x3 hF T3=>⟨_,_,_,_,_,_,rfl,NewRow.intro rfl (Spc.G.one _) rfl fun h5 n5=>cnot (ct rfl (known_spec (gl.no ((n2.fr.no f3).new n5)) fun h6 f6=>⟨_,rfl,cnot (ct rfl ?_)⟩))⟩⟩)
 have S:=chunks_shows (n:=blocksN more) (ts:=ts) ⟨bn.1,bn.2⟩
 have tx:=tree_tx (blocksN more) ts
 generalize hn:blocksN more=n at *
 have g:=tree_good ⟨bn.1,bn.2⟩ ts
 generalize treeP n ts=s at *
 generalize (⟨Ad.fresh (Ad.chunks (imgP n s)),[],[],false⟩:TM)=T at x3 S
 have z2:=n2.size
 have z3:=f3.size
 have z5:=n5.size
 have z6:=f6.size
 have f36:Fr No h3 h6:=n5.fr.no f6
 have F6:Fr No h h6:=(n2.fr.no f3).no f36
 have gl6:In.Glo h6:=gl.no F6
 have rg6:rd h6 h3.size=(geoN n).v:=(f6.rd (by omega) fun y=>y).trans n5.rd
 have X6:=x3.no f36
 have T6:=T3.no f36
 have s2:=g.tr.n2
 have hc:(geoN n).count=8*(n / 64):=rfl
 have hcnt:=g.tr.cnt
 unfold bolelaw16_WalkNames.k1
 refine ⟨fun i1 hx=>∃ i:Nat,i1=i∧i≤s.n∧Fr No h6 hx,fun i1 _=>((s.n:Int) - i1).toNat,⟨0,rfl,Nat.zero_le _,Fr.refl _ _⟩,?_⟩
 rintro i1 h8 ⟨i,rfl,hi,f8⟩
 have z8:=f8.size
 have rg8:rd h8 h3.size=(geoN n).v:=(f8.rd (by omega) fun y=>y).trans rg6
 have next:i<s.n→∀ h',Fr No h6 h'→(∃ j:Nat,IntKind.wrap .i64 ((i:Int)+1)=j∧j≤s.n∧Fr No h6 h')∧((s.n:Int) - IntKind.wrap .i64 ((i:Int)+1)).toNat<((s.n:Int) - (i:Int)).toNat:=fun hlt h' f=>by
  rw [wrap_i64 (show -9223372036854775808≤(i:Int)+1 by omega) (by omega)]
  exact ⟨⟨i+1,by omega,by omega,f⟩,by omega⟩
 refine cd (fun hlt=>?_) fun hge=>?_
 ·have hlt:i<s.n:=by omega
  refine ⟨⟨by omega,by omega⟩,?_⟩
  by_cases i0:i=0
  ·subst i0
   obtain ⟨p,ep,cp⟩:=(T6.no f8).nul
   rw [ep]
   exact os ⟨none,cp,ct rfl (next hlt h8 f8)⟩
  ·obtain ⟨p,ep,cp⟩:=(T6.no f8).ptr i (by omega) hlt
   have N8:=(T6.no f8).nd i (by omega) hlt
   have ep0:=ep
   rw [ep,Int.toNat_natCast]
   refine os ⟨_,cp,ce (fun y=>by omega) fun _=>os ⟨_,rda N8.r rfl,cn (fun k2=>next hlt h8 f8) fun k2=>?_⟩⟩
   rw [← ep0]
   exact names_k2 g tx S (gl6.no f8) (X6.no f8) (T6.no f8) rg8 (by omega) hlt k2 fun h' f=>next hlt h' (f8.no f)
 ·refine ⟨_,rfl,cellsAll rg8,To_spec (gl6.no f8) g.dim (X6.no f8) (by decide) fun h33 a1 c1 f33 L1=>⟨_,_,rfl,NewRow.intro rfl plV_one rfl fun h35 n35=>?_⟩⟩
  have et:toT s.nd [47] true=(⟨[1],[],1⟩,0):=by
   have:parseA [47] true=([],0):=by decide +kernel
   unfold toT
   rw [this,if_neg (fun y=>y rfl)]; rfl
  rw [to_tree g tx S,et] at L1 n35 ⊢
  have z33:=f33.size
  have z35:=n35.size
  refine ⟨_,rfl,cellsAll n35.rd,New.intro fun h36 n36=>?_⟩
  have hv:[Value.slice (some ⟨h35.size,0,none⟩) 1 1,.string (mkStr []),.int .i64 1,.int .i64 0]=spotV (some ⟨h35.size,0,none⟩) 1 ⟨[1],[],1⟩ 0:=rfl
  rw [hv]
  exact is_true (p:=⟨[1],[],1⟩) (q:=⟨[1],[],1⟩) (SlCells.fr (n35.fr.new n36) L1.cells fun _ _ y=>y) (cellsAll n36.rd) (by show 1≤_; omega) rfl rfl fun h37 f37=>⟨_,rfl,hK h37 ((((F6.no f8).no f33).new n35).new n36 |>.no f37)⟩
end
end Go.Proofs.YtiapingedfnlnaaGreatDoor.Tr
