/-
  TEXTS FOR dirPlain_card: DwH DwI.
-/
import Derived.Test.YtiapingedfnlnaaGreatDoorGp5
namespace Go.Proofs.YtiapingedfnlnaaGreatDoor.Di
open Go Go.Proofs Wx Hp W Re Ss
open Sk (E nameOk)
open Go.Op (bytesLess)
theorem mkStr_app (a b:List UInt8):mkStr a++mkStr b=mkStr (a++b):=by
 apply ByteArray.ext
 rw [ByteArray.data_append]
 simp [mkStr]
theorem mod_spec {v n:Int} {h:Heap} {K:Value→Heap→Prop} (h0:0<n) (h1:n≤4294967296) (hK:K (.int .i64 (v % n)) h):C.bolelaw15_mod v n h K:=by
 refine bolelaw15_mod.ok ?_
 unfold bolelaw15_mod
 rw [if_neg (by omega)]
 have e:=Int.tmod_eq_emod (a:=v) (b:=n)
 have p0:=Int.emod_nonneg v (show n≠0 by omega)
 have p1:=Int.emod_lt_of_pos v h0
 refine cd (fun x=>?_) fun x=>?_
 ·have:v.tmod n+n=v % n:=by
   rw [e] at x ⊢
   split at x
   ·omega
   ·rename_i c; rw [if_neg c]; omega
  rw [this,wrap_i64 (by omega) (by omega)]; exact hK
 ·have:v.tmod n=v % n:=by
   rw [e] at x ⊢
   split at x
   ·rename_i c; rw [if_pos c]; omega
   ·rename_i c; omega
  rw [this]; exact hK
def dd2 (i:Nat):Tm.Txt:=[UInt8.ofNat (48+i / 10),UInt8.ofNat (48+i % 10)]
theorem named_spec {s:Tm.Txt} {i:Nat} {h:Heap} {K:Value→Heap→Prop} (hi:i<100) (hs:s.length≤1000000000000) (hK:∀ h',Fr No h h'→K (.string (mkStr (s++dd2 i))) h'):C.bolelaw15_named (mkStr s) (i:Int) h K:=by
 have e1:Int.tdiv (i:Int) 10=((i / 10:Nat):Int):=by rw [Int.tdiv_eq_ediv_of_nonneg (by omega)]; omega
 have e2:Int.tmod (i:Int) 10=((i % 10:Nat):Int):=by rw [Int.tmod_eq_emod_of_nonneg (by omega)]; omega
 refine bolelaw15_named.ok (New.intro fun h2 n2=>⟨dd2 i,strAll ?_ rfl,?_,?_⟩)
 ·have r2:=n2.rd
  rw [e1,e2,wrap_i64 (n:=((i / 10:Nat):Int)) (by omega) (by omega),wrap_i64 (n:=48+((i / 10:Nat):Int)) (by omega) (by omega),wrap_i64 (n:=48+((i % 10:Nat):Int)) (by omega) (by omega),wrap_u8 (by omega) (by omega),wrap_u8 (by omega) (by omega)] at r2
  rw [r2]
  show [Value.int .u8 (48+((i / 10:Nat):Int)),Value.int .u8 (48+((i % 10:Nat):Int))]=[bv (UInt8.ofNat (48+i / 10)),bv (UInt8.ofNat (48+i % 10))]
  unfold bv
  rw [UInt8.toNat_ofNat',UInt8.toNat_ofNat',Nat.mod_eq_of_lt (show 48+i / 10<2 ^ 8 by omega),Nat.mod_eq_of_lt (show 48+i % 10<2 ^ 8 by omega),Int.natCast_add,Int.natCast_add]; rfl
 ·show ((s.length+2:Nat):Int)≤9223372036854775807
  omega
 ·rw [mkStr_app]; exact hK h2 n2.fr
def pcV (c:PC):List Value:=[.string (mkStr c.1),.int .i64 c.2]
theorem pc_len (c:PC):(pcV c).length=2:=rfl
theorem pc_one (c:PC):∀ v ∈ pcV c,v.oneCell'=true:=by
 intro v hv
 simp only [pcV,List.mem_cons,List.not_mem_nil,or_false] at hv
 rcases hv with rfl|rfl <;> rfl
theorem row_one (l:List PC):∀ v ∈ l.flatMap pcV,v.oneCell'=true:=fun v hv=>by
 obtain ⟨c,_,hc⟩:=List.mem_flatMap.mp hv
 exact pc_one c v hc
theorem pc_at {h:Heap} {a:Option Addr} {l:List PC} (Z:SlCells h a (l.flatMap pcV)) {j:Nat} (hj:j<l.length):∃ p,a=some p∧Cells h (p.add (j*2)) (pcV l[j]):=by
 cases a with
 | none =>
  have Z:l.flatMap pcV=[]:=Z
  have:=flat_length pcV 2 l (fun x _=>pc_len x)
  rw [Z,List.length_nil] at this
  omega
 | some p =>
  refine ⟨p,rfl,?_⟩
  have:=Cells.part (show Cells h p (l.flatMap pcV) from Z) (j*2) 2
  rw [flat_part pcV 2 _ (fun x _=>pc_len x) j hj] at this
  exact this
def atI (s:Tm.Txt) (l:List PC):Int:=match atP s l with
 | some p=>(p:Int)
 | none => -1
theorem atP_append (s:Tm.Txt) (b:List PC):∀ a:List PC,atP s (a++b)=match atP s a with
  | some p=>some p
  | none=>(atP s b).map (· + a.length)
 | []=>by
  show atP s b=(atP s b).map (· + 0)
  cases atP s b <;> rfl
 | x::r=>by
  have ih:=atP_append s b r
  show (if x.1=s then some 0 else (atP s (r++b)).map (· + 1))=match (if x.1=s then some 0 else (atP s r).map (· + 1)) with
   | some p=>some p
   | none=>(atP s b).map (· + (r.length+1))
  by_cases h:x.1=s
  ·rw [if_pos h,if_pos h]
  ·rw [if_neg h,if_neg h,ih]
   cases atP s r with
   | some p=>rfl
   | none =>
    cases atP s b with
    | none=>rfl
    | some q=>show some (q+r.length+1)=some (q+(r.length+1)); rw [Nat.add_assoc]
theorem atP_some {s:Tm.Txt}:∀ {l:List PC} {p:Nat},atP s l=some p→p<l.length
 | [],p,h=>by cases h
 | x::r,p,h=>by
  unfold atP at h
  by_cases c:x.1=s
  ·rw [if_pos c] at h; cases h; exact Nat.succ_pos _
  ·rw [if_neg c] at h
   obtain ⟨q,hq,rfl⟩:=Option.map_eq_some_iff.mp h
   exact Nat.succ_lt_succ (atP_some hq)
theorem at_spec {h:Heap} {a:Option Addr} {L c:Nat} {l:List PC} {s:Tm.Txt} {K:Value→Heap→Prop} (Z:SlCells h a (l.flatMap pcV)) (hl:l.length=L) (hm:L≤1000000000000) (hK:∀ h',Fr No h h'→K (.int .i64 (atI s l)) h'):C.bolelaw15_at a L c (mkStr s) h K:=by
 refine bolelaw15_at.ok ⟨fun j hh=>∃ p:Nat,j=p∧p≤L∧Fr No h hh∧atP s (l.take p)=none,fun j _=>((L:Int) - j).toNat,⟨0,rfl,Nat.zero_le _,Fr.refl _ _,rfl⟩,?_⟩
 rintro j h2 ⟨p,rfl,hp,f2,np⟩
 refine cd (fun hlt=>?_) fun hlt=>?_
 ·have hlt':p<l.length:=by omega
  obtain ⟨a0,ea,ca⟩:=pc_at Z hlt'
  subst ea
  have Z2:Cells h2 (a0.add (p*2)) (pcV l[p]):=Cells.fr f2 ca fun y=>y
  refine ⟨⟨by omega,hlt⟩,os ⟨_,rfl,Z2,NewRow.intro rfl (pc_one _) rfl fun h4 n4=>⟨_,rda n4.rd rfl,?_⟩⟩⟩
  rw [toList_mkStr,toList_mkStr]
  have et:l.take (p+1)=l.take p++[l[p]]:=List.take_succ_eq_append_getElem hlt'
  have en:atP s (l.take (p+1))=(atP s [l[p]]).map (· + p):=by
   rw [et,atP_append,np,List.length_take,Nat.min_eq_left (Nat.le_of_lt hlt')]
  refine cs (fun heq=>?_) fun hne=>?_
  ·have e1:atP s l=some p:=by
    rw [← List.take_append_drop (p+1) l,atP_append,en]
    have:atP s [l[p]]=some 0:=if_pos (eq_of_beq heq)
    rw [this]
    show some (0+p)=_
    rw [Nat.zero_add]
   have hK:=hK h4 (f2.new n4)
   unfold atI at hK
   rw [e1] at hK
   exact hK
  ·rw [wrap_i64 (by omega) (by omega)]
   refine ⟨⟨p+1,by omega,by omega,f2.new n4,?_⟩,falls hlt⟩
   have hne:(l[p].1 == s)=false:=hne
   rw [en]
   have:atP s [l[p]]=none:=if_neg (fun y=>by rw [y,beq_self_eq_true] at hne; cases hne)
   rw [this]; rfl
 ·rw [List.take_of_length_le (by omega)] at np
  have hK:=hK h2 f2
  unfold atI at hK
  rw [np] at hK
  exact hK
theorem sl_put {h h':Heap} {b o l c i:Nat} {xs:List PC} {y:PC} {F:Nat→Prop} (s:Sl h 2 (some ⟨b,o,none⟩) l c (xs.flatMap pcV) F) (hi:i<xs.length) (d:Did b h h' (put (rd h b) (o+i*2) (pcV y))):Sl h' 2 (some ⟨b,o,none⟩) l c ((xs.set i y).flatMap pcV) F :=
 Sl.putPart (f:=pcV) (w:=2) s (fun x _=>pc_len x) hi (pc_len y) d
theorem plain_spec {h:Heap} {a:Option Addr} {L c:Nat} {l:List PC} {k v:Int} {s:Tm.Txt} {K:Value→Heap→Prop} (Z:SlCells h a (l.flatMap pcV)) (hl:l.length=L) (hm:L≤100000000)
  (hK:∀ h' a' c',Fr No h h'→SlCells h' a' ((plainM l k s v).1.flatMap pcV)→(a'=a∨∀ p,a'=some p→h.size≤p.block∧p.block<h'.size)→K (.tuple #[.slice a' (plainM l k s v).1.length c',.int .i64 (plainM l k s v).2.1,.int .i64 (plainM l k s v).2.2]) h'):C.bolelaw15_plain a L c k (mkStr s) v h K:=by
 have lf:(l.flatMap pcV).length=L*2:=by rw [flat_length pcV 2 _ (fun x _=>pc_len x),hl]
 have no:∀ (h':Heap) (e:Int),Fr No h h'→plainM l k s v=(l,0,e)→K (.tuple #[.slice a L c,.int .i64 0,.int .i64 e]) h':=fun h' e f e0=>by
  have hK:=hK h' a c f
  rw [e0] at hK
  have:=hK (SlCells.fr f Z fun _ _ y=>y) (.inl rfl)
  rw [hl] at this
  exact this
 refine bolelaw15_plain.ok ⟨l.flatMap pcV,lf,Z,row_one l,?_⟩
 refine append_own (elem:=ti49) (F:=From h.size) (xs:=[]) (Sl.nil _ _ _) lf rfl (by show (0+L)*24≤_; omega) (by omega) fun a2 c2 h2 f2 s2=>?_
 have z2:=f2.size
 have F2:Fr No h h2:=f2.mono fun b hb y=>by have y:h.size≤b:=y; omega
 rw [List.nil_append] at s2
 rw [Nat.zero_add] at s2 ⊢
 have s2:Sl h2 2 a2 L c2 (l.flatMap pcV) (From h.size):=s2.mono fun b hb=>hb.elim id id
 refine at_spec s2.cells hl (by omega) fun h3 f3=>⟨_,rfl,?_⟩
 have z3:=f3.size
 have F3:=F2.no f3
 have s3:Sl h3 2 a2 L c2 (l.flatMap pcV) (From h.size):=s2.fr f3 fun _ _ _ y=>y
 -- a cell is set
 have set_:∀ (hh:Heap) (a3:Option Addr) (m c3 i:Nat) (ms:List PC),Fr No h hh→Sl hh 2 a3 m c3 (ms.flatMap pcV) (From h.size)→ms.length=m→i<m→plainM l k s v=(ms.set i (s,v),0,0)→bolelaw15_plain.k1 (mkStr s) v a3 m c3 (i:Int) hh K:=fun hh a3 m c3 i ms f sm lm hi e0=>by
  unfold bolelaw15_plain.k1
  cases a3 with
  | none=>have:m=0:=sm.2.1; omega
  | some p =>
   obtain ⟨b,o,sp⟩:=p
   have ep:sp=none:=sm.2.1
   subst ep
   have zf:=f.size
   have hb:h.size≤b:=sm.2.2.1
   have rm:=sm.wr.2
   refine ⟨⟨by omega,by omega⟩,os (PutRow.add sm.wr.1 rfl (pc_one (s,v)) (by rw [Int.toNat_natCast]; omega) fun h9 d9=>?_)⟩
   rw [Int.toNat_natCast] at d9
   have s9:=sl_put (y:=(s,v)) sm (show i<ms.length by omega) d9
   have z9:=d9.size
   have hK:=hK h9 (some ⟨b,o,none⟩) c3 (f.did d9 fun hl=>by omega)
   rw [e0] at hK
   have:=hK s9.cells (.inr fun p hp=>by cases hp; exact ⟨hb,by have:=s9.wr.1.lt; exact this⟩)
   rw [List.length_set,lm] at this
   exact this
 have pm:atP s l=none∨∃ p,atP s l=some p∧p<L:=by
  cases hp:atP s l with
  | none=>exact .inl rfl
  | some p=>exact .inr ⟨p,rfl,by rw [← hl]; exact atP_some hp⟩
 refine ce (fun k0=>?_) fun k0=>?_
 ·rcases pm with hp|⟨p,hp,hpl⟩
  ·have e1:atI s l = -1:=by unfold atI; rw [hp]
   rw [e1]
   refine cf rfl (at_spec (s:=[]) s3.cells hl (by omega) fun h4 f4=>⟨_,rfl,?_⟩)
   have F4:=F3.no f4
   have s4:Sl h4 2 a2 L c2 (l.flatMap pcV) (From h.size):=s3.fr f4 fun _ _ _ y=>y
   cases hq:atP [] l with
   | some q =>
    have e2:atI [] l=(q:Int):=by unfold atI; rw [hq]
    have hq':=atP_some hq
    rw [e2,decide_eq_false (by omega)]
    refine cf rfl (set_ h4 a2 L c2 q l F4 s4 hl (by omega) ?_)
    unfold plainM; rw [if_pos k0,hp,hq]
   | none =>
    have e2:atI [] l = -1:=by unfold atI; rw [hq]
    rw [e2]
    refine ct rfl ⟨fun ma ml mc j hh=>∃ q:Nat,j=q∧q≤16∧ml=L+q∧Fr No h hh∧Sl hh 2 ma ml mc ((l++List.replicate q ([],0)).flatMap pcV) (From h.size),fun _ _ _ j _=>(16 - j).toNat,⟨0,rfl,by omega,rfl,F4,by rw [List.replicate_zero,List.append_nil]; exact s4⟩,?_⟩
    rintro ma ml mc j h5 ⟨q,rfl,hq16,rfl,f5,s5⟩
    refine cd (fun hj=>⟨rfl,New.intro fun h6 n6=>⟨pcV ([],0),rfl,cellsAll n6.rd,pc_one _,?_⟩⟩) fun hj=>?_
    ·have z6:=n6.size
     have z5:=f5.size
     refine append_own (elem:=ti49) (s5.fr n6.fr fun _ _ _ y=>y) rfl rfl (by show (L+q+1)*24≤_; omega) (by omega) fun a7 c7 h7 f7 s7=>?_
     rw [wrap_i64 (by omega) (by omega)]
     refine ⟨⟨q+1,by omega,by omega,by omega,(f5.new n6).trans f7 fun b hb y=>by have y:h.size≤b:=y; omega,?_⟩,by show (16 - ((q:Int)+1)).toNat<(16 - (q:Int)).toNat; omega⟩
     rw [List.replicate_succ',← List.append_assoc,List.flatMap_append]
     rw [show ([([],0)]:List PC).flatMap pcV=pcV ([],0) from rfl]
     exact s7.mono fun b hb=>hb.elim id fun y=>by show h.size≤b; omega
    ·have:q=16:=by omega
     subst this
     refine set_ h5 ma (L+16) mc L _ f5 s5 (by rw [List.length_append,List.length_replicate,hl]) (by omega) ?_
     unfold plainM; rw [if_pos k0,hp,hq,hl]
  ·have e1:atI s l=(p:Int):=by unfold atI; rw [hp]
   rw [e1,decide_eq_true (by omega)]
   exact ct rfl (no h3 150 F3 (by unfold plainM; rw [if_pos k0,hp]))
 ·rcases pm with hp|⟨p,hp,hpl⟩
  ·have e1:atI s l = -1:=by unfold atI; rw [hp]
   rw [e1]
   exact ct rfl (no h3 160 F3 (by unfold plainM; rw [if_neg k0,hp]))
  ·have e1:atI s l=(p:Int):=by unfold atI; rw [hp]
   have hpl':p<l.length:=by omega
   rw [e1,decide_eq_false (by omega)]
   refine cf rfl ?_
   cases a2 with
   | none=>have:L=0:=s3.2.1; omega
   | some q =>
    obtain ⟨b,o,sp⟩:=q
    have ep:sp=none:=s3.2.1
    subst ep
    have hb:h.size≤b:=s3.2.2.1
    have rm:=s3.wr.2
    obtain ⟨q,eq,cq⟩:=pc_at s3.cells hpl'
    cases eq
    have c1:cellOf h3 (Addr.add (Addr.add ⟨b,o,none⟩ ((Int.toNat (p:Int))*2)) 1)=some (.int .i64 (l[p]).2):=by
     rw [Int.toNat_natCast]
     exact Cells.cell cq (i:=1) rfl
    refine ⟨⟨by omega,by omega⟩,os ⟨_,c1,⟨by omega,by omega⟩,os (PutRow.add s3.wr.1 rfl (pc_one (s,v)) (by rw [Int.toNat_natCast]; omega) fun h10 d10=>?_)⟩⟩
    rw [Int.toNat_natCast] at d10
    have s10:=sl_put (y:=(s,v)) s3 hpl' d10
    have z10:=d10.size
    have F10:=F3.did d10 fun hl=>by omega
    have eg:(l.getD p ([],0)).2=(l[p]).2:=by rw [List.getD_eq_getElem?_getD,List.getElem?_eq_getElem hpl']; rfl
    have e0:plainM l k s v=(l.set p (if k=1 then ([],0) else (s,v)),(l[p]).2,0):=by unfold plainM; rw [if_neg k0,hp,← eg]
    have hK:=fun h'=>hK h' (some ⟨b,o,none⟩) c2
    rw [e0] at hK
    refine ce (fun k1=>⟨⟨by omega,by omega⟩,os (PutRow.add s10.wr.1 rfl (pc_one ([],0)) (by have:=s10.wr.2; rw [Int.toNat_natCast]; omega) fun h11 d11=>?_)⟩) fun k1=>?_
    ·rw [Int.toNat_natCast] at d11
     have s11:=sl_put (y:=([],0)) s10 (by rw [List.length_set]; exact hpl') d11
     rw [List.set_set] at s11
     have z11:=d11.size
     rw [if_pos k1] at hK
     have:=hK h11 (F10.did d11 fun hl=>by omega) s11.cells (.inr fun p hp=>by cases hp; exact ⟨hb,s11.wr.1.lt⟩)
     rw [List.length_set,hl] at this
     exact this
    ·rw [if_neg k1] at hK
     have:=hK h10 F10 s10.cells (.inr fun p hp=>by cases hp; exact ⟨hb,s10.wr.1.lt⟩)
     rw [List.length_set,hl] at this
     exact this
theorem insN_take {c:E}:∀ {k:Nat} {out:List E},k≤out.length→(∀ j (hj:j<out.length),j<k→bytesLess out[j].name c.name=true)→(∀ hj:k<out.length,bytesLess out[k].name c.name=false)→insN c out=out.take k++c::out.drop k
 | 0,[],_,_,_=>rfl
 | 0,x::r,_,_,h=>by
  have:=h (Nat.succ_pos _)
  unfold insN
  rw [if_neg (by rw [show bytesLess x.name c.name=false from this]; decide)]; rfl
 | k+1,[],hk,_,_=>absurd hk (Nat.not_succ_le_zero _)
 | k+1,x::r,hk,h1,h2=>by
  have h0:=h1 0 (Nat.succ_pos _) (Nat.succ_pos _)
  have ih:=insN_take (c:=c) (k:=k) (out:=r) (Nat.le_of_succ_le_succ hk) (fun j hj hlt=>h1 (j+1) (Nat.succ_lt_succ hj) (Nat.succ_lt_succ hlt)) fun hj=>h2 (Nat.succ_lt_succ hj)
  unfold insN
  rw [if_pos (show bytesLess x.name c.name=true from h0),ih]; rfl
theorem insN_len (c:E) (l:List E):(insN c l).length=l.length+1:=by rw [(insN_perm c l).length_eq]; rfl
theorem ent_one (l:List E):∀ v ∈ l.flatMap E.v,v.oneCell'=true:=fun v hv=>by
 obtain ⟨c,_,hc⟩:=List.mem_flatMap.mp hv
 exact E.one c v hc
theorem flat_take (l:List E) (k:Nat):(l.take k).flatMap E.v=(l.flatMap E.v).take (k*3):=by
 by_cases hk:k≤l.length
 ·have e:l.flatMap E.v=(l.take k).flatMap E.v++(l.drop k).flatMap E.v:=by rw [← List.flatMap_append,List.take_append_drop]
  have len:((l.take k).flatMap E.v).length=k*3:=by rw [flat_length E.v 3 _ (fun x _=>E.len x),List.length_take,Nat.min_eq_left hk]
  rw [e,← len,List.take_left]
 ·rw [List.take_of_length_le (by omega),List.take_of_length_le]
  rw [flat_length E.v 3 _ (fun x _=>E.len x)]; omega
theorem flat_drop (l:List E) (k:Nat) (hk:k≤l.length):(l.drop k).flatMap E.v=(l.flatMap E.v).drop (k*3):=by
 have e:l.flatMap E.v=(l.take k).flatMap E.v++(l.drop k).flatMap E.v:=by rw [← List.flatMap_append,List.take_append_drop]
 have len:((l.take k).flatMap E.v).length=k*3:=by rw [flat_length E.v 3 _ (fun x _=>E.len x),List.length_take,Nat.min_eq_left hk]
 conv=>rhs; rw [e,← len,List.drop_left]
theorem entries_spec {h:Heap} {a:Option Addr} {L c:Nat} {l:List PC} {K:Value→Heap→Prop} (Z:SlCells h a (l.flatMap pcV)) (hl:l.length=L) (hm:L≤100000000)
  (hK:∀ h' a' c',Fr No h h'→Sl h' 3 a' (entGo 0 l []).length c' ((entGo 0 l []).flatMap E.v) (From h.size)→K (.slice a' (entGo 0 l []).length c') h'):C.bolelaw15_entries a L c h K:=by
 refine bolelaw15_entries.ok ⟨fun oa ol oc j hh=>∃ (p:Nat) (out:List E),j=p∧p≤L∧Fr No h hh∧ol=out.length∧out.length≤p∧Sl hh 3 oa ol oc (out.flatMap E.v) (From h.size)∧entGo 0 l []=entGo p (l.drop p) out,fun _ _ _ j _=>((L:Int) - j).toNat,⟨0,[],rfl,Nat.zero_le _,Fr.refl _ _,rfl,Nat.zero_le _,Sl.nil _ _ _,rfl⟩,?_⟩
 rintro oa ol oc j h2 ⟨p,out,rfl,hp,f2,rfl,ho,s2,e⟩
 have z2:=f2.size
 refine cd (fun hlt=>?_) fun hlt=>?_
 rotate_left
 ·have:p=L:=by omega
  rw [List.drop_of_length_le (by omega)] at e
  have e:entGo 0 l []=out:=e
  rw [e] at hK
  exact hK h2 oa oc f2 s2
 have hlt':p<l.length:=by omega
 obtain ⟨a0,ea,ca⟩:=pc_at Z hlt'
 subst ea
 have Z2:Cells h2 (a0.add (p*2)) (pcV l[p]):=Cells.fr f2 ca fun y=>y
 have ed:l.drop p=l[p]::l.drop (p+1):=List.drop_eq_getElem_cons hlt'
 refine ⟨⟨by omega,hlt⟩,os ⟨_,rfl,Z2,NewRow.intro rfl (pc_one _) rfl fun h4 n4=>⟨_,rda n4.rd rfl,?_⟩⟩⟩
 rw [toList_mkStr,toList_mkStr]
 have z4:=n4.size
 have s4:Sl h4 3 oa out.length oc (out.flatMap E.v) (From h.size):=s2.fr n4.fr fun _ _ _ y=>y
 rw [ed] at e
 refine cs (fun heq=>?_) fun hne=>?_
 ·rw [wrap_i64 (by omega) (by omega)]
  refine ⟨⟨p+1,out,by omega,by omega,f2.new n4,rfl,by omega,s4,?_⟩,falls hlt⟩
  rw [e]
  conv=>lhs; unfold entGo
  exact if_pos (eq_of_beq heq)
 have hne:¬ l[p].1=[]:=fun y=>by
  have hne:(l[p].1 == ([]:Tm.Txt))=false:=hne
  rw [y,beq_self_eq_true] at hne; cases hne
 have e:entGo 0 l []=entGo (p+1) (l.drop (p+1)) (insN ⟨p,l[p].1,l[p].2⟩ out):=by
  rw [e]
  conv=>lhs; unfold entGo
  exact if_neg hne
 -- the entry is put in
 have K1:∀ (k:Nat),k≤out.length→insN ⟨p,l[p].1,l[p].2⟩ out=out.take k++⟨p,l[p].1,l[p].2⟩::out.drop k→bolelaw15_entries.k1 oa out.length oc (p:Int) h2 (fun oa ol oc j hh=>∃ (p:Nat) (out:List E),j=p∧p≤L∧Fr No h hh∧ol=out.length∧out.length≤p∧Sl hh 3 oa ol oc (out.flatMap E.v) (From h.size)∧entGo 0 l []=entGo p (l.drop p) out) (fun _ _ _ j _=>((L:Int) - j).toNat) (k:Int) h4 K:=by
  intro k hk ei
  have hco:=s4.le
  have lt:((out.take k).flatMap E.v).length=k*3:=by rw [flat_length E.v 3 _ (fun x _=>E.len x),List.length_take,Nat.min_eq_left hk]
  unfold bolelaw15_entries.k1
  rw [Int.toNat_natCast]
  refine ⟨⟨by omega,by omega⟩,(out.take k).flatMap E.v,lt,?_,ent_one _,?_⟩
  ·rw [flat_take]; exact SlCells.take s4.cells _
  refine append_own (elem:=ti113) (F:=From h4.size) (xs:=[]) (Sl.nil _ _ _) lt rfl (by show (0+k)*32≤_; omega) (by omega) fun a7 c7 h7 f7 s7=>?_
  have z7:=f7.size
  rw [List.nil_append] at s7
  have s7:Sl h7 3 a7 (0+k) c7 ((out.take k).flatMap E.v) (From h4.size):=s7.mono fun b hb=>hb.elim id id
  have f47:Fr No h4 h7:=f7.mono fun b hb y=>by have y:h4.size≤b:=y; omega
  have r7:rd h7 h2.size=pcV l[p]:=(f47.rd (by omega) fun y=>y).trans n4.rd
  refine ⟨_,rda r7 rfl,_,rda r7 rfl,rfl,New.intro fun h8 n8=>⟨E.v ⟨p,l[p].1,l[p].2⟩,rfl,cellsAll n8.rd,E.one _,?_⟩⟩
  have z8:=n8.size
  refine append_own (elem:=ti113) (s7.fr n8.fr fun _ _ _ y=>y) rfl rfl (by show (0+k+1)*32≤_; omega) (by omega) fun a9 c9 h9 f9 s9=>?_
  have z9:=f9.size
  have s9:Sl h9 3 a9 (0+k+1) c9 ((out.take k).flatMap E.v++E.v ⟨p,l[p].1,l[p].2⟩) (From h4.size):=s9.mono fun b hb=>hb.elim id fun y=>by show h4.size≤b; omega
  have f49:Fr No h4 h9:=(f47.new n8).trans f9 fun b hb y=>by have y:h4.size≤b:=y; omega
  have ld:((out.drop k).flatMap E.v).length=(out.length - k)*3:=by rw [flat_length E.v 3 _ (fun x _=>E.len x),List.length_drop]
  refine ⟨⟨by omega,by omega⟩,(out.drop k).flatMap E.v,ld,?_,ent_one _,?_⟩
  ·have s49:SlCells h9 oa (out.flatMap E.v):=SlCells.fr f49 s4.cells fun _ _ y=>y
   rw [flat_drop _ _ hk]
   by_cases hc:oc=k
   ·rw [if_pos hc]
    have:(out.flatMap E.v).drop (k*3)=[]:=List.drop_of_length_le (by rw [flat_length E.v 3 _ (fun x _=>E.len x)]; omega)
    rw [this]
    cases oa with
    | none=>rfl
    | some q=>exact Cells.nil _ _
   ·rw [if_neg hc]; exact SlCells.drop s49 _
  refine append_own (elem:=ti113) s9 ld rfl (by show (0+k+1+(out.length - k))*32≤_; omega) (by omega) fun a10 c10 h10 f10 s10=>?_
  have z10:=f10.size
  rw [wrap_i64 (by omega) (by omega)]
  refine ⟨⟨p+1,insN ⟨p,l[p].1,l[p].2⟩ out,by omega,by omega,((f2.new n4).no f49).trans f10 fun b hb y=>by have y:h4.size≤b:=y; omega,by rw [insN_len]; omega,by rw [insN_len]; omega,?_,e⟩,falls hlt⟩
  rw [ei,List.flatMap_append,List.flatMap_cons,← List.append_assoc]
  exact s10.mono fun b hb=>hb.elim (fun y=>by have y:h4.size≤b:=y; show h.size≤b; omega) fun y=>by show h.size≤b; omega
 refine ⟨fun k hh=>∃ q:Nat,k=q∧q≤out.length∧hh=h4∧∀ j (hj:j<out.length),j<q→bytesLess out[j].name l[p].1=true,fun k _=>((out.length:Int) - k).toNat,⟨0,rfl,Nat.zero_le _,rfl,fun j _ y=>absurd y (Nat.not_lt_zero _)⟩,?_⟩
 rintro k _ ⟨q,rfl,hq,rfl,less⟩
 refine cd (fun hk=>?_) fun hk=>?_
 ·have hk':q<out.length:=by omega
  obtain ⟨b0,eb,cb⟩:=ent_at s4.cells hk'
  subst eb
  refine ⟨⟨by omega,hk⟩,os ⟨_,Cells.cell cb (i:=1) rfl,_,rda n4.rd rfl,?_⟩⟩
  rw [toList_mkStr,toList_mkStr]
  refine cs (fun hb=>?_) fun hb=>?_
  ·rw [wrap_i64 (by omega) (by omega)]
   refine ⟨⟨q+1,by omega,by omega,rfl,fun j hj hlt2=>?_⟩,falls hk⟩
   rcases Nat.lt_or_ge j q with h|h
   ·exact less j hj h
   ·have:j=q:=by omega
    subst this
    exact hb
  ·exact K1 q hq (insN_take hq (fun j hj hlt2=>less j hj hlt2) fun hj=>hb)
 ·have:q=out.length:=by omega
  subst this
  exact K1 _ (Nat.le_refl _) (insN_take (Nat.le_refl _) (fun j hj hlt2=>less j hj hlt2) fun hj=>absurd hj (Nat.lt_irrefl _))
theorem sameEntries_spec {a b:Option Addr} {l m c c2:Nat} {xs ys:List E} {h:Heap} {K:Value→Heap→Prop} (A:SlCells h a (xs.flatMap E.v)) (hxl:xs.length=l) (B:SlCells h b (ys.flatMap E.v)) (hyl:ys.length=m) (hl:l≤140737488355328) (hK:K (.bool (decide (xs=ys))) h):C.bolelaw15_sameEntries a l c b m c2 h K:=by
 refine bolelaw15_sameEntries.ok (cn (fun hne=>?_) fun heq=>?_)
 ·have:xs≠ys:=by rintro rfl; omega
  rw [decide_eq_false this] at hK; exact hK
 ·refine ⟨fun i hh=>0≤i∧i≤l∧h=hh∧xs.take i.toNat=ys.take i.toNat,fun i _=>((l:Int) - i).toNat,⟨by omega,by omega,rfl,rfl⟩,?_⟩
  rintro i _ ⟨i0,i1,rfl,e⟩
  refine cd (fun hi=>?_) fun hi=>?_
  ·have hx:i.toNat<xs.length:=by omega
   have hy:i.toNat<ys.length:=by omega
   obtain ⟨p,rfl,ca⟩:=ent_at A hx
   obtain ⟨q,rfl,cb⟩:=ent_at B hy
   refine ⟨⟨i0,hi⟩,os ⟨_,rfl,ca,⟨i0,by omega⟩,os ⟨_,rfl,cb,E.eq.1,cnot ?_⟩⟩⟩
   rw [E.eq.2]
   refine cd (fun heq2=>?_) fun hne=>?_
   ·rw [wrap_i64 (by omega) (by omega)]
    refine ⟨⟨by omega,by omega,rfl,?_⟩,falls hi⟩
    rw [show (i+1).toNat=i.toNat+1 by omega,List.take_succ_eq_append_getElem hx,List.take_succ_eq_append_getElem hy,e,heq2]
   ·have:xs≠ys:=by rintro rfl; exact hne rfl
    rw [decide_eq_false this] at hK; exact hK
  ·rw [List.take_of_length_le (by omega),List.take_of_length_le (by omega)] at e
   rw [decide_eq_true e] at hK; exact hK
end Go.Proofs.YtiapingedfnlnaaGreatDoor.Di
namespace Go.Proofs.YtiapingedfnlnaaGreatDoor.Di
open Go Go.Proofs Wx Hp W Ad Tm Bt Spc Av Ss
open In (encR)
open Fi (Ly Ib cok)
open Bm (Z0)
open Sk (E nameOk ents)
def StD (n u:Nat) (T:TM) (v:Nat→List PC):Prop:=∃ (Z:Nat→Tm.Txt) (R:Nat→List Int) (H:Nat→List Cl),Dd n u [] Z T 1 (R 0) (H 0) 2 (R 1) (H 1)∧∀ k,k<2→Nm 40 (H k)∧v k=(H k).map toP
def upd {α:Type} (f:Nat→α) (k:Nat) (x:α):Nat→α:=fun j=>if j=k then x else f j
theorem StD.op {n u k q:Nat} {T:TM} {v:Nat→List PC} {kd:Int} {w:Nat} (d:Dim n) (s:StD n u T v) (hA:(geoN n).data - 98<60) (hu:u+20<n) (hk:k<2) (hq:q<40) (hw:1≤w∧w<(geoN n).count) :
  ∃ T',opM T (geoN n) ((1+k:Nat):Int) kd (nm q) (w:Int)=(T',(plainM (v k) kd (nm q) w).2.1,(plainM (v k) kd (nm q) w).2.2)∧StD n u T' (upd v k (plainM (v k) kd (nm q) w).1)∧T'.undo.length≤T.undo.length+20:=by
 obtain ⟨Z,R,H,D,hs⟩:=s
 have hA:([]:List Int).length+((geoN n).data - 98)<60:=by rw [List.length_nil,Nat.zero_add]; exact hA
 obtain ⟨N0,e0⟩:=hs 0 (by decide)
 obtain ⟨N1,e1⟩:=hs 1 (by decide)
 rcases (by omega:k=0∨k=1) with rfl|rfl
 ·obtain ⟨Z',T',R',H',eo,em,D',N',un⟩:=D.op d N0 hA (by decide) hu (k:=kd) hq hw
  rw [← e0] at eo em
  refine ⟨T',eo,⟨Z',upd R 0 R',upd H 0 H',D',fun j hj=>?_⟩,un⟩
  rcases (by omega:j=0∨j=1) with rfl|rfl
  ·exact ⟨N',em⟩
  ·exact ⟨N1,e1⟩
 ·obtain ⟨Z',T',R',H',eo,em,D',N',un⟩:=D.sym.op d N1 hA (by decide) hu (k:=kd) hq hw
  rw [← e1] at eo em
  refine ⟨T',eo,⟨Z',upd R 1 R',upd H 1 H',D'.sym,fun j hj=>?_⟩,un⟩
  rcases (by omega:j=0∨j=1) with rfl|rfl
  ·exact ⟨N0,e0⟩
  ·exact ⟨N',em⟩
structure EndD_ (n:Nat) (T:TM) (k:Nat) (l:List PC):Prop where
 list:listD T (geoN n) ((1+k:Nat):Int)=(entGo 0 l [],0)
 blocks:Fi.blocksM T (geoN n) ((1+k:Nat):Int)=(((l.length / 16:Nat):Int),0)
 all:(Fi.getF T (geoN n) ((1+k:Nat):Int)).2=0→(Bm.allM T (geoN n) (Fi.getF T (geoN n) ((1+k:Nat):Int)).1).1.length+(Bm.allM T (geoN n) (Fi.getF T (geoN n) ((1+k:Nat):Int)).1).2.1.length<1000000000000
 find:∀ q,q<40→findD T (geoN n) ((1+k:Nat):Int) (nm q)=match atP (nm q) l with
  | some p=>((l.getD p ([],0)).2,0)
  | none=>(0,160)
 len:l.length≤160
theorem end_one {n u i j:Nat} {A:List Int} {Z:Nat→Tm.Txt} {T:TM} {R S:List Int} {H J:List Cl} (d:Dim n) (D:Dd n u A Z T i R H j S J) (N:Nm 40 H) {k:Nat} (hi:i=1+k):EndD_ n T k (H.map toP):=by
 subst hi
 have eg:Fi.getF T (geoN n) ((1+k:Nat):Int)=(R,0):=by
  have kd:=D.di.kind
  unfold Fi.getF
  rw [Fi.getM_at D.av d D.ri.1 D.ri.2,D.gi]
  exact if_neg fun y=>by have:=y.2; have this:R.getD 0 0=0:=this; omega
 refine ⟨?_,?_,fun _=>?_,fun q hq=>?_,?_⟩
 ·rw [D.list d,entGo_sort D.di.good N.uq]
 ·rw [D.blocks d,List.length_map]
 ·rw [eg]
  have a2:=(Fi.all_len D.av D.w).2
  have ml:=Fi.many_le Z R
  show (Bm.allM T (geoN n) R).1.length+(Bm.allM T (geoN n) R).2.1.length<_
  omega
 ·have ok:=nm_ok q (by omega)
  rw [D.find d ok,atP_pos (name_ne ok) D.di.good]
  cases pos (nm q) H with
  | none=>rfl
  | some p =>
   show ((((H.getD p (0,[])).1:Nat):Int),(0:Int))=(((H.map toP).getD p ([],0)).2,0)
   rw [map_getD]; rfl
 ·rw [List.length_map]; exact D.di.most
theorem StD.fin {n u k:Nat} {T:TM} {v:Nat→List PC} (d:Dim n) (s:StD n u T v) (hk:k<2):EndD_ n T k (v k):=by
 obtain ⟨Z,R,H,D,hs⟩:=s
 obtain ⟨N,e⟩:=hs k hk
 rw [e]
 rcases (by omega:k=0∨k=1) with rfl|rfl
 ·exact end_one d D N rfl
 ·exact end_one d D.sym N rfl
theorem StD.len {n u k:Nat} {T:TM} {v:Nat→List PC} (s:StD n u T v) (hk:k<2):(v k).length≤160:=by
 obtain ⟨Z,R,H,D,hs⟩:=s
 obtain ⟨N,e⟩:=hs k hk
 rw [e,List.length_map]
 rcases (by omega:k=0∨k=1) with rfl|rfl
 ·exact D.di.most
 ·exact D.dj.most
structure RowB (h hh:Heap) (F:Nat→Prop) (nb:Nat) (a:Option Addr) (l:List PC):Prop where
 c:SlCells hh a (l.flatMap pcV)
 b:∀ p,a=some p→h.size≤p.block∧p.block<hh.size∧¬ F p.block∧p.block≠nb
def nowV (v:Nat→List PC) (a:Nat→Option Addr) (c:Nat→Nat):List Value:=[.slice (a 0) (v 0).length (c 0),.slice (a 1) (v 1).length (c 1)]
structure Dp (n:Nat) (h:Heap) (gb nb:Nat) (t d:Option Addr) (hh:Heap) (F:Nat→Prop) (T:TM) (v:Nat→List PC) (a:Nat→Option Addr) (c:Nat→Nat):Prop where
 ly:Ly n h gb t d hh F T
 r:rd hh nb=nowV v a c
 o:Own hh nb
 nf:¬ F nb
 lo:h.size≤nb
 ne:nb≠gb
 row:∀ k,k<2→RowB h hh F nb (a k) (v k)
section
variable {n gb nb : Nat} {h hh h' : Heap} {t d : Option Addr} {F F' : Nat → Prop} {T T' : TM} {v : Nat → List PC} {a : Nat → Option Addr} {c : Nat → Nat} {ar : Option Addr} {l : List PC}
theorem RowB.fr (x:RowB h hh F nb ar l) {G:Nat→Prop} (f:Fr G hh h') (hG:∀ b,h.size≤b→b<hh.size→¬ F b→b≠nb→¬ G b):RowB h h' F nb ar l :=
 ⟨SlCells.fr f x.c fun p hp=>by obtain ⟨b1,b2,b3,b4⟩:=x.b p hp; exact hG _ b1 b2 b3 b4,fun p hp=>by obtain ⟨b1,b2,b3,b4⟩:=x.b p hp; have:=f.size; exact ⟨b1,by omega,b3,b4⟩⟩
theorem RowB.no (x:RowB h hh F nb ar l) (f:Fr No hh h'):RowB h h' F nb ar l:=x.fr f fun _ _ _ _ _ y=>y
theorem RowB.call (x:RowB h hh F nb ar l) (f:Fr F hh h') (g:Gw hh F h' F'):RowB h h' F' nb ar l:=by
 have A:=x.fr f fun b _ _ hF _ y=>hF y
 refine ⟨A.c,fun p hp=>?_⟩
 obtain ⟨b1,b2,b3,b4⟩:=x.b p hp
 have:=f.size
 exact ⟨b1,by omega,fun y=>b3 ((g.old _ b2).mp y),b4⟩
theorem Dp.lt (s:Dp n h gb nb t d hh F T v a c):nb<hh.size:=s.o.lt
theorem Dp.no (s:Dp n h gb nb t d hh F T v a c) (f:Fr No hh h'):Dp n h gb nb t d h' F T v a c :=
 ⟨s.ly.no f,(f.rd s.lt fun y=>y).trans s.r,f.own s.lt (fun y=>y) s.o,s.nf,s.lo,s.ne,fun k hk=>(s.row k hk).no f⟩
theorem Dp.call (s:Dp n h gb nb t d hh F T v a c) (f:Fr F hh h') (g:Gw hh F h' F') (x:Tx h' F' t d T'):Dp n h gb nb t d h' F' T' v a c :=
 ⟨s.ly.call f g x,(f.rd s.lt s.nf).trans s.r,f.own s.lt s.nf s.o,fun y=>s.nf ((g.old _ s.lt).mp y),s.lo,s.ne,fun k hk=>(s.row k hk).call f g⟩
theorem now_at {k:Nat} (hk:k<2):(nowV v a c)[k]?=some (.slice (a k) (v k).length (c k)):=by
 rcases (by omega:k=0∨k=1) with rfl|rfl <;> rfl
theorem now_set {k:Nat} (hk:k<2) {x:List PC} {y:Option Addr} {z:Nat}:(nowV v a c).set k (.slice y x.length z)=nowV (upd v k x) (upd a k y) (upd c k z):=by
 rcases (by omega:k=0∨k=1) with rfl|rfl <;> rfl
theorem Dp.cell (s:Dp n h gb nb t d hh F T v a c) {k:Nat} (hk:k<2):cellOf hh (Addr.add ⟨nb,0,none⟩ (Int.toNat (k:Int)))=some (.slice (a k) (v k).length (c k)) :=
 rda s.r (by rw [Int.toNat_natCast,Nat.zero_add]; exact now_at hk)
theorem Dp.put (s:Dp n h gb nb t d hh F T v a c) {k:Nat} (hk:k<2) {x:List PC} {y:Option Addr} {z:Nat} (B:RowB h hh F nb y x) {X:Heap→Prop} (hX:∀ h',Dp n h gb nb t d h' F T (upd v k x) (upd a k y) (upd c k z)→X h') :
  Put (Addr.add ⟨nb,0,none⟩ (Int.toNat (k:Int))) (.slice y x.length z) hh X:=by
 refine Put.add s.o (by rw [s.r,Int.toNat_natCast,Nat.zero_add]; exact hk) fun h' d'=>hX h' ?_
 rw [s.r,Int.toNat_natCast,Nat.zero_add,now_set hk] at d'
 have keep:∀ {ar:Option Addr} {l:List PC},RowB h hh F nb ar l→RowB h h' F nb ar l:=fun B=>B.fr d'.fr fun b _ _ _ hn y=>hn y
 refine ⟨s.ly.did d' s.lo s.ne s.nf,d'.rd,d'.own,s.nf,s.lo,s.ne,fun j hj=>?_⟩
 unfold upd
 by_cases e:j=k
 ·rw [if_pos e,if_pos e]; exact keep B
 ·rw [if_neg e,if_neg e]; exact keep (s.row j hj)
end
structure AcI where
 other:Bool
 kind:Int
 name:Int
 inode:Int
def AcI.v (e:AcI):List Value:=[.bool e.other,.int .i64 e.kind,.int .i64 e.name,.int .i64 e.inode]
theorem ac_one (e:AcI):∀ v ∈ e.v,v.oneCell'=true:=by
 intro v hv; simp only [AcI.v,List.mem_cons,List.not_mem_nil,or_false] at hv; rcases hv with rfl|rfl|rfl|rfl <;> rfl
theorem ac_at {h:Heap} {a:Option Addr} {es:List AcI} {i:Nat} (X:SlCells h a (es.flatMap AcI.v)) (hi:i<es.length):∃ p,a=some p∧Cells h (p.add (i*4)) es[i].v:=by
 cases a with
 | none =>
  have X:es.flatMap AcI.v=[]:=X
  have:=flat_length AcI.v 4 es (fun _ _=>rfl)
  rw [X,List.length_nil] at this
  omega
 | some p =>
  refine ⟨p,rfl,?_⟩
  have:=Cells.part (show Cells h p (es.flatMap AcI.v) from X) (i*4) 4
  rw [flat_part AcI.v 4 _ (fun _ _=>rfl) i hi] at this
  exact this
theorem ent_le : ∀ {l:List PC} {i:Nat} {out:List E},(entGo i l out).length≤out.length+l.length
 | [],_,_=>Nat.le_refl _
 | x::r,i,out=>by
  unfold entGo
  split
  ·have:=ent_le (l:=r) (i:=i+1) (out:=out); rw [List.length_cons]; omega
  ·have:=ent_le (l:=r) (i:=i+1) (out:=insN ⟨i,x.1,x.2⟩ out); rw [insN_len] at this; rw [List.length_cons]; omega
theorem n_dd2 (q:Nat):([110]++dd2 q:Tm.Txt)=nm q:=rfl
theorem dim200 : Dim 200:=⟨by decide,by decide⟩
section
variable {h h2 h4 : Heap} {t d : Option Addr} {K : Value → Heap → Prop}
def PlJ (h h2 h4:Heap) (t d:Option Addr) (L:Nat) (j:Nat) (hh:Heap):Prop:=j≤L∧∃ F T v a c,Dp 200 h h2.size h4.size t d hh F T v a c∧StD 200 102 T v∧T.undo.length≤20*j
theorem DirPlain_k2 {k:Nat} {h10 h15:Heap} {F:Nat→Prop} {T:TM} {v:Nat→List PC} {a:Nat→Option Addr} {c:Nat→Nat} {I2:Int→Heap→Prop} {M2:Int→Heap→Nat} (hk:k<2) (s:Dp 200 h h2.size h4.size t d h15 F T v a c) (st:StD 200 102 T v)
  (hI:∀ hx,Dp 200 h h2.size h4.size t d hx F T v a c→I2 (IntKind.wrap .i64 ((k:Int)+1)) hx∧M2 (IntKind.wrap .i64 ((k:Int)+1)) hx<M2 k h10):bolelaw15_DirPlain.k2 h2 t h4 (k:Int) h10 I2 M2 h15 K:=by
 have E:=st.fin dim200 hk
 have hl:=E.len
 have e1:IntKind.wrap .i64 (1+(k:Int))=((1+k:Nat):Int):=by rw [wrap_i64 (by omega) (by omega)]; omega
 unfold bolelaw15_DirPlain.k2
 refine ⟨fun i hx=>∃ q:Nat,i=q∧q≤40∧Dp 200 h h2.size h4.size t d hx F T v a c,fun i _=>(((40:Nat):Int) - i).toNat,⟨0,rfl,Nat.zero_le _,s⟩,?_⟩
 rintro i h17 ⟨q,rfl,hq,s17⟩
 refine cd (fun hlt=>?_) fun hlt=>hI h17 s17
 have hq':q<40:=by omega
 refine ⟨⟨by omega,by omega⟩,_,_,_,s17.cell hk,named_spec (s:=[110]) (by omega) (by decide) fun h18 f18=>⟨_,rfl,?_⟩⟩
 have s18:=s17.no f18
 rw [n_dd2]
 refine ⟨s18.cell hk,at_spec (s18.row k hk).c rfl (by omega) fun h19 f19=>⟨_,rfl,(geoN 200).v,rfl,cellsAll (s18.no f19).ly.rg,named_spec (s:=[110]) (by omega) (by decide) fun h20 f20=>⟨_,rfl,⟨rfl,cellsAll ((s18.no f19).no f20).ly.rg⟩,?_⟩⟩⟩
 have s20:=(s18.no f19).no f20
 rw [n_dd2,e1]
 refine Find_spec s20.ly.glo dim200 s20.ly.x fun h21 f21=>⟨_,_,rfl,?_⟩
 have s21:=s20.no f21
 have next:(fun i hx=>∃ q:Nat,i=(q:Int)∧q≤40∧Dp 200 h h2.size h4.size t d hx F T v a c) (IntKind.wrap .i64 ((q:Int)+1)) h21∧(fun (i:Int) (_:Heap)=>(((40:Nat):Int) - i).toNat) (IntKind.wrap .i64 ((q:Int)+1)) h21<(fun (i:Int) (_:Heap)=>(((40:Nat):Int) - i).toNat) (q:Int) h17:=by
  rw [wrap_i64 (by omega) (by omega)]
  exact ⟨⟨q+1,by omega,by omega,s21⟩,falls hlt⟩
 have ef:=E.find q hq'
 cases hp:atP (nm q) (v k) with
 | some p =>
  have ea:atI (nm q) (v k)=(p:Int):=by unfold atI; rw [hp]
  have hpl:=atP_some hp
  rw [hp] at ef
  have ef:findD T (geoN 200) ((1+k:Nat):Int) (nm q)=(((v k).getD p ([],0)).2,0):=ef
  rw [ea,ef,decide_eq_true (show (p:Int)≥0 by omega),decide_eq_false (show ¬ (p:Int)<0 by omega)]
  obtain ⟨q0,eq0,cq⟩:=pc_at (s21.row k hk).c hpl
  have eg:((v k).getD p ([],0)).2=((v k)[p]).2:=by rw [List.getD_eq_getElem?_getD,List.getElem?_eq_getElem hpl]; rfl
  refine cnot (ct rfl (ct rfl ⟨⟨by omega,by omega⟩,_,_,_,s21.cell hk,⟨by omega,by omega⟩,?_⟩))
  rw [eq0]
  refine os ⟨_,?_,cn (fun y=>absurd eg y) fun _=>cf rfl next⟩
  rw [Int.toNat_natCast]
  exact Cells.cell cq (i:=1) rfl
 | none =>
  have ea:atI (nm q) (v k) = -1:=by unfold atI; rw [hp]
  rw [hp] at ef
  have ef:findD T (geoN 200) ((1+k:Nat):Int) (nm q)=(0,160):=ef
  rw [ea,ef]
  exact cnot (ct rfl (cf rfl (ct rfl (cn (fun y=>absurd rfl y) fun _=>cn (fun y=>absurd rfl y) fun _=>next))))
theorem DirPlain_k1 {hh:Heap} {F:Nat→Prop} {T:TM} {v:Nat→List PC} {a:Nat→Option Addr} {c:Nat→Nat} (s:Dp 200 h h2.size h4.size t d hh F T v a c) (st:StD 200 102 T v) (hK:∀ h',Fr No h h'→K (.bool true) h'):bolelaw15_DirPlain.k1 h2 t h4 hh K:=by
 unfold bolelaw15_DirPlain.k1
 refine ⟨fun k hx=>∃ q:Nat,k=q∧q≤2∧Dp 200 h h2.size h4.size t d hx F T v a c,fun k _=>(((2:Nat):Int) - k).toNat,⟨0,rfl,Nat.zero_le _,s⟩,?_⟩
 rintro i h10 ⟨k,rfl,hk2,s10⟩
 refine cd (fun hlt=>?_) fun hlt=>hK h10 s10.ly.fr
 have hk:k<2:=by omega
 have E:=st.fin dim200 hk
 have hl:=E.len
 have e1:IntKind.wrap .i64 (1+(k:Int))=((1+k:Nat):Int):=by rw [wrap_i64 (by omega) (by omega)]; omega
 rw [e1]
 refine ⟨(geoN 200).v,rfl,cellsAll s10.ly.rg,List_spec s10.ly.glo dim200 s10.ly.x fun h11 la ll lc f11 hll l11=>⟨_,_,_,_,rfl,(geoN 200).v,rfl,cellsAll (s10.no f11).ly.rg,Size_spec (s10.no f11).ly.glo dim200 (s10.no f11).ly.x fun h12 f12=>⟨_,_,rfl,?_⟩⟩⟩
 have s12:=(s10.no f11).no f12
 have l12:=l11.fr f12 fun _ _ _ y=>y
 rw [E.list] at hll l12 ⊢
 refine ⟨(geoN 200).v,rfl,cellsAll s12.ly.rg,Fi.Blocks_spec s12.ly.glo s12.ly.x (cok dim200) E.all fun h13 f13=>⟨_,_,rfl,⟨by omega,by omega⟩,_,_,_,(s12.no f13).cell hk,?_⟩⟩
 have s13:=s12.no f13
 have l13:=l12.fr f13 fun _ _ _ y=>y
 rw [E.blocks]
 refine entries_spec (s13.row k hk).c rfl (by omega) fun h14 ea ec f14 s14e=>⟨_,_,_,rfl,cn (fun y=>absurd rfl y) fun _=>cn (fun y=>absurd rfl y) fun _=>cn (fun y=>absurd rfl y) fun _=>?_⟩
 have s14:=s13.no f14
 have l14:=l13.fr f14 fun _ _ _ y=>y
 have le:(entGo 0 (v k) []).length≤1000000:=by
  have:=ent_le (l:=v k) (i:=0) (out:=[])
  rw [List.length_nil] at this
  omega
 refine sameEntries_spec l14.cells hll.symm s14e.cells rfl (by rw [hll]; show (entGo 0 (v k) []).length≤_; omega) ⟨_,rfl,?_⟩
 rw [decide_eq_true rfl]
 refine cnot (ct rfl (cn (fun y=>absurd rfl y) fun _=>⟨⟨by omega,by omega⟩,_,_,_,s14.cell hk,cn (fun y=>absurd ?_ y) fun _=>?_⟩))
 ·rw [Int.tdiv_eq_ediv_of_nonneg (by omega),wrap_i64 (by omega) (by omega)]
  show (((v k).length / 16:Nat):Int)=_
  omega
 ·exact DirPlain_k2 hk s14 st fun hx sx=>by
   rw [wrap_i64 (by omega) (by omega)]
   exact ⟨⟨k+1,by omega,by omega,sx⟩,falls hlt⟩
theorem DirPlain_k3 {k j L:Nat} {h6 h8:Heap} {F:Nat→Prop} {T:TM} {v:Nat→List PC} {a:Nat→Option Addr} {c:Nat→Nat} {ac:AcI} (hk:k<2) (hj:j<150) (hjL:j<L) (s:Dp 200 h h2.size h4.size t d h8 F T v a c) (st:StD 200 102 T v) (hu:T.undo.length≤20*j) (hx:rd h8 h6.size=ac.v) (lo6:h.size≤h6.size) (nf6:¬ F h6.size) :
  bolelaw15_DirPlain.k3 h2 t h4 (j:Int) h6 (fun i hx=>∃ q:Nat,i=q∧PlJ h h2 h4 t d L q hx) (fun i _=>((L:Int) - i).toNat) h8 (k:Int) K:=by
 have hl:=st.len hk
 have e1:IntKind.wrap .i64 (1+(k:Int))=((1+k:Nat):Int):=by rw [wrap_i64 (by omega) (by omega)]; omega
 have h6l:h6.size<h8.size:=rd_lt (o:=0) (by rw [hx]; rfl)
 unfold bolelaw15_DirPlain.k3
 refine ⟨_,rda hx rfl,mod_spec (by decide) (by decide) ⟨_,rfl,?_⟩⟩
 obtain ⟨q,eq,hq⟩:∃ q:Nat,ac.name % 40=q∧q<40:=⟨(ac.name % 40).toNat,by omega,by omega⟩
 rw [eq]
 refine named_spec (s:=[110]) (by omega) (by decide) fun h23 f23=>⟨_,rfl,?_⟩
 have s23:=s.no f23
 have hx23:=(f23.rd h6l fun y=>y).trans hx
 rw [n_dd2]
 have ecount:IntKind.wrap .i64 ((geoN 200).count - 1)=23:=by decide
 refine ⟨_,rda hx23 rfl,_,rda s23.ly.rg rfl,?_⟩
 show C.bolelaw15_mod ac.inode (IntKind.wrap .i64 ((geoN 200).count - 1)) h23 _
 rw [ecount]
 refine mod_spec (by decide) (by decide) ⟨_,rfl,_,rda hx23 rfl,mod_spec (by decide) (by decide) ⟨_,rfl,⟨by omega,by omega⟩,_,_,_,s23.cell hk,?_⟩⟩
 obtain ⟨w,ew,hw0,hw1⟩:∃ w:Nat,1+ac.inode % 23=w∧1≤w∧w<24:=⟨(1+ac.inode % 23).toNat,by omega,by omega,by omega⟩
 rw [wrap_i64 (n:=1+ac.inode % 23) (by omega) (by omega),ew]
 refine plain_spec (s23.row k hk).c rfl (by omega) fun h26 a26 c26 f26 z26 b26=>⟨_,_,_,_,_,rfl,?_⟩
 have s26:=s23.no f26
 obtain ⟨T',eo,st',un⟩:=st.op (kd:=ac.kind % 3) (q:=q) (w:=w) dim200 (by decide) (by decide) hk hq ⟨hw0,by show w<(24:Nat); omega⟩
 have B26:RowB h h26 F h4.size a26 (plainM (v k) (ac.kind % 3) (nm q) w).1:=by
  refine ⟨z26,fun p hp=>?_⟩
  rcases b26 with e|e
  ·exact ((s26.row k hk).b p (by rw [← e]; exact hp))
  ·obtain ⟨p1,p2⟩:=e p hp
   have:=s23.ly.fr.size
   have sz:=f23.size
   exact ⟨by omega,p2,fun y=>by have:=s23.ly.x.lt y; omega,by have:=s23.lt; omega⟩
 have hu':T'.undo.length≤20*(j+1):=by omega
 -- the end of an act
 have fin:∀ (h27:Heap) (F':Nat→Prop),Dp 200 h h2.size h4.size t d h27 F' T' v a c→RowB h h27 F' h4.size a26 (plainM (v k) (ac.kind % 3) (nm q) w).1→Put (Addr.add ⟨h4.size,0,none⟩ (Int.toNat (k:Int))) (.slice a26 (plainM (v k) (ac.kind % 3) (nm q) w).1.length c26) h27 fun h28 =>
   (fun i hx=>∃ q:Nat,i=(q:Int)∧PlJ h h2 h4 t d L q hx) (IntKind.wrap .i64 ((j:Int)+1)) h28∧(fun (i:Int) (_:Heap)=>((L:Int) - i).toNat) (IntKind.wrap .i64 ((j:Int)+1)) h28<(fun (i:Int) (_:Heap)=>((L:Int) - i).toNat) (j:Int) h6:=fun h27 F' s27 B27 =>
  s27.put hk B27 fun h28 s28=>by
   rw [wrap_i64 (by omega) (by omega)]
   exact ⟨⟨j+1,by omega,by omega,F',T',_,_,_,s28,st',hu'⟩,falls (by omega)⟩
 have k3:ac.kind % 3=0∨ac.kind % 3=1∨ac.kind % 3=2:=by omega
 rcases k3 with k0|k1|k2
 ·rw [k0] at eo fin B26 ⊢
  have ea:addD T (geoN 200) ((1+k:Nat):Int) (nm q) w=(T',(plainM (v k) 0 (nm q) w).2.2)∧(plainM (v k) 0 (nm q) w).2.1=0:=by
   unfold opM at eo
   rw [if_pos rfl] at eo
   have e1:=congrArg Prod.fst eo
   have e2:=congrArg (fun x=>x.2.1) eo
   have e3:=congrArg (fun x=>x.2.2) eo
   exact ⟨Prod.ext e1 e3,e2.symm⟩
  refine ct rfl ⟨(geoN 200).v,rfl,cellsAll s26.ly.rg,?_⟩
  rw [e1]
  refine Add_spec s26.ly.glo dim200 s26.ly.x s26.ly.g0 (by omega) fun h27 F27 f27 g27 x27=>⟨_,rfl,?_⟩
  rw [ea.1] at x27 ⊢
  rw [ea.2]
  exact cn (fun y=>absurd rfl y) fun _=>cn (fun y=>absurd rfl y) fun _=>⟨⟨by omega,by omega⟩,fin h27 F27 (s26.call f27 g27 x27) (B26.call f27 g27)⟩
 ·rw [k1] at eo fin B26 ⊢
  have ea:removeD T (geoN 200) ((1+k:Nat):Int) (nm q)=(T',(plainM (v k) 1 (nm q) w).2.1,(plainM (v k) 1 (nm q) w).2.2):=by
   unfold opM at eo
   rw [if_neg (by decide),if_pos rfl] at eo
   exact eo
  refine cf rfl (ct rfl ⟨(geoN 200).v,rfl,cellsAll s26.ly.rg,?_⟩)
  rw [e1]
  refine Remove_spec s26.ly.glo dim200 s26.ly.x (by omega) fun h27 F27 f27 g27 x27=>⟨_,_,rfl,?_⟩
  rw [ea] at x27 ⊢
  exact cn (fun y=>absurd rfl y) fun _=>cn (fun y=>absurd rfl y) fun _=>⟨⟨by omega,by omega⟩,fin h27 F27 (s26.call f27 g27 x27) (B26.call f27 g27)⟩
 ·rw [k2] at eo fin B26 ⊢
  have ea:replaceD T (geoN 200) ((1+k:Nat):Int) (nm q) w=(T',(plainM (v k) 2 (nm q) w).2.1,(plainM (v k) 2 (nm q) w).2.2):=by
   unfold opM at eo
   rw [if_neg (by decide),if_neg (by decide)] at eo
   exact eo
  refine cf rfl (cf rfl ⟨(geoN 200).v,rfl,cellsAll s26.ly.rg,?_⟩)
  rw [e1]
  refine Replace_spec s26.ly.glo dim200 s26.ly.x (by omega) fun h27 F27 f27 g27 x27=>⟨_,_,rfl,?_⟩
  rw [ea] at x27 ⊢
  exact cn (fun y=>absurd rfl y) fun _=>cn (fun y=>absurd rfl y) fun _=>⟨⟨by omega,by omega⟩,fin h27 F27 (s26.call f27 g27 x27) (B26.call f27 g27)⟩
end
theorem DirPlain_spec {ea:Option Addr} {el ec:Nat} {es:List AcI} {h:Heap} {K:Value→Heap→Prop} (gl:In.Glo h) (X:SlCells h ea (es.flatMap AcI.v)) (hel:es.length=el) (hll:el≤140737488355328)
  (hK:∀ h',Fr No h h'→K (.bool true) h'):C.bolelaw15_DirPlain ea el ec h K:=by
 refine bolelaw15_DirPlain.ok ?_
 show C.bolelaw15_fresh ((200:Nat):Int) h _
 refine fresh_spec gl dim200 (by decide) fun tb dd F L h2 f2 x2 I lowF=>⟨_,_,rfl,NewRow.intro rfl (G.one _) rfl fun h4 n4=>cf rfl (New.intro fun h5 n5=>?_)⟩
 have z2:=f2.size
 have z4:=n4.size
 have z5:=n5.size
 obtain ⟨f0,_⟩:=dd0 dim200 (by decide) I
 have st0:StD 200 102 ⟨fresh (chunks L),[],[],false⟩ (fun _=>[]):=⟨Z0 L,fun _=>Fi.dirR,fun _=>[],f0,fun k _=>⟨⟨fun p q hp=>absurd hp (Nat.not_lt_zero _),fun x hx=>by cases hx⟩,rfl⟩⟩
 have xl:∀ b,F b→b<h2.size:=fun b hb=>x2.lt hb
 have ly5:Ly 200 h h2.size (some ⟨tb,0,none⟩) dd h5 F ⟨fresh (chunks L),[],[],false⟩:=⟨(f2.new n4).new n5,gl,z2,(n5.at_ (by omega)).trans n4.rd,(x2.no n4.fr).no n5.fr,fun y=>by have:=xl _ y; omega,lowF⟩
 have s5:Dp 200 h h2.size h4.size (some ⟨tb,0,none⟩) dd h5 F ⟨fresh (chunks L),[],[],false⟩ (fun _=>[]) (fun _=>none) (fun _=>0):=⟨ly5,n5.rd,n5.own,fun y=>by have:=xl _ y; omega,by omega,by omega,fun k _=>⟨rfl,fun p hp=>by cases hp⟩⟩
 refine ⟨fun i hx=>∃ q:Nat,i=q∧PlJ h h2 h4 (some ⟨tb,0,none⟩) dd el q hx,fun i _=>((el:Int) - i).toNat,⟨0,rfl,Nat.zero_le _,F,_,_,_,_,s5,st0,Nat.zero_le _⟩,?_⟩
 rintro i h6 ⟨j,rfl,hj,F6,T6,v6,a6,c6,s6,st6,u6⟩
 refine cd (fun hlt=>?_) fun hlt=>DirPlain_k1 s6 st6 hK
 have hlt':j<es.length:=by omega
 have X6:=SlCells.fr s6.ly.fr X fun _ _ y=>y
 obtain ⟨a0,ea,ca⟩:=ac_at X6 hlt'
 subst ea
 refine ⟨⟨by omega,hlt⟩,os ⟨_,rfl,ca,NewRow.intro rfl (ac_one _) rfl fun h8 n8=>?_⟩⟩
 have s8:=s6.no n8.fr
 refine cd (fun h150=>DirPlain_k1 s8 st6 hK) fun h150=>⟨_,rda n8.rd rfl,cs (fun _=>?_) fun _=>?_⟩
 ·show bolelaw15_DirPlain.k3 h2 _ h4 _ h6 _ _ h8 ((1:Nat):Int) K
  exact DirPlain_k3 (ac:=es[j]) (by decide) (by omega) (by omega) s8 st6 u6 n8.rd (by have:=s6.ly.fr.size; omega) fun y=>by have:=s6.ly.x.lt y; omega
 ·show bolelaw15_DirPlain.k3 h2 _ h4 _ h6 _ _ h8 ((0:Nat):Int) K
  exact DirPlain_k3 (ac:=es[j]) (by decide) (by omega) (by omega) s8 st6 u6 n8.rd (by have:=s6.ly.fr.size; omega) fun y=>by have:=s6.ly.x.lt y; omega
end Go.Proofs.YtiapingedfnlnaaGreatDoor.Di
