/-
  TEXTS FOR walkTree_card: DiN InN DiS ChA SlA DwA DwB DwC PbA PbB PbC PbD WlA WlB WlC WlD WlE TrA TrB TrC TrD TrE TrT TrQ Jof PbE WlT.
-/
import Derived.Test.YtiapingedfnlnaaGreatDoorCards
import Derived.Test.YtiapingedfnlnaaGreatDoorTie
import Derived.Test.YtiapingedfnlnaaGreatDoorGp3
namespace Go.Proofs.YtiapingedfnlnaaGreatDoor.Di
open Go Go.Proofs Ad Tm Bt Spc Av Ss
open Fi (blockM getM_at recZ pc pc_len blockM_ok)
open Bm (findM num nS Wf find_ok)
open Ino (getM)
open Sk (E ents nameOk dec dec_blk blk_length)
abbrev Cl := Nat×Tm.Txt
def seg (H:List Cl) (k:Nat):List Cl:=(H.drop (16*k)).take 16
theorem seg_len {H:List Cl} {k:Nat} (h6:H.length % 16=0) (hk:16*k<H.length):(seg H k).length=16:=by
 unfold seg; rw [List.length_take,List.length_drop]; omega
theorem seg_mem {H:List Cl} {k:Nat} {x:Cl} (h:x ∈ seg H k):x ∈ H:=List.mem_of_mem_drop (List.mem_of_mem_take h)
theorem drop_seg (H:List Cl) (k:Nat):H.drop (16*k)=seg H k++H.drop (16*(k+1)):=by
 unfold seg
 rw [show 16*(k+1)=16*k+16 by omega,← List.drop_drop,List.take_append_drop]
structure Dir (Z:Nat→Tm.Txt) (R:List Int) (H:List Cl):Prop where
 kind:R.getD 0 0=2
 links:2≤R.getD 1 0∧R.getD 1 0≤65535
 size:R.getD 2 0=((32*H.length:Nat):Int)
 sixt:H.length % 16=0
 most:H.length≤160
 good:∀ x ∈ H,Sk.Good x
 dom:∀ s,s<nS→(num Z R s≠0↔16*s<H.length)
 blk:∀ k,16*k<H.length→pc Z R k=Sk.blk (seg H k)
theorem ans_blk {hs:List Cl} (hl:hs.length=16) (g:∀ x ∈ hs,Sk.Good x):ans (Sk.blk hs)=(ents 0 hs,0):=by
 have e:=dec_blk g
 rw [hl] at e
 unfold ans
 rw [if_neg (fun y=>y (by rw [blk_length g,hl])),e]
def pos (s:Tm.Txt):List Cl→Option Nat
 | []=>none
 | x::r=>if x.1≠0∧x.2=s then some 0 else (pos s r).map (· + 1)
theorem pos_append (s:Tm.Txt) (b:List Cl):∀ a:List Cl,pos s (a++b)=match pos s a with
  | some p=>some p
  | none=>(pos s b).map (· + a.length)
 | []=>by
  show pos s b=(pos s b).map (· + 0)
  cases pos s b <;> rfl
 | x::r=>by
  have ih:=pos_append s b r
  show (if x.1≠0∧x.2=s then some 0 else (pos s (r++b)).map (· + 1))=match (if x.1≠0∧x.2=s then some 0 else (pos s r).map (· + 1)) with
   | some p=>some p
   | none=>(pos s b).map (· + (r.length+1))
  by_cases h:x.1≠0∧x.2=s
  ·rw [if_pos h,if_pos h]
  ·rw [if_neg h,if_neg h,ih]
   cases pos s r with
   | some p=>rfl
   | none =>
    cases pos s b with
    | none=>rfl
    | some q=>show some (q+r.length+1)=some (q+(r.length+1)); rw [Nat.add_assoc]
theorem pos_some {s:Tm.Txt}:∀ {H:List Cl} {p:Nat},pos s H=some p→p<H.length∧(H.getD p (0,[])).1≠0∧(H.getD p (0,[])).2=s
 | [],p,h=>by cases h
 | x::r,p,h=>by
  unfold pos at h
  by_cases c:x.1≠0∧x.2=s
  ·rw [if_pos c] at h
   cases h
   exact ⟨Nat.succ_pos _,c⟩
  ·rw [if_neg c] at h
   obtain ⟨q,hq,rfl⟩:=Option.map_eq_some_iff.mp h
   obtain ⟨a,b⟩:=pos_some hq
   exact ⟨Nat.succ_lt_succ a,b⟩
theorem find_ents (s:Tm.Txt):∀ (hs:List Cl) (k:Nat),(ents k hs).find? (fun c=>c.name == s)=match pos s hs with
  | some p=>some ⟨((k+p:Nat):Int),s,(((hs.getD p (0,[])).1:Nat):Int)⟩
  | none=>none
 | [],k=>rfl
 | x::r,k=>by
  have ih:=find_ents s r (k+1)
  show (ents k (x::r)).find? _=match (if x.1≠0∧x.2=s then some 0 else (pos s r).map (· + 1)) with
   | some p=>some ⟨((k+p:Nat):Int),s,((((x::r).getD p (0,[])).1:Nat):Int)⟩
   | none=>none
  have rest:(match (pos s r).map (· + 1) with
   | some p=>some (⟨((k+p:Nat):Int),s,((((x::r).getD p (0,[])).1:Nat):Int)⟩:E)
   | none=>none)=match pos s r with
   | some p=>some ⟨((k+1+p:Nat):Int),s,(((r.getD p (0,[])).1:Nat):Int)⟩
   | none=>none:=by
   cases pos s r with
   | none=>rfl
   | some p =>
    show some (⟨((k+(p+1):Nat):Int),s,((((x::r).getD (p+1) (0,[])).1:Nat):Int)⟩:E)=_
    rw [show k+(p+1)=k+1+p by omega]; rfl
  unfold ents
  by_cases h0:x.1=0
  ·rw [if_pos h0,if_neg (fun y=>y.1 h0),rest]; exact ih
  ·rw [if_neg h0]
   by_cases e:x.2=s
   ·rw [if_pos ⟨h0,e⟩,List.find?_cons_of_pos (by show (x.2 == s)=true; rw [e]; exact beq_self_eq_true s),e]; rfl
   ·rw [if_neg (fun y=>e y.2),rest,List.find?_cons_of_neg (by show ¬ (x.2 == s)=true; rw [beq_iff_eq]; exact e)]; exact ih
def leafOf (Z:Nat→Tm.Txt) (R:List Int) (H:List Cl) (k:Nat):Leaf:=⟨k,((num Z R k:Nat):Int),Sk.blk (seg H k),ents 0 (seg H k)⟩
section
variable {n : Nat} {Z : Nat → Tm.Txt} {T : TM} {R : List Int} {H : List Cl}
theorem open_ok {i:Nat} (a:Av n Z T) (d:Dim n) (r1:1≤i) (r2:i<(geoN n).count) (gi:recZ n Z i=(R,0)) (D:Dir Z R H):openM T (geoN n) i=(R,0):=by
 have k:=D.kind
 unfold openM
 rw [getM_at a d r1 r2,gi,if_neg (fun y=>y rfl),if_neg (fun y=>by have y:R.getD 0 0=0:=y; omega),if_neg (fun y=>y k)]
theorem leaf_ok {k:Nat} (a:Av n Z T) (w:Wf n Z R) (D:Dir Z R H) (hk:16*k<H.length):leafM T (geoN n) R k=(leafOf Z R H k,0):=by
 have m:=D.most
 have e:=ans_blk (seg_len D.sixt hk) fun x hx=>D.good x (seg_mem hx)
 unfold leafM leafOf
 rw [find_ok a w (by omega),blockM_ok a w (by omega),D.blk k hk,if_neg (fun y=>y rfl)]
 show (({ index:=k,block:=((num Z R k:Nat):Int),bytes:=Sk.blk (seg H k),cells:=(ans (Sk.blk (seg H k))).1 }:Leaf),(ans (Sk.blk (seg H k))).2)=_
 rw [e]
def hit (Z:Nat→Tm.Txt) (R:List Int) (H:List Cl) (s:Tm.Txt) (p:Nat):Leaf×E:=(leafOf Z R H (p / 16),⟨((p % 16:Nat):Int),s,(((H.getD p (0,[])).1:Nat):Int)⟩)
theorem seekGo_ok {s:Tm.Txt} (a:Av n Z T) (w:Wf n Z R) (D:Dir Z R H):∀ m k,16*(k+m)=H.length→seekGo T (geoN n) R s m k=match pos s (H.drop (16*k)) with
  | some p=>(some (hit Z R H s (16*k+p)),0)
  | none=>(none,160)
 | 0,k,h=>by
  rw [List.drop_of_length_le (by omega)]; rfl
 | m+1,k,h=>by
  have ih:=seekGo_ok (s:=s) a w D m (k+1) (by omega)
  have hk:16*k<H.length:=by omega
  have l16:=seg_len D.sixt hk
  unfold seekGo
  rw [leaf_ok a w D hk,if_neg (fun y=>y rfl),drop_seg,pos_append]
  have ec:cellOfName (leafOf Z R H k,(0:Int)).1 s=match pos s (seg H k) with
   | some p=>some ⟨((0+p:Nat):Int),s,((((seg H k).getD p (0,[])).1:Nat):Int)⟩
   | none=>none:=find_ents s (seg H k) 0
  rw [ec]
  cases hp:pos s (seg H k) with
  | some p =>
   have hp16:=(pos_some hp).1
   rw [l16] at hp16
   have eg:(seg H k).getD p (0,[])=H.getD (16*k+p) (0,[]):=by
    unfold seg
    rw [List.getD_eq_getElem?_getD,List.getElem?_take,if_pos hp16,List.getElem?_drop,← List.getD_eq_getElem?_getD]
   show (some (leafOf Z R H k,(⟨((0+p:Nat):Int),s,((((seg H k).getD p (0,[])).1:Nat):Int)⟩:E)),(0:Int))=(some (hit Z R H s (16*k+p)),0)
   unfold hit
   rw [eg,show (16*k+p) / 16=k by omega,show (16*k+p) % 16=p by omega,Nat.zero_add]
  | none =>
   show seekGo T (geoN n) R s m (k+1)=_
   rw [ih]
   cases pos s (H.drop (16*(k+1))) with
   | none=>rfl
   | some q =>
    show (some (hit Z R H s (16*(k+1)+q)),(0:Int))=(some (hit Z R H s (16*k+(q+(seg H k).length))),0)
    rw [l16,show 16*(k+1)+q=16*k+(q+16) by omega]
theorem size16 (D:Dir Z R H):(R.getD 2 0 / 512).toNat=H.length / 16:=by
 have:=D.size
 have:=D.sixt
 omega
theorem seek_ok {i:Nat} {s:Tm.Txt} (a:Av n Z T) (d:Dim n) (w:Wf n Z R) (r1:1≤i) (r2:i<(geoN n).count) (gi:recZ n Z i=(R,0)) (D:Dir Z R H) (hs:nameOk s=true):seekM T (geoN n) i s=match pos s H with
  | some p=>(some (hit Z R H s p),0)
  | none=>(none,160):=by
 have h6:=D.sixt
 unfold seekM
 rw [if_neg (by rw [hs]; simp),open_ok a d r1 r2 gi D,if_neg (fun y=>y rfl),size16 D,seekGo_ok a w D (H.length / 16) 0 (by omega),Nat.mul_zero,List.drop_zero]
 cases pos s H with
 | none=>rfl
 | some p=>show (some (hit Z R H s (0+p)),(0:Int))=_; rw [Nat.zero_add]
theorem find_dir {i:Nat} {s:Tm.Txt} (a:Av n Z T) (d:Dim n) (w:Wf n Z R) (r1:1≤i) (r2:i<(geoN n).count) (gi:recZ n Z i=(R,0)) (D:Dir Z R H) (hs:nameOk s=true):findD T (geoN n) i s=match pos s H with
  | some p=>((((H.getD p (0,[])).1:Nat):Int),0)
  | none=>(0,160):=by
 unfold findD
 rw [seek_ok a d w r1 r2 gi D hs]
 cases pos s H <;> rfl
theorem leavesGo_ok (a:Av n Z T) (w:Wf n Z R) (D:Dir Z R H):∀ m k,16*(k+m)=H.length→leavesGo T (geoN n) R m k=((List.range' k m).map (leafOf Z R H),0)
 | 0,k,h=>rfl
 | m+1,k,h=>by
  have ih:=leavesGo_ok a w D m (k+1) (by omega)
  unfold leavesGo
  rw [leaf_ok a w D (by omega),if_neg (fun y=>y rfl),ih]
  rfl
theorem leaves_ok (a:Av n Z T) (w:Wf n Z R) (D:Dir Z R H):leavesM T (geoN n) R=((List.range' 0 (H.length / 16)).map (leafOf Z R H),0):=by
 have:=D.sixt
 unfold leavesM
 rw [size16 D]
 exact leavesGo_ok a w D _ 0 (by omega)
theorem ents_shift (a:Nat):∀ (hs:List Cl) (k:Nat),(ents k hs).map (fun c=>(⟨c.place+16*(a:Int),c.name,c.inode⟩:E))=ents (16*a+k) hs
 | [],k=>rfl
 | x::r,k=>by
  have ih:=ents_shift a r (k+1)
  unfold ents
  by_cases h:x.1=0
  ·rw [if_pos h,if_pos h]; exact ih
  ·rw [if_neg h,if_neg h,List.map_cons,ih]
   congr 1
   rw [Sk.E.mk.injEq]
   exact ⟨by show (k:Int)+16*(a:Int)=((16*a+k:Nat):Int); omega,rfl,rfl⟩
theorem all_ok (D:Dir Z R H):∀ m k,16*(k+m)=H.length→allE ((List.range' k m).map (leafOf Z R H))=ents (16*k) (H.drop (16*k))
 | 0,k,h=>by rw [List.drop_of_length_le (by omega)]; rfl
 | m+1,k,h=>by
  have ih:=all_ok D m (k+1) (by omega)
  have l16:=seg_len (H:=H) (k:=k) D.sixt (by omega)
  rw [List.range'_succ,List.map_cons,drop_seg,Sk.ents_append,l16,show 16*k+16=16*(k+1) by omega,← ih]
  show ((ents 0 (seg H k)).map fun c=>(⟨c.place+16*((k:Nat):Int),c.name,c.inode⟩:E))++_=_
  rw [ents_shift]
  rfl
end
end Go.Proofs.YtiapingedfnlnaaGreatDoor.Di
namespace Go.Proofs.YtiapingedfnlnaaGreatDoor.In
open Go Go.Proofs Wx Hp W Su Re Hd
theorem bv_nat (m:Nat):(Value.int .u8 (IntKind.wrap .u8 (m:Int)))=bv (UInt8.ofNat m):=by
 rw [bv_wrap]
 congr 1
 apply UInt8.toNat_inj.mp
 rw [UInt8.toNat_ofNat',UInt8.toNat_ofNat']; omega
end Go.Proofs.YtiapingedfnlnaaGreatDoor.In
namespace Go.Proofs.YtiapingedfnlnaaGreatDoor.Di
open Go Go.Proofs Ad Tm Bt Spc Av Ss Re
open Bm (num nS)
open Sk (E ents nameOk NameOk nameOk_iff zero_good)
open Go.Op (bytesLess)
theorem bl_irr : ∀ x:Tm.Txt,bytesLess x x=false
 | []=>rfl
 | a::r=>by
  unfold bytesLess
  rw [bl_irr r,Bool.and_false,Bool.or_false,decide_eq_false_iff_not]
  exact UInt8.lt_irrefl a
theorem bl_cons (a b:UInt8) (x y:Tm.Txt):bytesLess (a::x) (b::y)=true↔a<b∨(a=b∧bytesLess x y=true):=by
 show (decide (a<b) || (a == b && bytesLess x y))=true↔_
 rw [Bool.or_eq_true,Bool.and_eq_true,decide_eq_true_eq,beq_iff_eq]
theorem bl_nil (x:Tm.Txt):bytesLess x []=false:=by cases x <;> rfl
theorem bl_trans : ∀ {x y z:Tm.Txt},bytesLess x y=true→bytesLess y z=true→bytesLess x z=true
 | _,_,[],_,h=>by rw [bl_nil] at h; cases h
 | _,[],_::_,h,_=>by rw [bl_nil] at h; cases h
 | [],_::_,_::_,_,_=>rfl
 | a::x,b::y,c::z,h1,h2=>by
  rw [bl_cons] at h1 h2 ⊢
  rcases h1 with h1|⟨rfl,h1⟩
  ·rcases h2 with h2|⟨rfl,h2⟩
   ·exact .inl (UInt8.lt_trans h1 h2)
   ·exact .inl h1
  ·rcases h2 with h2|⟨rfl,h2⟩
   ·exact .inl h2
   ·exact .inr ⟨rfl,bl_trans h1 h2⟩
theorem bl_tri : ∀ {x y:Tm.Txt},bytesLess x y=false→bytesLess y x=false→x=y
 | [],[],_,_=>rfl
 | [],_::_,h,_=>by cases h
 | _::_,[],_,h=>by cases h
 | a::x,b::y,h1,h2=>by
  have h1:¬ (a<b∨(a=b∧bytesLess x y=true)):=fun z=>by rw [(bl_cons a b x y).mpr z] at h1; cases h1
  have h2:¬ (b<a∨(b=a∧bytesLess y x=true)):=fun z=>by rw [(bl_cons b a y x).mpr z] at h2; cases h2
  have e:a=b:=by
   have n1:¬ a<b:=fun z=>h1 (.inl z)
   have n2:¬ b<a:=fun z=>h2 (.inl z)
   rw [UInt8.lt_iff_toNat_lt] at n1 n2
   exact UInt8.toNat_inj.mp (by omega)
  subst e
  have:=bl_tri (x:=x) (y:=y) (by cases q:bytesLess x y with|false=>rfl|true=>exact absurd (.inr ⟨rfl,q⟩) h1) (by cases q:bytesLess y x with|false=>rfl|true=>exact absurd (.inr ⟨rfl,q⟩) h2)
  rw [this]
def ltE (a b:E):Bool:=bytesLess a.name b.name || (a.name == b.name && decide (a.place<b.place))
theorem ltE_iff {a b:E}:ltE a b=true↔bytesLess a.name b.name=true∨(a.name=b.name∧a.place<b.place):=by
 unfold ltE
 rw [Bool.or_eq_true,Bool.and_eq_true,decide_eq_true_eq,beq_iff_eq]
theorem ltE_irr (a:E):ltE a a=false:=by
 cases q:ltE a a with
 | false=>rfl
 | true =>
  rcases ltE_iff.mp q with h|⟨_,h⟩
  ·rw [bl_irr] at h; cases h
  ·omega
theorem ltE_trans {a b c:E} (h1:ltE a b=true) (h2:ltE b c=true):ltE a c=true:=by
 rw [ltE_iff] at h1 h2 ⊢
 rcases h1 with h1|⟨e1,h1⟩
 ·rcases h2 with h2|⟨e2,h2⟩
  ·exact .inl (bl_trans h1 h2)
  ·rw [← e2]; exact .inl h1
 ·rcases h2 with h2|⟨e2,h2⟩
  ·rw [e1]; exact .inl h2
  ·exact .inr ⟨e1.trans e2,by omega⟩
theorem ltE_tri {a b:E} (h1:ltE a b=false) (h2:ltE b a=false):a.name=b.name∧a.place=b.place:=by
 have h1:¬ (bytesLess a.name b.name=true∨(a.name=b.name∧a.place<b.place)):=fun z=>by rw [ltE_iff.mpr z] at h1; cases h1
 have h2:¬ (bytesLess b.name a.name=true∨(b.name=a.name∧b.place<a.place)):=fun z=>by rw [ltE_iff.mpr z] at h2; cases h2
 have e:a.name=b.name:=bl_tri (by cases q:bytesLess a.name b.name with|false=>rfl|true=>exact absurd (.inl q) h1) (by cases q:bytesLess b.name a.name with|false=>rfl|true=>exact absurd (.inl q) h2)
 refine ⟨e,?_⟩
 have n1:¬ a.place<b.place:=fun z=>h1 (.inr ⟨e,z⟩)
 have n2:¬ b.place<a.place:=fun z=>h2 (.inr ⟨e.symm,z⟩)
 omega
def leE (a b:E):Prop:=ltE b a=false
def insE (c:E):List E→List E
 | []=>[c]
 | x::r=>if ltE c x=true then c::x::r else x::insE c r
def sortE : List E→List E
 | []=>[]
 | c::r=>insE c (sortE r)
theorem insE_perm (c:E):∀ l,(insE c l).Perm (c::l)
 | [] => .refl _
 | x::r=>by
  unfold insE
  split
  ·exact .refl _
  ·exact ((insE_perm c r).cons x).trans (.swap c x r)
theorem sortE_perm : ∀ l,(sortE l).Perm l
 | [] => .refl _
 | c::r=>(insE_perm c (sortE r)).trans ((sortE_perm r).cons c)
theorem insE_sorted {c:E}:∀ {l:List E},l.Pairwise leE→(insE c l).Pairwise leE
 | [],_=>List.pairwise_singleton _ _
 | x::r,h=>by
  have ⟨h1,h2⟩:=List.pairwise_cons.mp h
  unfold insE
  by_cases q:ltE c x=true
  ·rw [if_pos q]
   refine List.pairwise_cons.mpr ⟨fun y hy=>?_,h⟩
   have nx:ltE x c=false:=by
    cases z:ltE x c with
    | false=>rfl
    | true=>have:=ltE_trans q z; rw [ltE_irr] at this; cases this
   rcases List.mem_cons.mp hy with rfl|hy
   ·exact nx
   ·show ltE y c=false
    cases z:ltE y c with
    | false=>rfl
    | true=>have:=ltE_trans z q; rw [show ltE y x=false from h1 y hy] at this; cases this
  ·rw [if_neg q]
   refine List.pairwise_cons.mpr ⟨fun y hy=>?_,insE_sorted h2⟩
   rcases List.mem_cons.mp ((insE_perm c r).mem_iff.mp hy) with rfl|hy
   ·show ltE y x=false
    cases z:ltE y x with
    | false=>rfl
    | true=>exact absurd z q
   ·exact h1 y hy
theorem sortE_sorted : ∀ l:List E,(sortE l).Pairwise leE
 | [] => .nil
 | _::r=>insE_sorted (sortE_sorted r)
def Rise (l:List E):Prop:=l.Pairwise fun a b=>a.place<b.place
theorem Rise.inj : ∀ {l:List E},Rise l→∀ a ∈ l,∀ b ∈ l,a.place=b.place→a=b
 | [],_,a,ha,_,_,_=>by cases ha
 | x::r,h,a,ha,b,hb,e=>by
  have ⟨h1,h2⟩:=List.pairwise_cons.mp h
  rcases List.mem_cons.mp ha with ea|ha'
  ·rcases List.mem_cons.mp hb with eb|hb'
   ·rw [ea,eb]
   ·have:=h1 b hb'; rw [ea] at e; omega
  ·rcases List.mem_cons.mp hb with eb|hb'
   ·have:=h1 a ha'; rw [eb] at e; omega
   ·exact Rise.inj h2 a ha' b hb' e
theorem sorted_eq {l m:List E} (u:Rise l) (p:m.Perm l) (s:m.Pairwise leE):m=sortE l :=
 List.Perm.eq_of_pairwise (fun a b ha hb h1 h2=>u.inj a (p.mem_iff.mp ha) b ((sortE_perm l).mem_iff.mp hb) (ltE_tri h2 h1).2) s (sortE_sorted l) (p.trans (sortE_perm l).symm)
theorem ents_rise : ∀ (hs:List Cl) (k:Nat),Rise (ents k hs)
 | [],_ => .nil
 | x::r,k=>by
  unfold ents
  split
  ·exact ents_rise r (k+1)
  ·refine List.pairwise_cons.mpr ⟨fun y hy=>?_,ents_rise r (k+1)⟩
   obtain ⟨a,_,_⟩:=Sk.ents_range r (k+1) y hy
   show (k:Int)<y.place
   omega
theorem ans_rise (bs:List UInt8):Rise (ans bs).1∧∀ e ∈ (ans bs).1,0≤e.place∧e.place<16:=by
 unfold ans
 split
 ·exact ⟨.nil,fun _ h=>by cases h⟩
 ·rename_i hl
  cases hd:Sk.dec 16 bs with
  | none=>exact ⟨.nil,fun _ h=>by cases h⟩
  | some hs =>
   refine ⟨ents_rise hs 0,fun e he=>?_⟩
   obtain ⟨a,b,_⟩:=Sk.ents_range hs 0 e he
   have:=(Sk.blk_dec (n:=16) (b:=bs) (by have:¬ bs.length≠512:=hl; omega) hd).1
   omega
structure LeafOk (l:Leaf):Prop where
 rise:Rise l.cells
 rng:∀ e ∈ l.cells,0≤e.place∧e.place<16
theorem leafM_ok (T:TM) (g:G) (R:List Int) (k:Nat):LeafOk (leafM T g R k).1:=⟨(ans_rise _).1,(ans_rise _).2⟩
theorem leavesGo_rise (T:TM) (g:G) (R:List Int):∀ m k,Rise (allE (leavesGo T g R m k).1)∧∀ e ∈ allE (leavesGo T g R m k).1,16*(k:Int)≤e.place∧e.place<16*((k+m:Nat):Int)
 | 0,k=>⟨.nil,fun _ h=>by cases h⟩
 | m+1,k=>by
  unfold leavesGo
  split
  ·exact ⟨.nil,fun _ h=>by cases h⟩
  ·obtain ⟨a,b⟩:=leavesGo_rise T g R m (k+1)
   obtain ⟨c1,c2⟩:=leafM_ok T g R k
   have key:∀ e ∈ (leafM T g R k).1.cells.map (fun c=>(⟨c.place+16*((leafM T g R k).1.index:Int),c.name,c.inode⟩:E)),16*(k:Int)≤e.place∧e.place<16*((k:Nat):Int)+16:=fun e he=>by
    obtain ⟨c,hc,rfl⟩:=List.mem_map.mp he
    have:=c2 c hc
    show 16*(k:Int)≤c.place+16*(k:Int)∧c.place+16*(k:Int)<_
    omega
   show Rise ((leafM T g R k).1.cells.map _++allE _)∧∀ e ∈ (leafM T g R k).1.cells.map _++allE _,_
   refine ⟨List.pairwise_append.mpr ⟨List.pairwise_map.mpr (c1.imp fun h=>?_),a,fun x hx y hy=>?_⟩,fun e he=>?_⟩
   ·rename_i x y
    show x.place+16*(k:Int)<y.place+16*(k:Int)
    omega
   ·have:=key x hx
    have:=b y hy
    show x.place<y.place
    omega
   ·rcases List.mem_append.mp he with h|h
    ·have:=key e h; omega
    ·have:=b e h; omega
def listD (T:TM) (g:G) (n:Int):List E×Int:=if (openM T g n).2≠0 then ([],(openM T g n).2) else if (leavesM T g (openM T g n).1).2≠0 then ([],(leavesM T g (openM T g n).1).2) else (sortE (allE (leavesM T g (openM T g n).1).1),0)
end Go.Proofs.YtiapingedfnlnaaGreatDoor.Di
namespace Go.Proofs.YtiapingedfnlnaaGreatDoor.Ch
open Go Go.Proofs Wx Hp W Re
theorem get_mk {ss:List UInt8} {j:Nat} (hj:j<ss.length):(mkStr ss).get! j=ss[j]:=by
 simp [mkStr,ByteArray.get!,hj]
theorem decode_low {ss:List UInt8} {i:Nat} (hi:i<ss.length) (h:ss[i].toNat<128):Utf8.decode (mkStr ss) i=(ss[i].toNat,1):=by
 have g:=get_mk hi
 simp only [Utf8.decode,Nat.add_zero,g,if_pos (show ss[i].toNat<0x80 from h)]
theorem decode_high {ss:List UInt8} {i:Nat} (hi:i<ss.length) (h:128≤ss[i].toNat) :
  128≤(Utf8.decode (mkStr ss) i).1∧1≤(Utf8.decode (mkStr ss) i).2∧∀ k,k<(Utf8.decode (mkStr ss) i).2→∃ h:i+k<ss.length,128≤ss[i+k].toNat:=by
 have g:=get_mk hi
 have c:∀ k,(decide (i+k<(mkStr ss).size) && ((mkStr ss).get! (i+k)).toNat / 64 == 2)=true→∃ h:i+k<ss.length,128≤ss[i+k].toNat:=by
  intro k hk
  rw [Bool.and_eq_true,decide_eq_true_eq,beq_iff_eq] at hk
  have h1:i+k<ss.length:=hk.1
  refine ⟨h1,?_⟩
  have:=hk.2
  rw [get_mk h1] at this
  omega
 have z:∀ k,k<1→∃ h:i+k<ss.length,128≤ss[i+k].toNat:=by
  intro k hk
  obtain rfl:k=0:=by omega
  exact ⟨hi,h⟩
 have e:128≤Utf8.runeError:=by decide
 simp only [Utf8.decode,Nat.add_zero,g,if_neg (show ¬ ss[i].toNat<0x80 by omega)]
 split
 ·rename_i h1
  rw [Bool.and_eq_true] at h1
  have c1:=c 1 h1.2
  split
  ·rename_i h2
   refine ⟨h2,by show 1≤2; omega,fun k hk=>?_⟩
   have hk:k<2:=hk
   obtain rfl|rfl:k=0∨k=1:=by omega
   ·exact ⟨hi,h⟩
   ·exact c1
  ·exact ⟨e,Nat.le_refl _,z⟩
 ·split
  ·rename_i _ h1
   rw [Bool.and_eq_true,Bool.and_eq_true] at h1
   have c1:=c 1 h1.1.2
   have c2:=c 2 h1.2
   split
   ·rename_i h2
    rw [Bool.and_eq_true,decide_eq_true_eq] at h2
    refine ⟨Nat.le_trans (by omega) h2.1,by show 1≤3; omega,fun k hk=>?_⟩
    have hk:k<3:=hk
    obtain rfl|rfl|rfl:k=0∨k=1∨k=2:=by omega
    ·exact ⟨hi,h⟩
    ·exact c1
    ·exact c2
   ·exact ⟨e,Nat.le_refl _,z⟩
  ·split
   ·rename_i _ _ h1
    rw [Bool.and_eq_true,Bool.and_eq_true,Bool.and_eq_true] at h1
    have c1:=c 1 h1.1.1.2
    have c2:=c 2 h1.1.2
    have c3:=c 3 h1.2
    split
    ·rename_i h2
     rw [Bool.and_eq_true,decide_eq_true_eq] at h2
     refine ⟨Nat.le_trans (by omega) h2.1,by show 1≤4; omega,fun k hk=>?_⟩
     have hk:k<4:=hk
     obtain rfl|rfl|rfl|rfl:k=0∨k=1∨k=2∨k=3:=by omega
     ·exact ⟨hi,h⟩
     ·exact c1
     ·exact c2
     ·exact c3
    ·exact ⟨e,Nat.le_refl _,z⟩
   ·exact ⟨e,Nat.le_refl _,z⟩
theorem encode_high {r:Int} (h:128≤r):∃ l b,Utf8.encode r=mkStr (l++[b])∧1≤l.length∧l.length≤3∧128≤b.toNat:=by
 have hc:128≤(if Utf8.valid r then r.toNat else Utf8.runeError):=by
  split
  ·omega
  ·show 128≤65533; omega
 have hb:∀ c:Nat,128≤(UInt8.ofNat (0x80+c % 64)).toNat:=fun c=>by rw [UInt8.toNat_ofNat']; omega
 unfold Utf8.encode
 dsimp only
 generalize (if Utf8.valid r=true then r.toNat else Utf8.runeError)=c at hc ⊢
 rw [if_neg (by omega)]
 split
 ·exact ⟨[_],_,rfl,by simp,by simp,hb _⟩
 ·split
  ·exact ⟨[_,_],_,rfl,by simp,by simp,hb _⟩
  ·exact ⟨[_,_,_],_,rfl,by simp,by simp,hb _⟩
def slz : List UInt8:=[47,0]
def isBad (b:UInt8):Bool:=b == 47 || b == 0
theorem fr_push {h:Heap} (o:Obj):Fr No h (h.push o):=⟨by rw [Array.size_push]; omega,fun b hb _=>by rw [Array.getElem?_push,if_neg (by omega)]⟩
theorem get_push {h:Heap} (o:Obj):(h.push o)[h.size]?=some o:=by rw [Array.getElem?_push,if_pos rfl]
theorem NewI.intro {s:ByteArray} {h:Heap} {k:Heap→Prop} (H:∀ h',Fr No h h'→h'.size=h.size+1→h'[h.size]?=some (.stringIter s 0)→k h'):NewI s h k:=H _ (fr_push _) (Array.size_push _) (get_push _)
theorem slz_next {pos:Nat} (h:pos<2):Utf8.decode (mkStr slz) pos=((slz[pos]'h).toNat,1)∧(slz[pos]'h).toNat<128:=by
 obtain rfl|rfl:pos=0∨pos=1:=by omega
 ·exact ⟨decode_low (ss:=slz) (i:=0) (by decide) (by show (47:UInt8).toNat<128; decide),by show (47:UInt8).toNat<128; decide⟩
 ·exact ⟨decode_low (ss:=slz) (i:=1) (by decide) (by show (0:UInt8).toNat<128; decide),by show (0:UInt8).toNat<128; decide⟩
theorem IndexByte_spec {ss:List UInt8} {c:UInt8} {h:Heap} {K:Value→Heap→Prop} (hK:K (.int .i64 (byteIn ss c)) h):C.strings_IndexByte (mkStr ss) (c.toNat:Int) h K:=by
 refine strings_IndexByte.ok (internal_stringslite_IndexByte.ok ⟨rfl,_,rfl,?_⟩)
 have e:UInt8.ofNat ((c.toNat:Int)).toNat=c:=by
  rw [Int.toNat_natCast]
  apply UInt8.toNat_inj.mp
  have:=c.toNat_lt
  rw [UInt8.toNat_ofNat']
  omega
 rw [toList_mkStr,e]; exact hK
theorem IndexRune_spec {r:Nat} {h:Heap} {K:Value→Heap→Prop} (hr:r≤1114111) (hK:∀ h' n,Fr No h h'→decide (n≥0)=(decide (r=47) || decide (r=0))→K (.int .i64 n) h'):C.strings_IndexRune (mkStr slz) (r:Int) h K:=by
 generalize hri:((r:Nat):Int)=ri
 refine strings_IndexRune.ok (ct (decide_eq_true (by omega)) (cd (fun hlt=>?_) fun hge=>?_))
 ·have e:IntKind.wrap .u8 ri=((UInt8.ofNat r).toNat:Int):=by
   rw [wrap_u8 (by omega) (by omega),UInt8.toNat_ofNat']; omega
  rw [e]
  refine IndexByte_spec ⟨_,rfl,hK h _ (Fr.refl _ _) ?_⟩
  have:∀ k:Fin 128,decide (byteIn slz (UInt8.ofNat k.val)≥0)=(decide (k.val=47) || decide (k.val=0)):=by decide +kernel
  exact this ⟨r,by omega⟩
 ·have no:(decide (r=47) || decide (r=0))=false:=by
   rw [decide_eq_false (by omega),decide_eq_false (by omega)]; rfl
  rw [no] at hK
  have fin:∀ h',Fr No h h'→K (.int .i64 (-1)) h':=fun h' f=>hK h' (-1) f (by decide)
  refine ce (fun _=>?_) fun hne=>?_
  ·refine NewI.intro fun h3 f3 _ g3=>?_
   refine ⟨fun hh=>∃ pos,Fr No h hh∧hh[h.size]?=some (.stringIter (mkStr slz) pos),fun hh=>match hh[h.size]? with|some (.stringIter _ pos)=>2 - pos|_=>0,⟨0,f3,g3⟩,?_⟩
   rintro h4 ⟨pos,f4,g4⟩
   refine ⟨rfl,_,_,g4,fun hp h5 it=>?_,fun _=>fin h4 f4⟩
   have hp:pos<2:=hp
   obtain ⟨e1,e2⟩:=slz_next hp
   have f5:Fr No h h5:=f4.trans (G:=fun x=>x=h.size) ⟨by rw [it.size]; exact Nat.le_refl _,fun b _ hb=>it.same b hb⟩ (fun b hb e=>by omega)
   refine ce (fun x=>?_) fun _=>⟨⟨_,f5,it.at_⟩,?_⟩
   ·exfalso; rw [e1] at x; have x:(((slz[pos]'hp).toNat:Nat):Int)=65533:=x; omega
   ·have i1:h5[h.size]?=some (.stringIter (mkStr slz) (pos+(Utf8.decode (mkStr slz) pos).2)):=it.at_
    rw [e1] at i1
    simp only [i1,g4]
    omega
  ·have vr:∀ (K':Value→Heap→Prop),(∀ b,K' (.bool b) h)→C.unicode_utf8_ValidRune ri h K':=fun K' hk=>by
    refine unicode_utf8_ValidRune.ok (ct (decide_eq_true (by omega)) (cd (fun _=>hk _) fun _=>cd (fun _=>cd (fun _=>hk _) fun _=>hk _) fun _=>hk _))
   refine vr _ fun b=>⟨b,rfl,?_⟩
   cases b with
   | false=>exact fin h (Fr.refl _ _)
   | true =>
    show ∃ _,_
    obtain ⟨l,b,ee,l1,l3,hb⟩:=encode_high (r:=ri) (by omega)
    have es:(Utf8.encode ri).size=l.length+1:=by rw [ee]; show (l++[b]).length=_; rw [List.length_append]; rfl
    rw [es,wrap_i64 (n:=((l.length+1:Nat):Int) - 1) (by omega) (by omega)]
    refine ⟨fun i hh=>h=hh∧i=l.length,fun _ _=>0,⟨rfl,by omega⟩,?_⟩
    rintro i _ ⟨rfl,rfl⟩
    refine cd (fun hi=>?_) fun hi=>fin h (Fr.refl _ _)
    have hi:((l.length:Nat):Int)<2:=hi
    have e1:l.length=1:=by omega
    have gl:(Utf8.encode ri).toList[(((l.length+1:Nat):Int) - 1).toNat]?=some b:=by
     rw [ee,toList_mkStr,show (((l.length+1:Nat):Int) - 1).toNat=l.length by omega,List.getElem?_append_right (Nat.le_refl _),Nat.sub_self]; rfl
    refine ⟨⟨by omega,by show ((l.length:Nat):Int)<2; omega⟩,0,?_,⟨by omega,by omega⟩,b,gl,?_⟩
    ·rw [toList_mkStr,Int.toNat_natCast,e1]; rfl
    ·refine cn (fun _=>?_) fun x=>?_
     ·rw [wrap_i64 (n:=((l.length:Nat):Int)+1) (by omega) (by omega)]
      refine ⟨⟨by omega,by show ((l.length:Nat):Int)+1≤2; omega⟩,⟨by omega,by omega⟩,b,gl,?_⟩
      have ex:ByteArray.extract (mkStr slz) (((l.length:Nat):Int)+1).toNat (mkStr slz).size=mkStr []:=by
       rw [show (((l.length:Nat):Int)+1).toNat=2 by omega]
       show (mkStr slz).extract 2 2=_
       decide +kernel
      rw [ex]
      refine IndexByte_spec ⟨_,rfl,ct (decide_eq_true (by show (-1:Int)<0; decide)) (fin h (Fr.refl _ _))⟩
     ·exfalso
      have x:(0:Int)=(b.toNat:Int):=x
      omega
theorem decode_max (s:ByteArray) (pos:Nat):(Utf8.decode s pos).1≤1114111:=by
 have v:∀ c:Nat,(decide (c≥2048) && Utf8.valid (c:Int))=true→c≤1114111:=by
  intro c h
  rw [Bool.and_eq_true] at h
  have:=h.2
  simp only [Utf8.valid,Bool.or_eq_true,Bool.and_eq_true,decide_eq_true_eq] at this
  omega
 have v4:∀ c:Nat,(decide (c≥65536) && Utf8.valid (c:Int))=true→c≤1114111:=by
  intro c h
  rw [Bool.and_eq_true] at h
  have:=h.2
  simp only [Utf8.valid,Bool.or_eq_true,Bool.and_eq_true,decide_eq_true_eq] at this
  omega
 have e:Utf8.runeError≤1114111:=by decide
 have b:∀ k,(s.get! k).toNat<256:=fun k=>(s.get! k).toNat_lt
 simp only [Utf8.decode]
 split
 ·have:=b (pos+0); show (s.get! (pos+0)).toNat≤_; omega
 ·split
  ·split
   ·show _≤1114111
    have:=b (pos+1)
    have:=Nat.mod_lt (s.get! (pos+0)).toNat (show 0<32 by omega)
    have:=Nat.mod_lt (s.get! (pos+1)).toNat (show 0<64 by omega)
    simp only [Nat.add_zero] at *
    omega
   ·exact e
  ·split
   ·split
    ·rename_i h; exact v _ h
    ·exact e
   ·split
    ·split
     ·rename_i h; exact v4 _ h
     ·exact e
    ·exact e
def setL : List Bool:=(List.range 256).map fun k=>decide (k=47) || decide (k=0)
theorem makeASCIISet_spec {h:Heap} {K:Value→Heap→Prop} (hK:∀ h',Fr No h h'→K (.tuple #[.agg ⟨setL.map .bool⟩,.bool true]) h'):C.strings_makeASCIISet (mkStr slz) h K:=by
 refine strings_makeASCIISet.ok (New.intro fun h2 n2=>?_)
 have hs2:=n2.size
 refine ⟨fun i hh=>0≤i∧i≤2∧Fr No h hh∧Own hh h.size∧rd hh h.size=(((slz.take i.toNat).foldl (fun (l:List Bool) b=>l.set b.toNat true) (List.replicate 256 false)).map .bool),fun i _=>(2 - i).toNat,⟨by omega,by omega,n2.fr,n2.own,n2.rd.trans (by kernel_rfl)⟩,?_⟩
 rintro i h3 ⟨i0,i2,f3,o3,r3⟩
 have hs3:=f3.size
 have lf:∀ l:List UInt8,(l.foldl (fun (l:List Bool) b=>l.set b.toNat true) (List.replicate 256 false)).length=256:=by
  have:∀ (l:List UInt8) (x:List Bool),(l.foldl (fun (l:List Bool) b=>l.set b.toNat true) x).length=x.length:=by
   intro l
   induction l with
   | nil=>intro x; rfl
   | cons b r ih=>intro x; rw [List.foldl_cons,ih,List.length_set]
  intro l; rw [this,List.length_replicate]
 refine cd (fun hi=>?_) fun hi=>?_
 ·have hi:i<2:=hi
  have hi':i.toNat<slz.length:=by show i.toNat<2; omega
  refine ⟨⟨i0,hi⟩,slz[i.toNat],by rw [toList_mkStr,List.getElem?_eq_getElem hi'],?_⟩
  have hb:(slz[i.toNat]).toNat<128:=(slz_next (pos:=i.toNat) hi').2
  generalize hbb:slz[i.toNat]=b at hb
  refine cf (decide_eq_false (by omega)) ⟨⟨by omega,by omega⟩,Put.add o3 (by rw [r3,List.length_map,lf]; omega) fun h5 d5=>?_⟩
  rw [wrap_i64 (by omega) (by omega)]
  refine ⟨⟨by omega,by omega,f3.did d5 (fun x=>by omega),d5.own,?_⟩,by show (2 - (i+1)).toNat<(2 - i).toNat; omega⟩
  rw [d5.rd,r3,show (i+1).toNat=i.toNat+1 by omega,List.take_succ_eq_append_getElem hi',List.foldl_append,hbb]
  show _=(List.set (List.foldl (fun (l:List Bool) b=>l.set b.toNat true) (List.replicate 256 false) (slz.take i.toNat)) b.toNat true).map Value.bool
  rw [List.map_set,Nat.zero_add,Int.toNat_natCast]
 ·have hi:¬ i<2:=hi
  have e:slz.take i.toNat=slz:=List.take_of_length_le (by show 2≤i.toNat; omega)
  have es:slz.foldl (fun (l:List Bool) b=>l.set b.toNat true) (List.replicate 256 false)=setL:=by decide +kernel
  rw [e,es] at r3
  have ml:(setL.map Value.bool).length=256:=by rw [List.length_map,setL,List.length_map,List.length_range]
  refine ⟨setL.map .bool,ml,cellsAll r3,PutRow.intro o3 ml (fun v hv=>by obtain ⟨b,_,rfl⟩:=List.mem_map.mp hv; rfl) (by rw [r3,ml]; omega) fun h6 d6=>⟨setL.map .bool,ml,cellsAll ?_,hK h6 (f3.did d6 fun x=>by omega)⟩⟩
  rw [d6.rd,put_all _ _ (by rw [r3])]
theorem setL_get (b:UInt8):(setL.map Value.bool)[b.toNat]?=some (.bool (isBad b)):=by
 have hb:=b.toNat_lt
 rw [List.getElem?_map,setL,List.getElem?_map,List.getElem?_range hb]
 show some (Value.bool (decide (b.toNat=47) || decide (b.toNat=0)))=_
 congr 2
 unfold isBad
 congr 1
 ·by_cases h:b=47
  ·subst h; decide
  ·rw [beq_eq_false_iff_ne.mpr h]; exact decide_eq_false (fun e=>h (UInt8.toNat_inj.mp e))
 ·by_cases h:b=0
  ·subst h; decide
  ·rw [beq_eq_false_iff_ne.mpr h]; exact decide_eq_false (fun e=>h (UInt8.toNat_inj.mp e))
theorem bad_nat (b:UInt8):(decide (b.toNat=47) || decide (b.toNat=0))=isBad b:=by
 have:=setL_get b
 have hb:=b.toNat_lt
 rw [List.getElem?_map,setL,List.getElem?_map,List.getElem?_range hb] at this
 have this:=Option.some.inj this
 have this:Value.bool (decide (b.toNat=47) || decide (b.toNat=0)) = .bool (isBad b):=this
 exact Value.bool.inj this
theorem IndexAny_slow {ss:List UInt8} {h h10:Heap} {K:Value→Heap→Prop} (f10:Fr No h h10) (hK:∀ h' n,Fr No h h'→decide (n≥0)=ss.any isBad→K (.int .i64 n) h'):strings_IndexAny.k1 (mkStr ss) (mkStr slz) h10 K:=by
 have hs10:=f10.size
 refine NewI.intro fun h11 f11 s11 g11=>?_
 refine ⟨fun hh=>∃ pos,Fr No h hh∧h10.size<hh.size∧hh[h10.size]?=some (.stringIter (mkStr ss) pos)∧(ss.take pos).any isBad=false,fun hh=>match hh[h10.size]? with|some (.stringIter _ pos)=>ss.length - pos|_=>0,⟨0,f10.no f11,by omega,g11,rfl⟩,?_⟩
 rintro h12 ⟨pos,f12,s12,g12,nb⟩
 refine ⟨rfl,_,_,g12,fun hp h13 it=>?_,fun hp=>?_⟩
 ·have hp:pos<ss.length:=hp
  have f13:Fr No h h13:=f12.trans (G:=fun x=>x=h10.size) ⟨by rw [it.size]; exact Nat.le_refl _,fun b _ hb=>it.same b hb⟩ (fun b hb e=>by omega)
  have g13:=it.at_
  have hsplit:ss.any isBad=(ss.drop pos).any isBad:=by
   conv=>lhs; rw [← List.take_append_drop pos ss,List.any_append,nb,Bool.false_or]
  refine IndexRune_spec (decode_max _ _) fun h14 n f14 hn=>⟨n,rfl,?_⟩
  have s13:h10.size<h13.size:=by rw [it.size]; exact s12
  have g14:h14[h10.size]?=some (.stringIter (mkStr ss) (pos+(Utf8.decode (mkStr ss) pos).2)):=(f14.same _ s13 fun x=>x).trans g13
  have go:1≤(Utf8.decode (mkStr ss) pos).2→(ss.take (pos+(Utf8.decode (mkStr ss) pos).2)).any isBad=false →
    (∃ p,Fr No h h14∧h10.size<h14.size∧h14[h10.size]?=some (.stringIter (mkStr ss) p)∧(ss.take p).any isBad=false)∧(match h14[h10.size]? with|some (.stringIter _ pos)=>ss.length - pos|_=>0)<(match h12[h10.size]? with|some (.stringIter _ pos)=>ss.length - pos|_=>0):=by
   intro w1 w2
   refine ⟨⟨_,f13.no f14,by have:=f14.size; omega,g14,w2⟩,?_⟩
   simp only [g14,g12]
   exact Nat.sub_lt_sub_left hp (by omega)
  rcases Nat.lt_or_ge ss[pos].toNat 128 with hlow|hhigh
  ·have e1:=decode_low hp hlow
   rw [e1] at hn go
   have hn:decide (n≥0)=(decide (ss[pos].toNat=47) || decide (ss[pos].toNat=0)):=hn
   rw [bad_nat] at hn
   cases hb:isBad ss[pos] with
   | true =>
    rw [hb] at hn
    refine ct hn (hK h14 _ (f13.no f14) ?_)
    rw [hsplit,List.drop_eq_getElem_cons hp,List.any_cons,hb,decide_eq_true (by omega)]; rfl
   | false =>
    rw [hb] at hn
    refine cf hn (go (Nat.le_refl _) ?_)
    show (ss.take (pos+1)).any isBad=false
    rw [List.take_succ_eq_append_getElem hp,List.any_append,nb,List.any_cons,hb]; rfl
  ·obtain ⟨e1,e2,e3⟩:=decode_high hp hhigh
   have a1:¬ (Utf8.decode (mkStr ss) pos).1=47:=by omega
   have a2:¬ (Utf8.decode (mkStr ss) pos).1=0:=by omega
   rw [decide_eq_false a1,decide_eq_false a2] at hn
   refine cf hn (go e2 ?_)
   generalize (Utf8.decode (mkStr ss) pos).2=w at e2 e3
   clear hn go g14 g13 it e1 e2
   induction w with
   | zero=>exact nb
   | succ w ih =>
    obtain ⟨hl,hb⟩:=e3 w (by omega)
    rw [← Nat.add_assoc,List.take_succ_eq_append_getElem hl,List.any_append,ih fun k hk=>e3 k (by omega),List.any_cons]
    have:isBad ss[pos+w]=false:=by rw [← bad_nat,decide_eq_false (by omega),decide_eq_false (by omega)]; rfl
    rw [this]; rfl
 ·have hp:¬ pos<ss.length:=hp
  refine hK h12 _ f12 ?_
  rw [List.take_of_length_le (by omega)] at nb
  rw [nb]; decide
theorem ContainsAny_spec {ss:List UInt8} {h:Heap} {K:Value→Heap→Prop} (hl:ss.length≤140737488355328) (hK:∀ h',Fr No h h'→K (.bool (ss.any isBad)) h'):C.strings_ContainsAny (mkStr ss) (mkStr slz) h K:=by
 have fin:∀ h' n,Fr No h h'→decide (n≥0)=ss.any isBad→(fun v h'=>∃ n:Int,v = .int .i64 n∧K (.bool (decide (n≥0))) h') (Value.int .i64 n) h':=fun h' n f e=>⟨n,rfl,by rw [e]; exact hK h' f⟩
 refine strings_ContainsAny.ok (strings_IndexAny.ok (cf (by rw [toList_mkStr,toList_mkStr]; rfl) (cf (by show ((2:Int) == 1)=false; decide) ?_)))
 refine strings_shouldUseASCIISet.ok ⟨_,rfl,?_⟩
 refine cs (fun hb=>?_) fun _=>IndexAny_slow (Fr.refl _ _) fin
 refine makeASCIISet_spec fun h5 f5=>⟨_,_,rfl,?_⟩
 have ml:(setL.map Value.bool).length=256:=by rw [List.length_map,setL,List.length_map,List.length_range]
 refine NewRow.intro ml (fun v hv=>by obtain ⟨b,_,rfl⟩:=List.mem_map.mp hv; rfl) (by kernel_rfl) fun h7 n7=>ct rfl ?_
 have f7:=f5.new n7
 have hsz:((mkStr ss).size:Int)=ss.length:=rfl
 rw [hsz]
 refine ⟨fun i hh=>0≤i∧i≤ss.length∧h7=hh∧ss.any isBad=(ss.drop i.toNat).any isBad,fun i _=>(ss.length - i).toNat,⟨by omega,by omega,rfl,rfl⟩,?_⟩
 rintro i _ ⟨i0,i1,rfl,e⟩
 refine cd (fun hi=>?_) fun hi=>?_
 ·have hi':i.toNat<ss.length:=by omega
  refine ⟨⟨i0,hi⟩,ss[i.toNat],by rw [toList_mkStr,List.getElem?_eq_getElem hi'],strings_asciiSet_contains.ok (os ⟨⟨by omega,by have:=(ss[i.toNat]).toNat_lt; omega⟩,isBad ss[i.toNat],?_,_,rfl,?_⟩)⟩
  ·refine rda n7.rd ?_
   rw [Nat.zero_add,Int.toNat_natCast]; exact setL_get _
  ·rw [List.drop_eq_getElem_cons hi',List.any_cons] at e
   cases hb:isBad ss[i.toNat] with
   | true =>
    rw [hb] at e
    exact ct rfl (fin h7 _ f7 (by rw [e,decide_eq_true (by omega)]; rfl))
   | false =>
    rw [hb,Bool.false_or] at e
    rw [wrap_i64 (by omega) (by omega)]
    refine cf rfl ⟨⟨by omega,by omega,rfl,by rw [e,show (i+1).toNat=i.toNat+1 by omega]⟩,by show ((ss.length:Int) - (i+1)).toNat<((ss.length:Int) - i).toNat; omega⟩
 ·rw [List.drop_of_length_le (by omega)] at e
  exact fin h7 _ f7 (by rw [e]; decide)
theorem mapTo_fr {d:D} {h h':Heap} {r:Nat} {m:MapC} (t:MapTo d h r m h'):Fr (fun x=>x=r) h h':=⟨by rw [t.size]; exact Nat.le_refl _,fun b _ hb=>t.same b hb⟩
theorem NewM.intro {d:D} {h:Heap} {k:Heap→Prop} (H:∀ h',Fr No h h'→h'.size=h.size+1→MapAt d h' h.size []→k h'):NewM h k :=
 H _ (fr_push _) (Array.size_push _) ⟨#[],0,get_push _,rfl,fun _ h=>absurd h (by simp),MapKept.stamped_empty _⟩
theorem does_spec {ss:List UInt8} {h:Heap} {K:Value→Heap→Prop} (hK:∀ h' v,Fr No h h'→K (.tuple #[v,.bool (ss == [46] || ss == [46,46])]) h'):C.path_does (mkStr ss) h K:=by
 refine path_does.ok ?_
 unfold path_does
 simp only [toList_mkStr]
 refine NewM.intro (d := .str) fun h2 f2 s2 m2=>⟨[],m2,fun h3 m3=>⟨_,m3.at_,fun h4 m4=>⟨_,m4.at_,_,rfl,?_⟩⟩⟩
 have f4:Fr No h h4:=(f2.trans (mapTo_fr m3) fun b hb e=>by omega).trans (mapTo_fr m4) fun b hb e=>by omega
 refine (show ∀ b v,b=(ss == [46] || ss == [46,46])→K (.tuple #[v,.bool b]) h4 from fun b v e=>by rw [e]; exact hK h4 v f4) _ _ ?_
 show (mget (bif MKey.same (.s [46,46]) (.s [46]) then _ else _) (.s ss)).isSome=_
 rw [show MKey.same (.s [46,46]) (.s [46])=false from by decide]
 show (bif ss == [46] then some _ else bif ss == [46,46] then some _ else none).isSome=_
 cases h1:ss == [46] <;> cases h2:ss == [46,46] <;> rfl
theorem Name_spec {ss:List UInt8} {h:Heap} {K:Value→Heap→Prop} (hK:∀ h',Fr No h h'→K (.bool (Sk.nameOk ss)) h'):C.path_Name (mkStr ss) h K:=by
 have hsz:(mkStr ss).size=ss.length:=rfl
 refine path_Name.ok (does_spec fun h2 v f2=>⟨_,_,rfl,?_⟩)
 rw [hsz]
 have no:Sk.nameOk ss=false→K (.bool false) h2:=fun e=>by rw [← e]; exact hK h2 f2
 have nn:∀ x,(Sk.nameOk ss=true→x)→(¬ x)→Sk.nameOk ss=false:=fun x hx hn=>by
  cases e:Sk.nameOk ss with
  | false=>rfl
  | true=>exact absurd (hx e) hn
 refine cd (fun h1=>cd (fun h3=>cnot ?_) fun h3=>?_) fun h1=>?_
 ·cases hd:(ss == [46] || ss == [46,46]) with
  | true =>
   refine no (nn (¬ ((ss == [46] || ss == [46,46])=true)) (fun e=>?_) (by rw [hd]; simp))
   have:=Sk.nameOk_iff.mp e
   rw [Bool.or_eq_true,beq_iff_eq,beq_iff_eq]
   rintro (x|x)
   ·exact this.dot x
   ·exact this.dots x
  | false =>
   rw [Bool.or_eq_false_iff,beq_eq_false_iff_ne,beq_eq_false_iff_ne] at hd
   refine ContainsAny_spec (by omega) fun h3' f3=>⟨_,rfl,?_⟩
   have e:(!ss.any isBad)=Sk.nameOk ss:=by
    unfold Sk.nameOk
    rw [decide_eq_true (by omega),decide_eq_true (by omega),show (ss != [46])=true from bne_iff_ne.mpr hd.1,show (ss != [46,46])=true from bne_iff_ne.mpr hd.2]
    rw [Bool.true_and,Bool.true_and,Bool.true_and,List.not_any_eq_all_not]
    congr 1
    funext b
    unfold isBad
    rw [Bool.not_or]; rfl
   rw [e]; exact hK h3' (f2.no f3)
 ·exact no (nn _ (fun e=>(Sk.nameOk_iff.mp e).le) (by omega))
 ·exact no (nn _ (fun e=>(Sk.nameOk_iff.mp e).pos) (by omega))
end Go.Proofs.YtiapingedfnlnaaGreatDoor.Ch
namespace Go.Proofs.YtiapingedfnlnaaGreatDoor.Ss
open Go Go.Proofs Wx Hp W Re Sk Ch
def E.v (e:E):List Value:=[.int .i64 e.place,.string (mkStr e.name),.int .i64 e.inode]
theorem E.len (e:E):(E.v e).length=3:=rfl
theorem E.one (e:E):∀ v ∈ E.v e,v.oneCell'=true:=by
 intro v hv
 simp only [E.v,List.mem_cons,List.not_mem_nil,or_false] at hv
 rcases hv with rfl|rfl|rfl <;> rfl
theorem cell_spec {a:Option Addr} {l c:Nat} {bs:List UInt8} {k:Int} {h:Heap} {K:Value→Heap→Prop} (B:StrAt h a l bs) (hl:l=512) (hlc:l≤c) (h0:0≤k) (h1:k<16)
  (hK:StrAt h (Option.map (Addr.add · (32*k.toNat)) a) 32 ((bs.drop (32*k.toNat)).take 32)→K (.slice (Option.map (Addr.add · (32*k.toNat)) a) 32 32) h):C.slots_cell a l c k h K:=by
 refine slots_cell.ok ?_
 unfold slots_cell
 rw [wrap_i64 (n:=32*k) (by omega) (by omega),wrap_i64 (n:=32*k+32) (by omega) (by omega)]
 refine ⟨⟨by omega,by omega,by omega,by omega⟩,?_⟩
 rw [if_neg (by omega),show (32*k+32).toNat - (32*k).toNat=32 by omega,show (32*k).toNat=32*k.toNat by omega]
 exact hK (StrAt.take (StrAt.drop B (32*k.toNat)) (by omega))
theorem read_spec {a:Option Addr} {bs:List UInt8} {h:Heap} {K:Value→Heap→Prop} (g:In.Glo h) (B:StrAt h a 32 bs)
  (hK:∀ h' x,Fr No h h'→one bs=some x→K (.tuple #[.int .i64 (x.1:Nat),.string (mkStr x.2),.bool true]) h') (hN:∀ h' n s,Fr No h h'→one bs=none→K (.tuple #[.int .i64 n,.string s,.bool false]) h'):C.slots_read a 32 32 h K:=by
 have hb:=B.1
 have e0:one bs=one bs:=rfl
 refine slots_read.ok (In.Get_w g B (by omega) (by omega) (by omega) (by omega) ⟨_,_,rfl,In.Get_w g B (by omega) (by omega) (by omega) (by omega) ⟨_,_,rfl,?_⟩⟩)
 rw [show (0:Int).toNat=0 from rfl,show (4:Int).toNat=4 from rfl,show (1:Int).toNat=1 from rfl,List.drop_zero]
 have h4:4<bs.length:=by omega
 have e1:leN ((bs.drop 4).take 1)=(bs.getD 4 0).toNat:=by
  rw [List.drop_eq_getElem_cons h4,List.getD_eq_getElem?_getD,List.getElem?_eq_getElem h4]
  show bs[4].toNat+256*0=bs[4].toNat
  omega
 rw [e1]
 have lt:leN (bs.take 4)<4294967296:=by
  have:=leN_lt (bs.take 4)
  rw [List.length_take,show min 4 bs.length=4 by omega] at this
  exact this
 conv at e0=>rhs; unfold one
 generalize leN (bs.take 4)=i at lt e0 ⊢
 have bt:=(bs.getD 4 0).toNat_lt
 generalize (bs.getD 4 0).toNat=n at bt e0 ⊢
 refine ce (fun hi=>?_) fun hi=>?_
 ·refine Zero_spec B (by omega) (by omega) (by omega) (by omega) (by omega) ⟨_,_,rfl,?_⟩
  rw [if_pos (by omega)] at e0
  rw [show (0:Int).toNat=0 from rfl,show (32:Int).toNat=32 from rfl,List.drop_zero,List.take_of_length_le (by omega)]
  cases hz:allZero bs with
  | true=>rw [hz] at e0; exact hK h _ (Fr.refl _ _) e0
  | false=>rw [hz] at e0; exact hN h _ _ (Fr.refl _ _) e0
 ·rw [if_neg (by omega)] at e0
  refine cd (fun hn=>hN h _ _ (Fr.refl _ _) (by rw [e0,if_pos (by omega)])) fun hn=>cd (fun hn2=>hN h _ _ (Fr.refl _ _) (by rw [e0,if_pos (by omega)])) fun hn2=>?_
  rw [if_neg (by omega)] at e0
  have wu:IntKind.wrap .u64 (5+(n:Int))=5+n:=by
   show (5+(n:Int)) % 18446744073709551616=_
   omega
  unfold slots_read.k1
  rw [wu,wrap_i64 (n:=(n:Int)) (by omega) (by omega),wrap_i64 (n:=5+(n:Int)) (by omega) (by omega),wrap_i64 (n:=27 - (n:Int)) (by omega) (by omega),wrap_i64 (n:=(i:Int)) (by omega) (by omega)]
  refine ⟨⟨by omega,by omega,by omega,by omega⟩,(bs.drop 5).take n,?_,?_⟩
  ·have:=StrAt.cut B (c:=32) (by omega) (i:=5) (j:=5+n) (by omega) (by omega)
   rw [show (5+(n:Int)).toNat=5+n by omega,show (5:Int).toNat=5 from rfl,if_neg (by omega)]
   rw [if_neg (by omega),show 5+n - 5=n by omega] at this
   rw [show 5+n - 5=n by omega]
   exact this
  ·refine Zero_spec B (by omega) (by omega) (by omega) (by omega) (by omega) ⟨_,_,rfl,?_⟩
   have ez:List.take (27 - (n:Int)).toNat (List.drop (5+(n:Int)).toNat bs)=bs.drop (5+n):=by
    rw [show (5+(n:Int)).toNat=5+n by omega,List.take_of_length_le (by rw [List.length_drop]; omega)]
   rw [ez]
   cases hz:allZero (bs.drop (5+n)) with
   | false =>
    rw [hz] at e0
    exact hN h _ _ (Fr.refl _ _) e0
   | true =>
    refine Name_spec fun h' f'=>⟨_,rfl,?_⟩
    rw [hz,Bool.true_and] at e0
    cases hn:nameOk ((bs.drop 5).take n) with
    | true=>rw [hn] at e0; exact hK h' _ f' e0
    | false=>rw [hn] at e0; exact hN h' _ _ f' e0
theorem Read_spec {a:Option Addr} {l c:Nat} {bs:List UInt8} {h:Heap} {K:Value→Heap→Prop} (g:In.Glo h) (B:StrAt h a l bs) (hlc:l≤c)
  (hK:∀ h' a' l' c',Fr No h h'→Sl h' 3 a' l' c' ((ans bs).1.flatMap E.v) (From h.size)→K (.tuple #[.slice a' l' c',.int .i64 (ans bs).2]) h'):C.slots_Read a l c h K:=by
 have hb:=B.1
 refine slots_Read.ok (cn (fun hl=>?_) fun hl=>?_)
 ·have e:ans bs=([],32):=by rw [ans,if_pos (by omega)]
  rw [e] at hK
  exact hK h none 0 0 (Fr.refl _ _) (Sl.nil _ _ _)
 have hl:l=512:=by omega
 have e:ans bs=match dec 16 bs with
  | none=>([],140)
  | some hs=>(ents 0 hs,0):=by
  rw [ans,if_neg (by omega)]
  cases dec 16 bs <;> rfl
 refine ⟨fun la ll lc n hh=>0≤n∧n≤16∧Fr No h hh∧∃ pre:List (Nat×Txt),pre.length=n.toNat∧dec 16 bs=(dec (16 - n.toNat) (bs.drop (32*n.toNat))).map (pre ++ ·)∧Sl hh 3 la ll lc ((ents 0 pre).flatMap E.v) (From h.size),fun _ _ _ n _=>(16 - n).toNat,
  ⟨by omega,by omega,Fr.refl _ _,[],rfl,by rw [show (0:Int).toNat=0 from rfl,Nat.mul_zero,List.drop_zero]; simp,Sl.nil _ _ _⟩,?_⟩
 rintro la ll lc n h2 ⟨n0,n1,f2,pre,pl,pd,ps⟩
 have hs2:=f2.size
 have pll:=ents_len pre 0
 have hll:ll=(ents 0 pre).length:=by
  have:=ps.1
  rw [flat_length E.v 3 _ (fun x _=>E.len x)] at this
  omega
 refine cd (fun hn=>?_) fun hn=>?_
 ·rw [dec_step (by omega)] at pd
  refine cell_spec (StrAt.fr f2 B fun _ _ x=>x) hl hlc n0 hn fun B2=>⟨_,_,_,rfl,?_⟩
  rw [wrap_i64 (n:=n+1) (by omega) (by omega)]
  refine read_spec (g.no f2) B2 (fun h4 x f4 ho=>⟨_,_,_,rfl,?_⟩) fun h4 m s f4 ho=>⟨_,_,_,rfl,?_⟩
  ·have f24:=f2.no f4
   rw [ho] at pd
   have pd':dec 16 bs=(dec (16 - (n+1).toNat) (bs.drop (32*(n+1).toNat))).map ((pre++[x]) ++ ·):=by
    rw [pd,show (n+1).toNat=n.toNat+1 by omega]
    cases dec (16 - (n.toNat+1)) (bs.drop (32*(n.toNat+1))) with
    | none=>rfl
    | some r=>simp
   have ee:ents 0 (pre++[x])=ents 0 pre++(if x.1=0 then [] else [⟨n,x.2,x.1⟩]):=by
    rw [ents_append,pl,ents,ents,show ((0+n.toNat:Nat):Int)=n by omega]
   have ps4:=ps.fr f4 fun _ _ _ x=>x
   refine cf rfl (cn (fun hx=>⟨rfl,New.intro fun h5 n5=>⟨E.v ⟨n,x.2,x.1⟩,rfl,cellsAll n5.rd,E.one _,?_⟩⟩) fun hx=>⟨⟨by omega,by omega,f24,pre++[x],by rw [List.length_append,pl,List.length_singleton]; omega,pd',?_⟩,by show (16 - (n+1)).toNat<(16 - n).toNat; omega⟩)
   ·have hx0:x.1≠0:=fun e=>hx (by rw [e]; rfl)
    rw [if_neg hx0] at ee
    have f25:=f24.new n5
    have hs5:=f25.size
    have hbytes:(ti113).bytes=32:=rfl
    refine append_own (elem:=ti113) (ps4.fr n5.fr fun _ _ _ x=>x) rfl rfl (by rw [hbytes]; omega) (by omega) fun a' c' h6 f6 s6=>⟨⟨by omega,by omega,?_,pre++[x],by rw [List.length_append,pl,List.length_singleton]; omega,pd',?_⟩,by show (16 - (n+1)).toNat<(16 - n).toNat; omega⟩
    ·exact f25.trans f6 fun b hb hF=>by have:h.size≤b:=hF; omega
    ·rw [ee,List.flatMap_append]
     refine Sl.mono (s6:Sl h6 3 a' (ll+1) c' _ _) fun b hF=>?_
     rcases hF with hF|hF
     ·exact hF
     ·show h.size≤b; omega
   ·have hx0:x.1=0:=by omega
    rw [if_pos hx0,List.append_nil] at ee
    rw [ee]; exact ps4
  ·rw [ho] at pd
   have e2:ans bs=([],140):=by rw [e,pd]; rfl
   rw [e2] at hK
   exact ct rfl (hK h4 none 0 0 (f2.no f4) (Sl.nil _ _ _))
 ·have en:n.toNat=16:=by omega
  rw [en] at pd
  have e2:ans bs=(ents 0 pre,0):=by
   have z:dec (16 - 16) (bs.drop (32*16))=some []:=by rw [Nat.sub_self]; rfl
   rw [e,pd,z,Option.map_some,List.append_nil]
  rw [e2] at hK
  exact hK h2 la ll lc f2 ps
end Go.Proofs.YtiapingedfnlnaaGreatDoor.Ss
namespace Go.Proofs.YtiapingedfnlnaaGreatDoor.Di
open Go Go.Proofs Wx Hp W Ad Tm Spc Re Av Rg Ss
open Hd (ints)
open In (Glo ints_length ints_one)
open Ino (getM Cok getM_length)
open Bm (findM)
open Fi (blockM blockM_len hv_yield getM_may)
open Sk (E)
def rdV (t:Option Addr) (g:G) (n:Int) (R:List Int) (e:Int):List Value := .pointer t::(g.v++(.int .i64 n::(ints R++[.int .i64 e])))
theorem R15 {R:List Int} (h:R.length=15):∃ a b c d e f g i j k l m n o p,R=[a,b,c,d,e,f,g,i,j,k,l,m,n,o,p]:=by
 match R,h with
 | [a,b,c,d,e,f,g,i,j,k,l,m,n,o,p],_=>exact ⟨a,b,c,d,e,f,g,i,j,k,l,m,n,o,p,rfl⟩
section
variable {t : Option Addr} {g : G} {n e e' : Int} {R : List Int} {rest : List Value}
theorem rdV_len (hR:R.length=15):(rdV t g n R e).length=23:=by
 obtain ⟨_,_,_,_,_,_,_,_,_,_,_,_,_,_,_,rfl⟩:=R15 hR; rfl
theorem rdV_e (hR:R.length=15):(rdV t g n R e++rest)[22]?=some (.int .i64 e):=by
 obtain ⟨_,_,_,_,_,_,_,_,_,_,_,_,_,_,_,rfl⟩:=R15 hR; rfl
theorem rdV_g : ((rdV t g n R e++rest).drop 1).take 5=g.v:=rfl
theorem rdV_R (hR:R.length=15):((rdV t g n R e++rest).drop 7).take 15=ints R:=by
 obtain ⟨_,_,_,_,_,_,_,_,_,_,_,_,_,_,_,rfl⟩:=R15 hR; rfl
theorem rdV_0 (hR:R.length=15):(rdV t g n R e++rest)[7]?=some (.int .i64 (R.getD 0 0)):=by
 obtain ⟨_,_,_,_,_,_,_,_,_,_,_,_,_,_,_,rfl⟩:=R15 hR; rfl
theorem rdV_2 (hR:R.length=15):(rdV t g n R e++rest)[9]?=some (.int .i64 (R.getD 2 0)):=by
 obtain ⟨_,_,_,_,_,_,_,_,_,_,_,_,_,_,_,rfl⟩:=R15 hR; rfl
theorem rdV_set (hR:R.length=15):(rdV t g n R e++rest).set 22 (.int .i64 e')=rdV t g n R e'++rest:=by
 obtain ⟨_,_,_,_,_,_,_,_,_,_,_,_,_,_,_,rfl⟩:=R15 hR; rfl
theorem rdV_put {R':List Int} (hR:R.length=15) (hR':R'.length=15):put (rdV t g n R e++rest) 7 (ints R')=rdV t g n R' e++rest:=by
 rw [put_eq _ _ _ (by rw [ints_length,List.length_append,rdV_len hR]; omega),ints_length,hR']
 obtain ⟨_,_,_,_,_,_,_,_,_,_,_,_,_,_,_,rfl⟩:=R15 hR
 unfold rdV
 simp [G.v,ints]
theorem rdV_one : ∀ v ∈ rdV t g n R e,v.oneCell'=true:=by
 intro v hv
 unfold rdV at hv
 rcases List.mem_cons.mp hv with rfl|hv
 ·rfl
 ·rcases List.mem_append.mp hv with h|h
  ·exact G.one g v h
  ·rcases List.mem_cons.mp h with rfl|h
   ·rfl
   ·rcases List.mem_append.mp h with h|h
    ·exact ints_one R v h
    ·rw [List.mem_singleton.mp h]; rfl
end
theorem rdaa {h:Heap} {b o m n:Nat} {xs:List Value} {v:Value} (e:rd h b=xs) (hv:xs[o+m+n]?=some v):cellOf h (Addr.add (Addr.add ⟨b,o,none⟩ m) n)=some v:=by rw [add_mk]; exact rda e hv
theorem open_spec {h:Heap} {F:Nat→Prop} {t d:Option Addr} {T:TM} {g:G} {n:Int} {K:Value→Heap→Prop} (gl:In.Glo h) (x:Tx h F t d T) (ok:Cok g)
  (hK:∀ h',Fr No h h'→K (.agg ⟨rdV t g n (openM T g n).1 (openM T g n).2⟩) h'):C.dir_open t g.v n h K:=by
 have lR:=getM_length T g n
 refine dir_open.ok (New.intro fun h2 n2=>New.intro fun h3 n3=>⟨g.v,rfl,cellsAll ((n3.at_ n2.own.lt).trans n2.rd),rfl,NewRow.intro (z:=z144) rfl ?_ rfl fun h5 n5=>?_⟩)
 ·intro v hv
  have hz:∀ v ∈ z123,v.oneCell'=true:=by decide
  rcases List.mem_append.mp hv with h|h
  ·rw [List.mem_singleton.mp h]; rfl
  ·rcases List.mem_append.mp h with h|h
   ·exact G.one g v h
   ·rcases List.mem_append.mp h with h|h
    ·rw [List.mem_singleton.mp h]; rfl
    ·rcases List.mem_append.mp h with h|h
     ·exact hz v h
     ·rw [List.mem_singleton.mp h]; rfl
 have z2:=n2.size
 have z3:=n3.size
 have z5:=n5.size
 have F5:Fr No h h5:=(n2.fr.new n3).new n5
 have r5:rd h5 h3.size=rdV t g n (List.replicate 15 0) 0:=n5.rd
 refine ⟨g.v,rfl,cellsAll ((n5.at_ (by omega)).trans ((n3.at_ n2.own.lt).trans n2.rd)),Ino.Get_spec (gl.no F5) (x.no F5) ok fun h6 f6=>⟨_,_,rfl,?_⟩⟩
 have z6:=f6.size
 have r6:rd h6 h3.size=rdV t g n (List.replicate 15 0) 0:=(f6.rd (by omega) fun y=>y).trans r5
 have o6:Own h6 h3.size:=f6.own (by omega) (fun y=>y) n5.own
 refine PutRow.add o6 (by rw [ints_length,lR]) (ints_one _) (by rw [r6,rdV_len List.length_replicate]; decide) fun h7 d7=>Put.add d7.own (by rw [d7.rd,put_length,r6,rdV_len List.length_replicate]; decide) fun h8 d8=>?_
 have r8:rd h8 h3.size=rdV t g n (getM T g n).1 (getM T g n).2:=by
  have e1:rd h6 h3.size=rdV t g n (List.replicate 15 0) 0++[]:=by rw [r6,List.append_nil]
  rw [d8.rd,d7.rd,e1,show 0+7=7 from rfl,show 0+22=22 from rfl,rdV_put List.length_replicate lR,rdV_set lR,List.append_nil]
 have r8':rd h8 h3.size=rdV t g n (getM T g n).1 (getM T g n).2++[]:=by rw [List.append_nil]; exact r8
 have z7:=d7.size
 have z8:=d8.size
 have F8:Fr No h h8:=((F5.no f6).did d7 fun hl=>by omega).did d8 fun hl=>by omega
 have q8:rd h8 h2.size=z144:=(d8.at_ (by omega) (by omega)).trans ((d7.at_ (by omega) (by omega)).trans ((f6.rd (by omega) fun y=>y).trans ((n5.at_ (by omega)).trans n3.rd)))
 have p8:Own h8 h2.size:=d8.ow (d7.ow (f6.own (by omega) (fun y=>y) (n5.ow n3.own)))
 -- the answer
 have out:∀ (hh:Heap) (e:Int),Fr No h hh→rd hh h3.size=rdV t g n (getM T g n).1 e→rd hh h2.size=z144→Own hh h2.size→openM T g n=((getM T g n).1,e) →
   ∃ cs:List Value,List.length cs=23∧Cells hh ⟨h3.size,0,none⟩ cs∧PutRow ⟨h2.size,0,none⟩ cs 23 hh fun h9=>∃ res:List Value,List.length res=23∧Cells h9 ⟨h2.size,0,none⟩ res∧K (.agg ⟨res⟩) h9:=fun hh e f r q p ho=>by
  rw [ho] at hK
  refine ⟨_,rdV_len lR,cellsAll r,PutRow.intro p (rdV_len lR) rdV_one (by rw [q]; decide) fun h9 d9=>⟨_,rdV_len lR,cellsAll ?_,hK h9 (f.did d9 fun hl=>by omega)⟩⟩
  rw [d9.rd]; exact put_all _ _ (by rw [rdV_len lR,q]; rfl)
 refine ⟨_,rda r8' (rdV_e lR),cn (fun he=>out h8 _ F8 r8 q8 p8 (by unfold openM; rw [if_pos he])) fun he=>⟨_,rdaa r8' (rdV_0 lR),ce (fun h0=>?_) fun h0=>⟨_,rdaa r8' (rdV_0 lR),cn (fun h2'=>?_) fun h2'=>?_⟩⟩⟩
 ·refine Put.add d8.own (by rw [r8,rdV_len lR]; decide) fun h10 d10=>out h10 110 (F8.did d10 fun hl=>by omega) ?_ ((d10.at_ (by omega) (by omega)).trans q8) (d10.ow p8) (by unfold openM; rw [if_neg (fun y=>y he),if_pos h0])
  rw [d10.rd,r8']
  exact (rdV_set lR).trans (List.append_nil _)
 ·refine Put.add d8.own (by rw [r8,rdV_len lR]; decide) fun h10 d10=>out h10 161 (F8.did d10 fun hl=>by omega) ?_ ((d10.at_ (by omega) (by omega)).trans q8) (d10.ow p8) (by unfold openM; rw [if_neg (fun y=>y he),if_neg h0,if_pos h2'])
  rw [d10.rd,r8']
  exact (rdV_set lR).trans (List.append_nil _)
 ·exact out h8 _ F8 r8 q8 p8 (by unfold openM; rw [if_neg (fun y=>y he),if_neg h0,if_neg (fun y=>y h2')])
theorem failed_spec {h:Heap} {rb:Nat} {t:Option Addr} {g:G} {n e e':Int} {R:List Int} {rest:List Value} {K:Value→Heap→Prop} (hR:R.length=15) (w:Own h rb) (r:rd h rb=rdV t g n R e++rest)
  (hK:∀ h',Did rb h h' (rdV t g n R e'++rest)→K (.bool (e' != 0)) h'):C.dir_reader_failed (some ⟨rb,0,none⟩) e' h K:=by
 refine dir_reader_failed.ok (os (Put.add w (by rw [r,List.length_append,rdV_len hR]; omega) fun h2 d2=>hK h2 ?_))
 rw [r,show 0+22=22 from rfl,rdV_set hR] at d2
 exact d2
structure It (hh:Heap) (F:Nat→Prop) (t d:Option Addr) (T:TM) (g:G) (n:Int) (R:List Int) (e:Int) (rest:List Value) (cb rb:Nat):Prop where
 gl:In.Glo hh
 x:Tx hh F t d T
 cap:rd hh cb=[.pointer (some ⟨rb,0,none⟩)]
 ob:Own hh rb
 r:rd hh rb=rdV t g n R e++rest
 nf:¬ F rb
 b1:1≤rb
 ne:cb≠rb
section
variable {hh h' : Heap} {F : Nat → Prop} {t d : Option Addr} {T : TM} {g : G} {n e e' : Int} {R : List Int} {rest : List Value} {cb rb : Nat}
theorem It.clt (i:It hh F t d T g n R e rest cb rb):cb<hh.size:=rd_lt (o:=0) (by rw [i.cap]; rfl)
theorem It.fr (i:It hh F t d T g n R e rest cb rb) {G:Nat→Prop} (f:Fr G hh h') (h1:¬ G rb) (h2:¬ G cb) (h3:∀ b,F b→¬ G b) (h4:∀ b,b<1→¬ G b):It h' F t d T g n R e rest cb rb :=
 ⟨i.gl.fr f h4,i.x.fr f h3,(f.rd i.clt h2).trans i.cap,f.own i.ob.lt h1 i.ob,(f.rd i.ob.lt h1).trans i.r,i.nf,i.b1,i.ne⟩
theorem It.no (i:It hh F t d T g n R e rest cb rb) (f:Fr No hh h'):It h' F t d T g n R e rest cb rb:=i.fr f (fun y=>y) (fun y=>y) (fun _ _ y=>y) fun _ _ y=>y
theorem It.did (i:It hh F t d T g n R e rest cb rb) (f:Did rb hh h' (rdV t g n R e'++rest)):It h' F t d T g n R e' rest cb rb :=
 ⟨i.gl.fr f.fr fun b hb y=>by have:=i.b1; omega,i.x.fr f.fr fun b hb y=>i.nf (y▸hb),(f.at_ i.clt i.ne).trans i.cap,f.own,f.rd,i.nf,i.b1,i.ne⟩
end
def leafV (k:Nat) (b:Int) (ba:Option Addr) (bl bc:Nat) (ca:Option Addr) (cl cc:Nat):List Value:=[.int .i64 k,.int .i64 b,.slice ba bl bc,.slice ca cl cc]
theorem leafV_one {k:Nat} {b:Int} {ba:Option Addr} {bl bc:Nat} {ca:Option Addr} {cl cc:Nat}:∀ v ∈ leafV k b ba bl bc ca cl cc,v.oneCell'=true:=by
 intro v hv
 simp only [leafV,List.mem_cons,List.not_mem_nil,or_false] at hv
 rcases hv with rfl|rfl|rfl|rfl <;> rfl
structure Lf (h0 h:Heap) (l:Leaf) (ba:Option Addr) (bl bc:Nat) (ca:Option Addr) (cl cc:Nat):Prop where
 s:Sl h 1 ba bl bc (l.bytes.map bv) (From h0.size)
 c:Sl h 3 ca cl cc (l.cells.flatMap E.v) (From h0.size)
theorem Lf.fr {h0 h h':Heap} {l:Leaf} {ba:Option Addr} {bl bc:Nat} {ca:Option Addr} {cl cc:Nat} {G:Nat→Prop} (x:Lf h0 h l ba bl bc ca cl cc) (f:Fr G h h') (hG:∀ b,b<h.size→h0.size≤b→¬ G b):Lf h0 h' l ba bl bc ca cl cc :=
 ⟨x.s.fr f hG,x.c.fr f hG⟩
theorem size_div {z:Int} (h0:0≤z) (h1:z≤8459264):IntKind.wrap .i64 (Int.tdiv z 512)=z / 512:=by
 rw [Int.tdiv_eq_ediv_of_nonneg h0,wrap_i64 (by omega) (by omega)]
theorem leaves_iter {l cb rb:Nat} {F:Nat→Prop} {t d:Option Addr} {T:TM} {g:G} {n:Int} {R:List Int} {rest:List Value} {h:Heap} {K:Value→Heap→Prop} (hR:R.length=15) (hs0:0≤R.getD 2 0) (hs1:R.getD 2 0≤8459264) (J:Nat→Heap→Prop)
  (hc:∀ k hh,J k hh→It hh F t d T g n R 0 rest cb rb)
  (hY:∀ k hh h' ba bl bc ca cl cc,J k hh→k<(R.getD 2 0 / 512).toNat→(leafM T g R k).2=0→Fr (fun b=>b=rb) hh h'→rd h' rb=rdV t g n R 0++rest→Own h' rb→Lf hh h' (leafM T g R k).1 ba bl bc ca cl cc →
   YCalls Tryz.prog l [.agg ⟨leafV k (leafM T g R k).1.block ba bl bc ca cl cc⟩] h' fun v h''=>(v = .bool true∧J (k+1) h'')∨(v = .bool false∧K (.tuple #[]) h''))
  (h0:J 0 h) (hK:∀ hh,J (R.getD 2 0 / 512).toNat hh→K (.tuple #[]) hh)
  (hE:∀ k hh h',J k hh→k<(R.getD 2 0 / 512).toNat→(leafM T g R k).2≠0→Fr (fun b=>b=rb) hh h'→rd h' rb=rdV t g n R (leafM T g R k).2++rest→Own h' rb→K (.tuple #[]) h') :
  C.dir_reader_leaves_c1 (.func (.yield l) #[] #[]) (some ⟨cb,0,none⟩) h K:=by
 obtain ⟨m,em⟩:∃ m:Nat,R.getD 2 0 / 512=m:=⟨(R.getD 2 0 / 512).toNat,by omega⟩
 have hm:m≤16522:=by omega
 rw [em,Int.toNat_natCast] at hY hK hE
 refine dir_reader_leaves_c1.ok ⟨fun i hh=>∃ k:Nat,i=k∧k≤m∧J k hh,fun i _=>(m - i).toNat,⟨0,rfl,Nat.zero_le _,h0⟩,?_⟩
 rintro i h2 ⟨k,ei,hk,hJ⟩
 have I2:=hc k h2 hJ
 refine os ⟨_,rdc I2.cap rfl,os ⟨_,rda I2.r (rdV_e hR),ce (fun _=>os ⟨_,rdc I2.cap rfl,os ⟨_,rdaa I2.r (rdV_2 hR),?_⟩⟩) fun y=>absurd rfl y⟩⟩
 rw [size_div hs0 hs1,em]
 refine cd (fun hlt=>?_) fun hlt=>?_
 rotate_left
 ·have:k=m:=by omega
  subst this
  exact hK h2 hJ
 have hlt:k<m:=by omega
 unfold dir_reader_leaves_c1.k1
 refine ⟨by decide,New.intro fun h3 n3=>NewRow.intro rfl ?_ rfl fun h5 n5=>?_⟩
 ·intro v hv
  simp only [List.mem_cons,List.not_mem_nil,or_false] at hv
  rcases hv with rfl|rfl|rfl|rfl <;> rfl
 have z3:=n3.size
 have z5:=n5.size
 have F5:Fr No h2 h5:=n3.fr.new n5
 have I5:=I2.no F5
 refine os ⟨_,rdc I5.cap rfl,os ⟨t,rda I5.r rfl,os ⟨_,rdc I5.cap rfl,os ⟨g.v,rfl,cellsa I5.r rdV_g,os ⟨_,rdc I5.cap rfl,os ⟨ints R,by rw [ints_length,hR],cellsa I5.r ?_,?_⟩⟩⟩⟩⟩⟩
 ·rw [ints_length,hR]; exact rdV_R hR
 rw [ei]
 refine Bm.Find_spec I5.gl I5.x hR fun h6 f6=>⟨_,_,rfl,?_⟩
 have z6:=f6.size
 have o6:Own h6 h3.size:=f6.own (by omega) (fun y=>y) n5.own
 have l6:rd h6 h3.size=[.int .i64 k,.int .i64 0,.slice (some ⟨h2.size,0,none⟩) 512 512,.slice none 0 0]:=by
  rw [f6.rd (by omega) fun y=>y,n5.rd,ei]; rfl
 have I6:=I5.no f6
 refine Put.add o6 (by rw [l6]; show 1<4; decide) fun h7 d7=>?_
 have z7:=d7.size
 have l7:rd h7 h3.size=[.int .i64 k,.int .i64 (findM T g R k).1,.slice (some ⟨h2.size,0,none⟩) 512 512,.slice none 0 0]:=by rw [d7.rd,l6]; rfl
 have rl2:=I2.ob.lt
 have cl2:=I2.clt
 have xl2:∀ b,F b→b<h2.size:=fun b hb=>I2.x.lt hb
 have g2:=I2.gl.lt
 have I7:It h7 F t d T g n R 0 rest cb rb:=I6.fr d7.fr (by omega) (by omega) (fun b hb y=>by have:=xl2 b hb; omega) fun b hb y=>by omega
 have F7:Fr No h2 h7:=(F5.no f6).did d7 fun hl=>by omega
 refine os ⟨_,rdc I7.cap rfl,failed_spec hR I7.ob I7.r fun h8 d8=>⟨_,rfl,?_⟩⟩
 have I8:=I7.did d8
 have F8:Fr (fun b=>b=rb) h2 h8:=(F7.mono fun _ _ y=>y.elim).trans d8.fr fun _ _ y=>y
 have z8:=d8.size
 have l8:=(d8.at_ (c:=h3.size) (by omega) (by omega)).trans l7
 have o8:Own h8 h3.size:=d8.ow d7.own
 refine cn (fun he=>?_) fun he=>?_
 · -- Find says no
  have e2:(leafM T g R k).2=(findM T g R k).2:=by
   unfold leafM
   have:(blockM T g R k).2=(findM T g R k).2:=by unfold blockM; rw [if_pos he]
   show (if (blockM T g R k).2≠0 then _ else _)=_
   rw [this,if_pos he]
  refine hE k h2 h8 hJ hlt (by rw [e2]; exact he) F8 ?_ I8.ob
  rw [e2]; exact I8.r
 rw [he] at I8
 -- what is done with the bytes
 have K2:∀ (h12:Heap) (ba:Option Addr) (bl bc:Nat),It h12 F t d T g n R 0 rest cb rb→Fr (fun b=>b=rb) h2 h12→h3.size<h12.size→rd h12 h3.size=[.int .i64 k,.int .i64 (findM T g R k).1,.slice ba bl bc,.slice none 0 0]→Own h12 h3.size →
   (blockM T g R k).2=0→Sl h12 1 ba bl bc ((blockM T g R k).1.map bv) (From h2.size)→(∀ p,ba=some p→p.block≠h3.size)→dir_reader_leaves_c1.k2 (.func (.yield l) #[] #[]) (some ⟨cb,0,none⟩) (k:Int) h2 (fun i hh=>∃ k:Nat,i=k∧k≤m∧J k hh) (fun i _=>(m - i).toNat) h3 h12 K:=by
  intro h12 ba bl bc I12 F12 s12 l12 o12 hb0 S12 hn12
  unfold dir_reader_leaves_c1.k2
  refine ⟨_,_,_,rda l12 rfl,Ss.Read_spec I12.gl S12.str S12.le fun h13 ca cl cc f13 C13=>⟨_,_,_,_,rfl,?_⟩⟩
  have z13:=f13.size
  have o13:Own h13 h3.size:=f13.own s12 (fun y=>y) o12
  have l13:=(f13.rd s12 fun y=>y).trans l12
  refine Put.add o13 (by rw [l13]; show 3<4; decide) fun h14 d14=>?_
  have z14:=d14.size
  have l14:rd h14 h3.size=leafV k (findM T g R k).1 ba bl bc ca cl cc:=by rw [d14.rd,l13]; rfl
  have I13:=I12.no f13
  have I14:It h14 F t d T g n R 0 rest cb rb:=I13.fr d14.fr (by omega) (by omega) (fun b hb y=>by have:=xl2 b hb; omega) fun b hb y=>by omega
  have F14:Fr (fun b=>b=rb) h2 h14:=(F12.no f13).did d14 fun hl=>by omega
  refine os ⟨_,rdc I14.cap rfl,failed_spec hR I14.ob I14.r fun h15 d15=>⟨_,rfl,?_⟩⟩
  have z15:=d15.size
  have I15:=I14.did d15
  have F15:Fr (fun b=>b=rb) h2 h15:=F14.trans d15.fr fun _ _ y=>y
  have e2:(leafM T g R k).2=(ans (blockM T g R k).1).2:=by
   unfold leafM
   show (if (blockM T g R k).2≠0 then _ else _)=_
   rw [if_neg fun y=>y hb0]
  refine cn (fun he=>hE k h2 h15 hJ hlt (by rw [e2]; exact he) F15 (by rw [e2]; exact I15.r) I15.ob) fun he=>?_
  rw [he] at I15
  have l15:=(d15.at_ (c:=h3.size) (by omega) (by omega)).trans l14
  refine ⟨_,rfl,cellsAll l15,hv_yield (ycalls_mono (hY k h2 h15 ba bl bc ca cl cc hJ hlt (by rw [e2]; exact he) F15 I15.r I15.ob ⟨?_,?_⟩) fun v h16 hv=>?_)⟩
  ·show Sl h15 1 ba bl bc ((blockM T g R k).1.map bv) (From h2.size)
   refine ((S12.fr f13 fun _ _ _ y=>y).mono (G:=fun b=>h2.size≤b∧∀ p,ba=some p→b=p.block→True) fun b hb=>⟨hb,fun _ _ _=>trivial⟩) |>.mono (G:=From h2.size) (fun b hb=>hb.1) |> fun S=>?_
   refine Sl.fr d15.fr (G:=fun b=>b=rb) (?_:Sl h14 1 ba bl bc _ (From h2.size)) fun b hb hF y=>by have hF:h2.size≤b:=hF; omega
   cases ba with
   | none=>exact ⟨S.1,S.2⟩
   | some p =>
    obtain ⟨a1,a2,a3,a4,a5,a6⟩:=S.2
    have hp:=hn12 p rfl
    exact ⟨S.1,a1,a2,d14.ow a3,a4,by rw [d14.at_ a3.lt hp]; exact a5,by rw [d14.at_ a3.lt hp]; exact a6⟩
  ·show Sl h15 3 ca cl cc ((ans (blockM T g R k).1).1.flatMap E.v) (From h2.size)
   refine ((C13.fr d14.fr fun b _ hb y=>?_).fr d15.fr fun b _ hb y=>?_).mono fun b hb=>?_
   ·have hb:h12.size≤b:=hb; omega
   ·have hb:h12.size≤b:=hb
    have:=F12.size
    omega
   ·have hb:h12.size≤b:=hb
    have:=F12.size
    show h2.size≤b; omega
  ·rcases hv with ⟨rfl,hJ6⟩|⟨rfl,hk⟩
   ·refine ⟨true,rfl,cnot (ct rfl ?_)⟩
    rw [wrap_i64 (by omega) (by omega)]
    exact ⟨⟨k+1,by omega,hlt,hJ6⟩,by show ((m:Int) - ((k:Int)+1)).toNat<((m:Int) - (k:Int)).toNat; omega⟩
   ·exact ⟨false,rfl,cnot (cf rfl hk)⟩
 refine ⟨_,rda l8 rfl,cn (fun hb=>os ⟨_,rdc I8.cap rfl,os ⟨t,rda I8.r rfl,_,rda l8 rfl,Tm.Read_spec I8.x fun ba bl bc h9 f9 hl9 S9=>⟨_,_,_,_,rfl,?_⟩⟩⟩) fun hb=>?_⟩
 · -- its block is read
  have eb:blockM T g R k=T.read (findM T g R k).1:=by unfold blockM; rw [if_neg (fun y=>y he),if_neg hb]
  have z9:=f9.size
  have I9:=I8.no f9
  have l9:=(f9.rd (b:=h3.size) (by omega) fun y=>y).trans l8
  have o9:Own h9 h3.size:=f9.own (by omega) (fun y=>y) o8
  refine Put.add o9 (by rw [l9]; show 2<4; decide) fun h10 d10=>?_
  have z10:=d10.size
  have l10:rd h10 h3.size=[.int .i64 k,.int .i64 (findM T g R k).1,.slice ba bl bc,.slice none 0 0]:=by rw [d10.rd,l9]; rfl
  have I10:It h10 F t d T g n R 0 rest cb rb:=I9.fr d10.fr (by omega) (by omega) (fun b hb y=>by have:=xl2 b hb; omega) fun b hb y=>by omega
  have F10:Fr (fun b=>b=rb) h2 h10:=(F8.no f9).did d10 fun hl=>by omega
  refine os ⟨_,rdc I10.cap rfl,failed_spec hR I10.ob I10.r fun h11 d11=>⟨_,rfl,?_⟩⟩
  have z11:=d11.size
  have I11:=I10.did d11
  have F11:Fr (fun b=>b=rb) h2 h11:=F10.trans d11.fr fun _ _ y=>y
  refine cn (fun he2=>?_) fun he2=>?_
  ·have e2:(leafM T g R k).2=(T.read (findM T g R k).1).2:=by
    unfold leafM
    show (if (blockM T g R k).2≠0 then _ else _)=_
    rw [eb,if_pos he2]
   exact hE k h2 h11 hJ hlt (by rw [e2]; exact he2) F11 (by rw [e2]; exact I11.r) I11.ob
  ·rw [he2] at I11
   refine K2 h11 ba bl bc I11 F11 (by omega) ((d11.at_ (by omega) (by omega)).trans l10) (d11.ow d10.own) (by rw [eb]; exact he2) ?_ fun p hp=>?_
   ·rw [eb]
    refine ((S9.fr d10.fr fun b _ hb y=>?_).fr d11.fr fun b _ hb y=>?_).mono fun b hb=>?_
    ·have hb:h8.size≤b:=hb; omega
    ·have hb:h8.size≤b:=hb; omega
    ·have hb:h8.size≤b:=hb; show h2.size≤b; omega
   ·subst hp
    have hb:h8.size≤p.block:=S9.2.2.1
    omega
 · -- a hole
  have eb:blockM T g R k=(zeros,0):=by unfold blockM; rw [if_neg (fun y=>y he),if_pos hb]
  have r8:rd h8 h2.size=zeros.map bv:=by
   rw [d8.at_ (by omega) (by omega),d7.at_ (by omega) (by omega),f6.rd (by omega) fun y=>y,n5.at_ (by omega),n3.rd,zeros,List.map_replicate]; rfl
  have el:(zeros.map bv).length=512:=by rw [List.length_map]; exact List.length_replicate
  refine K2 h8 _ _ _ I8 F8 (by omega) l8 o8 (by rw [eb]) ?_ fun p hp=>by cases hp; show ¬ h2.size=h3.size; omega
  rw [eb]
  have w8:Own h8 h2.size:=d8.ow (d7.ow (f6.own (by omega) (fun y=>y) (n5.ow n3.own)))
  refine ⟨by rw [el],rfl,Nat.le_refl _,w8,Nat.le_refl _,?_,?_⟩
  ·show ((rd h8 h2.size).drop 0).take _=_
   rw [r8,List.drop_zero,List.take_length]
  ·show 0+512*1≤(rd h8 h2.size).length
   rw [r8,el]; decide
theorem leaves_spec {h:Heap} {r:Option Addr} {K:Value→Heap→Prop} (hK:∀ h',Newly h h' [.pointer r]→K (.func (.func 135) #[] ⟨[.pointer (some ⟨h.size,0,none⟩)]⟩) h'):C.dir_reader_leaves r h K :=
 dir_reader_leaves.ok (New.intro fun h2 n2=>hK h2 n2)
end Go.Proofs.YtiapingedfnlnaaGreatDoor.Di
namespace Go.Proofs.YtiapingedfnlnaaGreatDoor.Di
open Go Go.Proofs Wx Hp W Ad Tm Spc Re Av Rg Ss
open Hd (ints)
open In (Glo ints_length ints_one)
open Ino (getM Cok getM_length)
open Bm (findM)
open Fi (blockM hv_yield getM_may cok)
open Sk (E nameOk)
theorem leaves_none {y:Value} {cb rb:Nat} {F:Nat→Prop} {t d:Option Addr} {T:TM} {g:G} {n e:Int} {R:List Int} {rest:List Value} {h:Heap} {K:Value→Heap→Prop} (hR:R.length=15) (i:It h F t d T g n R e rest cb rb) (he:e≠0)
  (hK:K (.tuple #[]) h):C.dir_reader_leaves_c1 y (some ⟨cb,0,none⟩) h K:=by
 refine dir_reader_leaves_c1.ok ⟨fun _ hh=>hh=h,fun _ _=>0,rfl,?_⟩
 rintro k h2 rfl
 exact os ⟨_,rdc i.cap rfl,os ⟨_,rda i.r (rdV_e hR),ce (fun y=>absurd y he) fun _=>hK⟩⟩
theorem open_size {T:TM} {g:G} {n:Int} (h:(openM T g n).2=0):0≤(openM T g n).1.getD 2 0∧(openM T g n).1.getD 2 0≤8459264:=by
 obtain ⟨e,e2,_⟩:=openM_ok h
 rw [e]
 obtain ⟨_,_,_,_,a,b,_⟩:=In.mayR_bounds (getM_length T g n) (getM_may e2)
 exact ⟨a,b⟩
theorem ent_at {h:Heap} {a:Option Addr} {es:List E} (Z:SlCells h a (es.flatMap E.v)) {j:Nat} (hj:j<es.length):∃ p,a=some p∧Cells h (p.add (j*3)) (E.v es[j]):=by
 cases a with
 | none =>
  have Z:es.flatMap E.v=[]:=Z
  have:=flat_length E.v 3 es (fun x _=>E.len x)
  rw [Z,List.length_nil] at this
  omega
 | some p =>
  refine ⟨p,rfl,?_⟩
  have:=Cells.part (show Cells h p (es.flatMap E.v) from Z) (j*3) 3
  rw [flat_part E.v 3 _ (fun x _=>E.len x) j hj] at this
  exact this
theorem putaa {b o m n:Nat} {v:Value} {h:Heap} {k:Heap→Prop} (w:Own h b) (hl:o+m+n<(rd h b).length) (H:∀ h',Did b h h' ((rd h b).set (o+m+n) v)→k h'):Put (Addr.add (Addr.add ⟨b,o,none⟩ m) n) v h k:=by
 rw [add_mk]; exact Put.add w hl H
def tail0 : List Value:=[.int .i64 0,.int .i64 0,.slice none 0 0,.slice none 0 0,.int .i64 0,.string (mkStr []),.int .i64 0]
theorem rdV_hit {t:Option Addr} {g:G} {n e:Int} {R:List Int} (hR:R.length=15) {xs:List Value} {c:E} (hx:xs.length=4):put (put (rdV t g n R e++tail0) 23 xs) 27 (E.v c)=rdV t g n R e++(xs++E.v c):=by
 have l:=rdV_len (t:=t) (g:=g) (n:=n) (e:=e) hR
 have lt:tail0.length=7:=rfl
 rw [put_eq _ _ _ (by rw [put_length,List.length_append,l,lt,E.len]; omega),put_eq _ _ _ (by rw [List.length_append,l,lt,hx]; omega),hx,E.len]
 have e1:List.take 23 (rdV t g n R e++tail0)=rdV t g n R e:=List.take_left' l
 have e2:(List.drop (23+4) (rdV t g n R e++tail0)).length=3:=by rw [List.length_drop,List.length_append,l,lt]
 rw [e1]
 generalize hz:List.drop (23+4) (rdV t g n R e++tail0)=zs at e2
 rw [List.take_left' (l₁:=rdV t g n R e++xs) (by rw [List.length_append,l,hx]),List.drop_of_length_le (by rw [List.length_append,List.length_append,l,hx,e2]; omega),List.append_nil,List.append_assoc]
theorem find_at {α:Type} {p:α→Bool} {l:List α} {i:Nat} (hi:i<l.length) (np:(l.take i).find? p=none) (hp:p l[i]=true):l.find? p=some l[i]:=by
 have e:l.find? p=(l.take i++l.drop i).find? p:=by rw [List.take_append_drop]
 rw [e,List.find?_append,np,Option.none_or,List.drop_eq_getElem_cons hi,List.find?_cons_of_pos hp]
theorem rdV_cells {t:Option Addr} {g:G} {n e:Int} {R:List Int} (hR:R.length=15) {k:Nat} {b:Int} {ba:Option Addr} {bl bc:Nat} {ca:Option Addr} {cl cc:Nat} {c:E} :
  (rdV t g n R e++(leafV k b ba bl bc ca cl cc++E.v c))[29]?=some (.int .i64 c.inode)∧(rdV t g n R e++(leafV k b ba bl bc ca cl cc++E.v c))[0]?=some (.pointer t)∧(rdV t g n R e++(leafV k b ba bl bc ca cl cc++E.v c))[24]?=some (.int .i64 b) ∧
   (rdV t g n R e++(leafV k b ba bl bc ca cl cc++E.v c))[25]?=some (.slice ba bl bc)∧(rdV t g n R e++(leafV k b ba bl bc ca cl cc++E.v c))[27]?=some (.int .i64 c.place):=by
 obtain ⟨_,_,_,_,_,_,_,_,_,_,_,_,_,_,_,rfl⟩:=R15 hR
 exact ⟨rfl,rfl,rfl,rfl,rfl⟩
theorem ans_len (bs:List UInt8):(ans bs).1.length≤16:=by
 unfold ans
 split
 ·exact Nat.zero_le _
 ·rename_i hl
  cases hd:Sk.dec 16 bs with
  | none=>exact Nat.zero_le _
  | some hs =>
   have h1:=ents_len hs 0
   have h2:=(Sk.blk_dec (n:=16) (b:=bs) (by have:¬ bs.length≠512:=hl; omega) hd).1
   show (Sk.ents 0 hs).length≤16
   omega
theorem leaf_len (T:TM) (g:G) (R:List Int) (k:Nat):(leafM T g R k).1.cells.length≤16:=ans_len _
structure Fnd (h h':Heap) (t:Option Addr) (fb:Nat) (r:Option (Leaf×E)×Int) (ba:Option Addr) (bl bc:Nat):Prop where
 lo:h.size≤fb
 ow:Own h' fb
 e:(rd h' fb)[22]?=some (.int .i64 r.2)
 ino:(rd h' fb)[29]?=some (.int .i64 (match r.1 with
  | some x=>x.2.inode
  | none=>0))
 hit:∀ x,r.1=some x→(rd h' fb)[0]?=some (.pointer t)∧(rd h' fb)[24]?=some (.int .i64 x.1.block)∧(rd h' fb)[25]?=some (.slice ba bl bc)∧(rd h' fb)[27]?=some (.int .i64 x.2.place)∧Sl h' 1 ba bl bc (x.1.bytes.map bv) (fun b=>h.size≤b∧b≠fb)
theorem Fnd.none {h h':Heap} {t t':Option Addr} {fb:Nat} {e n:Int} {g:G} {R:List Int} (hR:R.length=15) (lo:h.size≤fb) (ow:Own h' fb) (r:rd h' fb=rdV t' g n R e++tail0):Fnd h h' t fb (none,e) none 0 0:=by
 refine ⟨lo,ow,by rw [r]; exact rdV_e hR,?_,fun x hx=>by cases hx⟩
 rw [r]
 obtain ⟨_,_,_,_,_,_,_,_,_,_,_,_,_,_,_,rfl⟩:=R15 hR
 rfl
theorem find_spec {h:Heap} {F:Nat→Prop} {t d:Option Addr} {T:TM} {n:Nat} {i:Int} {s:Tm.Txt} {K:Value→Heap→Prop} (gl:In.Glo h) (dm:Dim n) (x:Tx h F t d T)
  (hK:∀ h' fb ba bl bc,Fr No h h'→Fnd h h' t fb (seekM T (geoN n) i s) ba bl bc→K (.pointer (some ⟨fb,0,none⟩)) h'):C.dir_find t (geoN n).v i (mkStr s) h K:=by
 refine dir_find.ok (New.intro fun h2 n2=>New.intro fun h3 n3=>New.intro fun h4 n4=>New.intro fun h5 n5=>New.intro fun h6 n6=>Put.intro n6.own (by rw [n6.rd]; exact Nat.zero_lt_one) fun h7 d7=>?_)
 have z2:=n2.size
 have z3:=n3.size
 have z4:=n4.size
 have z5:=n5.size
 have z6:=n6.size
 have z7:=d7.size
 have xl:∀ b,F b→b<h.size:=fun b hb=>x.lt hb
 have gl1:=gl.lt
 have F7:Fr No h h7:=(((((n2.fr.new n3).new n4).new n5).new n6).did d7 fun hl=>by omega)
 have g7:rd h7 h.size=(geoN n).v:=(d7.at_ (by omega) (by omega)).trans ((n6.at_ (by omega)).trans ((n5.at_ (by omega)).trans ((n4.at_ (by omega)).trans ((n3.at_ (by omega)).trans n2.rd))))
 have s7:rd h7 h2.size=[.string (mkStr s)]:=(d7.at_ (by omega) (by omega)).trans ((n6.at_ (by omega)).trans ((n5.at_ (by omega)).trans ((n4.at_ (by omega)).trans n3.rd)))
 have q7:rd h7 h3.size=[.pointer none]:=(d7.at_ (by omega) (by omega)).trans ((n6.at_ (by omega)).trans ((n5.at_ (by omega)).trans n4.rd))
 have w7:Own h7 h3.size:=d7.ow (n6.ow (n5.ow n4.own))
 have r7:rd h7 h4.size=rdV none ⟨0,0,0,0,0⟩ 0 (List.replicate 15 0) 0++tail0:=(d7.at_ (by omega) (by omega)).trans ((n6.at_ (by omega)).trans n5.rd)
 have o7:Own h7 h4.size:=d7.ow (n6.ow n5.own)
 have p7:rd h7 h5.size=[.pointer (some ⟨h4.size,0,none⟩)]:=by rw [d7.rd,n6.rd]; rfl
 refine ⟨_,rdc s7 rfl,Ch.Name_spec fun h8 f8=>⟨_,rfl,cnot ?_⟩⟩
 have z8:=f8.size
 have F8:Fr No h h8:=F7.no f8
 have q8:=(f8.rd (b:=h3.size) (by omega) fun y=>y).trans q7
 have r8:=(f8.rd (b:=h4.size) (by omega) fun y=>y).trans r7
 have p8:=(f8.rd (b:=h5.size) (by omega) fun y=>y).trans p7
 have w8:Own h8 h3.size:=f8.own (by omega) (fun y=>y) w7
 have o8:Own h8 h4.size:=f8.own (by omega) (fun y=>y) o7
 refine cs (fun hn=>?_) fun hn=>?_
 rotate_left
 · -- no name
  have es:seekM T (geoN n) i s=(none,1):=by unfold seekM; rw [if_pos hn]
  rw [es] at hK
  refine ⟨_,rdc p8 rfl,os (putaa o8 (by rw [r8]; decide +revert) fun h9 d9=>⟨_,rdc ((d9.at_ (by omega) (by omega)).trans p8) rfl,Put.intro (d9.ow w8) (by rw [d9.at_ (by omega) (by omega),q8]; exact Nat.zero_lt_one) fun h10 d10=>⟨_,rdc (show rd h10 h3.size=[.pointer (some ⟨h4.size,0,none⟩)] by rw [d10.rd,d9.at_ (by omega) (by omega),q8]; rfl) rfl,?_⟩⟩)⟩
  have z9:=d9.size
  refine hK h10 h4.size none 0 0 ((F8.did d9 fun hl=>by omega).did d10 fun hl=>by omega) (Fnd.none (t':=none) (g:=⟨0,0,0,0,0⟩) (n:=0) (R:=List.replicate 15 0) List.length_replicate (by omega) (d10.ow d9.own) ?_)
  rw [d10.at_ (by omega) (by omega),d9.rd,r8]
  exact rdV_set List.length_replicate
 refine ⟨_,rdc p8 rfl,(geoN n).v,rfl,cellsAll ((f8.rd (by omega) fun y=>y).trans g7),open_spec (gl.no F8) (x.no F8) (cok dm) fun h11 f11=>⟨_,rfl,?_⟩⟩
 have lR:=openM_length T (geoN n) i
 have z11:=f11.size
 have p11:=(f11.rd (b:=h5.size) (by omega) fun y=>y).trans p8
 have r11:=(f11.rd (b:=h4.size) (by omega) fun y=>y).trans r8
 have o11:Own h11 h4.size:=f11.own (by omega) (fun y=>y) o8
 refine ⟨rdc p11 rfl,os (PutRow.add o11 (rdV_len lR) rdV_one (by rw [r11]; decide +revert) fun h12 d12=>?_)⟩
 have z12:=d12.size
 have r12:rd h12 h4.size=rdV t (geoN n) i (openM T (geoN n) i).1 (openM T (geoN n) i).2++tail0:=by
  rw [d12.rd,r11,put_eq _ _ _ (by rw [rdV_len lR]; decide +revert),rdV_len lR]; rfl
 have p12:=(d12.at_ (c:=h5.size) (by omega) (by omega)).trans p11
 refine ⟨_,rdc p12 rfl,os ?_⟩
 rw [show Addr.add ⟨h4.size,0,none⟩ 0=⟨h4.size,0,none⟩ from add_mk ..]
 refine leaves_spec fun h13 n13=>⟨_,rfl,fun L rounds=>?_⟩
 have z13:=n13.size
 have F12:Fr No h h12:=(F8.no f11).did d12 fun hl=>by omega
 have F13:Fr No h h13:=F12.new n13
 have Fb:=beginL_fr h13 L
 have on0:=beginL_on h13 L
 have d0:=beginL_d h13 L
 have zb:=beginL_size h13 L
 have F0:Fr No h (beginL h13 L):=F13.no Fb
 have fb:Fr No h12 (beginL h13 L):=n13.fr.no Fb
 have cb0:rd (beginL h13 L) h12.size=[.pointer (some ⟨h4.size,0,none⟩)]:=(Fb.rd (by omega) fun y=>y).trans n13.rd
 have rb0:=(fb.rd (b:=h4.size) (by omega) fun y=>y).trans r12
 have ob0:Own (beginL h13 L) h4.size:=fb.own (by omega) (fun y=>y) d12.own
 have qb0:rd (beginL h13 L) h3.size=[.pointer none]:=(fb.rd (by omega) fun y=>y).trans ((d12.at_ (by omega) (by omega)).trans ((f11.rd (by omega) fun y=>y).trans q8))
 have wb0:Own (beginL h13 L) h3.size:=fb.own (by omega) (fun y=>y) (d12.ow (f11.own (by omega) (fun y=>y) w8))
 have sb0:rd (beginL h13 L) h2.size=[.string (mkStr s)]:=(fb.rd (by omega) fun y=>y).trans ((d12.at_ (by omega) (by omega)).trans ((f11.rd (by omega) fun y=>y).trans ((f8.rd (by omega) fun y=>y).trans s7)))
 have pb0:=(fb.rd (b:=h5.size) (by omega) fun y=>y).trans p12
 have glb:=gl.no F0
 have xb:=x.no F0
 have I0:It (beginL h13 L) F t d T (geoN n) i (openM T (geoN n) i).1 (openM T (geoN n) i).2 tail0 h12.size h4.size:=⟨glb,xb,cb0,ob0,rb0,fun y=>by have:=xl _ y; omega,by omega,by omega⟩
 generalize hbe:beginL h13 L=hb at *
 show C.dir_reader_leaves_c1 (.func (.yield (h13.size+1)) #[] #[]) (some ⟨h12.size,0,none⟩) hb _
 -- what is behind the loop
 have fin:∀ (hh:Heap) (e:Int),Fr (fun b=>b=h4.size∨b=h13.size+1) hb hh→LoopOn hh (h13.size+1) L .ready none→rd hh h4.size=rdV t (geoN n) i (openM T (geoN n) i).1 e++tail0→Own hh h4.size→seekM T (geoN n) i s=(none,if e=0 then 160 else e) →
   ∃ (st1:LoopState) (pend1:Option Code),LoopOn hh (h13.size+1) L st1 pend1∧st1 ≠ .busy∧pendX pend1 (
    SetL hh (h13.size+1) L .exhausted pend1 fun h25=>∃ (q8:Option Addr),cellOf h25 ⟨h5.size,0,none⟩=some (.pointer q8)∧onSome q8 fun p7=>∃ (n3:Int),cellOf h25 (Addr.add (Addr.add p7 0) 22)=some (.int .i64 n3) ∧
    bif (n3 == 0) then (∃ (q9:Option Addr),cellOf h25 ⟨h5.size,0,none⟩=some (.pointer q9)∧onSome q9 fun p8=>Put (Addr.add (Addr.add p8 0) 22) (.int .i64 160) h25 fun h26=>∃ (q10:Option Addr),cellOf h26 ⟨h5.size,0,none⟩=some (.pointer q10) ∧
     Put ⟨h3.size,0,none⟩ (.pointer q10) h26 fun h27=>EndD h13.size h27 fun h28=>∃ (res2:Option Addr),cellOf h28 ⟨h3.size,0,none⟩=some (.pointer res2)∧K (.pointer res2) h28) else (
     ∃ (q11:Option Addr),cellOf h25 ⟨h5.size,0,none⟩=some (.pointer q11)∧Put ⟨h3.size,0,none⟩ (.pointer q11) h25 fun h29=>EndD h13.size h29 fun h30=>∃ (res3:Option Addr),cellOf h30 ⟨h3.size,0,none⟩=some (.pointer res3)∧K (.pointer res3) h30)) (
    SetL hh (h13.size+1) L .exhausted pend1 fun h31=>EndD h13.size h31 fun h32=>∃ (res4:Option Addr),cellOf h32 ⟨h3.size,0,none⟩=some (.pointer res4)∧K (.pointer res4) h32) (fun _=>False):=by
  intro hh e f on r o es
  have zf:=f.size
  rw [es] at hK
  refine ⟨.ready,none,on,by decide,pend_none (setL_intro (by omega) fun h25 t25=>?_)⟩
  have z25:=t25.size
  have f25:Fr (fun b=>b=h4.size∨b=h13.size+1) hb h25:=f.trans t25.fr fun b _ y => .inr y
  have q25:∀ b,b<hb.size→b≠h4.size→b≠h13.size+1→rd h25 b=rd hb b:=fun b hb' h1 h2=>f25.rd hb' fun y=>y.elim h1 h2
  have w25:∀ b,Own hb b→b≠h4.size→b≠h13.size+1→Own h25 b:=fun b o h1 h2=>f25.own o.lt (fun y=>y.elim h1 h2) o
  have r25:=(t25.fr.rd (b:=h4.size) (by omega) (by omega)).trans r
  have o25:Own h25 h4.size:=t25.fr.own (by omega) (by omega) o
  have p25:=(q25 h5.size (by omega) (by omega) (by omega)).trans pb0
  have a25:=(q25 h3.size (by omega) (by omega) (by omega)).trans qb0
  have b25:=w25 h3.size wb0 (by omega) (by omega)
  -- the pointer is told
  have out:∀ (h26:Heap) (e':Int),h26.size=h25.size→Fr (fun b=>b=h4.size∨b=h13.size+1) hb h26→rd h26 h4.size=rdV t (geoN n) i (openM T (geoN n) i).1 e'++tail0→Own h26 h4.size→rd h26 h3.size=[.pointer none]→Own h26 h3.size→e'=(if e=0 then 160 else e) →
    Put ⟨h3.size,0,none⟩ (.pointer (some ⟨h4.size,0,none⟩)) h26 fun h27=>EndD h13.size h27 fun h28=>∃ (res2:Option Addr),cellOf h28 ⟨h3.size,0,none⟩=some (.pointer res2)∧K (.pointer res2) h28:=fun h26 e' z26 f26 r26 o26 a26 b26 he=>by
   refine Put.intro b26 (by rw [a26]; exact Nat.zero_lt_one) fun h27 d27=>endD_intro ((d27.fr.same _ (by omega) (by omega)).trans ((f26.same _ (by omega) (by omega)).trans d0)) fun h28 z28 f28=>?_
   have z27:=d27.size
   refine ⟨_,rdc (show rd h28 h3.size=[.pointer (some ⟨h4.size,0,none⟩)] by rw [f28.rd (by omega) (by omega),d27.rd,a26]; rfl) rfl,?_⟩
   rw [← he] at hK
   refine hK h28 h4.size none 0 0 (((F0.trans f26 fun b hb y=>by omega).did d27 fun hl=>by omega).trans f28 fun b hb y=>by omega) (Fnd.none lR (by omega) (f28.own (by omega) (by omega) (d27.ow o26)) ((f28.rd (by omega) (by omega)).trans ((d27.at_ (by omega) (by omega)).trans r26)))
  refine ⟨_,rdc p25 rfl,os ⟨_,rdaa r25 (rdV_e lR),ce (fun he=>?_) fun he=>?_⟩⟩
  ·refine ⟨_,rdc p25 rfl,os (putaa o25 (by rw [r25,List.length_append,rdV_len lR]; omega) fun h26 d26=>⟨_,rdc ((d26.at_ (by omega) (by omega)).trans p25) rfl,out h26 160 d26.size (f25.trans d26.fr fun b _ y => .inl y) ?_ d26.own ((d26.at_ (by omega) (by omega)).trans a25) (d26.ow b25) (by rw [if_pos he])⟩)⟩
   rw [d26.rd,r25]; exact rdV_set lR
  ·exact ⟨_,rdc p25 rfl,out h25 e rfl f25 r25 o25 a25 b25 (by rw [if_neg he])⟩
 by_cases he0:(openM T (geoN n) i).2=0
 rotate_left
 ·refine leaves_none lR I0 he0 (fin hb _ (Fr.refl _ _) on0 I0.r I0.ob ?_)
  rw [if_neg he0]
  unfold seekM; rw [if_neg (by rw [hn]; decide),if_pos he0]
 obtain ⟨R0,R1⟩:=open_size he0
 have es0:seekM T (geoN n) i s=seekGo T (geoN n) (openM T (geoN n) i).1 s ((openM T (geoN n) i).1.getD 2 0 / 512).toNat 0:=by
  unfold seekM; rw [if_neg (by rw [hn]; decide),if_neg (fun y=>y he0)]
 rw [he0] at I0
 generalize hR:(openM T (geoN n) i).1=R at *
 generalize hm:(R.getD 2 0 / 512).toNat=m at *
 refine leaves_iter lR R0 R1 (fun k hh=>It hh F t d T (geoN n) i R 0 tail0 h12.size h4.size∧Fr (fun b=>b=h4.size∨b=h13.size+1) hb hh∧LoopOn hh (h13.size+1) L .ready none∧∃ q,m=k+q∧seekM T (geoN n) i s=seekGo T (geoN n) R s q k)
  (fun k hh J=>J.1) (fun k hh h' ba bl bc ca cl cc J hk he f' r' o' lf=>?_) ⟨I0,Fr.refl _ _,on0,m,by omega,es0⟩ (fun hh J=>?_) fun k hh h' J hk he f' r' o'=>?_
 · -- an index
  obtain ⟨I,f,on,q,eq,es⟩:=J
  rw [hm] at hk
  obtain ⟨q,rfl⟩:∃ q',q=q'+1:=⟨q - 1,by omega⟩
  have zf:=f.size
  have zf':=f'.size
  have on':LoopOn h' (h13.size+1) L .ready none:=loopOn_fr on f' (by omega)
  refine rounds (leafV k (leafM T (geoN n) R k).1.block ba bl bc ca cl cc) h' _ on' (NewRow.intro rfl leafV_one rfl fun h16 n16=>⟨loopOn_fr on' n16.fr fun y=>y,setL_intro (by have:=n16.size; omega) fun h17 t17=>?_⟩)
  have z16:=n16.size
  have z17:=t17.size
  have f17:Fr (fun b=>b=h4.size∨b=h13.size+1) hb h17:=((f.trans f' fun b _ y => .inl y).new n16).trans t17.fr fun b _ y => .inr y
  have v17:rd h17 h'.size=leafV k (leafM T (geoN n) R k).1.block ba bl bc ca cl cc:=(t17.fr.rd (by omega) (by omega)).trans n16.rd
  have lf17:Lf hh h17 (leafM T (geoN n) R k).1 ba bl bc ca cl cc:=(lf.fr n16.fr fun _ _ _ y=>y).fr t17.fr fun b _ hb y=>by omega
  have lc:(leafM T (geoN n) R k).1.cells.length=cl:=by
   have:=lf17.c.1
   rw [flat_length E.v 3 _ (fun x _=>E.len x)] at this
   omega
  refine ⟨_,_,_,rda v17 rfl,fun j hx=>∃ p:Nat,j=p∧p≤cl∧Fr No h17 hx∧((leafM T (geoN n) R k).1.cells.take p).find? (fun c=>c.name == s)=none,fun j _=>((cl:Int) - j).toNat,⟨0,rfl,Nat.zero_le _,Fr.refl _ _,rfl⟩,?_⟩
  rintro j h18 ⟨p,rfl,hp,f18,np⟩
  have z18:=f18.size
  have f18':Fr (fun b=>b=h4.size∨b=h13.size+1) hb h18:=f17.no f18
  have on18:LoopOn h18 (h13.size+1) L .busy none:=loopOn_fr t17.on f18 fun y=>y
  have I17:It h17 F t d T (geoN n) i R 0 tail0 h12.size h4.size:=by
   have A:It h' F t d T (geoN n) i R 0 tail0 h12.size h4.size:=⟨I.gl.fr f' fun b hb y=>by omega,I.x.fr f' fun b hb y=>by have:=xl b hb; omega,(f'.rd I.clt (by omega)).trans I.cap,o',r',I.nf,I.b1,I.ne⟩
   exact (A.no n16.fr).fr t17.fr (by omega) (by omega) (fun b hb y=>by have:=xl b hb; omega) fun b hb y=>by omega
  refine cd (fun hlt=>?_) fun hlt=>?_
  ·have hlt':p<(leafM T (geoN n) R k).1.cells.length:=by omega
   obtain ⟨a,ea,ca⟩:=ent_at (lf17.fr f18 fun _ _ _ y=>y).c.cells hlt'
   subst ea
   refine ⟨⟨by omega,hlt⟩,os ⟨_,rfl,ca,NewRow.intro rfl (E.one _) rfl fun h20 n20=>⟨_,rda n20.rd rfl,_,rdc (show rd h20 h2.size=[.string (mkStr s)] from ((f18'.new n20).rd (by omega) (by omega)).trans sb0) rfl,?_⟩⟩⟩
   rw [toList_mkStr,toList_mkStr]
   have z20:=n20.size
   have f20:Fr (fun b=>b=h4.size∨b=h13.size+1) hb h20:=f18'.new n20
   refine cs (fun heq=>?_) fun hne=>?_
   · -- it is here
    have I20:=(I17.no f18).no n20.fr
    have ec:cellOfName (leafM T (geoN n) R k).1 s=some ((leafM T (geoN n) R k).1.cells[p]):=by
     unfold cellOfName
     exact find_at hlt' np heq
    have es2:seekM T (geoN n) i s=(some ((leafM T (geoN n) R k).1,(leafM T (geoN n) R k).1.cells[p]),0):=by
     rw [es]; unfold seekGo; rw [if_neg (fun y=>y he),ec]
    rw [es2] at hK
    have pc20:=(f20.rd (b:=h5.size) (by omega) (by omega)).trans pb0
    have v20:=(n20.at_ (by omega)).trans ((f18.rd (by omega) fun y=>y).trans v17)
    refine ⟨_,rdc pc20 rfl,_,rdc pc20 rfl,_,rfl,cellsAll v20,_,rfl,cellsAll n20.rd,os (PutRow.add I20.ob rfl leafV_one (by rw [I20.r,List.length_append,rdV_len lR]; decide) fun h21 d21=>?_)⟩
    have z21:=d21.size
    refine ⟨rdc ((d21.at_ (by omega) (by omega)).trans pc20) rfl,⟨rfl,cellsAll ((d21.at_ (by omega) (by omega)).trans n20.rd)⟩,os (PutRow.add d21.own rfl (E.one _) (by rw [d21.rd,put_length,I20.r,List.length_append,rdV_len lR]; decide) fun h22 d22=>?_)⟩
    have z22:=d22.size
    have r22:rd h22 h4.size=rdV t (geoN n) i R 0++(leafV k (leafM T (geoN n) R k).1.block ba bl bc (some a) cl cc++E.v (leafM T (geoN n) R k).1.cells[p]):=by
     rw [d22.rd,d21.rd,I20.r]; exact rdV_hit lR rfl
    have q22:=(d22.at_ (c:=h3.size) (by omega) (by omega)).trans ((d21.at_ (c:=h3.size) (by omega) (by omega)).trans ((f20.rd (by omega) (by omega)).trans qb0))
    have w22:Own h22 h3.size:=d22.ow (d21.ow (f20.own (by omega) (by omega) wb0))
    refine ⟨_,rdc ((d22.at_ (by omega) (by omega)).trans ((d21.at_ (by omega) (by omega)).trans pc20)) rfl,Put.intro w22 (by rw [q22]; exact Nat.zero_lt_one) fun h23 d23=>?_⟩
    have z23:=d23.size
    have on23:LoopOn h23 (h13.size+1) L .busy none:=loopOn_fr (loopOn_fr (loopOn_fr (loopOn_fr on18 n20.fr fun y=>y) d21.fr (by omega)) d22.fr (by omega)) d23.fr (by omega)
    refine ⟨on23,.inr ⟨rfl,.done,some .ret,setLoop_on (loopOn_lt on23) L _ _,by decide,?_⟩⟩
    have t24:=turned (loopOn_lt on23) L .done (some .ret)
    generalize setLoop h23 (h13.size+1) L .done (some .ret)=h24 at t24
    have z24:=t24.size
    refine pend_ret (setL_intro (by omega) fun h25 t25=>?_)
    have z25:=t25.size
    have f23:Fr (fun b=>b=h4.size∨b=h3.size∨b=h13.size+1) hb h25:=((((f20.mono fun b _ y=>by omega).trans d21.fr fun b _ y=>by omega).trans d22.fr fun b _ y=>by omega).trans d23.fr fun b _ y=>by omega).trans (t24.fr.trans t25.fr fun b _ y=>y) fun b _ y=>by omega
    refine endD_intro ((f23.same _ (by omega) (by omega)).trans d0) fun h26 z26 f26=>⟨_,rdc (show rd h26 h3.size=[.pointer (some ⟨h4.size,0,none⟩)] by rw [f26.rd (by omega) (by omega),t25.fr.rd (by omega) (by omega),t24.fr.rd (by omega) (by omega),d23.rd,q22]; rfl) rfl,?_⟩
    have F26:Fr No h h26:=(F0.trans f23 fun b hb y=>by omega).trans f26 fun b hb y=>by omega
    have r26:rd h26 h4.size=rdV t (geoN n) i R 0++(leafV k (leafM T (geoN n) R k).1.block ba bl bc (some a) cl cc++E.v (leafM T (geoN n) R k).1.cells[p]):=by
     rw [f26.rd (by omega) (by omega),t25.fr.rd (by omega) (by omega),t24.fr.rd (by omega) (by omega),d23.at_ (by omega) (by omega)]; exact r22
    have o26:Own h26 h4.size:=f26.own (by omega) (by omega) (t25.fr.own (by omega) (by omega) (t24.fr.own (by omega) (by omega) (d23.ow d22.own)))
    obtain ⟨c29,c0,c24,c25,c27⟩:=rdV_cells (t:=t) (g:=geoN n) (n:=i) (e:=0) lR (k:=k) (b:=(leafM T (geoN n) R k).1.block) (ba:=ba) (bl:=bl) (bc:=bc) (ca:=some a) (cl:=cl) (cc:=cc) (c:=(leafM T (geoN n) R k).1.cells[p])
    refine hK h26 h4.size ba bl bc F26 ⟨by omega,o26,by rw [r26]; exact rdV_e lR,by rw [r26]; exact c29,fun y hy=>?_⟩
    ·cases hy
     refine ⟨by rw [r26]; exact c0,by rw [r26]; exact c24,by rw [r26]; exact c25,by rw [r26]; exact c27,?_⟩
     ·have S:=((((((lf17.s.fr f18 fun _ _ _ y=>y).fr n20.fr fun _ _ _ y=>y).mono (G:=From hh.size) fun _ y=>y).fr d21.fr fun b _ hb y=>by have hb:hh.size≤b:=hb; omega).fr d22.fr fun b _ hb y=>by have hb:hh.size≤b:=hb; omega).fr d23.fr fun b _ hb y=>by have hb:hh.size≤b:=hb; omega)
      refine (((S.fr t24.fr fun b _ hb y=>?_).fr t25.fr fun b _ hb y=>?_).fr f26 fun b _ hb y=>?_).mono fun b hb=>?_
      ·have hb:hh.size≤b:=hb; omega
      ·have hb:hh.size≤b:=hb; omega
      ·have hb:hh.size≤b:=hb; omega
      ·have hb:hh.size≤b:=hb
       show h.size≤b∧b≠h4.size
       omega
   ·have l16:=leaf_len T (geoN n) R k
    rw [wrap_i64 (by omega) (by omega)]
    refine ⟨⟨p+1,by omega,by omega,f18.no n20.fr,?_⟩,falls hlt⟩
    rw [List.take_succ_eq_append_getElem hlt',List.find?_append,np,Option.none_or,List.find?_cons_of_neg (by rw [hne]; decide)]; rfl
  ·have:p=cl:=by omega
   subst this
   refine ⟨on18,.inl ⟨rfl,?_⟩⟩
   have t24:=turned (loopOn_lt on18) L .ready none
   generalize setLoop h18 (h13.size+1) L .ready none=h24 at t24
   refine ⟨(I17.no f18).fr t24.fr (by omega) (by omega) (fun b hb y=>by have:=xl b hb; omega) fun b hb y=>by omega,f18'.trans t24.fr fun b _ y => .inr y,t24.on,q,by omega,?_⟩
   rw [es]
   conv=>lhs; unfold seekGo
   rw [List.take_of_length_le (by omega)] at np
   rw [if_neg (fun y=>y he),show cellOfName (leafM T (geoN n) R k).1 s=none from np]
 · -- it is nowhere
  obtain ⟨I,f,on,q,eq,es⟩:=J
  rw [hm] at eq es
  have:q=0:=by omega
  subst this
  exact fin hh 0 f on I.r I.ob (by rw [es,if_pos rfl]; rfl)
 · -- an index that does not read
  obtain ⟨I,f,on,q,eq,es⟩:=J
  rw [hm] at hk
  obtain ⟨q,rfl⟩:∃ q',q=q'+1:=⟨q - 1,by omega⟩
  have zf:=f.size
  refine fin h' _ (f.trans f' fun b _ y => .inl y) (loopOn_fr on f' (by omega)) r' o' ?_
  rw [es,if_neg he]; unfold seekGo; rw [if_pos he]
end Go.Proofs.YtiapingedfnlnaaGreatDoor.Di
namespace Go.Proofs.YtiapingedfnlnaaGreatDoor.Di
open Go Go.Proofs Wx Hp W Ad Tm Spc Re Av Rg Ss
open Hd (ints)
open In (Glo ints_length ints_one)
open Ino (getM Cok getM_length)
open Bm (findM)
open Fi (blockM hv_yield getM_may cok)
open Sk (E nameOk)
theorem Find_spec {h:Heap} {F:Nat→Prop} {t d:Option Addr} {T:TM} {n:Nat} {i:Int} {s:Tm.Txt} {K:Value→Heap→Prop} (gl:In.Glo h) (dm:Dim n) (x:Tx h F t d T)
  (hK:∀ h',Fr No h h'→K (.tuple #[.int .i64 (findD T (geoN n) i s).1,.int .i64 (findD T (geoN n) i s).2]) h'):C.dir_Find t (geoN n).v i (mkStr s) h K:=by
 refine dir_Find.ok (New.intro fun h2 n2=>⟨(geoN n).v,rfl,cellsAll n2.rd,find_spec (gl.no n2.fr) dm (x.no n2.fr) fun h3 fb ba bl bc f3 A=>⟨_,rfl,os ⟨_,rdaa rfl A.ino,os ⟨_,rdaa rfl A.e,hK h3 (n2.fr.no f3)⟩⟩⟩⟩)
end Go.Proofs.YtiapingedfnlnaaGreatDoor.Di
namespace Go.Proofs.YtiapingedfnlnaaGreatDoor.Ch
open Go Go.Proofs Wx Hp
def strs (ps:List (List UInt8)):List Value:=ps.map fun p => .string (mkStr p)
end Go.Proofs.YtiapingedfnlnaaGreatDoor.Ch
namespace Go.Proofs.YtiapingedfnlnaaGreatDoor.Pa
open Go Go.Proofs Wx Hp W Sk Ch Rg
def piecesGo : Txt→Txt→List Txt
 | [],cur=>if cur=[] then [] else [cur]
 | b::r,cur=>if b=47 then (if cur=[] then [] else [cur])++piecesGo r [] else piecesGo r (cur++[b])
def pieces (s:Txt):List Txt:=piecesGo s []
theorem piecesGo_word (r:Txt):∀ (w cur:Txt),(∀ b ∈ w,b≠47)→piecesGo (w++r) cur=piecesGo r (cur++w)
 | [],cur,_=>by rw [List.append_nil]; rfl
 | b::w,cur,h=>by
  show (if b=47 then _ else piecesGo (w++r) (cur++[b]))=_
  rw [if_neg (h b (by simp)),piecesGo_word r w _ fun x hx=>h x (by simp [hx]),List.append_assoc]; rfl
theorem pieces_slash (r:Txt):pieces (47::r)=pieces r:=rfl
theorem pieces_word {w r:Txt} (hw:w≠[]) (h:∀ b ∈ w,b≠47) (hr:r=[]∨∃ r',r=47::r'):pieces (w++r)=w::pieces r:=by
 rw [pieces,piecesGo_word r w [] h,List.nil_append]
 rcases hr with rfl|⟨r',rfl⟩
 ·show (if w=[] then [] else [w])=_
  rw [if_neg hw]; rfl
 ·show (if (47:UInt8)=47 then (if w=[] then [] else [w])++piecesGo r' [] else _)=_
  rw [if_pos rfl,if_neg hw]; rfl
theorem extract_mk (s:Txt) (i j:Nat):ByteArray.extract (mkStr s) i j=mkStr ((s.drop i).take (j - i)):=by
 apply ByteArray.ext
 rw [ByteArray.data_extract]
 apply Array.ext'
 simp [mkStr,List.extract]
theorem size_mk (s:Txt):(mkStr s).size=s.length:=rfl
theorem hv_yield {P:Program} {l:Nat} {args:List Value} {h:Heap} {k:Value→Heap→Prop} (y:YCalls P l args h k):HCallsV P (.func (.yield l) #[] #[]) args h k:=y
theorem iter_spec {l cb:Nat} {s:Txt} {h:Heap} {K:Value→Heap→Prop} (hl:s.length≤9223372036854775806) (J:List Txt→Heap→Prop) (hc:∀ pre hh,J pre hh→rd hh cb=[.string (mkStr s)])
  (hY:∀ pre x rest hh,J pre hh→pieces s=pre++x::rest→YCalls Tryz.prog l [.string (mkStr x)] hh fun v h'=>(v = .bool true∧J (pre++[x]) h')∨(v = .bool false∧K (.tuple #[]) h'))
  (h0:J [] h) (hK:∀ hh,J (pieces s) hh→K (.tuple #[]) hh):C.path_pieces_c1 (.func (.yield l) #[] #[]) (some ⟨cb,0,none⟩) h K:=by
 refine path_pieces_c1.ok ⟨fun i hh=>0≤i∧i≤s.length∧∃ pre,J pre hh∧pieces s=pre++pieces (s.drop i.toNat),fun i _=>(s.length - i).toNat,⟨by omega,by omega,[],h0,rfl⟩,?_⟩
 rintro i h2 ⟨i0,i1,pre,hJ,hp⟩
 have C2:cellOf h2 ⟨cb,0,none⟩=some (.string (mkStr s)):=rdc (hc pre h2 hJ) rfl
 refine os ⟨_,C2,?_⟩
 rw [size_mk]
 refine cd (fun hi=>?_) fun hi=>?_
 ·have hi':i.toNat<s.length:=by omega
  have ed:s.drop i.toNat=s[i.toNat]::s.drop (i.toNat+1):=List.drop_eq_getElem_cons hi'
  refine os ⟨_,C2,⟨i0,by rw [size_mk]; exact hi⟩,s[i.toNat],by rw [toList_mkStr,List.getElem?_eq_getElem hi'],ce (fun hb=>?_) fun hb=>?_⟩
  ·have hb:s[i.toNat]=47:=UInt8.toNat_inj.mp (show (s[i.toNat]).toNat=47 by omega)
   rw [wrap_i64 (by omega) (by omega)]
   refine ⟨⟨by omega,by omega,pre,hJ,?_⟩,by show ((s.length:Int) - (i+1)).toNat<((s.length:Int) - i).toNat; omega⟩
   rw [hp,ed,hb,pieces_slash,show (i+1).toNat=i.toNat+1 by omega]
  ·have hb:s[i.toNat]≠47:=fun e=>by rw [e] at hb; exact hb rfl
   refine ⟨fun e hh=>h2=hh∧i≤e∧e≤s.length∧∀ b ∈ (s.drop i.toNat).take (e.toNat - i.toNat),b≠47,fun e _=>(s.length - e).toNat,⟨rfl,by omega,by omega,fun b hb=>by rw [Nat.sub_self,List.take_zero] at hb; cases hb⟩,?_⟩
   rintro e _ ⟨rfl,e0,e1,hw⟩
   -- the piece is handed over
   have fin:i<e→(s.drop e.toNat=[]∨∃ r',s.drop e.toNat=47::r')→path_pieces_c1.k1 (.func (.yield l) #[] #[]) (some ⟨cb,0,none⟩) i h2 (fun i hh=>0≤i∧i≤s.length∧∃ pre,J pre hh∧pieces s=pre++pieces (s.drop i.toNat)) (fun i _=>(s.length - i).toNat) e h2 K:=by
    intro hlt hr
    refine os ⟨_,C2,⟨i0,e0,by rw [size_mk]; exact e1⟩,?_⟩
    rw [extract_mk]
    have hsp:s.drop i.toNat=(s.drop i.toNat).take (e.toNat - i.toNat)++s.drop e.toNat:=by
     conv=>lhs; rw [← List.take_append_drop (e.toNat - i.toNat) (s.drop i.toNat)]
     rw [List.drop_drop,show i.toNat+(e.toNat - i.toNat)=e.toNat by omega]
    have hne:(s.drop i.toNat).take (e.toNat - i.toNat)≠[]:=fun x=>by
     have:=congrArg List.length x
     rw [List.length_take,List.length_drop,List.length_nil] at this; omega
    have hp2:pieces s=pre++(s.drop i.toNat).take (e.toNat - i.toNat)::pieces (s.drop e.toNat):=by
     rw [hp]; conv=>lhs; rw [hsp]
     rw [pieces_word hne hw hr]
    refine hv_yield (ycalls_mono (hY pre _ _ h2 hJ hp2) fun v h5 hv=>?_)
    rcases hv with ⟨rfl,hJ5⟩|⟨rfl,hk⟩
    ·exact ⟨true,rfl,cnot (ct rfl ⟨⟨by omega,e1,_,hJ5,by rw [hp2,List.append_assoc]; rfl⟩,by show ((s.length:Int) - e).toNat<((s.length:Int) - i).toNat; omega⟩)⟩
    ·exact ⟨false,rfl,cnot (cf rfl hk)⟩
   refine os ⟨_,C2,?_⟩
   rw [size_mk]
   refine cd (fun he=>?_) fun he=>?_
   ·have he':e.toNat<s.length:=by omega
    refine os ⟨_,C2,⟨by omega,by rw [size_mk]; exact he⟩,s[e.toNat],by rw [toList_mkStr,List.getElem?_eq_getElem he'],cn (fun hc=>?_) fun hc=>?_⟩
    ·have hc:s[e.toNat]≠47:=fun x=>by rw [x] at hc; exact hc rfl
     rw [wrap_i64 (by omega) (by omega)]
     refine ⟨⟨rfl,by omega,by omega,fun b hb=>?_⟩,by show ((s.length:Int) - (e+1)).toNat<((s.length:Int) - e).toNat; omega⟩
     rw [show (e+1).toNat - i.toNat=(e.toNat - i.toNat)+1 by omega,List.take_succ_eq_append_getElem (by rw [List.length_drop]; omega)] at hb
     rcases List.mem_append.mp hb with hb|hb
     ·exact hw b hb
     ·rw [List.mem_singleton.mp hb,List.getElem_drop]
      have:i.toNat+(e.toNat - i.toNat)=e.toNat:=by omega
      simp only [this]; exact hc
    ·have hc:s[e.toNat]=47:=UInt8.toNat_inj.mp (show (s[e.toNat]).toNat=47 by omega)
     have hlt:i<e:=by
      rcases Int.lt_or_le i e with h|h
      ·exact h
      ·have:e.toNat=i.toNat:=by omega
       simp only [this] at hc
       exact absurd hc hb
     exact fin hlt (.inr ⟨s.drop (e.toNat+1),by rw [List.drop_eq_getElem_cons he',hc]⟩)
   ·exact fin (by omega) (.inl (List.drop_of_length_le (by omega)))
 ·rw [List.drop_of_length_le (by omega)] at hp
  rw [show pieces []=[] from rfl,List.append_nil] at hp
  rw [← hp] at hJ
  exact hK h2 hJ
end Go.Proofs.YtiapingedfnlnaaGreatDoor.Pa
namespace Go.Proofs.YtiapingedfnlnaaGreatDoor.Pa
open Go Go.Proofs Wx Hp W Sk Ch Rg
def noDot (ps:List Txt):List Txt:=ps.filter fun p => !(p == [46])
def comps (s:Txt):List Txt:=noDot (pieces s)
def fits (cs:List Txt):Bool:=cs.all (fun p=>decide (p.length≤27)) && decide (cs.length≤32)
def compA (s:Txt):Option (List Txt):=if s.length≤1024 then (if fits (comps s)=true then some (comps s) else none) else none
theorem noDot_append (ps:List Txt) (x:Txt):noDot (ps++[x])=if x=[46] then noDot ps else noDot ps++[x]:=by
 rw [noDot,List.filter_append]
 by_cases h:x=[46]
 ·rw [if_pos h,h]; show _++[]=_; rw [List.append_nil,noDot]
 ·rw [if_neg h,List.filter_cons_of_pos (by simp [h])]; rfl
theorem fits_false_append {cs ds:List Txt} (h:fits cs=false):fits (cs++ds)=false:=by
 cases e:fits (cs++ds) with
 | false=>rfl
 | true =>
  rw [fits,Bool.and_eq_true,List.all_append,Bool.and_eq_true,decide_eq_true_eq,List.length_append] at e
  rw [fits,e.1.1,decide_eq_true (by omega)] at h; cases h
theorem noDot_split (pre:List Txt) (x:Txt) (rest:List Txt):noDot (pre++x::rest)=noDot (pre++[x])++noDot rest:=by
 rw [show pre++x::rest=(pre++[x])++rest by simp,noDot,List.filter_append]; rfl
theorem byteIn_ge (c:UInt8):∀ l:List UInt8,-1≤byteIn l c∧decide (byteIn l c≥0)=l.contains c
 | []=>⟨Int.le_refl _,rfl⟩
 | b::r=>by
  obtain ⟨h1,h2⟩:=byteIn_ge c r
  show -1≤(if b == c then (0:Int) else if byteIn r c == -1 then -1 else byteIn r c+1)∧decide ((if b == c then (0:Int) else if byteIn r c == -1 then -1 else byteIn r c+1)≥0)=_
  rw [List.contains_cons]
  cases hb:b == c with
  | true =>
   rw [if_pos rfl]
   have:c == b:=by rw [beq_iff_eq] at hb ⊢; exact hb.symm
   rw [this]; exact ⟨by decide,rfl⟩
  | false =>
   have hn:(c == b)=false:=by
    rw [beq_eq_false_iff_ne] at hb ⊢; exact fun e=>hb e.symm
   rw [if_neg (by simp),hn,Bool.false_or,← h2]
   cases h:byteIn r c == -1 with
   | true =>
    rw [if_pos rfl]
    rw [beq_iff_eq] at h
    rw [h]; decide
   | false =>
    rw [if_neg (by simp)]
    rw [beq_eq_false_iff_ne] at h
    refine ⟨by omega,?_⟩
    rw [Bool.eq_iff_iff,decide_eq_true_eq,decide_eq_true_eq]; omega
def wrongB (s:Txt) (isPath:Bool):Bool:=(s == []) || (s.contains 0 || (isPath && !(s.head? == some 47)))
theorem wrong_spec {s:Txt} {p:Bool} {h:Heap} {K:Value→Heap→Prop} (hK:K (.bool (wrongB s p)) h):C.path_wrong (mkStr s) p h K:=by
 refine path_wrong.ok ?_
 unfold path_wrong
 rw [toList_mkStr,toList_mkStr]
 unfold wrongB at hK
 cases h0:(s == []) with
 | true=>rw [h0,Bool.true_or] at hK; exact hK
 | false =>
  rw [h0,Bool.false_or] at hK
  refine IndexByte_spec (c:=0) ⟨_,rfl,?_⟩
  rw [(byteIn_ge 0 s).2]
  cases hc:s.contains 0 with
  | true=>rw [hc,Bool.true_or] at hK; exact hK
  | false =>
   rw [hc,Bool.false_or] at hK
   cases p with
   | false=>exact hK
   | true =>
    cases s with
    | nil=>cases h0
    | cons b r =>
     refine ⟨⟨by decide,by rw [size_mk]; show (0:Int)<((r.length+1:Nat):Int); omega⟩,b,rfl,?_⟩
     have e:(((UInt8.toNat b:Nat):Int) != 47) = !((b::r).head? == some 47):=by
      show _ = !(some b == some 47)
      rw [Bool.eq_iff_iff,bne_iff_ne,Bool.not_eq_true',beq_eq_false_iff_ne]
      constructor
      ·intro h e; rw [Option.some.inj e] at h; exact h rfl
      ·intro h e; exact h (congrArg some (UInt8.toNat_inj.mp (show b.toNat=47 by omega)))
     rw [e]; exact hK
structure Bs (h:Heap) (s:Txt) (hh:Heap):Prop where
 fr:Fr No h hh
 size:h.size+6≤hh.size
 o1:Own hh h.size
 l1:(rd hh h.size).length=1
 o2:Own hh (h.size+1)
 l2:(rd hh (h.size+1)).length=1
 o3:Own hh (h.size+2)
 l3:(rd hh (h.size+2)).length=1
 r4:rd hh (h.size+3)=[.string (mkStr s)]
 d:hh[h.size+4]?=some (.deferred (some []))
theorem Bs.step {h:Heap} {s:Txt} {hh hh':Heap} {F:Nat→Prop} (b:Bs h s hh) (f:Fr F hh hh') (hF:∀ x,F x→x=h.size+5∨h.size+6≤x):Bs h s hh':=by
 have hs:=b.size
 have hs':=f.size
 have n:∀ k,k≤4→¬ F (h.size+k):=fun k hk x=>by have:=hF _ x; omega
 exact ⟨b.fr.trans f fun x hx e=>by have:=hF x e; omega,by omega,f.own b.o1.lt (n 0 (by omega)) b.o1,by rw [f.rd b.o1.lt (n 0 (by omega))]; exact b.l1,f.own b.o2.lt (n 1 (by omega)) b.o2,by rw [f.rd b.o2.lt (n 1 (by omega))]; exact b.l2,
  f.own b.o3.lt (n 2 (by omega)) b.o3,by rw [f.rd b.o3.lt (n 2 (by omega))]; exact b.l3,(f.rd (by omega) (n 3 (by omega))).trans b.r4,(f.same _ (by omega) (n 4 (by omega))).trans b.d⟩
theorem Bs.wrote {h:Heap} {s:Txt} {hh hh':Heap} {k:Nat} {v:Value} (b:Bs h s hh) (hk:k≤2) (d:Did (h.size+k) hh hh' ((rd hh (h.size+k)).set 0 v)):Bs h s hh'∧rd hh' (h.size+k)=[v]:=by
 have hs:=b.size
 have hz:=d.size
 have lk:(rd hh (h.size+k)).length=1:=by
  have:k=0∨k=1∨k=2:=by omega
  rcases this with rfl|rfl|rfl
  ·exact b.l1
  ·exact b.l2
  ·exact b.l3
 have e:rd hh' (h.size+k)=[v]:=by
  rw [d.rd]
  match rd hh (h.size+k),lk with
  | [_],_=>rfl
 have len:∀ j,j≤2→(rd hh (h.size+j)).length=1→(rd hh' (h.size+j)).length=1:=fun j hj hl=>by
  by_cases hjk:j=k
  ·subst hjk; rw [e]; rfl
  ·rw [d.at_ (by omega) (by omega)]; exact hl
 exact ⟨⟨b.fr.did d fun x=>by omega,by omega,d.ow b.o1,len 0 (by omega) b.l1,d.ow b.o2,len 1 (by omega) b.l2,d.ow b.o3,len 2 (by omega) b.l3,(d.at_ (by omega) (by omega)).trans b.r4,(d.fr.same _ (by omega) (by omega)).trans b.d⟩,e⟩
structure Js (h:Heap) (s:Txt) (R:Loop) (pre:List Txt) (hh:Heap):Prop where
 b:Bs h s hh
 on:LoopOn hh (h.size+5) R .ready none
 fit:fits (noDot pre)=true
 l:∃ a c,rd hh (h.size+2)=[.slice a (noDot pre).length c]∧Sl hh 1 a (noDot pre).length c (strs (noDot pre)) (From (h.size+6))
theorem components_spec {s:Txt} {h:Heap} {K:Value→Heap→Prop} (hl:s.length≤9223372036854775806) (hN:compA s=none→∀ h',Fr No h h'→K (.tuple #[.slice none 0 0,.int .i64 130]) h')
  (hK:∀ cs,compA s=some cs→∀ a c h',Fr No h h'→Sl h' 1 a cs.length c (strs cs) (From h.size)→K (.tuple #[.slice a cs.length c,.int .i64 0]) h'):C.path_components (mkStr s) 1024 h K:=by
 refine path_components.ok (New.intro fun h2 n2=>New.intro fun h3 n3=>?_)
 have s2:=n2.size
 have s3:=n3.size
 rw [size_mk,s2]
 have o1:Own h3 h.size:=n3.ow n2.own
 have r1:rd h3 h.size=[.slice none 0 0]:=(n3.at_ (by omega)).trans n2.rd
 have o2:Own h3 (h.size+1):=by have:=n3.own; rw [s2] at this; exact this
 have r2:rd h3 (h.size+1)=[.int .i64 0]:=by have:=n3.rd; rw [s2] at this; exact this
 refine cd (fun hgt=>?_) fun hgt=>?_
 ·refine Put.intro o1 (by rw [r1]; exact Nat.one_pos) fun h4 d4=>Put.intro (d4.ow o2) (by rw [d4.at_ (by omega) (by omega),r2]; exact Nat.one_pos) fun h5 d5=>?_
  have e1:rd h5 h.size=[.slice none 0 0]:=by rw [d5.at_ (by have:=d4.size; omega) (by omega),d4.rd,r1]; rfl
  have e2:rd h5 (h.size+1)=[.int .i64 130]:=by rw [d5.rd,d4.at_ (by omega) (by omega),r2]; rfl
  refine ⟨_,_,_,rdc e1 rfl,_,rdc e2 rfl,hN (by rw [compA,if_neg (by omega)]) h5 (((n2.fr.new n3).did d4 fun x=>by omega).did d5 fun x=>by omega)⟩
 ·refine New.intro fun h6 n6=>path_pieces.ok (New.intro fun h7 n7=>⟨_,rfl,fun R rounds=>?_⟩)
  have s6:=n6.size
  have s7:=n7.size
  have e3:h3.size=h.size+2:=by omega
  have e6:h6.size=h.size+3:=by omega
  have e7:h7.size=h.size+4:=by omega
  rw [e7] at rounds ⊢
  rw [e3] at rounds ⊢
  rw [e6]
  have F7:Fr No h h7:=((n2.fr.new n3).new n6).new n7
  have q:∀ b,b<h3.size→rd h7 b=rd h3 b:=fun b hb=>(n7.at_ (by omega)).trans (n6.at_ hb)
  have Fb:=beginL_fr h7 R
  have on0:=beginL_on h7 R
  have d0:=beginL_d h7 R
  rw [e7] at on0 d0
  have r6:rd h7 (h.size+2)=[.slice none 0 0]:=by have:=n6.rd; rw [e3] at this; exact (n7.at_ (by omega)).trans this
  have o6:Own h7 (h.size+2):=by have:=n6.own; rw [e3] at this; exact n7.ow this
  have r7:rd h7 (h.size+3)=[.string (mkStr s)]:=by have:=n7.rd; rw [e6] at this; exact this
  have fb:∀ b,b<h7.size→rd (beginL h7 R) b=rd h7 b:=fun b hb=>Fb.rd hb fun x=>x
  have B0:Bs h s (beginL h7 R):=by
   refine ⟨F7.no Fb,by rw [beginL_size]; omega,Fb.own (by omega) (fun x=>x) (n7.ow (n6.ow o1)),?_,Fb.own (by omega) (fun x=>x) (n7.ow (n6.ow o2)),?_,Fb.own (by omega) (fun x=>x) o6,?_,?_,d0⟩
   ·rw [fb _ (by omega),q _ (by omega),r1]; rfl
   ·rw [fb _ (by omega),q _ (by omega),r2]; rfl
   ·rw [fb _ (by omega),r6]; rfl
   ·rw [fb _ (by omega)]; exact r7
  have J0:Js h s R [] (beginL h7 R):=⟨B0,on0,rfl,none,0,by rw [fb _ (by omega),r6]; rfl,Sl.nil _ _ _⟩
  show C.path_pieces_c1 (.func (.yield (h.size+4+1)) #[] #[]) (some ⟨h.size+3,0,none⟩) (beginL h7 R) _
  refine iter_spec (s:=s) hl (Js h s R) (fun pre hh J=>J.b.r4) (fun pre x rest hh J hp=>?_) J0 fun hh J=>?_
  · -- a round
   have B:=J.b
   have hs:=B.size
   refine rounds (mkStr x) hh _ J.on ⟨J.on,setL_intro (by omega) fun h9 t9=>?_⟩
   have z9:=t9.size
   have B9:=B.step t9.fr fun b e=>Or.inl e
   obtain ⟨a,c,r3,S3⟩:=J.l
   have r3':rd h9 (h.size+2)=[.slice a (noDot pre).length c]:=(t9.fr.rd (by omega) (by omega)).trans r3
   have S9:Sl h9 1 a (noDot pre).length c (strs (noDot pre)) (From (h.size+6)):=S3.fr t9.fr fun b _ hb e=>by have hb:h.size+6≤b:=hb; omega
   have hfit:=J.fit
   -- the round says that it is too much
   have stop:fits (noDot (pre++[x]))=false→∀ {K':Heap→Prop},(∀ h11,Bs h s h11→LoopOn h11 (h.size+5) R .busy none→rd h11 h.size=[.slice none 0 0]→rd h11 (h.size+1)=[.int .i64 130]→K' h11) →
     Put ⟨h.size,0,none⟩ (.slice none 0 0) h9 fun h10=>Put ⟨h.size+1,0,none⟩ (.int .i64 130) h10 K':=by
    intro _ K' hk
    refine Put.intro B9.o1 (by rw [B9.l1]; exact Nat.one_pos) fun h10 d10=>?_
    obtain ⟨B10,e10⟩:=B9.wrote (k:=0) (by omega) d10
    refine Put.intro B10.o2 (by rw [B10.l2]; exact Nat.one_pos) fun h11 d11=>?_
    obtain ⟨B11,e11⟩:=B10.wrote (k:=1) (by omega) d11
    exact hk h11 B11 (loopOn_fr (loopOn_fr t9.on d10.fr (by omega)) d11.fr (by omega)) ((d11.at_ (by have:=B10.size; omega) (by omega)).trans e10) e11
   -- the loop is left
   have leave:fits (noDot (pre++[x]))=false→∀ h11,Bs h s h11→LoopOn h11 (h.size+5) R .busy none→rd h11 h.size=[.slice none 0 0]→rd h11 (h.size+1)=[.int .i64 130] →
     SetL (setLoop h11 (h.size+5) R .done (some .ret)) (h.size+5) R .exhausted (some .ret) fun h22=>EndD (h.size+4) h22 fun h23 =>
      ∃ (resA3:Option Addr) (resL3:Nat) (resC3:Nat),cellOf h23 ⟨h.size,0,none⟩=some (.slice resA3 resL3 resC3) ∧
      ∃ (res3:Int),cellOf h23 ⟨h.size+1,0,none⟩=some (.int .i64 res3)∧K (.tuple #[.slice resA3 resL3 resC3,.int .i64 res3]) h23:=by
    intro hf h11 B11 on11 e1 e2
    have z11:=B11.size
    have t12:=turned (show h.size+5<h11.size by omega) R .done (some .ret)
    have z12:=t12.size
    have B12:=B11.step t12.fr fun b e=>Or.inl e
    refine setL_intro (by omega) fun h22 t22=>?_
    have z22:=t22.size
    have B22:=B12.step t22.fr fun b e=>Or.inl e
    refine endD_intro B22.d fun h23 z23 f23=>?_
    have e1':rd h23 h.size=[.slice none 0 0]:=(f23.rd (by omega) (by omega)).trans ((t22.fr.rd (by omega) (by omega)).trans ((t12.fr.rd (by omega) (by omega)).trans e1))
    have e2':rd h23 (h.size+1)=[.int .i64 130]:=(f23.rd (by omega) (by omega)).trans ((t22.fr.rd (by omega) (by omega)).trans ((t12.fr.rd (by omega) (by omega)).trans e2))
    refine ⟨_,_,_,rdc e1' rfl,_,rdc e2' rfl,hN ?_ h23 (B22.fr.trans f23 fun b hb e=>by omega)⟩
    have hc:comps s=noDot (pre++[x])++noDot rest:=by rw [comps,hp,noDot_split]
    rw [compA,hc,fits_false_append hf]
    split <;> rfl
   rw [toList_mkStr,toList_mkStr,size_mk]
   cases hx:(x == [46]) with
   | true =>
    rw [beq_iff_eq] at hx
    have t10:=turned (show h.size+5<h9.size by omega) R .ready none
    refine ⟨t9.on,.inl ⟨rfl,B9.step t10.fr fun b e=>Or.inl e,t10.on,?_,?_⟩⟩
    ·rw [noDot_append,if_pos hx]; exact hfit
    ·rw [noDot_append,if_pos hx]
     exact ⟨a,c,(t10.fr.rd (by omega) (by omega)).trans r3',S9.fr t10.fr fun b _ hb e=>by have hb:h.size+6≤b:=hb; omega⟩
   | false =>
    have hx':x≠[46]:=fun e=>by rw [e] at hx; cases hx
    refine cd (fun hg=>?_) fun hg=>?_
    ·have hf:fits (noDot (pre++[x]))=false:=by
      rw [noDot_append,if_neg hx',fits,List.all_append,List.all_cons,decide_eq_false (by omega)]; simp
     exact stop hf fun h11 B11 on11 e1 e2=>⟨on11,.inr ⟨rfl,.done,some .ret,setLoop_on (by have:=B11.size; omega) R _ _,by decide,leave hf h11 B11 on11 e1 e2⟩⟩
    ·refine ⟨_,_,_,rdc r3' rfl,ce (fun h32=>?_) fun h32=>?_⟩
     ·have hf:fits (noDot (pre++[x]))=false:=by
       rw [noDot_append,if_neg hx',fits,decide_eq_false (by rw [List.length_append,List.length_singleton]; omega),Bool.and_false]
      exact stop hf fun h11 B11 on11 e1 e2=>⟨on11,.inr ⟨rfl,.done,some .ret,setLoop_on (by have:=B11.size; omega) R _ _,by decide,leave hf h11 B11 on11 e1 e2⟩⟩
     ·have hle:(noDot pre).length≤32:=by
       rw [fits,Bool.and_eq_true,decide_eq_true_eq] at hfit; exact hfit.2
      refine ⟨_,_,_,rdc r3' rfl,New.intro fun h14 n14=>⟨strs [x],rfl,cellsAll n14.rd,by intro v hv; rw [List.mem_singleton.mp hv]; rfl,?_⟩⟩
      have z14:=n14.size
      have S14:=S9.fr n14.fr fun _ _ _ x=>x
      have B14:=B9.step n14.fr fun b e=>e.elim
      refine append_own S14 rfl rfl (by have b16:ti9.bytes≤16:=(by decide); have:=Nat.mul_le_mul (show (noDot pre).length+1≤40 from (by omega)) b16; exact Nat.le_trans this (by decide)) (by omega) fun a' c' h15 f15 S15=>?_
      have B15:=B14.step f15 fun b e=>Or.inr e
      have on15:=loopOn_fr (loopOn_fr t9.on n14.fr fun x=>x) f15 fun e=>by have e:h.size+6≤h.size+5:=e; omega
      refine Put.intro B15.o3 (by rw [B15.l3]; exact Nat.one_pos) fun h16 d16=>?_
      obtain ⟨B16,e16⟩:=B15.wrote (k:=2) (by omega) d16
      have z16:=B16.size
      have t17:=turned (show h.size+5<h16.size by omega) R .ready none
      have ed:noDot (pre++[x])=noDot pre++[x]:=by rw [noDot_append,if_neg hx']
      refine ⟨loopOn_fr on15 d16.fr (by omega),.inl ⟨rfl,B16.step t17.fr fun b e=>Or.inl e,t17.on,?_,a',c',?_,?_⟩⟩
      ·rw [ed,fits,List.all_append,List.all_cons,decide_eq_true (show x.length≤27 by omega),decide_eq_true (show (noDot pre++[x]).length≤32 by rw [List.length_append,List.length_singleton]; omega)]
       rw [fits,Bool.and_eq_true] at hfit
       rw [hfit.1]; rfl
      ·rw [ed,List.length_append,List.length_singleton]
       exact (t17.fr.rd (by omega) (by omega)).trans e16
      ·rw [ed,List.length_append,List.length_singleton]
       have S15:Sl h15 1 a' ((noDot pre).length+1) c' (strs (noDot pre++[x])) (fun b=>From (h.size+6) b∨h14.size≤b):=by
        rw [strs,List.map_append]; exact S15
       have S15':=S15.mono (G:=From (h.size+6)) fun b hb=>by
        rcases hb with hb|hb
        ·exact hb
        ·show h.size+6≤b; omega
       exact (S15'.fr d16.fr fun b _ hb e=>by have hb:h.size+6≤b:=hb; omega).fr t17.fr fun b _ hb e=>by have hb:h.size+6≤b:=hb; omega
  · -- all have come
   have B:=J.b
   have hs:=B.size
   obtain ⟨a,c,r3,S3⟩:=J.l
   refine ⟨.ready,none,J.on,by decide,?_⟩
   refine pend_none (setL_intro (by omega) fun h18 t18=>?_)
   have z18:=t18.size
   have B18:=B.step t18.fr fun b e=>Or.inl e
   have S18:Sl h18 1 a (comps s).length c (strs (comps s)) (From (h.size+6)):=S3.fr t18.fr fun b _ hb e=>by have hb:h.size+6≤b:=hb; omega
   refine ⟨_,_,_,rdc ((t18.fr.rd (by omega) (by omega)).trans r3) rfl,?_⟩
   refine Put.intro B18.o1 (by rw [B18.l1]; exact Nat.one_pos) fun h19 d19=>?_
   obtain ⟨B19,e19⟩:=B18.wrote (k:=0) (by omega) d19
   refine Put.intro B19.o2 (by rw [B19.l2]; exact Nat.one_pos) fun h20 d20=>?_
   obtain ⟨B20,e20⟩:=B19.wrote (k:=1) (by omega) d20
   have z19:=d19.size
   have z20:=d20.size
   refine endD_intro B20.d fun h21 z21 f21=>?_
   have e1:rd h21 h.size=[.slice a (comps s).length c]:=(f21.rd (by omega) (by omega)).trans ((d20.at_ (by omega) (by omega)).trans e19)
   have e2:rd h21 (h.size+1)=[.int .i64 0]:=(f21.rd (by omega) (by omega)).trans e20
   refine ⟨_,_,_,rdc e1 rfl,_,rdc e2 rfl,?_⟩
   have far:∀ b,b<h18.size→From (h.size+6) b→¬ b=h.size∧¬ b=h.size+1∧¬ b=h.size+4:=fun b _ hb=>by have hb:h.size+6≤b:=hb; omega
   refine hK (comps s) ?_ a c h21 (B20.fr.trans f21 fun b hb e=>by omega) ?_
   ·rw [compA,if_pos (by omega),if_pos (show fits (comps s)=true from J.fit)]
   ·exact (((S18.fr d19.fr fun b hb h e=>by have h:_≤b:=h; omega).fr d20.fr fun b hb h e=>by have h:_≤b:=h; omega).fr f21 fun b hb h e=>by have h:_≤b:=h; omega).mono fun b hb=>by have hb:h.size+6≤b:=hb; show h.size≤b; omega
def parseA (s:Txt) (isPath:Bool):List Txt×Int:=if wrongB s isPath=true then ([],1) else match compA s with|none=>([],130)|some cs=>(cs,0)
def Ls (h0 h:Heap) (ps:List Txt) (a:Option Addr) (l c:Nat):Prop:=l=ps.length∧Sl h 1 a l c (strs ps) (From h0.size)
theorem ls_nil (h0 h:Heap):Ls h0 h [] none 0 0:=⟨rfl,Sl.nil _ _ _⟩
theorem Parse_spec {s:Txt} {h:Heap} {K:Value→Heap→Prop} (hl:s.length≤9223372036854775806) (hK:∀ a l c h',Fr No h h'→Ls h h' (parseA s true).1 a l c→K (.tuple #[.slice a l c,.int .i64 (parseA s true).2]) h'):C.path_Parse (mkStr s) h K:=by
 refine path_Parse.ok (wrong_spec ⟨_,rfl,?_⟩)
 cases hw:wrongB s true with
 | true =>
  have e:parseA s true=([],1):=by rw [parseA,if_pos hw]
  rw [e] at hK
  exact hK none 0 0 h (Fr.refl _ _) (ls_nil _ _)
 | false =>
  refine components_spec hl (fun hc h' f=>?_) fun cs hc a c h' f S=>?_
  ·have e:parseA s true=([],130):=by rw [parseA,if_neg (by rw [hw]; simp),hc]
   rw [e] at hK
   exact ⟨_,_,_,_,rfl,hK none 0 0 h' f (ls_nil _ _)⟩
  ·have e:parseA s true=(cs,0):=by rw [parseA,if_neg (by rw [hw]; simp),hc]
   rw [e] at hK
   exact ⟨_,_,_,_,rfl,hK a _ c h' f ⟨rfl,S⟩⟩
theorem Text_spec {s:Txt} {h:Heap} {K:Value→Heap→Prop} (hl:s.length≤9223372036854775806) (hK:∀ a l c h',Fr No h h'→Ls h h' (parseA s false).1 a l c →
  K (.tuple #[.slice a l c,.bool (decide ((parseA s false).2=0) && s.head? == some 47),.int .i64 (parseA s false).2]) h'):C.path_Text (mkStr s) h K:=by
 refine path_Text.ok (wrong_spec ⟨_,rfl,?_⟩)
 cases hw:wrongB s false with
 | true =>
  have e:parseA s false=([],1):=by rw [parseA,if_pos hw]
  rw [e] at hK
  exact hK none 0 0 h (Fr.refl _ _) (ls_nil _ _)
 | false =>
  refine components_spec hl (fun hc h' f=>?_) fun cs hc a c h' f S=>?_
  ·have e:parseA s false=([],130):=by rw [parseA,if_neg (by rw [hw]; simp),hc]
   rw [e] at hK
   exact ⟨_,_,_,_,rfl,ct rfl (hK none 0 0 h' f (ls_nil _ _))⟩
  ·have e:parseA s false=(cs,0):=by rw [parseA,if_neg (by rw [hw]; simp),hc]
   rw [e] at hK
   cases s with
   | nil=>rw [show wrongB [] false=true from rfl] at hw; cases hw
   | cons b r =>
    refine ⟨_,_,_,_,rfl,cf rfl ⟨⟨by decide,by rw [size_mk]; show (0:Int)<((r.length+1:Nat):Int); omega⟩,b,by rw [toList_mkStr]; rfl,?_⟩⟩
    have e2:(((UInt8.toNat b:Nat):Int) == 47)=(decide ((cs,(0:Int)).2=0) && (b::r).head? == some 47):=by
     show _=(some b == some 47)
     rw [Bool.eq_iff_iff,beq_iff_eq,beq_iff_eq]
     constructor
     ·intro h; exact congrArg some (UInt8.toNat_inj.mp (show b.toNat=47 by omega))
     ·intro h; rw [Option.some.inj h]; rfl
    rw [e2]
    exact hK a _ c h' f ⟨rfl,S⟩
def isDots (p:Txt):Bool:=p == [46] || p == [46,46]
theorem does2_spec {ss:Txt} {h:Heap} {K:Value→Heap→Prop} (hK:∀ h' v,Fr No h h'→(ss=[46]→v = .func (.func 182) #[] #[])→(ss=[46,46]→v = .func (.func 183) #[] #[])→K (.tuple #[v,.bool (isDots ss)]) h'):C.path_does (mkStr ss) h K:=by
 refine path_does.ok ?_
 unfold path_does
 simp only [toList_mkStr]
 refine NewM.intro (d := .str) fun h2 f2 s2 m2=>⟨[],m2,fun h3 m3=>⟨_,m3.at_,fun h4 m4=>⟨_,m4.at_,_,rfl,?_⟩⟩⟩
 have f4:Fr No h h4:=(f2.trans (mapTo_fr m3) fun b hb e=>by omega).trans (mapTo_fr m4) fun b hb e=>by omega
 generalize hm:mget _ (MKey.s ss)=o
 have ho:o=(bif ss == [46] then some (.func (.func 182) #[] #[]) else bif ss == [46,46] then some (.func (.func 183) #[] #[]) else none):=hm.symm
 subst ho
 by_cases h1:ss=[46]
 ·subst h1
  exact hK h4 _ f4 (fun _=>rfl) fun e=>by cases e
 ·have e1:(ss == [46])=false:=beq_eq_false_iff_ne.mpr h1
  rw [e1]
  by_cases h2:ss=[46,46]
  ·subst h2
   exact hK h4 _ f4 (fun e=>by cases e) fun _=>rfl
  ·have e2:(ss == [46,46])=false:=beq_eq_false_iff_ne.mpr h2
   rw [e2]
   have:=hK h4 (Option.getD none (zeroV ti219)) f4 (fun e=>absurd e h1) fun e=>absurd e h2
   rw [isDots,e1,e2] at this
   exact this
end Go.Proofs.YtiapingedfnlnaaGreatDoor.Pa
namespace Go.Proofs.YtiapingedfnlnaaGreatDoor.Pa
open Go Go.Proofs Wx Hp W Sk Ch Rg
theorem sl_sub {h:Heap} {l c m:Nat} {a:Option Addr} {xs:List Value} {F:Nat→Prop} (s:Sl h 1 a l c xs F) (hm:m≤l) (d:Nat) (hd:m≤d) (hd':d≤c):Sl h 1 a m d (xs.take m) F:=by
 cases a with
 | none =>
  obtain ⟨h1,h2,h3⟩:=s
  have:m=0:=by omega
  have hd0:d=0:=by omega
  subst this
  subst hd0
  exact ⟨rfl,rfl,rfl⟩
 | some p =>
  obtain ⟨h1,a1,a2,a3,a4,a5,a6⟩:=s
  rw [Nat.mul_one] at h1
  refine ⟨by rw [List.length_take]; omega,a1,a2,a3,hd,?_,by rw [Nat.mul_one] at a6 ⊢; omega⟩
  rw [List.length_take,h1,Nat.min_eq_left hm]
  conv=>rhs; rw [← a5]
  rw [List.take_take,h1,Nat.min_eq_left hm]
theorem strs_take (ps:List Txt) (m:Nat):(strs ps).take m=strs (ps.take m):=by rw [strs,strs,List.map_take]
theorem strs_length (ps:List Txt):(strs ps).length=ps.length:=List.length_map ..
theorem strs_cell {h:Heap} {a:Option Addr} {ps:List Txt} (c:SlCells h a (strs ps)) {i:Nat} (hi:i<ps.length):∃ p,a=some p∧cellOf h (p.add i)=some (.string (mkStr ps[i])):=by
 cases a with
 | none=>have c:strs ps=[]:=c; have:=congrArg List.length c; rw [strs_length,List.length_nil] at this; omega
 | some p=>exact ⟨p,rfl,c i _ (by rw [strs,List.getElem?_map,List.getElem?_eq_getElem hi]; rfl)⟩
def lastP (s:Txt):Txt:=(pieces s).getLastD []
def makeA (s:Txt):List Txt×Txt×Int :=
 if wrongB s true=true then ([],[],1) else if isDots (lastP s)=true then ([],[],1) else match compA s with
  | none=>([],[],130)
  | some cs=>if cs=[] then ([],[],0) else (cs.dropLast,cs.getLastD [],0)
structure Ms (h:Heap) (s:Txt) (R:Loop) (pre:List Txt) (hh:Heap):Prop where
 fr:Fr No h hh
 size:h.size+4≤hh.size
 o1:Own hh h.size
 r1:rd hh h.size=[.string (mkStr (pre.getLastD []))]
 r2:rd hh (h.size+1)=[.string (mkStr s)]
 d:hh[h.size+2]?=some (.deferred (some []))
 on:LoopOn hh (h.size+3) R .ready none
theorem getLastD_append {α:Type} (xs:List α) (x d:α):(xs++[x]).getLastD d=x:=by simp
theorem Make_spec {s:Txt} {h:Heap} {K:Value→Heap→Prop} (hl:s.length≤9223372036854775806) (hK:∀ a l c h',Fr No h h'→Ls h h' (makeA s).1 a l c→K (.tuple #[.slice a l c,.string (mkStr (makeA s).2.1),.int .i64 (makeA s).2.2]) h'):C.path_Make (mkStr s) h K:=by
 refine path_Make.ok (wrong_spec ⟨_,rfl,?_⟩)
 cases hw:wrongB s true with
 | true =>
  have e:makeA s=([],[],1):=by rw [makeA,if_pos hw]
  rw [e] at hK
  exact hK none 0 0 h (Fr.refl _ _) (ls_nil _ _)
 | false =>
  have hw':¬ wrongB s true=true:=by rw [hw]; simp
  refine cf rfl (New.intro fun h3 n3=>?_)
  refine Put.intro n3.own (by rw [n3.rd]; exact Nat.one_pos) fun h4 d4=>?_
  refine path_pieces.ok (New.intro fun h5 n5=>⟨_,rfl,fun R rounds=>?_⟩)
  have s3:=n3.size
  have s4:=d4.size
  have s5:=n5.size
  have e4:h4.size=h.size+1:=by omega
  have e5:h5.size=h.size+2:=by omega
  rw [e5] at rounds ⊢
  rw [e4]
  have F5:Fr No h h5:=(n3.fr.did d4 fun x=>by omega).new n5
  have Fb:=beginL_fr h5 R
  have on0:=beginL_on h5 R
  have d0:=beginL_d h5 R
  rw [e5] at on0 d0
  have r5:rd h5 h.size=[.string (mkStr [])]:=(n5.at_ (by omega)).trans (by rw [d4.rd,n3.rd]; rfl)
  have r6:rd h5 (h.size+1)=[.string (mkStr s)]:=by have:=n5.rd; rw [e4] at this; exact this
  have J0:Ms h s R [] (beginL h5 R):=⟨F5.no Fb,by rw [beginL_size]; omega,Fb.own (by omega) (fun x=>x) (n5.ow d4.own),(Fb.rd (by omega) fun x=>x).trans r5,(Fb.rd (by omega) fun x=>x).trans r6,d0,on0⟩
  show C.path_pieces_c1 (.func (.yield (h.size+2+1)) #[] #[]) (some ⟨h.size+1,0,none⟩) (beginL h5 R) _
  refine iter_spec (s:=s) hl (Ms h s R) (fun pre hh J=>J.r2) (fun pre x rest hh J hp=>?_) J0 fun hh J=>?_
  ·have hs:=J.size
   refine rounds (mkStr x) hh _ J.on ⟨J.on,setL_intro (by omega) fun h7 t7=>?_⟩
   have z7:=t7.size
   have o7:=t7.fr.own J.o1.lt (by omega) J.o1
   have r7:=(t7.fr.rd J.o1.lt (by omega)).trans J.r1
   refine Put.intro o7 (by rw [r7]; exact Nat.one_pos) fun h8 d8=>?_
   have z8:=d8.size
   have t9:=turned (show h.size+3<h8.size by omega) R .ready none
   refine ⟨loopOn_fr t7.on d8.fr (by omega),.inl ⟨rfl,((J.fr.trans t7.fr fun b hb e=>by omega).did d8 fun x=>by omega).trans t9.fr fun b hb e=>by omega,Nat.le_trans (show h.size+4≤h8.size by omega) (Nat.le_of_eq t9.size.symm),t9.fr.own d8.own.lt (by omega) d8.own,?_,?_,?_,t9.on⟩⟩
   ·rw [t9.fr.rd d8.own.lt (by omega),d8.rd,r7,getLastD_append]; rfl
   ·exact (t9.fr.rd (by omega) (by omega)).trans ((d8.at_ (by omega) (by omega)).trans ((t7.fr.rd (by omega) (by omega)).trans J.r2))
   ·exact (t9.fr.same _ (by omega) (by omega)).trans ((d8.fr.same _ (by omega) (by omega)).trans ((t7.fr.same _ (by omega) (by omega)).trans J.d))
  ·have hs:=J.size
   refine ⟨.ready,none,J.on,by decide,pend_none (setL_intro (by omega) fun h10 t10=>?_)⟩
   have z10:=t10.size
   have F10:Fr No h h10:=J.fr.trans t10.fr fun b hb e=>by omega
   have d10:h10[h.size+2]?=some (.deferred (some [])):=(t10.fr.same _ (by omega) (by omega)).trans J.d
   refine ⟨_,rdc ((t10.fr.rd (by omega) (by omega)).trans J.r1) rfl,does2_spec fun h11 v f11 _ _=>⟨_,_,rfl,?_⟩⟩
   have z11:=f11.size
   have F11:=F10.no f11
   have d11:h11[h.size+2]?=some (.deferred (some [])):=(f11.same _ (by omega) fun x=>x).trans d10
   have el:isDots ((pieces s).getLastD [])=isDots (lastP s):=rfl
   rw [el]
   cases hd:isDots (lastP s) with
   | true =>
    have e:makeA s=([],[],1):=by rw [makeA,if_neg hw',if_pos hd]
    rw [e] at hK
    exact endD_intro d11 fun h12 z12 f12=>hK none 0 0 h12 (F11.trans f12 fun b hb e=>by omega) (ls_nil _ _)
   | false =>
    have hd':¬ isDots (lastP s)=true:=by rw [hd]; simp
    refine components_spec hl (fun hc h13 f13=>?_) fun cs hc a c h13 f13 S=>?_
    ·have e:makeA s=([],[],130):=by rw [makeA,if_neg hw',if_neg hd',hc]
     rw [e] at hK
     have d13:=(f13.same _ (by omega) fun x=>x).trans d11
     exact ⟨_,_,_,_,rfl,ct rfl (endD_intro d13 fun h14 z14 f14=>hK none 0 0 h14 ((F11.no f13).trans f14 fun b hb e=>by omega) (ls_nil _ _))⟩
    ·have d13:=(f13.same _ (by omega) fun x=>x).trans d11
     refine ⟨_,_,_,_,rfl,cf rfl (ce (fun h0=>?_) fun h0=>?_)⟩
     ·have h0:cs=[]:=List.eq_nil_of_length_eq_zero (by omega)
      have e:makeA s=([],[],0):=by rw [makeA,if_neg hw',if_neg hd',hc]; show (if cs=[] then _ else _)=_; rw [if_pos h0]
      rw [e] at hK
      exact endD_intro d13 fun h15 z15 f15=>hK none 0 0 h15 ((F11.no f13).trans f15 fun b hb e=>by omega) (ls_nil _ _)
     ·have h1:cs≠[]:=fun e=>by rw [e] at h0; exact h0 rfl
      have hpos:0<cs.length:=List.length_pos_iff.mpr h1
      have e:makeA s=(cs.dropLast,cs.getLastD [],0):=by rw [makeA,if_neg hw',if_neg hd',hc]; show (if cs=[] then _ else _)=_; rw [if_neg h1]
      rw [e] at hK
      unfold path_Make.k1
      have hcap:=S.le
      have hcs:cs.length≤32:=by
       have:fits cs=true:=by
        unfold compA at hc
        split at hc
        ·split at hc
         ·rename_i h; cases hc; exact h
         ·cases hc
        ·cases hc
       rw [fits,Bool.and_eq_true,decide_eq_true_eq] at this; exact this.2
      rw [wrap_i64 (n:=(cs.length:Int) - 1) (by omega) (by omega)]
      have et:((cs.length:Int) - 1).toNat=cs.length - 1:=by omega
      rw [et]
      obtain ⟨p,rfl,cl⟩:=strs_cell S.cells (i:=cs.length - 1) (by omega)
      refine ⟨⟨by omega,by omega,by omega⟩,⟨by omega,by omega⟩,os ⟨_,cl,endD_intro (by rw [e5]; exact d13) fun h16 z16 f16=>?_⟩⟩
      have eg:cs[cs.length - 1]'(by omega)=cs.getLastD []:=by
       rw [List.getLastD_eq_getLast?,List.getLast?_eq_getElem?,List.getElem?_eq_getElem (by omega)]; rfl
      rw [eg]
      refine hK (some p) (cs.length - 1) (cs.length - 1) h16 ((F11.no f13).trans f16 fun b hb e=>by omega) ⟨by rw [List.length_dropLast],?_⟩
      have S2:=sl_sub S (m:=cs.length - 1) (by omega) (cs.length - 1) (Nat.le_refl _) (by omega)
      rw [strs_take,← List.dropLast_eq_take] at S2
      exact (S2.fr f16 fun b hb h e=>by have h:h11.size≤b:=h; omega).mono fun b hb=>by have hb:h11.size≤b:=hb; show h.size≤b; omega
def okPart (p:Txt):Bool := !(p == []) && (!(p == [46]) && !(p.any isBad))
theorem parse_fits {s:Txt} {b:Bool}:(parseA s b).1.length≤32∧(∀ p ∈ (parseA s b).1,p≠[46]∧p.length≤27):=by
 unfold parseA
 split
 ·exact ⟨Nat.zero_le _,fun p hp=>by cases hp⟩
 ·split
  ·exact ⟨Nat.zero_le _,fun p hp=>by cases hp⟩
  ·rename_i cs hc
   unfold compA at hc
   split at hc
   ·split at hc
    ·rename_i hf
     cases hc
     rw [fits,Bool.and_eq_true,decide_eq_true_eq,List.all_eq_true] at hf
     refine ⟨hf.2,fun p hp=>⟨fun e=>?_,by simpa using hf.1 p hp⟩⟩
     have hp:p ∈ (pieces s).filter fun p => !(p == [46]):=hp
     have:=(List.mem_filter.mp hp).2
     rw [e] at this; cases this
    ·cases hc
   ·cases hc
end Go.Proofs.YtiapingedfnlnaaGreatDoor.Pa
namespace Go.Proofs.YtiapingedfnlnaaGreatDoor.Wl
open Go Go.Proofs Wx Hp Ad Tm Spc Re
open Ino (getM)
open Fi (readM readGo toP getM_may)
open Pa (parseA makeA parse_fits)
open Di (findD)
structure St where
 chain:List Int
 left:List Tm.Txt
 fol:Nat
structure Pl where
 chain:List Int
 name:Tm.Txt
 ino:Int
def noPl : Pl:=⟨[],[],0⟩
def here (c:List Int):Int:=c.getLastD 0
def upC (c:List Int):List Int:=if 1<c.length then c.dropLast else c
def more (beh:Bool) (l:List Tm.Txt):Bool:=beh || decide (0<l.length)
section
variable (T : TM) (g : G) (fl beh : Bool)
def linkM (s:St) (n:Int):Bool×Int×St :=
 if more beh s.left=false∧fl=false then (true,0,s) else if s.fol=8 then (false,162,s) else if (readM T g n 0 1024).2≠0 then (false,(readM T g n 0 1024).2,s) else
 if (parseA (readM T g n 0 1024).1 false).2≠0 then (false,(parseA (readM T g n 0 1024).1 false).2,s) else
  (false,0,⟨if (readM T g n 0 1024).1.head?=some 47 then [1] else s.chain,(parseA (readM T g n 0 1024).1 false).1++s.left,s.fol+1⟩)
def metM (s:St) (kind n:Int):Bool×Int×St :=
 if kind=2 then (if more beh s.left=false then (true,0,s) else (false,0,⟨s.chain++[n],s.left,s.fol⟩)) else if kind=3 then linkM T g fl beh s n else
  if more beh s.left=true then (false,161,s) else (true,0,s)
def endGo : Nat→St→Pl×Int
 | 0,_=>(noPl,0)
 | m+1,s=>match s.left with
  | []=>(⟨s.chain,[],here s.chain⟩,0)
  | c::r=>if c=[46,46] then endGo m ⟨upC s.chain,r,s.fol⟩ else
   if (findD T g (here s.chain) c).2≠0 then (noPl,(findD T g (here s.chain) c).2) else
   if (getM T g (findD T g (here s.chain) c).1).2≠0 then (noPl,(getM T g (findD T g (here s.chain) c).1).2) else
   if (metM T g fl beh ⟨s.chain,r,s.fol⟩ ((getM T g (findD T g (here s.chain) c).1).1.getD 0 0) (findD T g (here s.chain) c).1).2.1≠0 then
    (noPl,(metM T g fl beh ⟨s.chain,r,s.fol⟩ ((getM T g (findD T g (here s.chain) c).1).1.getD 0 0) (findD T g (here s.chain) c).1).2.1) else
   if (metM T g fl beh ⟨s.chain,r,s.fol⟩ ((getM T g (findD T g (here s.chain) c).1).1.getD 0 0) (findD T g (here s.chain) c).1).1=true then (⟨s.chain,c,(findD T g (here s.chain) c).1⟩,0) else
    endGo m (metM T g fl beh ⟨s.chain,r,s.fol⟩ ((getM T g (findD T g (here s.chain) c).1).1.getD 0 0) (findD T g (here s.chain) c).1).2.2
def mu (s:St):Nat:=33*(8 - s.fol)+s.left.length
def endM (s:St):Pl×Int:=endGo T g fl beh (mu s+1) s
end
section
variable {T : TM} {g : G} {fl beh : Bool} {s : St} {kind n : Int}
structure Ok (s:St):Prop where
 ne:s.chain≠[]
 fol:s.fol≤8
theorem Ok.up (o:Ok s) {r:List Tm.Txt}:Ok ⟨upC s.chain,r,s.fol⟩:=⟨by
 show upC s.chain≠[]
 unfold upC
 split
 ·intro y
  have:=congrArg List.length y
  rw [List.length_dropLast,List.length_nil] at this
  omega
 ·exact o.ne,o.fol⟩
theorem met_ok (o:Ok s) (e:(metM T g fl beh s kind n).2.1=0) (h:(metM T g fl beh s kind n).1=false):Ok (metM T g fl beh s kind n).2.2∧mu (metM T g fl beh s kind n).2.2≤mu s:=by
 unfold metM at e h ⊢
 by_cases k2:kind=2
 ·rw [if_pos k2] at e h ⊢
  by_cases m:more beh s.left=false
  ·rw [if_pos m] at h; cases h
  ·rw [if_neg m]
   exact ⟨⟨by simp,o.fol⟩,Nat.le_refl _⟩
 ·rw [if_neg k2] at e h ⊢
  by_cases k3:kind=3
  ·rw [if_pos k3] at e h ⊢
   unfold linkM at e h ⊢
   by_cases c1:more beh s.left=false∧fl=false
   ·rw [if_pos c1] at h; cases h
   ·rw [if_neg c1] at e h ⊢
    by_cases c2:s.fol=8
    ·rw [if_pos c2] at e; exact absurd (show (162:Int)=0 from e) (by decide)
    ·rw [if_neg c2] at e h ⊢
     by_cases c3:(readM T g n 0 1024).2≠0
     ·rw [if_pos c3] at e; exact absurd e c3
     ·rw [if_neg c3] at e h ⊢
      by_cases c4:(parseA (readM T g n 0 1024).1 false).2≠0
      ·rw [if_pos c4] at e; exact absurd e c4
      ·rw [if_neg c4]
       have:=o.fol
       refine ⟨⟨?_,by show s.fol+1≤8; omega⟩,?_⟩
       ·show (if (readM T g n 0 1024).1.head?=some 47 then [1] else s.chain)≠[]
        split
        ·simp
        ·exact o.ne
       ·have:=(parse_fits (s:=(readM T g n 0 1024).1) (b:=false)).1
        show 33*(8 - (s.fol+1))+((parseA (readM T g n 0 1024).1 false).1++s.left).length≤33*(8 - s.fol)+s.left.length
        rw [List.length_append]
        omega
  ·rw [if_neg k3] at e h ⊢
   by_cases m:more beh s.left=true
   ·rw [if_pos m] at e; exact absurd (show (161:Int)=0 from e) (by decide)
   ·rw [if_neg m] at h; cases h
theorem end_fuel : ∀ (m m':Nat) (s:St),Ok s→mu s<m→mu s<m'→endGo T g fl beh m s=endGo T g fl beh m' s
 | 0,_,_,_,h,_=>absurd h (Nat.not_lt_zero _)
 | _,0,_,_,_,h=>absurd h (Nat.not_lt_zero _)
 | m+1,m'+1,s,o,h1,h2=>by
  unfold endGo
  cases hl:s.left with
  | nil=>rfl
  | cons c r =>
   have e:∀ x:List Int,mu ⟨x,r,s.fol⟩+1=mu s:=fun x=>by
    unfold mu; rw [hl,List.length_cons]; show 33*(8 - s.fol)+r.length+1=_; omega
   have e0:=e s.chain
   dsimp only
   split
   ·have:=e (upC s.chain)
    exact end_fuel m m' _ o.up (by omega) (by omega)
   ·split
    ·rfl
    ·split
     ·rfl
     ·split
      ·rfl
      ·rename_i hq
       split
       ·rfl
       ·rename_i hb
        have q:=met_ok (T:=T) (g:=g) (fl:=fl) (beh:=beh) (s:=⟨s.chain,r,s.fol⟩) (kind:=(getM T g (findD T g (here s.chain) c).1).1.getD 0 0) (n:=(findD T g (here s.chain) c).1) ⟨o.ne,o.fol⟩ (Classical.byContradiction hq) (by simpa using hb)
        exact end_fuel m m' _ q.1 (by omega) (by omega)
theorem end_step {c:Tm.Txt} {r:List Tm.Txt} (o:Ok s) (hl:s.left=c::r):endM T g fl beh s=if c=[46,46] then endM T g fl beh ⟨upC s.chain,r,s.fol⟩ else
   if (findD T g (here s.chain) c).2≠0 then (noPl,(findD T g (here s.chain) c).2) else
   if (getM T g (findD T g (here s.chain) c).1).2≠0 then (noPl,(getM T g (findD T g (here s.chain) c).1).2) else
   if (metM T g fl beh ⟨s.chain,r,s.fol⟩ ((getM T g (findD T g (here s.chain) c).1).1.getD 0 0) (findD T g (here s.chain) c).1).2.1≠0 then
    (noPl,(metM T g fl beh ⟨s.chain,r,s.fol⟩ ((getM T g (findD T g (here s.chain) c).1).1.getD 0 0) (findD T g (here s.chain) c).1).2.1) else
   if (metM T g fl beh ⟨s.chain,r,s.fol⟩ ((getM T g (findD T g (here s.chain) c).1).1.getD 0 0) (findD T g (here s.chain) c).1).1=true then (⟨s.chain,c,(findD T g (here s.chain) c).1⟩,0) else
    endM T g fl beh (metM T g fl beh ⟨s.chain,r,s.fol⟩ ((getM T g (findD T g (here s.chain) c).1).1.getD 0 0) (findD T g (here s.chain) c).1).2.2:=by
 have e:∀ x:List Int,mu ⟨x,r,s.fol⟩+1=mu s:=fun x=>by
  unfold mu; rw [hl,List.length_cons]; show 33*(8 - s.fol)+r.length+1=_; omega
 have e0:=e s.chain
 conv=>lhs; unfold endM endGo
 rw [hl]
 dsimp only
 by_cases c1:c=[46,46]
 ·rw [if_pos c1,if_pos c1]
  have:=e (upC s.chain)
  exact end_fuel _ _ _ o.up (by omega) (Nat.lt_succ_self _)
 ·rw [if_neg c1,if_neg c1]
  by_cases c2:(findD T g (here s.chain) c).2≠0
  ·rw [if_pos c2,if_pos c2]
  ·rw [if_neg c2,if_neg c2]
   by_cases c3:(getM T g (findD T g (here s.chain) c).1).2≠0
   ·rw [if_pos c3,if_pos c3]
   ·rw [if_neg c3,if_neg c3]
    by_cases c4:(metM T g fl beh ⟨s.chain,r,s.fol⟩ ((getM T g (findD T g (here s.chain) c).1).1.getD 0 0) (findD T g (here s.chain) c).1).2.1≠0
    ·rw [if_pos c4,if_pos c4]
    ·rw [if_neg c4,if_neg c4]
     by_cases c5:(metM T g fl beh ⟨s.chain,r,s.fol⟩ ((getM T g (findD T g (here s.chain) c).1).1.getD 0 0) (findD T g (here s.chain) c).1).1=true
     ·rw [if_pos c5,if_pos c5]
     ·rw [if_neg c5,if_neg c5]
      have q:=met_ok (T:=T) (g:=g) (fl:=fl) (beh:=beh) (s:=⟨s.chain,r,s.fol⟩) (kind:=(getM T g (findD T g (here s.chain) c).1).1.getD 0 0) (n:=(findD T g (here s.chain) c).1) ⟨o.ne,o.fol⟩ (Classical.byContradiction c4) (by simpa using c5)
      exact end_fuel _ _ _ q.1 (by omega) (Nat.lt_succ_self _)
theorem end_nil (hl:s.left=[]):endM T g fl beh s=(⟨s.chain,[],here s.chain⟩,0):=by
 unfold endM endGo; rw [hl]
end
def toM (T:TM) (g:G) (s:Tm.Txt) (fl:Bool):Pl×Int:=if (parseA s true).2≠0 then (noPl,(parseA s true).2) else endM T g fl false ⟨[1],(parseA s true).1,0⟩
def makeW (T:TM) (g:G) (s:Tm.Txt):Pl×Int:=if (makeA s).2.2≠0 then (noPl,(makeA s).2.2) else if (makeA s).2.1=[] then (⟨[1],[],1⟩,0) else
 if (endM T g false true ⟨[1],(makeA s).1,0⟩).2≠0 then (noPl,(endM T g false true ⟨[1],(makeA s).1,0⟩).2) else
 if (findD T g (here (endM T g false true ⟨[1],(makeA s).1,0⟩).1.chain) (makeA s).2.1).2≠0∧(findD T g (here (endM T g false true ⟨[1],(makeA s).1,0⟩).1.chain) (makeA s).2.1).2≠160 then
  (noPl,(findD T g (here (endM T g false true ⟨[1],(makeA s).1,0⟩).1.chain) (makeA s).2.1).2) else
 (⟨(endM T g false true ⟨[1],(makeA s).1,0⟩).1.chain,(makeA s).2.1,(findD T g (here (endM T g false true ⟨[1],(makeA s).1,0⟩).1.chain) (makeA s).2.1).1⟩,0)
theorem readGo_len (T:TM) (g:G) (R:List Int) (off n:Nat):∀ k a s,(readGo T g R off n k a s).1.length≤s.length+512*k
 | 0,_,s=>Nat.le_add_right _ _
 | k+1,a,s=>by
  unfold readGo
  split
  ·exact Nat.le_add_right _ _
  ·split
   ·exact Nat.zero_le _
   ·refine Nat.le_trans (readGo_len T g R off n k _ _) ?_
    rw [List.length_append,List.length_take]
    have:toP off n a≤512:=by unfold toP; omega
    omega
theorem readM_len (T:TM) (g:G) (i:Int):(readM T g i 0 1024).1.length≤524288:=by
 unfold readM
 split
 ·exact Nat.zero_le _
 ·split
  ·exact Nat.zero_le _
  ·split
   ·exact Nat.zero_le _
   ·refine Nat.le_trans (readGo_len T g _ _ _ _ _ _) ?_
    rw [List.length_nil]
    omega
end Go.Proofs.YtiapingedfnlnaaGreatDoor.Wl
namespace Go.Proofs.YtiapingedfnlnaaGreatDoor.Wl
open Go Go.Proofs Wx Hp W Ad Tm Spc Re Av Ss
open Hd (ints)
open In (ints_length ints_one)
open Ino (getM Cok getM_length)
open Fi (readM cok getM_may)
open Pa (parseA makeA parse_fits Ls)
open Di (findD rdaa putaa)
theorem strs_one (l:List Tm.Txt):∀ v ∈ Ch.strs l,v.oneCell'=true:=fun v hv=>by
 obtain ⟨p,_,rfl⟩:=List.mem_map.mp hv; rfl
theorem CloneV_spec {a:Option Addr} {l c:Nat} {xs:List Value} {h:Heap} {K:Value→Heap→Prop} (hx:xs.length=l) (B:SlCells h a xs) (h1:∀ v ∈ xs,v.oneCell'=true) (hl:l≤100000000)
  (hK:∀ a' c' h',Fr No h h'→Sl h' 1 a' l c' xs (From h.size)→K (.slice a' l c') h'):C.slices_Clone_int_int a l c h K:=by
 refine slices_Clone_int_int.ok (cs (fun e=>?_) fun _=>New.intro fun h2 n2=>?_)
 ·cases a with
  | none =>
   have B:xs=[]:=B
   subst B
   have:l=0:=hx.symm
   subst this
   exact hK none 0 h (Fr.refl _ _) (Sl.nil _ _ _)
  | some p=>simp at e
 ·refine ⟨xs,by rw [hx,Nat.mul_one],SlCells.fr n2.fr B (fun _ _ x=>x),h1,?_⟩
  refine append_own (elem:=ti3) (xs:=[]) (F:=From h.size) (Sl.made n2 rfl (Nat.le_refl _) rfl (Nat.le_refl _) rfl) (by rw [hx]; exact (Nat.mul_one _).symm) rfl (by show (0+l)*8≤_; omega) (by omega) fun a' c' h' f s=>?_
  rw [Nat.zero_add,List.nil_append] at s
  rw [Nat.zero_add]
  have:=n2.size
  exact hK a' c' h' (n2.fr.trans f fun b hb e=>by have:h.size≤b:=e; omega) (s.mono fun b hb=>by rcases hb with hb|hb; exact hb; show h.size≤b; omega)
theorem CloneS_spec {a:Option Addr} {l c:Nat} {xs:List Value} {h:Heap} {K:Value→Heap→Prop} (hx:xs.length=l) (B:SlCells h a xs) (h1:∀ v ∈ xs,v.oneCell'=true) (hl:l≤100000000)
  (hK:∀ a' c' h',Fr No h h'→Sl h' 1 a' l c' xs (From h.size)→K (.slice a' l c') h'):C.slices_Clone_string_string a l c h K:=by
 refine slices_Clone_string_string.ok (cs (fun e=>?_) fun _=>New.intro fun h2 n2=>?_)
 ·cases a with
  | none =>
   have B:xs=[]:=B
   subst B
   have:l=0:=hx.symm
   subst this
   exact hK none 0 h (Fr.refl _ _) (Sl.nil _ _ _)
  | some p=>simp at e
 ·refine ⟨xs,by rw [hx,Nat.mul_one],SlCells.fr n2.fr B (fun _ _ x=>x),h1,?_⟩
  refine append_own (elem:=ti9) (xs:=[]) (F:=From h.size) (Sl.made n2 rfl (Nat.le_refl _) rfl (Nat.le_refl _) rfl) (by rw [hx]; exact (Nat.mul_one _).symm) rfl (by show (0+l)*16≤_; omega) (by omega) fun a' c' h' f s=>?_
  rw [Nat.zero_add,List.nil_append] at s
  rw [Nat.zero_add]
  have:=n2.size
  exact hK a' c' h' (n2.fr.trans f fun b hb e=>by have:h.size≤b:=e; omega) (s.mono fun b hb=>by rcases hb with hb|hb; exact hb; show h.size≤b; omega)
def wV (ia:Option Addr) (il ic:Nat) (t:Option Addr) (g:G) (la:Option Addr) (ll lc:Nat) (fol:Nat) (fl beh:Bool):List Value:=[.slice ia il ic]++([.pointer t]++(g.v++[.slice la ll lc,.int .i64 (fol:Nat),.bool fl,.bool beh]))
structure Sls where
 cb:Nat
 co:Nat
 ic:Nat
 la:Option Addr
 lc:Nat
structure Ws (h0 hh:Heap) (wb:Nat) (t:Option Addr) (g:G) (s:St) (fl beh:Bool) (z:Sls):Prop where
 fr:Fr No h0 hh
 own:Own hh wb
 lo:h0.size≤wb
 r:rd hh wb=wV (some ⟨z.cb,z.co,none⟩) s.chain.length z.ic t g z.la s.left.length z.lc s.fol fl beh
 ch:Sl hh 1 (some ⟨z.cb,z.co,none⟩) s.chain.length z.ic (ints s.chain) (fun b=>b=z.cb)
 lf:SlCells hh z.la (Ch.strs s.left)
 cap:s.left.length≤z.lc
 far:∀ p,z.la=some p→h0.size≤p.block∧p.block<hh.size∧p.block≠wb∧p.block≠z.cb
 clo:h0.size≤z.cb
 cne:z.cb≠wb
section
variable {h0 hh h' : Heap} {wb : Nat} {t d : Option Addr} {g : G} {s : St} {fl beh : Bool} {z z' : Sls} {K : Value → Heap → Prop} {n kind : Int} {F : Nat → Prop} {T : TM}
theorem Ws.lt (w:Ws h0 hh wb t g s fl beh z):wb<hh.size:=w.own.lt
theorem Ws.clt (w:Ws h0 hh wb t g s fl beh z):z.cb<hh.size:=w.ch.2.2.2.1.lt
theorem Ws.no (w:Ws h0 hh wb t g s fl beh z) (f:Fr No hh h'):Ws h0 h' wb t g s fl beh z :=
 ⟨w.fr.no f,f.own w.lt (fun y=>y) w.own,w.lo,(f.rd w.lt fun y=>y).trans w.r,Sl.fr f w.ch fun _ _ _ y=>y,SlCells.fr f w.lf fun _ _ y=>y,w.cap,fun p hp=>by
  obtain ⟨a,b,c,e⟩:=w.far p hp
  have:=f.size
  exact ⟨a,by omega,c,e⟩,w.clo,w.cne⟩
theorem Ws.frm (w:Ws h0 hh wb t g s fl beh z) {G:Nat→Prop} (f:Fr G hh h') (h1:¬ G wb) (h2:¬ G z.cb) (h3:∀ p,z.la=some p→¬ G p.block) (h4:∀ b,b<h0.size→¬ G b):Ws h0 h' wb t g s fl beh z :=
 ⟨w.fr.trans f fun b hb y=>absurd y (h4 b hb),f.own w.lt h1 w.own,w.lo,(f.rd w.lt h1).trans w.r,Sl.fr f w.ch fun b _ hb y=>h2 (hb▸y),SlCells.fr f w.lf h3,w.cap,fun p hp=>by
  obtain ⟨a,b,c,e⟩:=w.far p hp
  have:=f.size
  exact ⟨a,by omega,c,e⟩,w.clo,w.cne⟩
theorem Ws.did (w:Ws h0 hh wb t g s fl beh z) {cs:List Value} (d:Did wb hh h' cs) {s':St} {fl' beh':Bool} {z':Sls} (e:cs=wV (some ⟨z'.cb,z'.co,none⟩) s'.chain.length z'.ic t g z'.la s'.left.length z'.lc s'.fol fl' beh')
  (ch:Sl hh 1 (some ⟨z'.cb,z'.co,none⟩) s'.chain.length z'.ic (ints s'.chain) (fun b=>b=z'.cb)) (lf:SlCells hh z'.la (Ch.strs s'.left)) (cap:s'.left.length≤z'.lc)
  (far:∀ p,z'.la=some p→h0.size≤p.block∧p.block<hh.size∧p.block≠wb∧p.block≠z'.cb) (clo:h0.size≤z'.cb) (cne:z'.cb≠wb):Ws h0 h' wb t g s' fl' beh' z' :=
 ⟨w.fr.did d fun hl=>by have:=w.lo; omega,d.own,w.lo,d.rd.trans e,Sl.fr d.fr ch fun b _ hb e=>cne (by rw [← hb]; exact e),SlCells.fr d.fr lf fun p hp e=>(far p hp).2.2.1 e,cap,fun p hp=>by
  obtain ⟨a,b,c,e⟩:=far p hp
  have:=d.size
  exact ⟨a,by omega,c,e⟩,clo,cne⟩
structure Stp (hh h':Heap) (wb:Nat) (z z':Sls):Prop where
 fr:Fr (fun b=>b=wb∨b=z.cb) hh h'
 cb:z'.cb=z.cb∨hh.size≤z'.cb
 la:∀ p,z'.la=some p→(∃ q,z.la=some q∧p.block=q.block)∨hh.size≤p.block
theorem Stp.no (f:Fr No hh h'):Stp hh h' wb z z:=⟨f.mono fun _ _ y=>y.elim,.inl rfl,fun p hp => .inl ⟨p,hp,rfl⟩⟩
theorem Stp.trans {h2:Heap} {z1 z2:Sls} (a:Stp hh h' wb z z1) (b:Stp h' h2 wb z1 z2):Stp hh h2 wb z z2:=by
 have:=a.fr.size
 refine ⟨a.fr.trans b.fr fun x hx y=>?_,?_,fun p hp=>?_⟩
 ·rcases y with y|y
  ·exact .inl y
  ·rcases a.cb with e|e
   ·exact .inr (y.trans e)
   ·omega
 ·rcases b.cb with e|e
  ·rcases a.cb with e'|e'
   ·exact .inl (e.trans e')
   ·exact .inr (by omega)
  ·exact .inr (by omega)
 ·rcases b.la p hp with ⟨q,hq,e⟩|e
  ·rcases a.la q hq with ⟨q',hq',e'⟩|e'
   ·exact .inl ⟨q',hq',e.trans e'⟩
   ·exact .inr (by omega)
  ·exact .inr (by omega)
theorem Stp.rd (a:Stp hh h' wb z z') {b:Nat} (hb:b<hh.size) (h1:b≠wb) (h2:b≠z.cb):rd h' b=rd hh b∧(Own hh b→Own h' b)∧b≠z'.cb∧b<h'.size:=by
 have:=a.fr.size
 refine ⟨a.fr.rd hb fun y=>by rcases y with y|y <;> contradiction,a.fr.own hb fun y=>by rcases y with y|y <;> contradiction,?_,by omega⟩
 rcases a.cb with e|e
 ·rw [e]; exact h2
 ·omega
theorem more_spec (w:Ws h0 hh wb t g s fl beh z) (hK:K (.bool (more beh s.left)) hh):C.walk_walk_more (some ⟨wb,0,none⟩) hh K:=by
 refine walk_walk_more.ok (os ⟨beh,rda w.r rfl,cs (fun e=>?_) fun e=>os ⟨_,_,_,rda w.r rfl,?_⟩⟩)
 ·subst e; exact hK
 ·subst e
  have:more false s.left=decide ((s.left.length:Int)>0):=by
   unfold more
   rw [Bool.false_or]
   exact decide_eq_decide.mpr (by omega)
  rw [← this]; exact hK
theorem here_spec (w:Ws h0 hh wb t g s fl beh z) (hne:s.chain≠[]) (hl:s.chain.length≤1000) (hK:K (.int .i64 (here s.chain)) hh):C.walk_row_here (some ⟨wb,0,none⟩) hh K:=by
 have hp:0<s.chain.length:=List.length_pos_iff.mpr hne
 refine walk_row_here.ok (os ⟨_,_,_,rda w.r rfl,os ⟨_,_,_,rda w.r rfl,?_⟩⟩)
 rw [wrap_i64 (show -9223372036854775808≤(s.chain.length:Int) - 1 by omega) (by omega)]
 refine ⟨⟨by omega,by omega⟩,os ⟨here s.chain,?_,hK⟩⟩
 have e:((s.chain.length:Int) - 1).toNat=s.chain.length - 1:=by omega
 rw [e]
 have c:=w.ch.cells
 have c:Cells hh ⟨z.cb,z.co,none⟩ (ints s.chain):=c
 refine c (s.chain.length - 1) _ ?_
 unfold ints here
 rw [List.getElem?_map,← List.getLast?_eq_getElem?,List.getLastD_eq_getLast?]
 cases hq:s.chain.getLast? with
 | none=>exact absurd (List.getLast?_eq_none_iff.mp hq) hne
 | some v=>rfl
theorem down_spec (w:Ws h0 hh wb t g s fl beh z) (hl:s.chain.length≤1000) (hK:∀ h' z',Stp hh h' wb z z'→Ws h0 h' wb t g ⟨s.chain++[n],s.left,s.fol⟩ fl beh z'→K (.tuple #[]) h'):C.walk_row_down (some ⟨wb,0,none⟩) n hh K:=by
 refine walk_row_down.ok (os ⟨_,_,_,rda w.r rfl,New.intro fun h2 n2=>⟨[.int .i64 n],rfl,cellsAll n2.rd,fun v hv=>by rw [List.mem_singleton.mp hv]; rfl,?_⟩⟩)
 have w2:=w.no n2.fr
 refine append_own (elem:=ti3) w2.ch rfl rfl (by show (s.chain.length+1)*8≤_; omega) (by omega) fun a' c' h3 f3 s3=>os ?_
 have clt:=w2.clt
 have wlt:=w2.lt
 have cne:=w2.cne
 have z2:=n2.size
 have z3:=f3.size
 have lo:=w2.lo
 have clo:=w2.clo
 have r3:rd h3 wb=_:=(f3.rd wlt fun y=>cne y.symm).trans w2.r
 have o3:Own h3 wb:=f3.own wlt (fun y=>cne y.symm) w2.own
 have F3:Fr No h0 h3:=w2.fr.trans f3 fun b hb y=>by have y:b=z.cb:=y; omega
 refine Put.add o3 (by rw [r3]; exact Nat.succ_pos _) fun h4 d4=>?_
 cases a' with
 | none =>
  have:=s3.2.1
  omega
 | some p =>
  obtain ⟨cb',co',sp⟩:=p
  have sp0:sp=none:=s3.2.1
  subst sp0
  have lt':cb'<h3.size:=s3.2.2.2.1.lt
  have hb:cb'=z.cb∨h2.size≤cb':=s3.2.2.1
  have far3:∀ p,z.la=some p→h0.size≤p.block∧p.block<h3.size∧p.block≠wb∧p.block≠cb':=fun p hp=>by
   obtain ⟨a,b,c,e⟩:=w2.far p hp
   exact ⟨a,by omega,c,fun y=>by rcases hb with hb|hb <;> omega⟩
  have lf3:SlCells h3 z.la (Ch.strs s.left):=SlCells.fr f3 w2.lf fun p hp y=>(w2.far p hp).2.2.2 y
  have chain3:Sl h3 1 (some ⟨cb',co',none⟩) (s.chain++[n]).length c' (ints (s.chain++[n])) (fun b=>b=cb'):=by
   rw [List.length_append,show ints (s.chain++[n])=ints s.chain++[.int .i64 n] from List.map_append]
   obtain ⟨q1,q2,q3,q4⟩:=s3
   exact ⟨q1,q2,rfl,q4⟩
  refine hK h4 ⟨cb',co',c',z.la,z.lc⟩ ⟨(((n2.fr.mono fun _ _ y=>y.elim).trans f3 fun b _ y => .inr y).trans d4.fr fun b _ y => .inl y),by show cb'=z.cb∨hh.size≤cb'; omega,fun p hp => .inl ⟨p,hp,rfl⟩⟩ ⟨F3.did d4 fun hl=>by omega,d4.own,lo,?_,?_,?_,w2.cap,?_,by show h0.size≤cb'; rcases hb with hb|hb <;> omega,by show cb'≠wb; rcases hb with hb|hb <;> omega⟩
  ·rw [d4.rd,r3]
   show _=wV (some ⟨cb',co',none⟩) (s.chain++[n]).length c' t g z.la s.left.length z.lc s.fol fl beh
   rw [List.length_append]; rfl
  ·exact Sl.fr d4.fr chain3 fun b _ hb' e=>by have hb':b=cb':=hb'; have e:b=wb:=e; rcases hb with hb|hb <;> omega
  ·exact SlCells.fr d4.fr lf3 fun p hp e=>(far3 p hp).2.2.1 e
  ·intro p hp
   obtain ⟨a,b,c,e⟩:=far3 p hp
   have:=d4.size
   exact ⟨a,by omega,c,e⟩
theorem top_spec (w:Ws h0 hh wb t g s fl beh z) (hK:∀ h' z',Stp hh h' wb z z'→Ws h0 h' wb t g ⟨[1],s.left,s.fol⟩ fl beh z'→K (.tuple #[]) h'):C.walk_row_top (some ⟨wb,0,none⟩) hh K:=by
 refine walk_row_top.ok (New.intro fun h2 n2=>os ?_)
 have w2:=w.no n2.fr
 have z2:=n2.size
 have wlt:=w.lt
 have lo:=w.lo
 refine Put.add w2.own (by rw [w2.r]; exact Nat.succ_pos _) fun h3 d3=>?_
 rw [w2.r] at d3
 refine hK h3 ⟨hh.size,0,1,z.la,z.lc⟩ ⟨((n2.fr.mono fun _ _ y=>y.elim).trans d3.fr fun b _ y => .inl y),.inr (Nat.le_refl _),fun p hp => .inl ⟨p,hp,rfl⟩⟩ (w2.did d3 rfl ⟨rfl,rfl,rfl,n2.own,Nat.le_refl _,by rw [n2.rd]; rfl,by rw [n2.rd]; exact Nat.le_refl _⟩ w2.lf w2.cap (fun p hp=>?_) (by show h0.size≤hh.size; omega) (by show hh.size≠wb; omega))
 obtain ⟨a,b,c,_⟩:=w.far p hp
 exact ⟨a,by omega,c,by show p.block≠hh.size; omega⟩
theorem up_spec (w:Ws h0 hh wb t g s fl beh z) (hl:s.chain.length≤1000) (hK:∀ h' z',Stp hh h' wb z z'→Ws h0 h' wb t g ⟨upC s.chain,s.left,s.fol⟩ fl beh z'→K (.tuple #[]) h'):C.walk_row_up (some ⟨wb,0,none⟩) hh K:=by
 refine walk_row_up.ok (os ⟨_,_,_,rda w.r rfl,cd (fun h1=>os ⟨_,_,_,rda w.r rfl,os ⟨_,_,_,rda w.r rfl,?_⟩⟩) fun h1=>?_⟩)
 ·have le:=w.ch.le
  rw [wrap_i64 (show -9223372036854775808≤(s.chain.length:Int) - 1 by omega) (by omega),show ((s.chain.length:Int) - 1).toNat=s.chain.length - 1 by omega]
  refine ⟨⟨by omega,by omega⟩,os ?_⟩
  refine Put.add w.own (by rw [w.r]; exact Nat.succ_pos _) fun h2 d2=>?_
  rw [w.r] at d2
  have e:upC s.chain=s.chain.dropLast:=if_pos (by omega)
  have el:(upC s.chain).length=s.chain.length - 1:=by rw [e,List.length_dropLast]
  refine hK h2 z ⟨d2.fr.mono fun b _ y => .inl y,.inl rfl,fun p hp => .inl ⟨p,hp,rfl⟩⟩ (w.did d2 (by show _=wV _ (upC s.chain).length _ _ _ _ _ _ _ _ _; rw [el]; rfl) ?_ w.lf w.cap w.far w.clo w.cne)
  show Sl hh 1 _ (upC s.chain).length z.ic (ints (upC s.chain)) _
  rw [el,e,show ints s.chain.dropLast=(ints s.chain).take (s.chain.length - 1) by unfold ints; rw [List.dropLast_eq_take,List.map_take]]
  exact Pa.sl_sub w.ch (by omega) z.ic (by omega) (Nat.le_refl _)
 ·have e:upC s.chain=s.chain:=if_neg (by omega)
  have:=hK hh z
  rw [e] at this
  exact this (Stp.no (Fr.refl _ _)) w
end
end Go.Proofs.YtiapingedfnlnaaGreatDoor.Wl
namespace Go.Proofs.YtiapingedfnlnaaGreatDoor.Wl
open Go Go.Proofs Wx Hp W Ad Tm Spc Re Av Ss
open Hd (ints)
open In (ints_length ints_one)
open Ino (getM Cok getM_length)
open Fi (readM cok getM_may)
open Pa (parseA makeA parse_fits Ls)
open Di (findD rdaa putaa)
section
variable {h0 hh h' : Heap} {N wb : Nat} {t d : Option Addr} {s : St} {fl beh : Bool} {z z' : Sls} {K : Value → Heap → Prop} {n kind : Int} {F : Nat → Prop} {T : TM}
theorem thing_spec (w:Ws h0 hh wb t (geoN N) s fl beh z) (h2:kind≠2) (h3:kind≠3) (hK:∀ h' z',Stp hh h' wb z z'→Ws h0 h' wb t (geoN N) (metM T (geoN N) fl beh s kind n).2.2 fl beh z'→K (.tuple #[.bool (metM T (geoN N) fl beh s kind n).1,.int .i64 (metM T (geoN N) fl beh s kind n).2.1]) h') :
  C.walk_walk_thing (some ⟨wb,0,none⟩) n hh K:=by
 refine walk_walk_thing.ok (more_spec w ⟨_,rfl,cs (fun e=>?_) fun e=>?_⟩)
 ·have q:metM T (geoN N) fl beh s kind n=(false,161,s):=by unfold metM; rw [if_neg h2,if_neg h3,if_pos e]
  rw [q] at hK
  exact hK hh z (Stp.no (Fr.refl _ _)) w
 ·have q:metM T (geoN N) fl beh s kind n=(true,0,s):=by unfold metM; rw [if_neg h2,if_neg h3,if_neg (by rw [e]; simp)]
  rw [q] at hK
  exact hK hh z (Stp.no (Fr.refl _ _)) w
theorem directory_spec (w:Ws h0 hh wb t (geoN N) s fl beh z) (hl:s.chain.length≤1000) (hK:∀ h' z',Stp hh h' wb z z'→Ws h0 h' wb t (geoN N) (metM T (geoN N) fl beh s 2 n).2.2 fl beh z'→K (.tuple #[.bool (metM T (geoN N) fl beh s 2 n).1,.int .i64 (metM T (geoN N) fl beh s 2 n).2.1]) h') :
  C.walk_walk_directory (some ⟨wb,0,none⟩) n hh K:=by
 refine walk_walk_directory.ok (more_spec w ⟨_,rfl,cnot (cs (fun e=>?_) fun e=>?_)⟩)
 ·have q:metM T (geoN N) fl beh s 2 n=(false,0,⟨s.chain++[n],s.left,s.fol⟩):=by unfold metM; rw [if_pos rfl,if_neg (by rw [e]; simp)]
  rw [q] at hK
  refine os ?_
  show C.walk_row_down (some ⟨wb,0,none⟩) n hh _
  exact down_spec w hl fun h' z' st w'=>⟨rfl,hK h' z' st w'⟩
 ·have q:metM T (geoN N) fl beh s 2 n=(true,0,s):=by unfold metM; rw [if_pos rfl,if_pos e]
  rw [q] at hK
  exact hK hh z (Stp.no (Fr.refl _ _)) w
theorem link_k1 (gl:In.Glo h0) (dm:Dim N) (X:Tx h0 F t d T) (w:Ws h0 hh wb t (geoN N) s fl beh z) (o:Ok s) (hsz:s.chain.length+mu s≤700) (hc:¬ (more beh s.left=false∧fl=false))
  (hK:∀ h' z',Stp hh h' wb z z'→Ws h0 h' wb t (geoN N) (linkM T (geoN N) fl beh s n).2.2 fl beh z'→K (.tuple #[.bool (linkM T (geoN N) fl beh s n).1,.int .i64 (linkM T (geoN N) fl beh s n).2.1]) h') :
  walk_walk_link.k1 (some ⟨wb,0,none⟩) n hh K:=by
 have hm:mu s=33*(8 - s.fol)+s.left.length:=rfl
 have ho:=o.fol
 unfold linkM at hK
 rw [if_neg hc] at hK
 refine os ⟨_,rda w.r rfl,ce (fun e8=>?_) fun e8=>os ⟨_,rda w.r rfl,os ⟨(geoN N).v,rfl,cellsa w.r rfl,?_⟩⟩⟩
 ·rw [if_pos (by omega)] at hK
  exact hK hh z (Stp.no (Fr.refl _ _)) w
 rw [if_neg (by omega)] at hK
 refine Fi.Read_spec (gl.no w.fr) dm (X.no w.fr) fun h4 f4=>⟨_,_,rfl,cn (fun he=>?_) fun he=>?_⟩
 ·rw [if_pos he] at hK
  exact hK h4 z (Stp.no f4) (w.no f4)
 rw [if_neg (fun y=>y he)] at hK
 have w4:=w.no f4
 refine Pa.Text_spec (by have:=readM_len T (geoN N) n; omega) fun a l c h5 f5 Z=>⟨_,_,_,_,_,rfl,cn (fun he2=>?_) fun he2=>?_⟩
 ·rw [if_pos he2] at hK
  exact hK h5 z ((Stp.no f4).trans (Stp.no f5)) (w4.no f5)
 rw [if_neg (fun y=>y he2)] at hK
 have w5:=w4.no f5
 have hp:=(parse_fits (s:=(readM T (geoN N) n 0 1024).1) (b:=false)).1
 generalize (parseA (readM T (geoN N) n 0 1024).1 false).1=ps at hK Z hp
 generalize (readM T (geoN N) n 0 1024).1.head?=hd at hK ⊢
 have e2:decide ((parseA (readM T (geoN N) n 0 1024).1 false).2=0)=true:=decide_eq_true he2
 rw [e2,Bool.true_and]
 obtain ⟨hl,Z⟩:=Z
 have w4lt:=w4.lt
 have c4lt:=w4.clt
 have z5:=f5.size
 refine os ⟨_,rda w5.r rfl,os ?_⟩
 rw [wrap_i64 (show -9223372036854775808≤(s.fol:Int)+1 by omega) (by omega),show (s.fol:Int)+1=((s.fol+1:Nat):Int) by omega]
 refine Put.add w5.own (by rw [w5.r]; exact (by decide:0+8<11)) fun h6 d6=>?_
 rw [w5.r] at d6
 have w6:Ws h0 h6 wb t (geoN N) ⟨s.chain,s.left,s.fol+1⟩ fl beh z:=w5.did d6 rfl w5.ch w5.lf w5.cap w5.far w5.clo w5.cne
 have z6:=d6.size
 have Z6:SlCells h6 a (Ch.strs ps):=SlCells.fr d6.fr Z.cells fun p hp y=>by
  have b:h4.size≤p.block:=by
   subst hp
   exact Z.2.2.1
  omega
 have ll:(Ch.strs ps).length=ps.length:=List.length_map ..
 refine os ⟨_,_,_,rda w6.r rfl,CloneS_spec (xs:=Ch.strs ps) (by rw [ll,hl]) Z6 (strs_one ps) (by omega) fun a7 c7 h7 f7 S7=>⟨_,_,_,rfl,?_⟩⟩
 have w7:=w6.no f7
 have z7:=f7.size
 have ln:(Ch.strs s.left).length=s.left.length:=List.length_map ..
 refine ⟨rda w7.r rfl,Ch.strs s.left,by rw [ln,Nat.mul_one],w7.lf,strs_one s.left,append_own (elem:=ti9) S7 (by rw [ln]; exact (Nat.mul_one _).symm) rfl (by show (l+s.left.length)*16≤_; omega) (by show l+s.left.length≤_; omega) fun a8 c8 h8 f8 S8=>os ?_⟩
 have clt6:=w6.clt
 have wlt6:=w6.lt
 have lo:=w6.lo
 have clo:=w6.clo
 have z8:=f8.size
 have w8:Ws h0 h8 wb t (geoN N) ⟨s.chain,s.left,s.fol+1⟩ fl beh z:=w7.frm f8 (fun y=>by have y:h6.size≤wb:=y; omega) (fun y=>by have y:h6.size≤z.cb:=y; omega) (fun p hp y=>by
  have:=(w6.far p hp).2.1
  have y:h6.size≤p.block:=y
  omega) fun b hb y=>by have y:h6.size≤b:=y; omega
 refine Put.add w8.own (by rw [w8.r]; exact (by decide:0+7<11)) fun h9 d9=>?_
 rw [w8.r] at d9
 have le8:=S8.le
 have lf8:SlCells h8 a8 (Ch.strs (ps++s.left)):=by
  have:=S8.cells
  rw [show Ch.strs (ps++s.left)=Ch.strs ps++Ch.strs s.left from List.map_append]
  exact this
 have lp:(ps++s.left).length=l+s.left.length:=by rw [List.length_append,hl]
 have w9:Ws h0 h9 wb t (geoN N) ⟨s.chain,ps++s.left,s.fol+1⟩ fl beh ⟨z.cb,z.co,z.ic,a8,c8⟩:=w8.did d9 (by
  show _=wV _ s.chain.length z.ic t (geoN N) a8 (ps++s.left).length c8 (s.fol+1) fl beh
  rw [lp]; rfl) w8.ch lf8 (by show (ps++s.left).length≤c8; rw [lp]; exact le8) (fun p hp=>by
   have hp:a8=some p:=hp
   subst hp
   have b1:h6.size≤p.block:=by
    have y:=S8.2.2.1
    rcases y with y|y
    ·exact y
    ·omega
   have b2:p.block<h8.size:=S8.2.2.2.1.lt
   exact ⟨by omega,b2,by omega,by show p.block≠z.cb; omega⟩) w8.clo w8.cne
 have st9:Stp hh h9 wb z ⟨z.cb,z.co,z.ic,a8,c8⟩:=by
  refine ⟨?_,.inl rfl,fun p hp => .inr ?_⟩
  rotate_left
  ·have hp:a8=some p:=hp
   subst hp
   have:=f4.size
   have y:=S8.2.2.1
   rcases y with y|y
   ·have y:h6.size≤p.block:=y
    omega
   ·omega
  have g6:Fr (fun b=>b=wb∨b=z.cb) hh h6:=((f4.no f5).mono fun _ _ y=>y.elim).trans d6.fr fun b _ y => .inl y
  have g8:Fr (fun b=>b=wb∨b=z.cb) hh h8:=(g6.no f7).trans f8 fun b hb y=>by have y:h6.size≤b:=y; have:=f4.size; omega
  exact g8.trans d9.fr fun b _ y => .inl y
 refine cs (fun eb=>os ?_) fun eb=>?_
 ·show C.walk_row_top (some ⟨wb,0,none⟩) h9 _
  refine top_spec w9 fun h10 z10 st10 w10=>⟨rfl,?_⟩
  have eh:hd=some 47:=by simpa using eb
  rw [if_pos eh] at hK
  exact hK h10 z10 (st9.trans st10) w10
 ·have eh:hd≠some 47:=by simpa using eb
  rw [if_neg eh] at hK
  exact hK h9 _ st9 w9
theorem link_spec (gl:In.Glo h0) (dm:Dim N) (X:Tx h0 F t d T) (w:Ws h0 hh wb t (geoN N) s fl beh z) (o:Ok s) (hsz:s.chain.length+mu s≤700)
  (hK:∀ h' z',Stp hh h' wb z z'→Ws h0 h' wb t (geoN N) (linkM T (geoN N) fl beh s n).2.2 fl beh z'→K (.tuple #[.bool (linkM T (geoN N) fl beh s n).1,.int .i64 (linkM T (geoN N) fl beh s n).2.1]) h') :
  C.walk_walk_link (some ⟨wb,0,none⟩) n hh K:=by
 refine walk_walk_link.ok (more_spec w ⟨_,rfl,cnot (cs (fun e=>link_k1 gl dm X w o hsz (fun y=>by rw [e] at y; cases y.1) hK) fun e=>os ⟨fl,rda w.r rfl,cnot (cs (fun e2=>link_k1 gl dm X w o hsz (fun y=>by rw [e2] at y; cases y.2) hK) fun e2=>?_)⟩)⟩)
 unfold linkM at hK
 rw [if_pos ⟨e,e2⟩] at hK
 exact hK hh z (Stp.no (Fr.refl _ _)) w
theorem met_spec (gl:In.Glo h0) (dm:Dim N) (X:Tx h0 F t d T) (w:Ws h0 hh wb t (geoN N) s fl beh z) (o:Ok s) (hsz:s.chain.length+mu s≤700) (hk:0≤kind∧kind<4)
  (hK:∀ h' z',Stp hh h' wb z z'→Ws h0 h' wb t (geoN N) (metM T (geoN N) fl beh s kind n).2.2 fl beh z'→K (.tuple #[.bool (metM T (geoN N) fl beh s kind n).1,.int .i64 (metM T (geoN N) fl beh s kind n).2.1]) h') :
  C.walk_walk_met (some ⟨wb,0,none⟩) kind n hh K:=by
 refine walk_walk_met.ok (NewRow.intro rfl (fun v hv=>by simp only [List.mem_cons,List.not_mem_nil,or_false] at hv; rcases hv with rfl|rfl|rfl|rfl <;> rfl) rfl fun h3 n3=>⟨hk,?_⟩)
 have w3:=w.no n3.fr
 have st3:Stp hh h3 wb z z:=Stp.no n3.fr
 rcases (by omega:kind=0∨kind=1∨kind=2∨kind=3) with rfl|rfl|rfl|rfl
 ·refine ⟨_,rda n3.rd rfl,?_⟩
  exact thing_spec (T:=T) (kind:=0) w3 (by decide) (by decide) fun h' z' st w'=>⟨_,_,rfl,hK h' z' (st3.trans st) w'⟩
 ·refine ⟨_,rda n3.rd rfl,?_⟩
  exact thing_spec (T:=T) (kind:=1) w3 (by decide) (by decide) fun h' z' st w'=>⟨_,_,rfl,hK h' z' (st3.trans st) w'⟩
 ·refine ⟨_,rda n3.rd rfl,?_⟩
  exact directory_spec (T:=T) w3 (by omega) fun h' z' st w'=>⟨_,_,rfl,hK h' z' (st3.trans st) w'⟩
 ·refine ⟨_,rda n3.rd rfl,?_⟩
  exact link_spec gl dm X w3 o hsz fun h' z' st w'=>⟨_,_,rfl,hK h' z' (st3.trans st) w'⟩
theorem place_spec {nm:Tm.Txt} (w:Ws h0 hh wb t (geoN N) s fl beh z) (hl:s.chain.length≤1000)
  (hK:∀ h' a c,Fr No hh h'→Sl h' 1 a s.chain.length c (ints s.chain) (From hh.size)→K (.agg ⟨[.slice a s.chain.length c,.string (mkStr nm),.int .i64 n]⟩) h'):C.walk_walk_place (some ⟨wb,0,none⟩) (mkStr nm) n hh K:=by
 refine walk_walk_place.ok (New.intro fun h2 n2=>os ?_)
 have w2:=w.no n2.fr
 have z2:=n2.size
 refine ⟨_,_,_,rdaa w2.r rfl,CloneV_spec (ints_length _) w2.ch.cells (ints_one _) (by omega) fun a c h3 f3 S3=>⟨_,_,_,rfl,?_⟩⟩
 have r3:rd h3 hh.size=_:=(f3.rd (by omega) fun y=>y).trans n2.rd
 refine PutRow.intro (f3.own (by omega) (fun y=>y) n2.own) rfl (fun v hv=>by simp only [List.mem_cons,List.not_mem_nil,or_false] at hv; rcases hv with rfl|rfl|rfl <;> rfl) (by rw [r3]; exact Nat.le_refl _) fun h4 d4=>?_
 rw [r3] at d4
 refine ⟨_,rfl,cellsAll (d4.rd.trans (put_all _ _ rfl)),hK h4 a c ((n2.fr.no f3).did d4 fun hl=>by omega) ((Sl.fr d4.fr S3 fun b _ hb y=>?_).mono fun b hb=>?_)⟩
 ·have hb:h2.size≤b:=hb
  have y:b=hh.size:=y
  omega
 ·have hb:h2.size≤b:=hb
  show hh.size≤b
  omega
end
end Go.Proofs.YtiapingedfnlnaaGreatDoor.Wl
namespace Go.Proofs.YtiapingedfnlnaaGreatDoor.Wl
open Go Go.Proofs Wx Hp W Ad Tm Spc Re Av Ss
open Hd (ints)
open In (ints_length ints_one mayR kindOk)
open Ino (getM Cok getM_length)
open Fi (readM cok getM_may)
open Pa (parseA makeA parse_fits Ls)
open Di (findD rdaa putaa)
theorem kind_rng {R:List Int} (h:mayR R=true):0≤R.getD 0 0∧R.getD 0 0<4:=by
 unfold mayR at h
 rw [Bool.and_eq_true] at h
 have k:=h.2
 by_cases k0:R.getD 0 0=0
 ·omega
 ·by_cases k1:R.getD 0 0=1
  ·omega
  ·by_cases k2:R.getD 0 0=2
   ·omega
   ·by_cases k3:R.getD 0 0=3
    ·omega
    ·rw [In.kindOk,if_neg k0,if_neg k1,if_neg k2,if_neg k3] at k; cases k
theorem add_block (a:Addr) (n:Nat):(Addr.add a n).block=a.block:=by
 unfold Addr.add; split <;> rfl
def plV (a:Option Addr) (c:Nat) (p:Pl):List Value:=[.slice a p.chain.length c,.string (mkStr p.name),.int .i64 p.ino]
theorem plV_one {a:Option Addr} {c:Nat} {p:Pl}:∀ v ∈ plV a c p,v.oneCell'=true:=fun v hv=>by
 simp only [plV,List.mem_cons,List.not_mem_nil,or_false] at hv
 rcases hv with rfl|rfl|rfl <;> rfl
def muH (wb:Nat) (h:Heap):Nat:=match (rd h wb)[7]?,(rd h wb)[8]? with
 | some (Value.slice _ l _),some (Value.int _ f)=>33*(8 - f.toNat)+l
 | _,_=>0
section
variable {h0 hh h' : Heap} {N wb : Nat} {t d : Option Addr} {s : St} {fl beh : Bool} {z z' : Sls} {K : Value → Heap → Prop} {n kind : Int} {F : Nat → Prop} {T : TM}
theorem Ws.mu (w:Ws h0 hh wb t (geoN N) s fl beh z):muH wb hh=mu s:=by
 unfold muH
 rw [w.r]
 show 33*(8 - ((s.fol:Nat):Int).toNat)+s.left.length=_
 rw [Int.toNat_natCast]; rfl
theorem begin_spec {a:Option Addr} {l c:Nat} {ps:List Tm.Txt} (f0:Fr No h0 hh) (hl:l=ps.length) (hc:l≤c) (lf:SlCells hh a (Ch.strs ps)) (far:∀ p,a=some p→h0.size≤p.block∧p.block<hh.size)
  (hK:∀ h' wb z,hh.size≤wb→hh.size≤z.cb→Fr No hh h'→Ws h0 h' wb t (geoN N) ⟨[1],ps,0⟩ false false z→K (.pointer (some ⟨wb,0,none⟩)) h'):C.walk_begin t (geoN N).v a l c hh K:=by
 subst hl
 refine walk_begin.ok (New.intro fun h2 n2=>⟨(geoN N).v,rfl,cellsAll n2.rd,rfl,New.intro fun h3 n3=>?_⟩)
 have z0:=f0.size
 have z2:=n2.size
 have z3:=n3.size
 show C.walk_row_top (some ⟨h2.size,0,none⟩) h3 _
 refine walk_row_top.ok (New.intro fun h4 n4=>os ?_)
 have z4:=n4.size
 have r4:rd h4 h2.size=_:=(n4.at_ (by omega)).trans n3.rd
 refine Put.add (n4.ow n3.own) (by rw [r4]; exact Nat.succ_pos _) fun h5 d5=>⟨rfl,?_⟩
 rw [r4] at d5
 have z5:=d5.size
 refine hK h5 h2.size ⟨h3.size,0,1,a,c⟩ (by omega) (by show hh.size≤h3.size; omega) (((n2.fr.new n3).new n4).did d5 fun hl=>by omega) ⟨(((f0.new n2).new n3).new n4).did d5 fun hl=>by omega,d5.own,by omega,d5.rd,⟨rfl,rfl,rfl,?_,Nat.le_refl _,?_,?_⟩,?_,hc,fun p hp=>?_,by show h0.size≤h3.size; omega,by show h3.size≠h2.size; omega⟩
 ·exact d5.fr.own (by show h3.size<_; omega) (fun y=>by have y:h3.size=h2.size:=y; omega) n4.own
 ·show ((rd h5 h3.size).drop 0).take _=_
  rw [d5.at_ (by omega) (by omega),n4.rd]; rfl
 ·show 0+1*1≤(rd h5 h3.size).length
  rw [d5.at_ (by omega) (by omega),n4.rd]; exact Nat.le_refl _
 ·exact SlCells.fr d5.fr (SlCells.fr ((n2.fr.new n3).new n4) lf fun _ _ y=>y) fun p hp y=>by
   have:=(far p hp).2
   have y:p.block=h2.size:=y
   omega
 ·obtain ⟨x1,x2⟩:=far p hp
  exact ⟨x1,by omega,by omega,by show p.block≠h3.size; omega⟩
theorem met_chain (o:Ok s):(metM T (geoN N) fl beh s kind n).2.2.chain≠[]∧(metM T (geoN N) fl beh s kind n).2.2.chain.length≤s.chain.length+1:=by
 have same:s.chain≠[]∧s.chain.length≤s.chain.length+1:=⟨o.ne,Nat.le_succ _⟩
 unfold metM
 split
 ·split
  ·exact same
  ·exact ⟨by simp,by simp⟩
 ·split
  ·unfold linkM
   split
   ·exact same
   ·split
    ·exact same
    ·split
     ·exact same
     ·split
      ·exact same
      ·dsimp only
       split
       ·exact ⟨by simp,by simp⟩
       ·exact same
  ·split
   ·exact same
   ·exact same
theorem met_ends (h:(metM T (geoN N) fl beh s kind n).1=true):(metM T (geoN N) fl beh s kind n).2.2=s:=by
 unfold metM at h ⊢
 split at h
 ·rename_i k; rw [if_pos k]
  split at h
  ·rename_i k; rw [if_pos k]
  ·cases h
 ·rename_i k; rw [if_neg k]
  split at h
  ·rename_i k; rw [if_pos k]
   unfold linkM at h ⊢
   split at h
   ·rename_i k; rw [if_pos k]
   ·split at h
    ·cases h
    ·split at h
     ·cases h
     ·split at h <;> cases h
  ·rename_i k; rw [if_neg k]
   split at h
   ·cases h
   ·rename_i k; rw [if_neg k]
theorem end_spec (gl:In.Glo h0) (dm:Dim N) (X:Tx h0 F t d T) (w:Ws h0 hh wb t (geoN N) s fl beh z) (o:Ok s) (hsz:s.chain.length+mu s≤600)
  (hK:∀ h' s' z' a c,Stp hh h' wb z z'→Ws h0 h' wb t (geoN N) s' fl beh z'→(s'.chain.length≤700∧s'.chain≠[])→((endM T (geoN N) fl beh s).2=0→s'.chain=(endM T (geoN N) fl beh s).1.chain) →
   Sl h' 1 a (endM T (geoN N) fl beh s).1.chain.length c (ints (endM T (geoN N) fl beh s).1.chain) (From hh.size)→K (.tuple #[.agg ⟨plV a c (endM T (geoN N) fl beh s).1⟩,.int .i64 (endM T (geoN N) fl beh s).2]) h') :
  C.walk_walk_end (some ⟨wb,0,none⟩) hh K:=by
 refine walk_walk_end.ok (New.intro fun h2 n2=>?_)
 have z2:=n2.size
 have wlt:=w.lt
 have clt:=w.clt
 have w2:=w.no n2.fr
 have lo:=w.lo
 generalize hq:endM T (geoN N) fl beh s=q at hK
 -- what is told last
 have fin:∀ hx s' z' a c e,Stp h2 hx wb z z'→Ws h0 hx wb t (geoN N) s' fl beh z'→(s'.chain.length≤700∧s'.chain≠[])→q.2=e→(e=0→s'.chain=q.1.chain)→Sl hx 1 a q.1.chain.length c (ints q.1.chain) (From h2.size) →
   PutRow ⟨hh.size,0,none⟩ (plV a c q.1) 3 hx fun h8=>∃ res:List Value,List.length res=3∧Cells h8 ⟨hh.size,0,none⟩ res∧K (.tuple #[.agg ⟨res⟩,.int .i64 e]) h8:=fun hx s' z' a c e st w' hc he hs S=>by
  subst he
  obtain ⟨r0,o0,ne0,lt0⟩:=st.rd (b:=hh.size) (by omega) (by omega) (by omega)
  rw [n2.rd] at r0
  refine PutRow.intro (o0 n2.own) rfl plV_one (by rw [r0]; exact Nat.le_refl _) fun h8 d8=>?_
  rw [r0] at d8
  have st0:Stp hh hx wb z z':=(Stp.no n2.fr).trans st
  refine ⟨_,rfl,cellsAll (d8.rd.trans (put_all _ _ rfl)),hK h8 s' z' a c ⟨st0.fr.trans d8.fr fun b hb y=>by have y:b=hh.size:=y; omega,st0.cb,st0.la⟩ (w'.frm d8.fr (fun y=>by have y:wb=hh.size:=y; omega) (fun y=>ne0 (Eq.symm y)) (fun p hp y=>?_) fun b hb y=>by have y:b=hh.size:=y; omega) hc hs ((Sl.fr d8.fr S fun b _ hb y=>?_).mono fun b hb=>?_)⟩
  ·have y:p.block=hh.size:=y
   rcases st.la p hp with ⟨p0,h0',e⟩|e
   ·have:=(w.far p0 h0').2.1
    omega
   ·omega
  ·have y:b=hh.size:=y
   have hb:h2.size≤b:=hb
   omega
  ·have hb:h2.size≤b:=hb
   show hh.size≤b
   omega
 have err:∀ hx s' z' e,Stp h2 hx wb z z'→Ws h0 hx wb t (geoN N) s' fl beh z'→(s'.chain.length≤700∧s'.chain≠[])→q=(noPl,e)→e≠0 →
   PutRow ⟨hh.size,0,none⟩ [.slice none 0 0,.string (mkStr []),.int .i64 0] 3 hx fun h8=>∃ res:List Value,List.length res=3∧Cells h8 ⟨hh.size,0,none⟩ res∧K (.tuple #[.agg ⟨res⟩,.int .i64 e]) h8:=fun hx s' z' e st w' hc he hne=>by
  have:=fin hx s' z' none 0 e st w' hc (by rw [he]) (fun y=>absurd y hne) (by rw [he]; exact Sl.nil _ _ _)
  rw [he] at this
  exact this
 refine ⟨fun hx=>∃ s1 z1,Stp h2 hx wb z z1∧Ws h0 hx wb t (geoN N) s1 fl beh z1∧Ok s1∧s1.chain.length+mu s1≤600∧endM T (geoN N) fl beh s1=q,muH wb,⟨s,z,Stp.no (Fr.refl _ _),w2,o,hsz,hq⟩,?_⟩
 rintro h3 ⟨s1,z1,st1,w1,o1,hs1,e1⟩
 have mu3:=w1.mu
 refine os ⟨_,_,_,rda w1.r rfl,cd (fun hgt=>?_) fun hle=>?_⟩
 ·have hpos:0<s1.left.length:=by omega
  obtain ⟨c,r,hl⟩:∃ c r,s1.left=c::r:=by
   cases hx:s1.left with
   | nil=>rw [hx] at hpos; exact absurd hpos (Nat.lt_irrefl _)
   | cons c r=>exact ⟨c,r,rfl⟩
  have es:=end_step (T:=T) (g:=geoN N) (fl:=fl) (beh:=beh) o1 hl
  rw [e1] at es
  have hmu:mu s1=mu ⟨s1.chain,r,s1.fol⟩+1:=by
   unfold mu; rw [hl,List.length_cons]; rfl
  have hll:s1.left.length=r.length+1:=by rw [hl]; rfl
  have lf1:=w1.lf
  have cap1:=w1.cap
  refine os ⟨_,_,_,rda w1.r rfl,⟨Int.le_refl _,by omega⟩,?_⟩
  obtain ⟨p,ep⟩:∃ p,z1.la=some p:=by
   cases hx:z1.la with
   | none=>rw [hx,hl] at lf1; exact absurd lf1 (by simp [SlCells,Ch.strs])
   | some p=>exact ⟨p,rfl⟩
  have lfp:Cells h3 p (Ch.strs (c::r)):=by rw [ep,hl] at lf1; exact lf1
  rw [ep]
  refine os ⟨mkStr c,lfp 0 _ rfl,os ⟨_,_,_,rda w1.r rfl,⟨by decide,by omega⟩,os (Put.add w1.own (by rw [w1.r]; exact (by decide:0+7<11)) fun h4 d4=>?_)⟩⟩
  rw [w1.r,ep] at d4
  have z4:=d4.size
  obtain ⟨la',hla⟩:∃ la',(if z1.lc=(1:Int).toNat then some p else Option.map (fun x=>Addr.add x (1:Int).toNat) (some p))=la':=⟨_,rfl⟩
  have blk:∀ p',la'=some p'→p'.block=p.block:=fun p' hp'=>by
   rw [← hla] at hp'
   split at hp'
   ·exact congrArg Addr.block (Option.some.inj hp').symm
   ·have hp':=Option.some.inj hp'
    rw [← hp',add_block]
  have lf4:SlCells h3 la' (Ch.strs r):=by
   rw [← hla]
   split
   ·rename_i h1
    have h1:z1.lc=1:=h1
    have:r=[]:=List.length_eq_zero_iff.mp (by omega)
    subst this
    exact Cells.nil _ _
   ·exact SlCells.drop (a:=some p) lfp 1
  have far1:=w1.far p ep
  have w4:Ws h0 h4 wb t (geoN N) ⟨s1.chain,r,s1.fol⟩ fl beh ⟨z1.cb,z1.co,z1.ic,la',z1.lc - 1⟩:=w1.did d4 (by
   rw [← hla]
   show _=wV _ s1.chain.length z1.ic t (geoN N) _ r.length (z1.lc - 1) s1.fol fl beh
   rw [show r.length=s1.left.length - 1 by omega]; rfl) w1.ch lf4 (by show r.length≤z1.lc - 1; omega) (fun p' hp'=>by
    have:=blk p' hp'
    rw [this]
    exact far1) w1.clo w1.cne
  have st4:Stp h2 h4 wb z ⟨z1.cb,z1.co,z1.ic,la',z1.lc - 1⟩:=st1.trans ⟨d4.fr.mono fun b _ y => .inl y,.inl rfl,fun p' hp' => .inl ⟨p,ep,blk p' hp'⟩⟩
  have hc4:s1.chain.length≤700∧s1.chain≠[]:=⟨by omega,o1.ne⟩
  rw [toList_mkStr]
  refine cs (fun eq=>os ?_) fun eq=>?_
  ·have eq:c=[46,46]:=by rw [toList_mkStr] at eq; exact eq_of_beq eq
   rw [if_pos eq] at es
   show C.walk_row_up (some ⟨wb,0,none⟩) h4 _
   refine up_spec w4 (by show s1.chain.length≤1000; omega) fun h5 z5 st5 w5=>⟨rfl,⟨_,z5,st4.trans st5,w5,Ok.up o1,?_,es.symm⟩,?_⟩
   ·show (upC s1.chain).length+mu ⟨upC s1.chain,r,s1.fol⟩≤600
    have:(upC s1.chain).length≤s1.chain.length:=by
     unfold upC; split
     ·rw [List.length_dropLast]; omega
     ·exact Nat.le_refl _
    have:mu ⟨upC s1.chain,r,s1.fol⟩=mu ⟨s1.chain,r,s1.fol⟩:=rfl
    omega
   ·rw [w5.mu,mu3]
    show mu ⟨upC s1.chain,r,s1.fol⟩<mu s1
    have:mu ⟨upC s1.chain,r,s1.fol⟩=mu ⟨s1.chain,r,s1.fol⟩:=rfl
    omega
  ·have eq:c≠[46,46]:=by rw [toList_mkStr] at eq; exact fun y=>by rw [y] at eq; simp at eq
   rw [if_neg eq] at es
   refine os ⟨_,rda w4.r rfl,os ⟨(geoN N).v,rfl,cellsa w4.r rfl,os ?_⟩⟩
   show C.walk_row_here (some ⟨wb,0,none⟩) h4 _
   refine here_spec w4 o1.ne (by show s1.chain.length≤1000; omega) ⟨_,rfl,rda w4.r rfl,⟨rfl,cellsa w4.r rfl⟩,Di.Find_spec (gl.no w4.fr) dm (X.no w4.fr) fun h7 f7=>⟨_,_,rfl,cn (fun he=>?_) fun he=>?_⟩⟩
   ·have he:(findD T (geoN N) (here s1.chain) c).2≠0:=he
    rw [if_pos he] at es
    exact err h7 _ _ _ (st4.trans (Stp.no f7)) (w4.no f7) hc4 es he
   have he:(findD T (geoN N) (here s1.chain) c).2=0:=he
   rw [if_neg (fun y=>y he)] at es
   have w7:=w4.no f7
   have st7:=st4.trans (Stp.no f7)
   have es':=es
   generalize hi:(findD T (geoN N) (here s1.chain) c).1=i at es'
   -- behind the record
   have kk:∀ h12 xb,Fr No h7 h12→h7.size≤xb→rd h12 xb=ints (getM T (geoN N) i).1→walk_walk_end.k1 (some ⟨wb,0,none⟩) hh h3 (fun hx=>∃ s1 z1,Stp h2 hx wb z z1∧Ws h0 hx wb t (geoN N) s1 fl beh z1∧Ok s1∧s1.chain.length+mu s1≤600∧endM T (geoN N) fl beh s1=q) (muH wb) (mkStr c) i (getM T (geoN N) i).2 (some ⟨xb,0,none⟩) h12 K:=fun h12 xb f12 hxb rx=>by
    have w12:=w7.no f12
    have st12:=st7.trans (Stp.no f12)
    refine cn (fun hg=>?_) fun hg=>?_
    ·rw [if_pos hg] at es'
     exact err h12 _ _ _ st12 w12 hc4 es' hg
    rw [if_neg (fun y=>y hg)] at es'
    refine os ⟨_,In.cell15 rx (i:=0) (by rw [getM_length]; decide),?_⟩
    have kr:=kind_rng (getM_may hg)
    have os1:Ok ⟨s1.chain,r,s1.fol⟩:=⟨o1.ne,o1.fol⟩
    refine met_spec gl dm X w12 os1 (by show s1.chain.length+mu ⟨s1.chain,r,s1.fol⟩≤700; omega) kr fun h14 z14 st14 w14=>⟨_,_,rfl,?_⟩
    have z14s:=st14.fr.size
    have z12s:=st12.fr.size
    have mch:=met_chain (N:=N) (T:=T) (fl:=fl) (beh:=beh) (kind:=(getM T (geoN N) i).1.getD 0 0) (n:=i) os1
    have cl:(⟨s1.chain,r,s1.fol⟩:St).chain.length=s1.chain.length:=rfl
    refine cn (fun hm=>?_) fun hm=>?_
    ·rw [if_pos hm] at es'
     exact err h14 _ z14 _ (st12.trans st14) w14 ⟨by omega,mch.1⟩ es' hm
    rw [if_neg (fun y=>y hm)] at es'
    refine cs (fun hb=>?_) fun hb=>?_
    ·rw [if_pos hb] at es'
     rw [met_ends hb] at w14
     refine place_spec w14 (by show s1.chain.length≤1000; omega) fun h16 a cc f16 S16=>⟨_,rfl,?_⟩
     have:=fin h16 _ z14 a cc 0 ((st12.trans st14).trans (Stp.no f16)) (w14.no f16) hc4 (by rw [es']) (fun _=>by rw [es']) (by rw [es']; exact S16.mono fun b hb=>by have hb:h14.size≤b:=hb; show h2.size≤b; omega)
     rw [es'] at this
     exact this
    ·rw [if_neg (by rw [hb]; simp)] at es'
     obtain ⟨ok',mu'⟩:=met_ok os1 hm hb
     refine ⟨⟨_,z14,st12.trans st14,w14,ok',by omega,es'.symm⟩,?_⟩
     rw [w14.mu,mu3]
     omega
   have z7:=f7.size
   have Rl:(ints (getM T (geoN N) i).1).length=15:=(ints_length _).trans (getM_length ..)
   refine os ⟨_,rda w7.r rfl,os ⟨(geoN N).v,rfl,cellsa w7.r rfl,?_,?_⟩⟩
   ·refine Ino.Get_spec (gl.no w7.fr) (X.no w7.fr) (cok dm) fun h9 f9=>⟨_,_,rfl,New.intro fun h10 n10=>?_⟩
    have w10:=(w7.no f9).no n10.fr
    have z9:=f9.size
    have z10:=n10.size
    refine ⟨rda w10.r rfl,⟨rfl,cellsa w10.r rfl⟩,PutRow.intro n10.own Rl (ints_one _) (by rw [n10.rd]; exact Nat.le_refl _) fun h11 d11=>?_⟩
    rw [n10.rd] at d11
    exact kk h11 h9.size ((f9.new n10).did d11 fun hl=>by omega) (by omega) (d11.rd.trans (put_all _ _ (by rw [Rl]; rfl)))
   ·refine New.intro fun h18 n18=>?_
    have w18:=w7.no n18.fr
    have z18:=n18.size
    refine ⟨rda w18.r rfl,⟨rfl,cellsa w18.r rfl⟩,Ino.Get_spec (gl.no w18.fr) (X.no w18.fr) (cok dm) fun h19 f19=>⟨_,_,rfl,?_⟩⟩
    have r19:rd h19 h7.size=_:=(f19.rd (by omega) fun y=>y).trans n18.rd
    refine PutRow.intro (f19.own (by omega) (fun y=>y) n18.own) Rl (ints_one _) (by rw [r19]; exact Nat.le_refl _) fun h20 d20=>?_
    rw [r19] at d20
    exact kk h20 h7.size ((n18.fr.no f19).did d20 fun hl=>by omega) (Nat.le_refl _) (d20.rd.trans (put_all _ _ (by rw [Rl]; rfl)))
 ·have hl:s1.left=[]:=List.length_eq_zero_iff.mp (by omega)
  have es:=end_nil (T:=T) (g:=geoN N) (fl:=fl) (beh:=beh) hl
  rw [e1] at es
  refine os ?_
  show C.walk_row_here (some ⟨wb,0,none⟩) h3 _
  have st1s:=st1.fr.size
  refine here_spec w1 o1.ne (by omega) ⟨_,rfl,place_spec (nm:=[]) w1 (by omega) fun h22 a c f22 S=>⟨_,rfl,?_⟩⟩
  have:=fin h22 _ z1 a c 0 (st1.trans (Stp.no f22)) (w1.no f22) ⟨by omega,o1.ne⟩ (by rw [es]) (fun _=>by rw [es]) (by rw [es]; exact S.mono fun b hb=>by have hb:h3.size≤b:=hb; show h2.size≤b; omega)
  rw [es] at this
  exact this
end
end Go.Proofs.YtiapingedfnlnaaGreatDoor.Wl
namespace Go.Proofs.YtiapingedfnlnaaGreatDoor.Wl
open Go Go.Proofs Wx Hp W Ad Tm Spc Re Av Ss
open Hd (ints)
open In (ints_length ints_one)
open Fi (cok)
open Pa (parseA makeA parse_fits Ls)
open Di (findD rdaa putaa)
section
variable {h hh : Heap} {N : Nat} {t d : Option Addr} {fl : Bool} {K : Value → Heap → Prop} {F : Nat → Prop} {T : TM} {s : Tm.Txt}
theorem make_fits (s:Tm.Txt):(makeA s).1.length≤32:=by
 unfold makeA
 split
 ·exact Nat.zero_le _
 ·split
  ·exact Nat.zero_le _
  ·split
   ·exact Nat.zero_le _
   ·rename_i hw _ _ cs hc
    have e:parseA s true=(cs,0):=by
     unfold parseA
     rw [if_neg hw,hc]
    have:=(parse_fits (s:=s) (b:=true)).1
    rw [e] at this
    have this:cs.length≤32:=this
    split
    ·exact Nat.zero_le _
    ·show cs.dropLast.length≤32
     rw [List.length_dropLast]; omega
theorem st_ok (ps:List Tm.Txt):Ok ⟨[1],ps,0⟩:=⟨by simp,Nat.zero_le _⟩
theorem To_spec (gl:In.Glo h) (dm:Dim N) (X:Tx h F t d T) (hl:s.length≤9223372036854775806)
  (hK:∀ h' a c,Fr No h h'→Sl h' 1 a (toM T (geoN N) s fl).1.chain.length c (ints (toM T (geoN N) s fl).1.chain) (From h.size)→K (.tuple #[.agg ⟨plV a c (toM T (geoN N) s fl).1⟩,.int .i64 (toM T (geoN N) s fl).2]) h') :
  C.walk_To t (geoN N).v (mkStr s) fl h K:=by
 refine walk_To.ok (New.intro fun h2 n2=>New.intro fun h3 n3=>Pa.Parse_spec hl fun a l c h4 f4 Z=>⟨_,_,_,_,rfl,?_⟩)
 have z2:=n2.size
 have z3:=n3.size
 have z4:=f4.size
 have F4:Fr No h h4:=((n2.fr.new n3).no f4)
 have r4:rd h4 h2.size=[.slice none 0 0,.string (mkStr []),.int .i64 0]:=(f4.rd (by omega) fun y=>y).trans n3.rd
 have o4:Own h4 h2.size:=f4.own (by omega) (fun y=>y) n3.own
 have fits:=(parse_fits (s:=s) (b:=true)).1
 refine cn (fun he=>?_) fun he=>?_
 ·refine PutRow.intro o4 rfl (fun v hv=>by simp only [List.mem_cons,List.not_mem_nil,or_false] at hv; rcases hv with rfl|rfl|rfl <;> rfl) (by rw [r4]; exact Nat.le_refl _) fun h5 d5=>?_
  rw [r4] at d5
  have e:toM T (geoN N) s fl=(noPl,(parseA s true).2):=if_pos he
  rw [e] at hK
  exact ⟨_,rfl,cellsAll (d5.rd.trans (put_all _ _ rfl)),hK h5 none 0 (F4.did d5 fun hl=>by omega) (Sl.nil _ _ _)⟩
 ·have e:toM T (geoN N) s fl=endM T (geoN N) fl false ⟨[1],(parseA s true).1,0⟩:=if_neg fun y=>y he
  rw [e] at hK
  have g4:rd h4 h.size=(geoN N).v:=(f4.rd (by omega) fun y=>y).trans ((n3.at_ (by omega)).trans n2.rd)
  refine ⟨(geoN N).v,rfl,cellsAll g4,begin_spec (h0:=h3) f4 Z.1 (Sl.le Z.2) Z.2.cells (fun p hp=>?_) fun h6 wb z lo cl f6 w6=>⟨_,rfl,os ?_⟩⟩
  ·have Z2:=Z.2
   rw [hp] at Z2
   exact ⟨Z2.2.2.1,Z2.lt⟩
  have F3:Fr No h h3:=n2.fr.new n3
  refine Put.add w6.own (by rw [w6.r]; exact (by decide:0+9<11)) fun h7 d7=>?_
  rw [w6.r] at d7
  have z6:=f6.size
  have z7:=d7.size
  have w7:Ws h3 h7 wb t (geoN N) ⟨[1],(parseA s true).1,0⟩ fl false z:=w6.did d7 rfl w6.ch w6.lf w6.cap w6.far w6.clo w6.cne
  have r7:rd h7 h2.size=[.slice none 0 0,.string (mkStr []),.int .i64 0]:=(d7.at_ (by omega) (by omega)).trans ((f6.rd (by omega) fun y=>y).trans r4)
  have o7:Own h7 h2.size:=d7.fr.own (by omega) (fun y=>by have y:h2.size=wb:=y; omega) (f6.own (by omega) (fun y=>y) o4)
  refine end_spec (gl.no F3) dm (X.no F3) w7 (st_ok _) (by show 1+(33*(8 - 0)+(parseA s true).1.length)≤600; omega) fun h8 s' z' a8 c8 st8 w8 _ _ S8=>⟨_,_,rfl,?_⟩
  obtain ⟨r8,o8,ne8,lt8⟩:=st8.rd (b:=h2.size) (by omega) (by omega) (by omega)
  rw [r7] at r8
  refine PutRow.intro (o8 o7) rfl plV_one (by rw [r8]; exact Nat.le_refl _) fun h9 d9=>?_
  rw [r8] at d9
  have z8:=st8.fr.size
  refine ⟨_,rfl,cellsAll (d9.rd.trans (put_all _ _ rfl)),hK h9 a8 c8 ((F3.trans w8.fr fun _ _ y=>y.elim).did d9 fun hl=>by omega) ((Sl.fr d9.fr S8 fun b _ hb y=>?_).mono fun b hb=>?_)⟩
  ·have hb:h7.size≤b:=hb
   have y:b=h2.size:=y
   omega
  ·have hb:h7.size≤b:=hb
   show h.size≤b
   omega
theorem Make_spec (gl:In.Glo h) (dm:Dim N) (X:Tx h F t d T) (hl:s.length≤9223372036854775806)
  (hK:∀ h' a c,Fr No h h'→Sl h' 1 a (makeW T (geoN N) s).1.chain.length c (ints (makeW T (geoN N) s).1.chain) (From h.size)→K (.tuple #[.agg ⟨plV a c (makeW T (geoN N) s).1⟩,.int .i64 (makeW T (geoN N) s).2]) h') :
  C.walk_Make t (geoN N).v (mkStr s) h K:=by
 refine walk_Make.ok (New.intro fun h2 n2=>New.intro fun h3 n3=>Pa.Make_spec hl fun a l c h4 f4 Z=>⟨_,_,_,_,_,rfl,?_⟩)
 have z2:=n2.size
 have z3:=n3.size
 have z4:=f4.size
 have F4:Fr No h h4:=((n2.fr.new n3).no f4)
 have r4:rd h4 h2.size=[.slice none 0 0,.string (mkStr []),.int .i64 0]:=(f4.rd (by omega) fun y=>y).trans n3.rd
 have o4:Own h4 h2.size:=f4.own (by omega) (fun y=>y) n3.own
 have fits:=make_fits s
 have F3:Fr No h h3:=n2.fr.new n3
 -- the answer is laid down
 have fin:∀ hx a c (p:Pl) (e:Int),Fr No h hx→rd hx h2.size=[.slice none 0 0,.string (mkStr []),.int .i64 0]→Own hx h2.size→makeW T (geoN N) s=(p,e)→Sl hx 1 a p.chain.length c (ints p.chain) (From h3.size) →
   PutRow ⟨h2.size,0,none⟩ (plV a c p) 3 hx fun h8=>∃ res:List Value,List.length res=3∧Cells h8 ⟨h2.size,0,none⟩ res∧K (.tuple #[.agg ⟨res⟩,.int .i64 e]) h8:=fun hx a c p e fx rx ox eq S=>by
  rw [eq] at hK
  refine PutRow.intro ox rfl plV_one (by rw [rx]; exact Nat.le_refl _) fun h8 d8=>?_
  rw [rx] at d8
  refine ⟨_,rfl,cellsAll (d8.rd.trans (put_all _ _ rfl)),hK h8 a c (fx.did d8 fun hl=>by omega) ((Sl.fr d8.fr S fun b _ hb y=>?_).mono fun b hb=>?_)⟩
  ·have hb:h3.size≤b:=hb
   have y:b=h2.size:=y
   omega
  ·have hb:h3.size≤b:=hb
   show h.size≤b
   omega
 have err:∀ hx (e:Int),Fr No h hx→rd hx h2.size=[.slice none 0 0,.string (mkStr []),.int .i64 0]→Own hx h2.size→makeW T (geoN N) s=(noPl,e) →
   PutRow ⟨h2.size,0,none⟩ [.slice none 0 0,.string (mkStr []),.int .i64 0] 3 hx fun h8=>∃ res:List Value,List.length res=3∧Cells h8 ⟨h2.size,0,none⟩ res∧K (.tuple #[.agg ⟨res⟩,.int .i64 e]) h8:=fun hx e fx rx ox eq =>
  fin hx none 0 noPl e fx rx ox eq (Sl.nil _ _ _)
 refine cn (fun he=>?_) fun he=>?_
 ·exact err h4 _ F4 r4 o4 (if_pos he)
 have e1:makeW T (geoN N) s=_:=if_neg fun y=>y he
 have g4:rd h4 h.size=(geoN N).v:=(f4.rd (by omega) fun y=>y).trans ((n3.at_ (by omega)).trans n2.rd)
 refine ⟨(geoN N).v,rfl,cellsAll g4,begin_spec (h0:=h3) f4 Z.1 (Sl.le Z.2) Z.2.cells (fun p hp=>?_) fun h6 wb z lo cl f6 w6=>⟨_,rfl,?_⟩⟩
 ·have Z2:=Z.2
  rw [hp] at Z2
  exact ⟨Z2.2.2.1,Z2.lt⟩
 have z6:=f6.size
 have r6:=(f6.rd (b:=h2.size) (by omega) fun y=>y).trans r4
 have o6:Own h6 h2.size:=f6.own (by omega) (fun y=>y) o4
 rw [toList_mkStr,toList_mkStr]
 refine cs (fun en=>?_) fun en=>?_
 ·have en:(makeA s).2.1=[]:=eq_of_beq en
  rw [if_pos en] at e1
  refine place_spec (nm:=[]) w6 (by show 1≤1000; decide) fun h7 a7 c7 f7 S7=>⟨_,rfl,?_⟩
  exact fin h7 a7 c7 ⟨[1],[],1⟩ 0 ((F4.no f6).no f7) ((f7.rd (by omega) fun y=>y).trans r6) (f7.own (by omega) (fun y=>y) o6) e1 (S7.mono fun b hb=>by have hb:h6.size≤b:=hb; show h3.size≤b; omega)
 have en:(makeA s).2.1≠[]:=fun y=>by rw [y] at en; simp at en
 rw [if_neg en] at e1
 refine os ?_
 refine Put.add w6.own (by rw [w6.r]; exact (by decide:0+10<11)) fun h9 d9=>?_
 rw [w6.r] at d9
 have z9:=d9.size
 have w9:Ws h3 h9 wb t (geoN N) ⟨[1],(makeA s).1,0⟩ false true z:=w6.did d9 rfl w6.ch w6.lf w6.cap w6.far w6.clo w6.cne
 have r9:rd h9 h2.size=[.slice none 0 0,.string (mkStr []),.int .i64 0]:=(d9.at_ (by omega) (by omega)).trans r6
 have o9:Own h9 h2.size:=d9.fr.own (by omega) (fun y=>by have y:h2.size=wb:=y; omega) o6
 have g9:rd h9 h.size=(geoN N).v:=(d9.at_ (by omega) (by omega)).trans ((f6.rd (by omega) fun y=>y).trans g4)
 refine end_spec (gl.no F3) dm (X.no F3) w9 (st_ok _) (by show 1+(33*(8 - 0)+(makeA s).1.length)≤600; omega) fun h10 s' z' a10 c10 st10 w10 hc10 he10 S10=>⟨_,_,rfl,?_⟩
 have z10:=st10.fr.size
 obtain ⟨r10,o10,ne10,lt10⟩:=st10.rd (b:=h2.size) (by omega) (by omega) (by omega)
 obtain ⟨g10,_,neg10,ltg10⟩:=st10.rd (b:=h.size) (by omega) (by omega) (by omega)
 rw [r9] at r10
 rw [g9] at g10
 refine NewRow.intro rfl plV_one rfl fun h12 n12=>?_
 have z12:=n12.size
 have w12:=w10.no n12.fr
 have r12:=(n12.at_ (by omega)).trans r10
 have o12:Own h12 h2.size:=n12.ow (o10 o9)
 have g12:rd h12 h.size=(geoN N).v:=(n12.at_ (by omega)).trans g10
 have F12:Fr No h h12:=F3.trans w12.fr fun _ _ y=>y.elim
 refine cn (fun hq=>?_) fun hq=>?_
 ·rw [if_pos hq] at e1
  exact err h12 _ F12 r12 o12 e1
 rw [if_neg (fun y=>y hq)] at e1
 have hch:=he10 hq
 have hch':here s'.chain=here (endM T (geoN N) false true ⟨[1],(makeA s).1,0⟩).1.chain:=by rw [hch]
 refine ⟨(geoN N).v,rfl,cellsAll g12,os ?_⟩
 show C.walk_row_here (some ⟨wb,0,none⟩) h12 _
 refine here_spec w12 hc10.2 (by omega) ⟨_,rfl,⟨rfl,cellsAll g12⟩,Di.Find_spec (gl.no F12) dm (X.no F12) fun h15 f15=>⟨_,_,rfl,?_⟩⟩
 have w15:=w12.no f15
 have r15:=(f15.rd (by omega) fun y=>y).trans r12
 have o15:Own h15 h2.size:=f15.own (by omega) (fun y=>y) o12
 have F15:=F12.no f15
 have z15:=f15.size
 rw [hch']
 have last:(∀ (hq:¬ ((findD T (geoN N) (here (endM T (geoN N) false true ⟨[1],(makeA s).1,0⟩).1.chain) (makeA s).2.1).2≠0∧(findD T (geoN N) (here (endM T (geoN N) false true ⟨[1],(makeA s).1,0⟩).1.chain) (makeA s).2.1).2≠160)),
   C.walk_walk_place (some ⟨wb,0,none⟩) (mkStr (makeA s).2.1) (findD T (geoN N) (here (endM T (geoN N) false true ⟨[1],(makeA s).1,0⟩).1.chain) (makeA s).2.1).1 h15 fun r7 h17=>∃ (cs5:List Value),r7 = .agg ⟨cs5⟩ ∧
    PutRow ⟨h2.size,0,none⟩ cs5 3 h17 fun h18=>∃ res5:List Value,List.length res5=3∧Cells h18 ⟨h2.size,0,none⟩ res5∧K (.tuple #[.agg ⟨res5⟩,.int .i64 0]) h18):=fun hf=>by
  rw [if_neg hf] at e1
  refine place_spec w15 (by omega) fun h17 a17 c17 f17 S17=>⟨_,rfl,?_⟩
  rw [hch] at S17 ⊢
  exact fin h17 a17 c17 _ 0 (F15.no f17) ((f17.rd (by omega) fun y=>y).trans r15) (f17.own (by omega) (fun y=>y) o15) e1 (S17.mono fun b hb=>by have hb:h15.size≤b:=hb; show h3.size≤b; omega)
 refine cn (fun h1=>cn (fun h2=>?_) fun h2=>last fun y=>y.2 h2) fun h1=>last fun y=>y.1 h1
 rw [if_pos ⟨h1,h2⟩] at e1
 exact err h15 _ F15 r15 o15 e1
end
end Go.Proofs.YtiapingedfnlnaaGreatDoor.Wl
namespace Go.Proofs.YtiapingedfnlnaaGreatDoor.Tr
open Go Go.Proofs Wx Hp W Ad Tm Re Ss
open Hd (ints)
open In (ints_length ints_one)
open Wl (Pl plV plV_one)
open Pa (pieces piecesGo noDot comps)
open Sk (nameOk)
section
variable {h : Heap} {K : Value → Heap → Prop}
theorem num_spec {e:Int} (hK:K (.int .i64 e) h):C.bolelaw16_num e h K:=bolelaw16_num.ok hK
theorem cells_int {a:Option Addr} {xs:List Int} (A:SlCells h a (ints xs)) {j:Nat} (hj:j<xs.length):∃ p,a=some p∧cellOf h (Addr.add p j)=some (.int .i64 xs[j]):=by
 cases a with
 | none =>
  have A:ints xs=[]:=A
  have:=congrArg List.length A
  rw [ints_length,List.length_nil] at this
  omega
 | some p =>
  refine ⟨p,rfl,A j _ ?_⟩
  unfold ints
  rw [List.getElem?_map,List.getElem?_eq_getElem hj]; rfl
theorem cells_str {a:Option Addr} {xs:List Tm.Txt} (A:SlCells h a (Ch.strs xs)) {j:Nat} (hj:j<xs.length):∃ p,a=some p∧cellOf h (Addr.add p j)=some (.string (mkStr xs[j])):=by
 cases a with
 | none =>
  have A:Ch.strs xs=[]:=A
  have:=congrArg List.length A
  rw [Ch.strs,List.length_map,List.length_nil] at this
  omega
 | some p =>
  refine ⟨p,rfl,A j _ ?_⟩
  unfold Ch.strs
  rw [List.getElem?_map,List.getElem?_eq_getElem hj]; rfl
theorem same_spec {a b:Option Addr} {l m c c2:Nat} {xs ys:List Int} (A:SlCells h a (ints xs)) (hxl:xs.length=l) (B:SlCells h b (ints ys)) (hyl:ys.length=m) (hl:l≤140737488355328) (hK:K (.bool (decide (xs=ys))) h):C.bolelaw16_same a l c b m c2 h K:=by
 refine bolelaw16_same.ok (cn (fun hne=>?_) fun heq=>?_)
 ·have:xs≠ys:=by rintro rfl; omega
  rw [decide_eq_false this] at hK; exact hK
 ·refine ⟨fun i hh=>0≤i∧i≤l∧h=hh∧xs.take i.toNat=ys.take i.toNat,fun i _=>((l:Int) - i).toNat,⟨by omega,by omega,rfl,rfl⟩,?_⟩
  rintro i _ ⟨i0,i1,rfl,e⟩
  refine cd (fun hi=>?_) fun hi=>?_
  ·have hx:i.toNat<xs.length:=by omega
   have hy:i.toNat<ys.length:=by omega
   obtain ⟨p,rfl,ca⟩:=cells_int A hx
   obtain ⟨q,rfl,cb⟩:=cells_int B hy
   refine ⟨⟨i0,hi⟩,os ⟨_,ca,⟨i0,by omega⟩,os ⟨_,cb,cn (fun hne=>?_) fun heq2=>?_⟩⟩⟩
   ·have:xs≠ys:=by rintro rfl; exact hne rfl
    rw [decide_eq_false this] at hK; exact hK
   ·rw [wrap_i64 (by omega) (by omega)]
    refine ⟨⟨by omega,by omega,rfl,?_⟩,falls hi⟩
    rw [show (i+1).toNat=i.toNat+1 by omega,List.take_succ_eq_append_getElem hx,List.take_succ_eq_append_getElem hy,e,heq2]
  ·rw [List.take_of_length_le (by omega),List.take_of_length_le (by omega)] at e
   rw [decide_eq_true e] at hK; exact hK
def spotV (a:Option Addr) (c:Nat) (p:Pl) (e:Int):List Value:=[.slice a p.chain.length c,.string (mkStr p.name),.int .i64 p.ino,.int .i64 e]
theorem pl_ext {p q:Pl} (h1:p.chain=q.chain) (h2:p.name=q.name) (h3:p.ino=q.ino):p=q:=by
 cases p; cases q; simp at h1 h2 h3; simp [h1,h2,h3]
theorem is_spec {a b:Option Addr} {c c2:Nat} {p q:Pl} {e f:Int} (A:SlCells h a (ints p.chain)) (B:SlCells h b (ints q.chain)) (hl:p.chain.length≤140737488355328) (hK:∀ h' v,Fr No h h'→(v=true↔(p,e)=(q,f))→K (.bool v) h') :
  C.bolelaw16_is (plV a c p) e (spotV b c2 q f) h K:=by
 refine bolelaw16_is.ok (New.intro fun h2 n2=>New.intro fun h3 n3=>⟨_,rda n3.rd rfl,num_spec ⟨_,rfl,rda n3.rd rfl,?_⟩⟩)
 have r2:=(n3.at_ n2.own.lt).trans n2.rd
 have F3:Fr No h h3:=n2.fr.no n3.fr
 have no:∀ h',Fr No h h'→(p,e)≠(q,f)→K (.bool false) h':=fun h' fr ne=>hK h' false fr ⟨fun y=>(by cases y),fun y=>absurd y ne⟩
 refine ce (fun he=>⟨_,rda r2 rfl,_,rda n3.rd rfl,?_⟩) fun he=>no _ F3 fun y=>he (Prod.mk.inj y).2
 rw [toList_mkStr,toList_mkStr]
 refine cs (fun hn=>⟨_,rda r2 rfl,_,rda n3.rd rfl,ce (fun hi=>⟨_,_,_,rda r2 rfl,_,_,_,rda n3.rd rfl,?_⟩) fun hi=>no _ F3 fun y=>hi (by rw [(Prod.mk.inj y).1])⟩) fun hn=>no _ F3 fun y=>?_
 ·have hn:p.name=q.name:=eq_of_beq hn
  refine same_spec (xs:=p.chain) (ys:=q.chain) (SlCells.fr F3 A fun _ _ y=>y) rfl (SlCells.fr F3 B fun _ _ y=>y) rfl hl ⟨_,rfl,hK h3 _ F3 ?_⟩
  rw [decide_eq_true_eq]
  exact ⟨fun y=>by rw [pl_ext y hn hi,he],fun y=>by rw [(Prod.mk.inj y).1]⟩
 ·rw [(Prod.mk.inj y).1] at hn
  simp at hn
theorem begin_spec {a:Option Addr} {l c:Nat} {bs:List UInt8} (B:StrAt h a l bs) (hlc:l≤c) (hl:l≤140737488355328) (h1:l % 512=0) (h2:0<l) (h3:l / 512≤16384)
  (hK:∀ tb dd F h',Fr No h h'→Tx h' F (some ⟨tb,0,none⟩) dd ⟨fresh (chunks bs),[],[],false⟩→(∀ b,F b→h.size≤b)→K (.tuple #[.pointer (some ⟨tb,0,none⟩),.bool true]) h'):C.bolelaw16_begin a l c h K:=by
 refine bolelaw16_begin.ok (openF_spec B hlc hl (fun y=>by exfalso; omega) fun _ _ _ q h8 D f8 hD A=>⟨_,_,rfl,num_spec ⟨_,rfl,cn (fun y=>absurd rfl y) fun _=>cf rfl ?_⟩⟩)
 unfold bolelaw16_begin.k1
 have z8:=f8.size
 refine Tm.Begin_spec A fun tb h12 F f12 g12 x12=>⟨_,rfl,?_⟩
 have z12:=f12.size
 have hF:∀ b,F b→h.size≤b:=fun b hb=>by
  rcases g12.new hb with y|y
  ·exact hD b y
  ·omega
 exact hK tb _ F h12 (f8.no f12) x12 hF
def blocksN (more:Int):Nat:=128+((more % 18446744073709551616) % 1000).toNat
theorem blocksN_rng (more:Int):128≤blocksN more∧blocksN more<1128:=by unfold blocksN; omega
theorem blocks_spec {more:Int} {r:List Value} (hr:r.length=2) (hK:∀ h',Fr No h h'→K (.int .i64 (blocksN more:Nat)) h'):C.bolelaw16_Setup_blocks (.int .i64 more::r) h K:=by
 refine bolelaw16_Setup_blocks.ok (New.intro fun h2 n2=>⟨more,rda n2.rd rfl,?_⟩)
 have e:IntKind.wrap .u64 more=more % 18446744073709551616:=by
  unfold IntKind.wrap
  exact if_neg fun y=>absurd y (by rw [show IntKind.u64.signed=false from rfl,Bool.false_and]; decide)
 have p:=Int.emod_nonneg more (show (18446744073709551616:Int)≠0 by decide)
 rw [e,Int.tmod_eq_emod_of_nonneg p,wrap_i64 (show -9223372036854775808≤more % 18446744073709551616 % 1000 by omega) (by omega),wrap_i64 (show -9223372036854775808≤128+more % 18446744073709551616 % 1000 by omega) (by omega)]
 rw [show 128+more % 18446744073709551616 % 1000=((blocksN more:Nat):Int) by unfold blocksN; omega]
 exact hK h2 n2.fr
end
end Go.Proofs.YtiapingedfnlnaaGreatDoor.Tr
namespace Go.Proofs.YtiapingedfnlnaaGreatDoor.Tr
open Go Go.Proofs Wx Hp W Ad Tm Re Ss
open Hd (ints)
open In (ints_length ints_one)
open Pa (pieces piecesGo noDot comps noDot_append extract_mk)
open Sk (nameOk)
section
variable {h : Heap} {K : Value → Heap → Prop} {s : Tm.Txt}
theorem ne_byte (b:UInt8) {m:Nat} (hm:m<256):((b.toNat:Nat):Int)=(m:Int)↔b=UInt8.ofNat m:=by
 constructor
 ·intro y
  have y:b.toNat=m:=by omega
  rw [← y]; exact (UInt8.ofNat_toNat).symm
 ·intro y
  rw [y,UInt8.toNat_ofNat']
  omega
theorem may_spec (hs:s.length≤1000000000000000000) (hK:K (.bool (nameOk s)) h):C.bolelaw16_may (mkStr s) h K:=by
 have hsz:(mkStr s).size=s.length:=rfl
 refine bolelaw16_may.ok ?_
 unfold bolelaw16_may
 rw [hsz,toList_mkStr]
 refine ⟨fun i hx=>∃ q:Nat,i=q∧q≤s.length∧hx=h∧(s.take q).all (fun b=>b != 47 && b != 0)=true,fun i _=>((s.length:Int) - i).toNat,⟨0,rfl,Nat.zero_le _,rfl,rfl⟩,?_⟩
 rintro i hx ⟨q,rfl,hq,rfl,e⟩
 have bad:(∃ b ∈ s,¬ (b≠47∧b≠0))→K (.bool false) hx:=fun ⟨b,hb,hn⟩=>by
  have:nameOk s=false:=by
   cases h:nameOk s with
   | false=>rfl
   | true=>exact absurd ((Sk.nameOk_iff.mp h).all b hb) hn
  rw [this] at hK; exact hK
 refine cd (fun hlt=>?_) fun hge=>?_
 ·have hlt:q<s.length:=by omega
  have gq:s[(q:Int).toNat]?=some s[q]:=by rw [Int.toNat_natCast]; exact List.getElem?_eq_getElem hlt
  refine ⟨⟨by omega,by omega⟩,_,gq,ce (fun h47=>?_) fun h47=>⟨⟨by omega,by omega⟩,_,gq,ce (fun h0=>?_) fun h0=>?_⟩⟩
  ·have:=(ne_byte s[q] (m:=47) (by decide)).mp h47
   exact bad ⟨s[q],List.getElem_mem hlt,fun y=>y.1 this⟩
  ·have:=(ne_byte s[q] (m:=0) (by decide)).mp h0
   exact bad ⟨s[q],List.getElem_mem hlt,fun y=>y.2 this⟩
  ·rw [wrap_i64 (show -9223372036854775808≤(q:Int)+1 by omega) (by omega)]
   refine ⟨⟨q+1,by omega,by omega,rfl,?_⟩,by show ((s.length:Int) - ((q:Int)+1)).toNat<((s.length:Int) - (q:Int)).toNat; omega⟩
   rw [List.take_succ_eq_append_getElem hlt,List.all_append,e,Bool.true_and]
   have a1:s[q]≠47:=fun y=>h47 ((ne_byte s[q] (m:=47) (by decide)).mpr y)
   have a2:s[q]≠0:=fun y=>h0 ((ne_byte s[q] (m:=0) (by decide)).mpr y)
   rw [List.all_cons,List.all_nil,Bool.and_true,bne_iff_ne.mpr a1,bne_iff_ne.mpr a2]; rfl
 ·rw [List.take_of_length_le (by omega)] at e
  unfold nameOk at hK
  rw [e,Bool.and_true] at hK
  refine cd (fun h1=>cd (fun h27=>?_) fun h27=>?_) fun h1=>?_
  ·rw [decide_eq_true (p:=1≤s.length) (by omega),decide_eq_true (p:=s.length≤27) (by omega),Bool.true_and,Bool.true_and] at hK
   refine cnot (cs (fun hd=>?_) fun hd=>?_)
   ·have hd:(s == [46])=true:=by rw [toList_mkStr] at hd; exact hd
    have:(s != [46])=false:=by unfold bne; rw [hd]; rfl
    rw [this,Bool.false_and] at hK; exact hK
   ·have hd:(s == [46])=false:=by rw [toList_mkStr] at hd; exact hd
    have:(s != [46])=true:=by unfold bne; rw [hd]; rfl
    rw [this,Bool.true_and] at hK
    rw [toList_mkStr]; exact hK
  ·rw [decide_eq_false (p:=s.length≤27) (by omega),Bool.and_false,Bool.false_and,Bool.false_and] at hK; exact hK
  ·rw [decide_eq_false (p:=1≤s.length) (by omega),Bool.false_and,Bool.false_and,Bool.false_and] at hK; exact hK
theorem noDot_one (l:List Tm.Txt) (x:Tm.Txt) (r:List Tm.Txt):noDot (x::r)=(if x=[46] then [] else [x])++noDot r:=by
 unfold noDot
 by_cases e:x=[46]
 ·rw [if_pos e,List.filter_cons_of_neg (by simp [e])]; rfl
 ·rw [if_neg e,List.filter_cons_of_pos (by simp [e])]; rfl
theorem pieces_spec (hs:s.length≤1000000000) (hK:∀ a l c h',Fr No h h'→l=(comps s).length→(comps s).length≤s.length+1→Sl h' 1 a l c (Ch.strs (comps s)) (From h.size)→K (.slice a l c) h'):C.bolelaw16_pieces (mkStr s) h K:=by
 have hsz:(mkStr s).size=s.length:=rfl
 refine bolelaw16_pieces.ok ?_
 unfold bolelaw16_pieces
 rw [hsz,toList_mkStr]
 refine ⟨fun a l c fr i hx=>∃ (f q:Nat) (ps:List Tm.Txt),fr=f∧i=q∧f≤q∧(q≤s.length∨(f=q∧q=s.length+1))∧l=ps.length∧ps.length≤q∧Fr No h hx∧Sl hx 1 a l c (Ch.strs ps) (From h.size)∧comps s=ps++noDot (piecesGo (s.drop q) ((s.drop f).take (q - f))),
  fun _ _ _ _ i _=>((s.length:Int)+1 - i).toNat,⟨0,0,[],rfl,rfl,Nat.le_refl _,.inl (Nat.zero_le _),rfl,Nat.le_refl _,Fr.refl _ _,Sl.nil _ _ _,by rw [List.nil_append]; rfl⟩,?_⟩
 rintro a l c fr i hx ⟨f,q,ps,rfl,rfl,hf,hq,hl,hpl,F,S,e⟩
 refine cd (fun hle=>?_) fun hgt=>?_
 ·have hle:q≤s.length:=by omega
  -- a slash or the end
  have sep:(piecesGo (s.drop q) ((s.drop f).take (q - f))=(if (s.drop f).take (q - f)=[] then [] else [(s.drop f).take (q - f)])++piecesGo (s.drop (q+1)) []) →
    bolelaw16_pieces.k1 (mkStr s) a l c f q hx (fun a l c fr i hx=>∃ (f q:Nat) (ps:List Tm.Txt),fr=f∧i=q∧f≤q∧(q≤s.length∨(f=q∧q=s.length+1))∧l=ps.length∧ps.length≤q∧Fr No h hx∧Sl hx 1 a l c (Ch.strs ps) (From h.size)∧comps s=ps++noDot (piecesGo (s.drop q) ((s.drop f).take (q - f))))
     (fun _ _ _ _ i _=>((s.length:Int)+1 - i).toNat) K:=fun hp=>by
   have clen:((s.drop f).take (q - f)).length=q - f:=by rw [List.length_take,List.length_drop]; omega
   generalize hcur:(s.drop f).take (q - f)=cur at hp clen
   have next:∀ a' l' c' h' ps',l'=ps'.length→ps'.length≤q+1→Fr No h h'→Sl h' 1 a' l' c' (Ch.strs ps') (From h.size)→comps s=ps'++noDot (piecesGo (s.drop (q+1)) []) →
     (∃ (f q':Nat) (ps:List Tm.Txt),IntKind.wrap .i64 ((q:Int)+1)=f∧IntKind.wrap .i64 ((q:Int)+1)=q'∧f≤q'∧(q'≤s.length∨(f=q'∧q'=s.length+1))∧l'=ps.length∧ps.length≤q'∧Fr No h h'∧Sl h' 1 a' l' c' (Ch.strs ps) (From h.size)∧comps s=ps++noDot (piecesGo (s.drop q') ((s.drop f).take (q' - f)))) ∧
     ((s.length:Int)+1 - IntKind.wrap .i64 ((q:Int)+1)).toNat<((s.length:Int)+1 - (q:Int)).toNat:=fun a' l' c' h' ps' h1 h2 h3 h4 h5=>by
    rw [wrap_i64 (show -9223372036854775808≤(q:Int)+1 by omega) (by omega)]
    exact ⟨⟨q+1,q+1,ps',by omega,by omega,Nat.le_refl _,by omega,h1,h2,h3,h4,by rw [Nat.sub_self,List.take_zero]; exact h5⟩,by omega⟩
   rw [hcur,hp] at e
   refine cd (fun hi=>⟨⟨by omega,by omega,by omega⟩,?_⟩) fun hi=>?_
   ·have ne:cur≠[]:=fun y=>by rw [y] at clen; have:(0:Nat)=q - f:=clen; omega
    rw [if_neg ne] at e
    have e:comps s=ps++noDot (cur::piecesGo (s.drop (q+1)) []):=e
    rw [noDot_one []] at e
    rw [extract_mk,Int.toNat_natCast,Int.toNat_natCast,hcur,toList_mkStr,toList_mkStr]
    refine cnot (cs (fun hd=>?_) fun hd=>⟨⟨by omega,by omega,by omega⟩,New.intro fun h3 n3=>?_⟩)
    ·have hd:cur=[46]:=eq_of_beq hd
     rw [if_pos hd,List.nil_append] at e
     exact next a l c hx ps hl (by omega) F S e
    ·have hd:cur≠[46]:=fun y=>by rw [y] at hd; simp at hd
     rw [if_neg hd] at e
     refine ⟨[.string (mkStr cur)],rfl,cellsAll n3.rd,fun v hv=>by rw [List.mem_singleton.mp hv]; rfl,?_⟩
     refine append_own (elem:=ti9) (Sl.fr n3.fr S fun _ _ _ y=>y) rfl rfl (by show (l+1)*16≤_; omega) (by omega) fun a' c' h4 f4 s4=>?_
     have z3:=n3.size
     have zx:=F.size
     refine next a' (l+1) c' h4 (ps++[cur]) (by rw [List.length_append,hl]; rfl) (by rw [List.length_append]; show ps.length+1≤q+1; omega) ((F.new n3).trans f4 fun b hb y=>by have y:h.size≤b:=y; omega) ?_ (by rw [e,List.append_assoc])
     rw [show Ch.strs (ps++[cur])=Ch.strs ps++[.string (mkStr cur)] from List.map_append]
     exact s4.mono fun b y=>by
      rcases y with y|y
      ·exact y
      ·show h.size≤b; omega
   ·have ce:cur=[]:=List.length_eq_zero_iff.mp (by omega)
    rw [if_pos ce,List.nil_append] at e
    exact next a l c hx ps hl (by omega) F S e
  refine cd (fun hlt=>?_) fun hge=>?_
  ·have hlt:q<s.length:=by omega
   have gq:s[(q:Int).toNat]?=some s[q]:=by rw [Int.toNat_natCast]; exact List.getElem?_eq_getElem hlt
   refine ⟨⟨by omega,by omega⟩,_,gq,cn (fun h47=>?_) fun h47=>?_⟩
   ·have a1:s[q]≠47:=fun y=>h47 ((ne_byte s[q] (m:=47) (by decide)).mpr y)
    rw [wrap_i64 (show -9223372036854775808≤(q:Int)+1 by omega) (by omega)]
    refine ⟨⟨f,q+1,ps,rfl,by omega,by omega,by omega,hl,by omega,F,S,?_⟩,by show ((s.length:Int)+1 - ((q:Int)+1)).toNat<((s.length:Int)+1 - (q:Int)).toNat; omega⟩
    rw [e,List.drop_eq_getElem_cons hlt]
    show ps++noDot (if s[q]=47 then _ else piecesGo (s.drop (q+1)) ((s.drop f).take (q - f)++[s[q]]))=_
    rw [if_neg a1]
    have:(s.drop f).take (q+1 - f)=(s.drop f).take (q - f)++[s[q]]:=by
     rw [show q+1 - f=(q - f)+1 by omega,List.take_succ_eq_append_getElem (by rw [List.length_drop]; omega),List.getElem_drop]
     congr 3; omega
    rw [this]
   ·have a1:s[q]=47:=(ne_byte s[q] (m:=47) (by decide)).mp h47
    refine sep ?_
    rw [List.drop_eq_getElem_cons hlt]
    show (if s[q]=47 then _ else _)=_
    rw [if_pos a1]
  ·refine sep ?_
   have d1:s.drop q=[]:=List.drop_of_length_le (by omega)
   have d2:s.drop (q+1)=[]:=List.drop_of_length_le (by omega)
   rw [d1,d2]
   exact (List.append_nil _).symm
 ·have:q=s.length+1:=by omega
  have:f=s.length+1:=by omega
  subst this
  subst q
  rw [List.drop_of_length_le (by omega),Nat.sub_self,List.take_zero] at e
  have e:comps s=ps++[]:=e
  rw [List.append_nil] at e
  subst hl
  refine hK a _ c hx F (by rw [e]) (by rw [e]; omega) ?_
  rw [e]; exact S
end
end Go.Proofs.YtiapingedfnlnaaGreatDoor.Tr
namespace Go.Proofs.YtiapingedfnlnaaGreatDoor.Tr
open Go Go.Proofs Wx Hp W Ad Tm Re Ss
open Hd (ints)
open In (ints_length ints_one)
open Pa (pieces piecesGo noDot comps noDot_append extract_mk)
open Sk (nameOk)
def textB (s:Tm.Txt):Bool:=s.all (fun b=>b != 0) && (comps s).all (fun p=>decide (p.length≤27)) && decide (1≤s.length) && decide (s.length≤1024) && decide ((comps s).length≤32)
def ltr (i:Nat):Tm.Txt:=[110,UInt8.ofNat (97+i / 26 % 26),UInt8.ofNat (97+i % 26)]
structure Nd where
 kind:Int
 depth:Int
 links:Int
 text:Tm.Txt
 names:List Tm.Txt
 nums:List Int
 up:Int
structure NdS where
 na:Option Addr
 nc:Nat
 ma:Option Addr
 mc:Nat
def ndV (z:NdS) (x:Nd):List Value:=[.int .i64 x.kind,.int .i64 x.depth,.int .i64 x.links,.string (mkStr x.text),.slice z.na x.names.length z.nc,.slice z.ma x.nums.length z.mc,.int .i64 x.up]
def hasN : List Tm.Txt→List Int→Tm.Txt→Int
 | x::r,n::m,s=>if x=s then n else hasN r m s
 | _,_,_=>0
theorem hasN_at : ∀ {l:List Tm.Txt} {m:List Int} {s:Tm.Txt} {q:Nat} (h1:q<l.length) (h2:q<m.length),(∀ j (hj:j<l.length),j<q→l[j]≠s)→l[q]=s→hasN l m s=m[q]
 | x::r,n::m,s,0,_,_,_,e=>if_pos e
 | x::r,n::m,s,q+1,h1,h2,h,e=>by
  have h0:x≠s:=h 0 (Nat.succ_pos _) (Nat.succ_pos _)
  show (if x=s then n else hasN r m s)=m[q]'_
  rw [if_neg h0]
  exact hasN_at (Nat.lt_of_succ_lt_succ h1) (Nat.lt_of_succ_lt_succ h2) (fun j hj hq=>h (j+1) (Nat.succ_lt_succ hj) (Nat.succ_lt_succ hq)) e
theorem hasN_no : ∀ {l:List Tm.Txt} {m:List Int} {s:Tm.Txt},(∀ x ∈ l,x≠s)→hasN l m s=0
 | [],_,_,_=>by cases ‹List Int› <;> rfl
 | _::_,[],_,_=>rfl
 | x::r,n::m,s,h=>by
  show (if x=s then n else hasN r m s)=0
  rw [if_neg (h x List.mem_cons_self)]
  exact hasN_no fun y hy=>h y (List.mem_cons_of_mem _ hy)
section
variable {h : Heap} {K : Value → Heap → Prop} {s : Tm.Txt} {nb : Nat} {z : NdS} {x : Nd}
structure NdAt (h:Heap) (nb:Nat) (z:NdS) (x:Nd):Prop where
 r:rd h nb=ndV z x
 na:SlCells h z.na (Ch.strs x.names)
 ma:SlCells h z.ma (ints x.nums)
 len:x.names.length=x.nums.length
theorem has_spec (N:NdAt h nb z x) (hl:x.names.length≤1000000) (hK:K (.int .i64 (hasN x.names x.nums s)) h):C.bolelaw16_Node_has (some ⟨nb,0,none⟩) (mkStr s) h K:=by
 have len:=N.len
 refine bolelaw16_Node_has.ok (os ⟨_,_,_,rda N.r rfl,fun i hx=>∃ q:Nat,i=q∧q≤x.names.length∧hx=h∧∀ j (hj:j<x.names.length),j<q→x.names[j]≠s,fun i _=>((x.names.length:Int) - i).toNat,⟨0,rfl,Nat.zero_le _,rfl,fun j _ y=>absurd y (Nat.not_lt_zero _)⟩,?_⟩)
 rintro i hx ⟨q,rfl,hq,rfl,e⟩
 refine cd (fun hlt=>?_) fun hge=>?_
 ·have hlt:q<x.names.length:=by omega
  obtain ⟨p,ep,cp⟩:=cells_str N.na hlt
  obtain ⟨p2,ep2,cp2⟩:=cells_int N.ma (j:=q) (by omega)
  rw [ep,Int.toNat_natCast]
  refine ⟨⟨by omega,by omega⟩,os ⟨_,cp,?_⟩⟩
  rw [toList_mkStr,toList_mkStr]
  refine cs (fun he=>os ⟨_,_,_,rda N.r rfl,⟨by omega,by omega⟩,?_⟩) fun he=>?_
  ·rw [ep2]
   refine os ⟨_,cp2,?_⟩
   rw [← hasN_at hlt (by omega) e (eq_of_beq he)]
   exact hK
  ·rw [wrap_i64 (show -9223372036854775808≤(q:Int)+1 by omega) (by omega)]
   refine ⟨⟨q+1,by omega,by omega,rfl,fun j hj y=>?_⟩,by show ((x.names.length:Int) - ((q:Int)+1)).toNat<((x.names.length:Int) - (q:Int)).toNat; omega⟩
   by_cases hjq:j=q
   ·subst hjq
    exact fun y=>by rw [y] at he; simp at he
   ·exact e j hj (by omega)
 ·rw [hasN_no fun y hy=>by
   obtain ⟨j,hj,rfl⟩:=List.mem_iff_getElem.mp hy
   exact e j hj (by omega)] at hK
  exact hK
theorem bvN {m:Nat} (hm:m<256):Value.int .u8 (m:Int)=bv (UInt8.ofNat m):=by
 unfold bv
 rw [UInt8.toNat_ofNat',show m % 2 ^ 8=m from Nat.mod_eq_of_lt hm]
theorem letters_spec {i:Nat} (hi:i<1000) (hK:∀ h',Fr No h h'→K (.string (mkStr (ltr i))) h'):C.bolelaw16_letters (i:Int) h K:=by
 refine bolelaw16_letters.ok ?_
 unfold bolelaw16_letters
 have t1:Int.tdiv (i:Int) 26=((i / 26:Nat):Int):=rfl
 have t2:Int.tmod (i:Int) 26=((i % 26:Nat):Int):=rfl
 rw [t1,t2,wrap_i64 (show -9223372036854775808≤((i / 26:Nat):Int) by omega) (by omega)]
 have t3:Int.tmod ((i / 26:Nat):Int) 26=((i / 26 % 26:Nat):Int):=rfl
 rw [t3,wrap_i64 (show -9223372036854775808≤97+((i / 26 % 26:Nat):Int) by omega) (by omega),wrap_i64 (show -9223372036854775808≤97+((i % 26:Nat):Int) by omega) (by omega),
  wrap_u8 (by omega) (by omega),wrap_u8 (by omega) (by omega)]
 have b1:Value.int .u8 (97+((i / 26 % 26:Nat):Int))=bv (UInt8.ofNat (97+i / 26 % 26)):=bvN (m:=97+i / 26 % 26) (by omega)
 have b2:Value.int .u8 (97+((i % 26:Nat):Int))=bv (UInt8.ofNat (97+i % 26)):=bvN (m:=97+i % 26) (by omega)
 rw [b1,b2]
 refine New.intro fun h2 n2=>⟨[UInt8.ofNat (97+i / 26 % 26),UInt8.ofNat (97+i % 26)],⟨rfl,cellsAll n2.rd⟩,by show ((3:Nat):Int)≤_; decide,?_⟩
 rw [show mkStr [110]++mkStr [UInt8.ofNat (97+i / 26 % 26),UInt8.ofNat (97+i % 26)]=mkStr (ltr i) from by
  apply ByteArray.ext
  rfl]
 exact hK h2 n2.fr
theorem text_spec (hs:s.length≤1000000000) (hK:∀ h',Fr No h h'→K (.bool (textB s)) h'):C.bolelaw16_text (mkStr s) h K:=by
 have hsz:(mkStr s).size=s.length:=rfl
 refine bolelaw16_text.ok (pieces_spec hs fun a l c h2 f2 hl hcl S=>⟨_,_,_,rfl,?_⟩)
 rw [hsz,toList_mkStr]
 refine ⟨fun i hx=>∃ q:Nat,i=q∧q≤s.length∧hx=h2∧(s.take q).all (fun b=>b != 0)=true,fun i _=>((s.length:Int) - i).toNat,⟨0,rfl,Nat.zero_le _,rfl,rfl⟩,?_⟩
 rintro i hx ⟨q,rfl,hq,rfl,e⟩
 refine cd (fun hlt=>?_) fun hge=>?_
 ·have hlt:q<s.length:=by omega
  have gq:s[(q:Int).toNat]?=some s[q]:=by rw [Int.toNat_natCast]; exact List.getElem?_eq_getElem hlt
  refine ⟨⟨by omega,by omega⟩,_,gq,ce (fun h0=>?_) fun h0=>?_⟩
  ·have a0:=(ne_byte s[q] (m:=0) (by decide)).mp h0
   have:s.all (fun b=>b != 0)=false:=by
    rw [List.all_eq_false]
    exact ⟨s[q],List.getElem_mem hlt,by rw [a0]; simp⟩
   have:=hK hx f2
   unfold textB at this
   rw [‹s.all _=false›] at this
   simp only [Bool.false_and] at this
   exact this
  ·rw [wrap_i64 (show -9223372036854775808≤(q:Int)+1 by omega) (by omega)]
   refine ⟨⟨q+1,by omega,by omega,rfl,?_⟩,by show ((s.length:Int) - ((q:Int)+1)).toNat<((s.length:Int) - (q:Int)).toNat; omega⟩
   rw [List.take_succ_eq_append_getElem hlt,List.all_append,e,Bool.true_and]
   have a2:s[q]≠0:=fun y=>h0 ((ne_byte s[q] (m:=0) (by decide)).mpr y)
   rw [List.all_cons,List.all_nil,Bool.and_true,bne_iff_ne.mpr a2]
 ·rw [List.take_of_length_le (by omega)] at e
  subst hl
  refine ⟨fun i hx'=>∃ q:Nat,i=q∧q≤(comps s).length∧hx'=hx∧((comps s).take q).all (fun p=>decide (p.length≤27))=true,fun i _=>(((comps s).length:Int) - i).toNat,⟨0,rfl,Nat.zero_le _,rfl,rfl⟩,?_⟩
  rintro i hx' ⟨q,rfl,hq,rfl,e2⟩
  have K':=hK hx' f2
  unfold textB at K'
  rw [e,Bool.true_and] at K'
  refine cd (fun hlt=>?_) fun hge=>?_
  ·have hlt:q<(comps s).length:=by omega
   obtain ⟨p,ep,cp⟩:=cells_str S.cells hlt
   rw [ep,Int.toNat_natCast]
   have sz:(mkStr (comps s)[q]).size=(comps s)[q].length:=rfl
   refine ⟨⟨by omega,by omega⟩,os ⟨_,cp,?_⟩⟩
   rw [sz]
   refine cd (fun h27=>?_) fun h27=>?_
   ·have:(comps s).all (fun p=>decide (p.length≤27))=false:=by
     rw [List.all_eq_false]
     exact ⟨(comps s)[q],List.getElem_mem hlt,by rw [decide_eq_true_eq]; omega⟩
    rw [this] at K'
    simp only [Bool.false_and] at K'
    exact K'
   ·rw [wrap_i64 (show -9223372036854775808≤(q:Int)+1 by omega) (by omega)]
    refine ⟨⟨q+1,by omega,by omega,rfl,?_⟩,by show (((comps s).length:Int) - ((q:Int)+1)).toNat<(((comps s).length:Int) - (q:Int)).toNat; omega⟩
    rw [List.take_succ_eq_append_getElem hlt,List.all_append,e2,Bool.true_and]
    rw [List.all_cons,List.all_nil,Bool.and_true,decide_eq_true_eq]; omega
  ·rw [List.take_of_length_le (by omega)] at e2
   rw [e2,Bool.true_and] at K'
   refine cd (fun h1=>cd (fun h2=>?_) fun h2=>?_) fun h1=>?_
   ·rw [decide_eq_true (p:=1≤s.length) (by omega),decide_eq_true (p:=s.length≤1024) (by omega),Bool.true_and,Bool.true_and] at K'
    rw [show decide (((comps s).length:Int)≤32)=decide ((comps s).length≤32) from decide_eq_decide.mpr (by omega)]
    exact K'
   ·rw [decide_eq_false (p:=s.length≤1024) (by omega)] at K'
    simp only [Bool.and_false,Bool.false_and] at K'
    exact K'
   ·rw [decide_eq_false (p:=1≤s.length) (by omega)] at K'
    simp only [Bool.false_and] at K'
    exact K'
end
end Go.Proofs.YtiapingedfnlnaaGreatDoor.Tr
namespace Go.Proofs.YtiapingedfnlnaaGreatDoor.Tr
open Go Go.Proofs Wx Hp W Ad Tm Re Ss
open Hd (ints)
open In (ints_length ints_one)
open Sk (nameOk)
structure Th where
 inn:Int
 kind:Int
 same:Int
 name:Tm.Txt
 text:Tm.Txt
def thV (t:Th):List Value:=[.int .i64 t.inn,.int .i64 t.kind,.int .i64 t.same,.string (mkStr t.name),.string (mkStr t.text)]
def modU (x:Int) (m:Nat):Nat:=((x % 18446744073709551616) % (m:Int)).toNat
theorem modU_lt {x:Int} {m:Nat} (h:0<m):modU x m<m:=by
 unfold modU
 have a:=Int.emod_nonneg (x % 18446744073709551616) (show (m:Int)≠0 by omega)
 have b:=Int.emod_lt_of_pos (x % 18446744073709551616) (show (0:Int)<m by omega)
 omega
structure Ts where
 n:Nat
 nd:Nat→Nd
 dirs:List Nat
 oth:List Nat
 left:Nat
def nd0 : Nd:=⟨0,0,0,[],[],[],0⟩
def rootN : Nd:=⟨2,0,2,[],[],[],1⟩
def upF {α:Type} (f:Nat→α) (k:Nat) (x:α):Nat→α:=fun j=>if j=k then x else f j
def addN (x:Nd) (s:Tm.Txt) (m:Nat):Nd:={ x with names:=x.names++[s],nums:=x.nums++[(m:Int)] }
def linkN (x:Nd):Nd:={ x with links:=x.links+1 }
def kindT (t:Th):Nat:=1+modU (t.kind - 1) 4
def saidT (t:Th):Tm.Txt:=if textB t.text=true then t.text else [120]
def inT (t:Th) (s:Ts):Nat:=if 32≤(s.nd (s.dirs.getD (modU t.inn s.dirs.length) 0)).depth then 1 else s.dirs.getD (modU t.inn s.dirs.length) 0
def nameT (i:Nat) (t:Th) (x:Nd):Tm.Txt:=if nameOk t.name=true∧hasN x.names x.nums t.name=0 then t.name else ltr i
def needT (t:Th) (x:Nd):Nat:=(if x.names.length % 16=0 then 1 else 0)+(if kindT t=3 then ((saidT t).length+511) / 512 else 0)
def newN (t:Th) (d:Nat) (x:Nd):Nd :=
 if kindT t=2 then ⟨2,x.depth+1,2,[],[],[],d⟩ else if kindT t=3 then ⟨3,x.depth+1,1,saidT t,[],[],0⟩ else ⟨1,x.depth+1,1,[],[],[],0⟩
def stepT (cnt:Nat) (i:Nat) (t:Th) (s:Ts):Ts :=
 if hasN (s.nd (inT t s)).names (s.nd (inT t s)).nums (nameT i t (s.nd (inT t s)))≠0 then s else
 if s.left<needT t (s.nd (inT t s)) then s else
 if kindT t=4∧s.oth≠[] then
  { s with nd:=upF (upF s.nd (s.oth.getD (modU t.same s.oth.length) 0) (linkN (s.nd (s.oth.getD (modU t.same s.oth.length) 0)))) (inT t s) (addN (s.nd (inT t s)) (nameT i t (s.nd (inT t s))) (s.oth.getD (modU t.same s.oth.length) 0)),left:=s.left - needT t (s.nd (inT t s)) }
 else if cnt≤s.n then s else
  { n:=s.n+1,nd:=upF (upF s.nd (inT t s) (addN (if kindT t=2 then linkN (s.nd (inT t s)) else s.nd (inT t s)) (nameT i t (s.nd (inT t s))) s.n)) s.n (newN t (inT t s) (s.nd (inT t s))),dirs:=if kindT t=2 then s.dirs++[s.n] else s.dirs,oth:=if kindT t=2 then s.oth else s.oth++[s.n],left:=s.left - needT t (s.nd (inT t s)) }
def treeGo (cnt:Nat):Nat→List Th→Ts→Ts
 | _,[],s=>s
 | i,t::r,s=>if 40≤i then s else treeGo cnt (i+1) r (stepT cnt i t s)
def treeP (n:Nat) (l:List Th):Ts:=treeGo (Spc.geoN n).count 0 l ⟨2,upF (fun _=>nd0) 1 rootN,[1],[],n - (Spc.geoN n).data⟩
structure TsOk (i:Nat) (s:Ts):Prop where
 n2:2≤s.n
 nn:s.n≤i+2
 dn:s.dirs≠[]
 dr:∀ d ∈ s.dirs,1≤d∧d<s.n∧(s.nd d).kind=2
 or_:∀ d ∈ s.oth,1≤d∧d<s.n∧(s.nd d).kind≠2
 dl:s.dirs.length≤i+1
 ol:s.oth.length≤i
 root:(s.nd 1).kind=2
 len:∀ k,(s.nd k).names.length=(s.nd k).nums.length∧(s.nd k).names.length≤i
 dep:∀ k,0≤(s.nd k).depth∧(s.nd k).depth≤i
 lnk:∀ k,0≤(s.nd k).links∧(s.nd k).links≤i+2
 nm:∀ k,k<s.n→∀ x ∈ (s.nd k).names,nameOk x=true
 nu:∀ k,k<s.n→∀ x ∈ (s.nd k).nums,1≤x∧x<(s.n:Int)
theorem in_rng {i:Nat} {s:Ts} (o:TsOk i s) (t:Th):1≤inT t s∧inT t s<s.n∧(s.nd (inT t s)).kind=2:=by
 unfold inT
 split
 ·exact ⟨Nat.le_refl _,o.n2,o.root⟩
 ·have hp:0<s.dirs.length:=List.length_pos_iff.mpr o.dn
  have hm:=modU_lt (x:=t.inn) hp
  have e:s.dirs.getD (modU t.inn s.dirs.length) 0=s.dirs[modU t.inn s.dirs.length]:=by
   rw [List.getD_eq_getElem?_getD,List.getElem?_eq_getElem hm]; rfl
  rw [e]
  exact o.dr _ (List.getElem_mem hm)
theorem oth_rng {i:Nat} {s:Ts} (o:TsOk i s) (x:Int) (h:s.oth≠[]):1≤s.oth.getD (modU x s.oth.length) 0∧s.oth.getD (modU x s.oth.length) 0<s.n∧(s.nd (s.oth.getD (modU x s.oth.length) 0)).kind≠2:=by
 have hp:0<s.oth.length:=List.length_pos_iff.mpr h
 have hm:=modU_lt (x:=x) hp
 have e:s.oth.getD (modU x s.oth.length) 0=s.oth[modU x s.oth.length]:=by
  rw [List.getD_eq_getElem?_getD,List.getElem?_eq_getElem hm]; rfl
 rw [e]
 exact o.or_ _ (List.getElem_mem hm)
end Go.Proofs.YtiapingedfnlnaaGreatDoor.Tr
namespace Go.Proofs.YtiapingedfnlnaaGreatDoor.Tr
open Go Go.Proofs Wx Hp Ad Tm
open Sk (nameOk)
theorem ltr_ok : ∀ i,i<100→nameOk (ltr i)=true:=by decide +kernel
theorem upF_at {α:Type} (f:Nat→α) (k:Nat) (x:α):upF f k x k=x:=if_pos rfl
theorem upF_ne {α:Type} (f:Nat→α) {k j:Nat} (x:α) (h:j≠k):upF f k x j=f j:=if_neg h
theorem TsOk.next {i:Nat} {s:Ts} (o:TsOk i s):TsOk (i+1) s :=
 ⟨o.n2,by have:=o.nn; omega,o.dn,o.dr,o.or_,by have:=o.dl; omega,by have:=o.ol; omega,o.root,fun k=>⟨(o.len k).1,by have:=(o.len k).2; omega⟩,fun k=>by have:=o.dep k; omega,fun k=>by have:=o.lnk k; omega,o.nm,o.nu⟩
theorem name_ok {i:Nat} (hi:i<100) (t:Th) (x:Nd):nameOk (nameT i t x)=true:=by
 unfold nameT
 split
 ·rename_i h; exact h.1
 ·exact ltr_ok i hi
theorem step_ok {cnt i:Nat} {t:Th} {s:Ts} (o:TsOk i s) (hi:i<40):TsOk (i+1) (stepT cnt i t s):=by
 have hin:=in_rng o t
 have hnm:=name_ok (i:=i) (by omega) t (s.nd (inT t s))
 unfold stepT
 generalize nameT i t (s.nd (inT t s))=nm at hnm
 generalize needT t (s.nd (inT t s))=need
 split
 ·exact o.next
 ·split
  ·exact o.next
  ·split
   ·rename_i h
    have ho:=oth_rng o t.same h.2
    generalize s.oth.getD (modU t.same s.oth.length) 0=q at ho
    generalize inT t s=d at hin
    have dq:d≠q:=fun y=>by subst y; exact ho.2.2 hin.2.2
    have e:∀ k,upF (upF s.nd q (linkN (s.nd q))) d (addN (s.nd d) nm q) k=if k=d then addN (s.nd d) nm q else if k=q then linkN (s.nd q) else s.nd k:=fun k=>rfl
    have all:∀ (P:Nd→Prop) k,P (addN (s.nd d) nm q)→P (linkN (s.nd q))→P (s.nd k)→P (upF (upF s.nd q (linkN (s.nd q))) d (addN (s.nd d) nm q) k):=fun P k a b c=>by
     rw [e]
     split
     ·exact a
     ·split
      ·exact b
      ·exact c
    have kd:∀ k,(upF (upF s.nd q (linkN (s.nd q))) d (addN (s.nd d) nm q) k).kind=(s.nd k).kind:=fun k=>by
     rw [e]
     split
     ·rename_i y; rw [y]; rfl
     ·split
      ·rename_i y; rw [y]; rfl
      ·rfl
    refine ⟨o.n2,by have:=o.nn; show s.n≤_; omega,o.dn,fun x hx=>?_,fun x hx=>?_,by have:=o.dl; show s.dirs.length≤_; omega,by have:=o.ol; show s.oth.length≤_; omega,(kd 1).trans o.root,fun k=>?_,fun k=>?_,fun k=>?_,fun k hk x hx=>?_,fun k hk x hx=>?_⟩
    ·have:=o.dr x hx
     exact ⟨this.1,this.2.1,(kd x).trans this.2.2⟩
    ·have:=o.or_ x hx
     exact ⟨this.1,this.2.1,fun y=>this.2.2 ((kd x).symm.trans y)⟩
    ·have h1:=o.len d
     have h2:=o.len k
     have h3:=o.len q
     exact all (fun y=>y.names.length=y.nums.length∧y.names.length≤i+1) k (by
      show ((s.nd d).names++[nm]).length=((s.nd d).nums++[(q:Int)]).length∧((s.nd d).names++[nm]).length≤i+1
      rw [List.length_append,List.length_append]
      exact ⟨by rw [h1.1]; rfl,by show (s.nd d).names.length+1≤i+1; omega⟩) ⟨h3.1,by show (s.nd q).names.length≤i+1; omega⟩ ⟨h2.1,by omega⟩
    ·have h1:=o.dep d
     have h2:=o.dep k
     have h3:=o.dep q
     exact all (fun y=>0≤y.depth∧y.depth≤((i+1:Nat):Int)) k (by show 0≤(s.nd d).depth∧(s.nd d).depth≤((i+1:Nat):Int); omega) (by show 0≤(s.nd q).depth∧(s.nd q).depth≤((i+1:Nat):Int); omega) (by omega)
    ·have h1:=o.lnk d
     have h2:=o.lnk k
     have h3:=o.lnk q
     exact all (fun y=>0≤y.links∧y.links≤((i+1:Nat):Int)+2) k (by show 0≤(s.nd d).links∧(s.nd d).links≤((i+1:Nat):Int)+2; omega) (by show 0≤(s.nd q).links+1∧(s.nd q).links+1≤((i+1:Nat):Int)+2; omega) (by omega)
    ·have hx:x ∈ (upF (upF s.nd q (linkN (s.nd q))) d (addN (s.nd d) nm q) k).names:=hx
     rw [e] at hx
     split at hx
     ·rcases List.mem_append.mp hx with y|y
      ·exact o.nm d hin.2.1 x y
      ·rw [List.mem_singleton.mp y]; exact hnm
     ·split at hx
      ·exact o.nm q ho.2.1 x hx
      ·exact o.nm k hk x hx
    ·have hx:x ∈ (upF (upF s.nd q (linkN (s.nd q))) d (addN (s.nd d) nm q) k).nums:=hx
     rw [e] at hx
     split at hx
     ·rcases List.mem_append.mp hx with y|y
      ·exact o.nu d hin.2.1 x y
      ·rw [List.mem_singleton.mp y]
       show 1≤(q:Int)∧(q:Int)<(s.n:Int)
       omega
     ·split at hx
      ·exact o.nu q ho.2.1 x hx
      ·exact o.nu k hk x hx
   ·split
    ·exact o.next
    ·generalize hd:inT t s=d at hin
     have dn:d≠s.n:=by omega
     have e:∀ k,upF (upF s.nd d (addN (if kindT t=2 then linkN (s.nd d) else s.nd d) nm s.n)) s.n (newN t d (s.nd d)) k=if k=s.n then newN t d (s.nd d) else if k=d then addN (if kindT t=2 then linkN (s.nd d) else s.nd d) nm s.n else s.nd k:=fun k=>rfl
     have kd:∀ k,k<s.n→(upF (upF s.nd d (addN (if kindT t=2 then linkN (s.nd d) else s.nd d) nm s.n)) s.n (newN t d (s.nd d)) k).kind=(s.nd k).kind:=fun k hk=>by
      rw [e,if_neg (by omega)]
      split
      ·rename_i y; rw [y]
       show (if kindT t=2 then linkN (s.nd d) else s.nd d).kind=_
       split <;> rfl
      ·rfl
     have kn:(upF (upF s.nd d (addN (if kindT t=2 then linkN (s.nd d) else s.nd d) nm s.n)) s.n (newN t d (s.nd d)) s.n).kind=2↔kindT t=2:=by
      rw [e,if_pos rfl]
      unfold newN
      split
      ·rename_i y; exact ⟨fun _=>y,fun _=>rfl⟩
      ·rename_i y
       split
       ·exact ⟨fun z=>absurd (show (3:Int)=2 from z) (by decide),fun z=>absurd z y⟩
       ·exact ⟨fun z=>absurd (show (1:Int)=2 from z) (by decide),fun z=>absurd z y⟩
     have nw:(newN t d (s.nd d)).names=[]∧(newN t d (s.nd d)).nums=[]∧(newN t d (s.nd d)).depth=(s.nd d).depth+1∧0≤(newN t d (s.nd d)).links∧(newN t d (s.nd d)).links≤2:=by
      unfold newN
      split
      ·exact ⟨rfl,rfl,rfl,by show (0:Int)≤2; decide,by show (2:Int)≤2; decide⟩
      ·split
       ·exact ⟨rfl,rfl,rfl,by show (0:Int)≤1; decide,by show (1:Int)≤2; decide⟩
       ·exact ⟨rfl,rfl,rfl,by show (0:Int)≤1; decide,by show (1:Int)≤2; decide⟩
     have ad:(addN (if kindT t=2 then linkN (s.nd d) else s.nd d) nm s.n).names=(s.nd d).names++[nm]∧(addN (if kindT t=2 then linkN (s.nd d) else s.nd d) nm s.n).nums=(s.nd d).nums++[(s.n:Int)]∧(addN (if kindT t=2 then linkN (s.nd d) else s.nd d) nm s.n).depth=(s.nd d).depth ∧
       (s.nd d).links≤(addN (if kindT t=2 then linkN (s.nd d) else s.nd d) nm s.n).links∧(addN (if kindT t=2 then linkN (s.nd d) else s.nd d) nm s.n).links≤(s.nd d).links+1:=by
      split
      ·exact ⟨rfl,rfl,rfl,by show (s.nd d).links≤(s.nd d).links+1; omega,Int.le_refl _⟩
      ·exact ⟨rfl,rfl,rfl,Int.le_refl _,by show (s.nd d).links≤(s.nd d).links+1; omega⟩
     generalize newN t d (s.nd d)=nw_ at e kd kn nw
     generalize addN (if kindT t=2 then linkN (s.nd d) else s.nd d) nm s.n=ad_ at e kd kn ad
     have all:∀ (P:Nd→Prop) k,P nw_→P ad_→P (s.nd k)→P (upF (upF s.nd d ad_) s.n nw_ k):=fun P k a b c=>by
      rw [e]
      split
      ·exact a
      ·split
       ·exact b
       ·exact c
     have n2:=o.n2
     have nn:=o.nn
     have dl:=o.dl
     have ol:=o.ol
     refine ⟨by show 2≤s.n+1; omega,by show s.n+1≤i+1+2; omega,?_,fun x hx=>?_,fun x hx=>?_,?_,?_,(kd 1 (by omega)).trans o.root,fun k=>?_,fun k=>?_,fun k=>?_,fun k hk x hx=>?_,fun k hk x hx=>?_⟩
     ·show (if kindT t=2 then s.dirs++[s.n] else s.dirs)≠[]
      split
      ·simp
      ·exact o.dn
     ·have hx:x ∈ (if kindT t=2 then s.dirs++[s.n] else s.dirs):=hx
      have old:x ∈ s.dirs→1≤x∧x<s.n+1∧(upF (upF s.nd d ad_) s.n nw_ x).kind=2:=fun hx=>by
       have:=o.dr x hx
       exact ⟨this.1,by omega,(kd x this.2.1).trans this.2.2⟩
      split at hx
      ·rename_i k2
       rcases List.mem_append.mp hx with y|y
       ·exact old y
       ·rw [List.mem_singleton.mp y]
        exact ⟨by omega,Nat.lt_succ_self _,kn.mpr k2⟩
      ·exact old hx
     ·have hx:x ∈ (if kindT t=2 then s.oth else s.oth++[s.n]):=hx
      have old:x ∈ s.oth→1≤x∧x<s.n+1∧(upF (upF s.nd d ad_) s.n nw_ x).kind≠2:=fun hx=>by
       have:=o.or_ x hx
       exact ⟨this.1,by omega,fun y=>this.2.2 ((kd x this.2.1).symm.trans y)⟩
      split at hx
      ·exact old hx
      ·rename_i k2
       rcases List.mem_append.mp hx with y|y
       ·exact old y
       ·rw [List.mem_singleton.mp y]
        exact ⟨by omega,Nat.lt_succ_self _,fun z=>k2 (kn.mp z)⟩
     ·show (if kindT t=2 then s.dirs++[s.n] else s.dirs).length≤i+1+1
      split
      ·rw [List.length_append]; show s.dirs.length+1≤_; omega
      ·omega
     ·show (if kindT t=2 then s.oth else s.oth++[s.n]).length≤i+1
      split
      ·omega
      ·rw [List.length_append]; show s.oth.length+1≤_; omega
     ·have h1:=o.len d
      have h2:=o.len k
      exact all (fun y=>y.names.length=y.nums.length∧y.names.length≤i+1) k (by rw [nw.1,nw.2.1]; exact ⟨rfl,Nat.zero_le _⟩) (by
       rw [ad.1,ad.2.1,List.length_append,List.length_append]
       exact ⟨by rw [h1.1]; rfl,by show (s.nd d).names.length+1≤i+1; omega⟩) ⟨h2.1,by omega⟩
     ·have h1:=o.dep d
      have h2:=o.dep k
      exact all (fun y=>0≤y.depth∧y.depth≤((i+1:Nat):Int)) k (by rw [nw.2.2.1]; omega) (by rw [ad.2.2.1]; omega) (by omega)
     ·have h1:=o.lnk d
      have h2:=o.lnk k
      exact all (fun y=>0≤y.links∧y.links≤((i+1:Nat):Int)+2) k (by have:=nw.2.2.2; omega) (by have:=ad.2.2.2; omega) (by omega)
     ·have hx:x ∈ (upF (upF s.nd d ad_) s.n nw_ k).names:=hx
      rw [e] at hx
      split at hx
      ·rw [nw.1] at hx; cases hx
      ·rename_i kne
       split at hx
       ·rw [ad.1] at hx
        rcases List.mem_append.mp hx with y|y
        ·exact o.nm d hin.2.1 x y
        ·rw [List.mem_singleton.mp y]; exact hnm
       ·exact o.nm k (by have hk:k<s.n+1:=hk; omega) x hx
     ·have hx:x ∈ (upF (upF s.nd d ad_) s.n nw_ k).nums:=hx
      show 1≤x∧x<((s.n+1:Nat):Int)
      rw [e] at hx
      split at hx
      ·rw [nw.2.1] at hx; cases hx
      ·rename_i kne
       split at hx
       ·rw [ad.2.1] at hx
        rcases List.mem_append.mp hx with y|y
        ·have:=o.nu d hin.2.1 x y; omega
        ·rw [List.mem_singleton.mp y]; omega
       ·have:=o.nu k (by have hk:k<s.n+1:=hk; omega) x hx; omega
end Go.Proofs.YtiapingedfnlnaaGreatDoor.Tr
namespace Go.Proofs.YtiapingedfnlnaaGreatDoor.Tr
open Go Go.Proofs Wx Hp Ad Tm
open Sk (nameOk)
def blkN (x:Nd):Nat:=if x.kind=3 then (x.text.length+511) / 512 else (x.names.length+15) / 16
def sumB (f:Nat→Nd):Nat→Nat
 | 0=>0
 | k+1=>sumB f k+blkN (f k)
theorem sumB_congr {f g:Nat→Nd}:∀ n,(∀ k,k<n→blkN (f k)=blkN (g k))→sumB f n=sumB g n
 | 0,_=>rfl
 | n+1,h=>by
  show sumB f n+blkN (f n)=sumB g n+blkN (g n)
  rw [sumB_congr n fun k hk=>h k (by omega),h n (Nat.lt_succ_self _)]
theorem sumB_upd {f g:Nat→Nd} {d a:Nat} (h1:∀ k,k≠d→blkN (g k)=blkN (f k)) (h2:blkN (g d)=blkN (f d)+a):∀ n,sumB g n=sumB f n+if d<n then a else 0
 | 0=>by rw [if_neg (Nat.not_lt_zero _)]; rfl
 | n+1=>by
  show sumB g n+blkN (g n)=sumB f n+blkN (f n)+_
  rw [sumB_upd h1 h2 n]
  by_cases e:n=d
  ·subst e
   rw [h2,if_neg (Nat.lt_irrefl _),if_pos (Nat.lt_succ_self _)]; omega
  ·rw [h1 n e]
   by_cases hd:d<n
   ·rw [if_pos hd,if_pos (by omega)]; omega
   ·rw [if_neg hd,if_neg (by omega)]; omega
theorem blk_add {x:Nd} {s:Tm.Txt} {m:Nat} (h:x.kind=2):blkN (addN x s m)=blkN x+if x.names.length % 16=0 then 1 else 0:=by
 unfold blkN
 rw [if_neg (show ¬ (addN x s m).kind=3 from fun y=>by have y:x.kind=3:=y; omega),if_neg (by omega)]
 show ((x.names++[s]).length+15) / 16=_
 rw [List.length_append]
 show (x.names.length+1+15) / 16=_
 split <;> omega
theorem blk_new {t:Th} {d:Nat} {x:Nd}:blkN (newN t d x)=if kindT t=3 then ((saidT t).length+511) / 512 else 0:=by
 unfold newN
 by_cases k2:kindT t=2
 ·rw [if_pos k2,if_neg (by omega)]; unfold blkN; rw [if_neg (show ¬ ((2:Int)=3) by decide)]; exact (by decide:(0+15) / 16=0)
 ·rw [if_neg k2]
  by_cases k3:kindT t=3
  ·rw [if_pos k3,if_pos k3]; rfl
  ·rw [if_neg k3,if_neg k3]; unfold blkN; rw [if_neg (show ¬ ((1:Int)=3) by decide)]; exact (by decide:(0+15) / 16=0)
theorem step_sum {cnt i:Nat} {t:Th} {s:Ts} (o:TsOk i s):sumB (stepT cnt i t s).nd (stepT cnt i t s).n+(stepT cnt i t s).left=sumB s.nd s.n+s.left:=by
 have hin:=in_rng o t
 unfold stepT
 generalize hd:inT t s=d at hin
 generalize nameT i t (s.nd d)=nm
 have en:needT t (s.nd d)=(if (s.nd d).names.length % 16=0 then 1 else 0)+(if kindT t=3 then ((saidT t).length+511) / 512 else 0):=rfl
 generalize needT t (s.nd d)=need at en
 split
 ·rfl
 ·split
  ·rfl
  ·rename_i hneed
   split
   ·rename_i h
    have ho:=oth_rng o t.same h.2
    generalize s.oth.getD (modU t.same s.oth.length) 0=q at ho
    have dq:d≠q:=fun y=>by subst y; exact ho.2.2 hin.2.2
    show sumB (upF (upF s.nd q (linkN (s.nd q))) d (addN (s.nd d) nm q)) s.n+(s.left - need)=_
    rw [sumB_upd (f:=s.nd) (d:=d) (a:=if (s.nd d).names.length % 16=0 then 1 else 0) (fun k hk=>by
     rw [upF_ne _ _ hk]
     by_cases e:k=q
     ·subst e; rw [upF_at]; rfl
     ·rw [upF_ne _ _ e]) (by rw [upF_at]; exact blk_add hin.2.2) s.n,if_pos hin.2.1]
    rw [if_neg (show ¬ kindT t=3 by omega)] at en
    omega
   ·split
    ·rfl
    ·show sumB (upF (upF s.nd d (addN (if kindT t=2 then linkN (s.nd d) else s.nd d) nm s.n)) s.n (newN t d (s.nd d))) s.n+blkN (upF (upF s.nd d (addN (if kindT t=2 then linkN (s.nd d) else s.nd d) nm s.n)) s.n (newN t d (s.nd d)) s.n)+(s.left - need)=_
     rw [upF_at,blk_new,sumB_congr (g:=upF s.nd d (addN (if kindT t=2 then linkN (s.nd d) else s.nd d) nm s.n)) s.n fun k hk=>by rw [upF_ne _ _ (by omega)]]
     rw [sumB_upd (f:=s.nd) (d:=d) (a:=if (s.nd d).names.length % 16=0 then 1 else 0) (fun k hk=>by rw [upF_ne _ _ hk]) (by
      rw [upF_at]
      split
      ·exact blk_add (x:=linkN (s.nd d)) hin.2.2
      ·exact blk_add hin.2.2) s.n,if_pos hin.2.1]
     omega
theorem treeGo_ok {cnt:Nat}:∀ (l:List Th) (i:Nat) (s:Ts),TsOk i s→i≤40→∃ j,j≤40∧TsOk j (treeGo cnt i l s)∧sumB (treeGo cnt i l s).nd (treeGo cnt i l s).n+(treeGo cnt i l s).left=sumB s.nd s.n+s.left
 | [],i,s,o,hi=>⟨i,hi,o,rfl⟩
 | t::r,i,s,o,hi=>by
  show ∃ j,j≤40∧TsOk j (if 40≤i then s else treeGo cnt (i+1) r (stepT cnt i t s))∧sumB (if 40≤i then s else treeGo cnt (i+1) r (stepT cnt i t s)).nd (if 40≤i then s else treeGo cnt (i+1) r (stepT cnt i t s)).n+(if 40≤i then s else treeGo cnt (i+1) r (stepT cnt i t s)).left=_
  by_cases h:40≤i
  ·rw [if_pos h]; exact ⟨i,hi,o,rfl⟩
  ·rw [if_neg h]
   obtain ⟨j,hj,oj,e⟩:=treeGo_ok (cnt:=cnt) r (i+1) (stepT cnt i t s) (step_ok o (by omega)) (by omega)
   exact ⟨j,hj,oj,e.trans (step_sum o)⟩
end Go.Proofs.YtiapingedfnlnaaGreatDoor.Tr
namespace Go.Proofs.YtiapingedfnlnaaGreatDoor.Tr
open Go Go.Proofs Wx Hp W Ad Tm Re Ss
theorem leB_succ' (k v:Nat):leBs (k+1) v=leBs k v++[UInt8.ofNat (v / 256 ^ k)]:=by
 unfold leBs
 rw [List.range_succ,List.map_append]; rfl
theorem put_app1 (X ys:List Value) (o:Nat) (y:Value):put X o (ys++[y])=(put X o ys).set (o+ys.length) y:=by
 induction ys generalizing X o with
 | nil=>rfl
 | cons z r ih =>
  show put (X.set o z) (o+1) (r++[y])=(put (X.set o z) (o+1) r).set (o+(r.length+1)) y
  rw [ih,show o+1+r.length=o+(r.length+1) by omega]
theorem low_spec {h:Heap} {b o l c v:Nat} {K:Value→Heap→Prop} (w:Own h b) (hw:o+l≤(rd h b).length) (hl:l≤8) (hv:v<9223372036854775808)
  (hK:∀ h',Did b h h' (put (rd h b) o ((leBs l v).map bv))→K (.tuple #[]) h'):C.bolelaw16_low (some ⟨b,o,none⟩) l c (v:Int) h K:=by
 refine bolelaw16_low.ok ⟨fun n2 n3 hx=>∃ k:Nat,n3=k∧k≤l∧n2=((v / 256 ^ k:Nat):Int)∧Did b h hx (put (rd h b) o ((leBs k v).map bv)),fun _ n3 _=>((l:Int) - n3).toNat,⟨0,rfl,Nat.zero_le _,by rw [Nat.pow_zero,Nat.div_one],⟨rfl,Fr.refl _ _,w,rfl⟩⟩,?_⟩
 rintro n2 n3 hx ⟨k,rfl,hk,rfl,d⟩
 have vk:v / 256 ^ k≤v:=Nat.div_le_self _ _
 refine cd (fun hlt=>?_) fun hge=>?_
 ·refine ⟨⟨by omega,by omega⟩,os ?_⟩
  rw [Int.toNat_natCast,In.bv_nat]
  refine Put.add d.own (by rw [d.rd,put_length]; omega) fun h3 d3=>?_
  have e1:Int.tdiv ((v / 256 ^ k:Nat):Int) 256=((v / 256 ^ (k+1):Nat):Int):=by
   rw [Nat.pow_succ,← Nat.div_div_eq_div_mul]; rfl
  have vk1:v / 256 ^ (k+1)≤v:=Nat.div_le_self _ _
  obtain ⟨w1,hw1⟩:∃ w1,v / 256 ^ (k+1)=w1:=⟨_,rfl⟩
  rw [hw1] at e1 vk1
  rw [e1,wrap_i64 (show -9223372036854775808≤(w1:Int) by omega) (by omega),wrap_i64 (show -9223372036854775808≤(k:Int)+1 by omega) (by omega)]
  refine ⟨⟨k+1,by omega,by omega,by rw [hw1],⟨d3.size.trans d.size,d.fr.trans d3.fr fun _ _ y=>y,d3.own,?_⟩⟩,by show ((l:Int) - ((k:Int)+1)).toNat<((l:Int) - (k:Int)).toNat; omega⟩
  rw [d3.rd,d.rd,leB_succ',List.map_append,List.map_cons,List.map_nil,put_app1,List.length_map,leB_length]
 ·have:k=l:=by omega
  subst this
  exact hK hx d
end Go.Proofs.YtiapingedfnlnaaGreatDoor.Tr
namespace Go.Proofs.YtiapingedfnlnaaGreatDoor
open Go
theorem joinedFacts_of {P:Program} {f:FuncId} {fn:Func} {s:ChangeSpec} {c:OpenClaim}
  (h1:c.wf (OpenSpec.ofChange s)=true) (h2:laidOutB P=true) (h3:mapsRowed P=true)
  (h4:(fn.params.all (P.readableRec ·) && namedTie P c.named s.vars && (c.stops == []) && (P.stops == []) && (c.knobs == []) && (P.stopKnobs == []))=true)
  (h5:(c.inPlace == P.inPlace f)=true) (h6:P.unfollowed f=true) (h6':c.unfollowed=true) (h6'':c.recurses=true) (h7:(c.named == P.varsNamed f)=true)
  (h8:((c.maps == (fn.params.toList++s.plain.varTypes P).any (P.mapsRec ·)) && (c.ifaces == (fn.params.toList++s.plain.varTypes P).any (P.ifacesRec ·)) && (c.mapsOut == P.mapsAmong fn.resultTypes.toList) &&
 (c.loops == (fn.params.toList++s.plain.varTypes P).any (P.loopsFrom ·)) && (c.wideKeys == (fn.params.toList++s.plain.varTypes P++fn.resultTypes.toList).any (P.wideKeysFrom ·)) &&
 s.vars.all (P.varReadable ·) && fn.resultTypes.all (fun t=>P.readableRec t && decide (t<P.types.size)) && (c.ifacesOut == fn.resultTypes.toList.any (P.ifacesRec ·)) && (c.loopsOut == fn.resultTypes.toList.any (P.loopsFrom ·)))=true)
  (h9:(c.plainKeys == P.plainKeys)=true)
  (h10:(c.shortTexts.isNone && P.stopsHeard && P.mayEnter && (c.lifted == P.liftsFinal) && (P.make == some c.make) && (c.kinds == (if c.domain.isEmpty then [] else fn.params.toList.map fun t=>match P.underlying t with|some (.int k)=>some k|_=>none)) && (c.pinned == c.pinnedBy))=true)
  (h11:((c.veiled == (fn.params.toList++s.plain.varTypes P++fn.resultTypes.toList).any (P.veiledRec ·)) && c.veiledFits P fn.params.toList (fn.params.toList++s.plain.varTypes P++fn.resultTypes.toList))=true) :
  joinedFacts P f fn s c=true:=by
 have r:P.recurses f=true:=by unfold Program.recurses; rw [h6]; rfl
 simp only [Bool.and_eq_true] at h4 h8 h10 h11
 obtain ⟨⟨⟨⟨⟨a1,a2⟩,a3⟩,a4⟩,a5⟩,a6⟩:=h4
 obtain ⟨⟨⟨⟨⟨⟨⟨⟨b1,b2⟩,b3⟩,b4⟩,b5⟩,b6⟩,b7⟩,b8⟩,b9⟩:=h8
 obtain ⟨⟨⟨⟨⟨⟨c1,c2⟩,c3⟩,c4⟩,c5⟩,c6⟩,c7⟩:=h10
 obtain ⟨d1,d2⟩:=h11
 simp only [joinedFacts,Bool.and_eq_true]
 have e1:(c.unfollowed == P.unfollowed f)=true:=by rw [h6,h6']; rfl
 have e2:(c.recurses == P.recurses f)=true:=by rw [r,h6'']; rfl
 exact ⟨⟨⟨⟨⟨⟨⟨⟨⟨⟨⟨⟨⟨⟨⟨⟨⟨⟨⟨⟨⟨⟨⟨⟨⟨⟨⟨⟨⟨⟨⟨h1,h2⟩,h3⟩,a1⟩,a2⟩,a3⟩,a4⟩,a5⟩,a6⟩,h5⟩,e1⟩,e2⟩,h7⟩,b1⟩,b2⟩,b3⟩,b4⟩,b5⟩,b6⟩,b7⟩,b8⟩,b9⟩,h9⟩,c1⟩,c2⟩,c3⟩,c4⟩,c5⟩,c6⟩,c7⟩,d1⟩,d2⟩
end Go.Proofs.YtiapingedfnlnaaGreatDoor
namespace Go.Proofs.YtiapingedfnlnaaGreatDoor.Pa
open Go Go.Proofs Wx Hp W Sk Ch Rg
def Piece (p:Txt):Prop:=p≠[]∧∀ b ∈ p,b≠47
theorem piecesGo_ok : ∀ (r cur:Txt),(∀ b ∈ cur,b≠47)→∀ p ∈ piecesGo r cur,Piece p∧∀ b ∈ p,b ∈ cur∨b ∈ r
 | [],cur,h,p,hp=>by
  unfold piecesGo at hp
  split at hp
  ·cases hp
  ·rename_i hc
   rw [List.mem_singleton.mp hp]
   exact ⟨⟨hc,h⟩,fun b hb => .inl hb⟩
 | x::r,cur,h,p,hp=>by
  unfold piecesGo at hp
  split at hp
  ·rcases List.mem_append.mp hp with hp|hp
   ·split at hp
    ·cases hp
    ·rename_i hc
     rw [List.mem_singleton.mp hp]
     exact ⟨⟨hc,h⟩,fun b hb => .inl hb⟩
   ·obtain ⟨h1,h2⟩:=piecesGo_ok r [] (fun b hb=>by cases hb) p hp
    exact ⟨h1,fun b hb=>(h2 b hb).elim (fun x=>by cases x) fun x => .inr (List.mem_cons_of_mem _ x)⟩
  ·rename_i hx
   obtain ⟨h1,h2⟩:=piecesGo_ok r (cur++[x]) (fun b hb=>by
    rcases List.mem_append.mp hb with hb|hb
    ·exact h b hb
    ·rw [List.mem_singleton.mp hb]; exact hx) p hp
   refine ⟨h1,fun b hb=>?_⟩
   rcases h2 b hb with hb|hb
   ·rcases List.mem_append.mp hb with hb|hb
    ·exact .inl hb
    ·rw [List.mem_singleton.mp hb]; exact .inr (List.mem_cons_self ..)
   ·exact .inr (List.mem_cons_of_mem _ hb)
theorem pieces_ok {s p:Txt} (hp:p ∈ pieces s):Piece p∧∀ b ∈ p,b ∈ s:=by
 obtain ⟨h1,h2⟩:=piecesGo_ok s [] (fun b hb=>by cases hb) p hp
 exact ⟨h1,fun b hb=>(h2 b hb).elim (fun x=>by cases x) id⟩
theorem okPart_iff {p:Txt}:okPart p=true↔p≠[]∧p≠[46]∧∀ b ∈ p,b≠47∧b≠0:=by
 unfold okPart
 rw [Bool.and_eq_true,Bool.and_eq_true,Bool.not_eq_true',Bool.not_eq_true',Bool.not_eq_true',beq_eq_false_iff_ne,beq_eq_false_iff_ne,List.any_eq_false]
 refine and_congr Iff.rfl (and_congr Iff.rfl ⟨fun h b hb=>?_,fun h b hb=>?_⟩)
 ·have:=h b hb
  unfold isBad at this
  rw [Bool.or_eq_true,beq_iff_eq,beq_iff_eq] at this
  exact ⟨fun e=>this (.inl e),fun e=>this (.inr e)⟩
 ·have:=h b hb
  unfold isBad
  rw [Bool.or_eq_true,beq_iff_eq,beq_iff_eq]
  rintro (e|e)
  ·exact this.1 e
  ·exact this.2 e
theorem not_wrong {s:Txt} {b:Bool} (h:wrongB s b=false):s≠[]∧(∀ x ∈ s,x≠0)∧(b=true→s.head?=some 47):=by
 unfold wrongB at h
 rw [Bool.or_eq_false_iff,Bool.or_eq_false_iff,beq_eq_false_iff_ne] at h
 refine ⟨h.1,fun x hx e=>?_,fun hb=>?_⟩
 ·have:s.contains 0=true:=by rw [List.contains_iff_mem,← e]; exact hx
  rw [this] at h; cases h.2.1
 ·have:=h.2.2
  rw [hb,Bool.true_and,Bool.not_eq_false'] at this
  exact beq_iff_eq.mp this
theorem wrong_mk {s:Txt} {b:Bool} (h1:s≠[]) (h2:∀ x ∈ s,x≠0) (h3:b=true→s.head?=some 47):wrongB s b=false:=by
 unfold wrongB
 rw [Bool.or_eq_false_iff,Bool.or_eq_false_iff,beq_eq_false_iff_ne]
 refine ⟨h1,?_,?_⟩
 ·cases e:s.contains 0 with
  | false=>rfl
  | true=>exact absurd rfl (h2 0 (List.contains_iff_mem.mp e))
 ·cases b with
  | false=>rfl
  | true=>rw [h3 rfl]; rfl
structure Taken (s:Txt) (b:Bool) (cs:List Txt):Prop where
 w:wrongB s b=false
 c:compA s=some cs
theorem taken_of {s:Txt} {b:Bool} (h:(parseA s b).2=0):Taken s b (parseA s b).1:=by
 unfold parseA at h ⊢
 cases hw:wrongB s b with
 | true=>rw [hw,if_pos rfl] at h; cases h
 | false =>
  rw [hw] at h
  rw [if_neg (by simp)] at h ⊢
  cases hc:compA s with
  | none=>rw [hc] at h; cases h
  | some cs=>exact ⟨hw,hc⟩
theorem Taken.eq {s:Txt} {b:Bool} {cs:List Txt} (t:Taken s b cs):parseA s b=(cs,0):=by
 rw [parseA,t.w,if_neg (by simp),t.c]
theorem Taken.is {s:Txt} {b:Bool} {cs:List Txt} (t:Taken s b cs):s.length≤1024∧cs=comps s∧fits cs=true:=by
 have:=t.c
 unfold compA at this
 split at this
 ·split at this
  ·rename_i h1 h2
   cases this
   exact ⟨h1,rfl,h2⟩
  ·cases this
 ·cases this
theorem Taken.mk' {s:Txt} {b:Bool} {cs:List Txt} (w:wrongB s b=false) (h1:s.length≤1024) (h2:comps s=cs) (h3:fits cs=true):Taken s b cs :=
 ⟨w,by subst h2; rw [compA,if_pos h1,if_pos h3]⟩
theorem Taken.part {s:Txt} {b:Bool} {cs:List Txt} (t:Taken s b cs) {p:Txt} (hp:p ∈ cs):okPart p=true∧p.length≤27:=by
 obtain ⟨h1,h2,h3⟩:=t.is
 have hp':p ∈ (pieces s).filter fun p => !(p == [46]):=by rw [h2] at hp; exact hp
 rw [List.mem_filter,Bool.not_eq_true',beq_eq_false_iff_ne] at hp'
 obtain ⟨q1,q2⟩:=pieces_ok hp'.1
 have hz:=(not_wrong t.w).2.1
 refine ⟨okPart_iff.mpr ⟨q1.1,hp'.2,fun b hb=>⟨q1.2 b hb,hz b (q2 b hb)⟩⟩,?_⟩
 rw [fits,Bool.and_eq_true,List.all_eq_true] at h3
 simpa using h3.1 p hp
theorem make_taken {s:Txt} {cs:List Txt} (t:Taken s true cs):makeA s=if isDots (lastP s)=true then ([],[],1) else if cs=[] then ([],[],0) else (cs.dropLast,cs.getLastD [],0):=by
 rw [makeA,t.w,if_neg (by simp),t.c]
end Go.Proofs.YtiapingedfnlnaaGreatDoor.Pa
namespace Go.Proofs.YtiapingedfnlnaaGreatDoor.Wl
open Go Go.Proofs Wx Hp W Re Ss
open Hd (ints)
open In (ints_length ints_one)
def cstep (acc:List Int) (y:Int):List Int:=if acc.getLast?=some y then acc else acc++[y]
def compZ (l:List Int):List Int:=l.foldl cstep []
theorem cstep_last (acc:List Int) (y:Int):(cstep acc y).getLast?=some y:=by
 unfold cstep
 split
 ·assumption
 ·simp
theorem comp_succ {zs:List Int} {n:Nat} (hn:n<zs.length):compZ (zs.take (n+1))=cstep (compZ (zs.take n)) zs[n]:=by
 unfold compZ
 rw [List.take_succ_eq_append_getElem hn,List.foldl_append]; rfl
theorem comp_last {zs:List Int} {n:Nat} (h0:0<n) (hn:n≤zs.length):(compZ (zs.take n)).getLast?=some (zs[n - 1]'(by omega)):=by
 obtain ⟨m,rfl⟩:∃ m,n=m+1:=⟨n - 1,by omega⟩
 rw [comp_succ (by omega),cstep_last]
 rfl
theorem comp_mem : ∀ {l acc:List Int} {x:Int},x ∈ l.foldl cstep acc→x ∈ acc∨x ∈ l
 | [],acc,x,h => .inl h
 | y::r,acc,x,h=>by
  rcases comp_mem (l:=r) h with h|h
  ·unfold cstep at h
   split at h
   ·exact .inl h
   ·rcases List.mem_append.mp h with h|h
    ·exact .inl h
    ·rw [List.mem_singleton.mp h]; exact .inr List.mem_cons_self
  ·exact .inr (List.mem_cons_of_mem _ h)
theorem take_put0 {X C:List Value} {k:Nat} (h:k+C.length≤X.length):(put X k C).take k=X.take k:=by
 refine List.ext_getElem? fun i=>?_
 rw [List.getElem?_take,List.getElem?_take]
 by_cases hi:i<k
 ·rw [if_pos hi,if_pos hi,put_get _ _ _ _ (by omega),if_neg (by omega)]
 ·rw [if_neg hi,if_neg hi]
theorem ClearI {b o l:Nat} {h:Heap} {K:Heap→Prop} (w:Own h b) (hw:o+l≤(rd h b).length) (hK:∀ h',Did b h h' (put (rd h b) o (ints (List.replicate l 0)))→K h'):ClearP ti3 (some ⟨b,o,none⟩) l h K:=by
 have erep:∀ m,repCells [Value.int .i64 0] m=ints (List.replicate m 0):=fun m=>by
  unfold ints
  rw [List.map_replicate]; rfl
 refine ⟨trivial,?_,?_⟩
 ·rw [show (ti3).cells=1 from rfl,Nat.mul_one]
  simp only [WrS,Addr.add_zero]
  exact wrN_rd w (by omega)
 ·show K (setS h _ 0 (repCells [Value.int .i64 0] l))
  rw [erep]
  simp only [setS,Addr.add_zero]
  refine hK _ ⟨Hp.size_setRow _ _ _ _,Fr.setRow (F:=fun x=>x=b) (Or.inl rfl) (Fr.refl _ _),own_setRow w,?_⟩
  rw [rd_setRow_at,Nat.add_zero]
theorem int_at {h:Heap} {p:Addr} {ys:List Int} (c:Cells h p (ints ys)) {j:Nat} {v:Int} (hv:ys[j]?=some v):cellOf h (Addr.add p j)=some (.int .i64 v):=by
 refine c j _ ?_
 unfold ints
 rw [List.getElem?_map,hv]; rfl
theorem Compact_spec {h:Heap} {a:Option Addr} {l c:Nat} {zs:List Int} {F:Nat→Prop} {K:Value→Heap→Prop} (s:Sl h 1 a l c (ints zs) F) (hl:l≤1000000000000)
  (hK:∀ h' m,m=(compZ zs).length→Fr (fun b=>∃ p,a=some p∧b=p.block) h h'→Sl h' 1 a m c (ints (compZ zs)) F→K (.slice a m c) h'):C.slices_Compact_int_int a l c h K:=by
 have le:zs.length=l:=by
  have:=s.1
  rw [ints_length,Nat.mul_one] at this
  exact this
 have lc:=s.le
 have done:compZ zs=zs→K (.slice a l c) h:=fun e=>by
  have:=hK h l (by rw [e,le]) (Fr.refl _ _)
  rw [e] at this
  exact this s
 refine slices_Compact_int_int.ok (cd (fun h2=>done ?_) fun h2=>?_)
 ·match zs,le with
  | [],_=>rfl
  | [x],_=>rfl
  | _::_::_,le=>rw [List.length_cons,List.length_cons] at le; omega
 cases a with
 | none=>have:=s.2.1; omega
 | some p =>
  obtain ⟨b,o,sp⟩:=p
  have ep:sp=none:=s.2.1
  subst ep
  refine ⟨fun i hx=>∃ k:Nat,i=k∧1≤k∧k≤l∧hx=h∧compZ (zs.take k)=zs.take k,fun i _=>((l:Int) - i).toNat,⟨1,rfl,Nat.le_refl _,by omega,rfl,?_⟩,?_⟩
  ·match zs,le with
   | [],le=>rw [List.length_nil] at le; omega
   | x::r,_=>rfl
  rintro i hx ⟨k,rfl,k1,kl,rfl,ek⟩
  have C0:Cells hx ⟨b,o,none⟩ (ints zs):=s.cells
  refine cd (fun hlt=>?_) fun hge=>?_
  ·have hk:k<zs.length:=by omega
   rw [wrap_i64 (show -9223372036854775808≤(k:Int) - 1 by omega) (by omega),show ((k:Int) - 1).toNat=k - 1 by omega,Int.toNat_natCast]
   refine ⟨⟨by omega,by omega⟩,os ⟨zs[k],int_at C0 (List.getElem?_eq_getElem hk),⟨by omega,by omega⟩,os ⟨zs[k - 1]'(by omega),int_at C0 (List.getElem?_eq_getElem (by omega)),?_⟩⟩⟩
   have cs1:=comp_succ (zs:=zs) hk
   have cl:=comp_last (zs:=zs) (n:=k) (by omega) (by omega)
   refine ce (fun heq=>?_) fun hne=>?_
   · -- the first that is told twice
    have e1:compZ (zs.take (k+1))=zs.take k:=by
     rw [cs1,cstep,if_pos (by rw [cl,heq]),ek]
    have ck:c≠k:=by omega
    rw [if_neg ck,Option.map_some]
    refine ⟨⟨by omega,by omega⟩,fun i2 i3 hx2=>∃ (q m:Nat) (ys:List Int),i3=q∧i2=m∧1≤q∧k+q≤l∧m=(compZ (zs.take (k+q))).length∧m+1≤k+q∧ys.length=l∧ys.take m=compZ (zs.take (k+q))∧(∀ j,k+q≤j+1→ys[j]?=zs[j]?) ∧
     Sl hx2 1 (some ⟨b,o,none⟩) l c (ints ys) F∧Fr (fun x=>x=b) hx hx2,fun _ i3 _=>((l:Int) - i3).toNat,⟨1,k,zs,rfl,rfl,Nat.le_refl _,by omega,by rw [e1,List.length_take]; omega,by omega,le,e1.symm,fun _ _=>rfl,s,Fr.refl _ _⟩,?_⟩
    rintro i2 i3 hx2 ⟨q,m,ys,rfl,rfl,q1,ql,em,hm,ly,et,ej,S,f⟩
    have C2:Cells hx2 ⟨b,o,none⟩ (ints ys):=S.cells
    have own2:=S.wr
    refine cd (fun hlt2=>?_) fun hge2=>?_
    ·have hkq:k+q<zs.length:=by omega
     rw [wrap_i64 (show -9223372036854775808≤(q:Int) - 1 by omega) (by omega),show ((q:Int) - 1).toNat=q - 1 by omega,Int.toNat_natCast]
     have a1:cellOf hx2 (Addr.add (Addr.add ⟨b,o,none⟩ k) q)=some (.int .i64 zs[k+q]):=by
      rw [Addr.add_add]; exact int_at C2 ((ej _ (by omega)).trans (List.getElem?_eq_getElem hkq))
     have a2:cellOf hx2 (Addr.add (Addr.add ⟨b,o,none⟩ k) (q - 1))=some (.int .i64 (zs[k+q - 1]'(by omega))):=by
      rw [Addr.add_add,show k+(q - 1)=k+q - 1 by omega]; exact int_at C2 ((ej _ (by omega)).trans (List.getElem?_eq_getElem (by omega)))
     have cs2:=comp_succ (zs:=zs) hkq
     have cl2:=comp_last (zs:=zs) (n:=k+q) (by omega) (by omega)
     refine ⟨⟨by omega,by omega⟩,os ⟨_,a1,⟨by omega,by omega⟩,os ⟨_,a2,cn (fun hne=>?_) fun heq2=>?_⟩⟩⟩
     ·have e2:compZ (zs.take (k+q+1))=compZ (zs.take (k+q))++[zs[k+q]]:=by
       rw [cs2,cstep,if_neg (by rw [cl2]; exact fun y=>hne (Option.some.inj y).symm)]
      refine ⟨⟨by omega,by omega⟩,os ⟨_,a1,⟨by omega,by omega⟩,os (Put.add own2.1 (by have:=own2.2; omega) fun h4 d4=>?_)⟩⟩
      have S4:=S.putAt (new:=[.int .i64 zs[k+q]]) (j:=m) (by show m+1≤l*1; omega) d4
      rw [show put (ints ys) m [.int .i64 zs[k+q]]=ints (ys.set m zs[k+q]) by unfold ints; rw [List.map_set]; rfl] at S4
      rw [wrap_i64 (show -9223372036854775808≤(m:Int)+1 by omega) (by omega),wrap_i64 (show -9223372036854775808≤(q:Int)+1 by omega) (by omega)]
      refine ⟨⟨q+1,m+1,ys.set m zs[k+q],by omega,by omega,by omega,by omega,?_,by omega,by rw [List.length_set]; exact ly,?_,fun j hj=>?_,S4,f.trans d4.fr fun _ _ y=>y⟩,by show ((l:Int) - ((q:Int)+1)).toNat<((l:Int) - (q:Int)).toNat; omega⟩
      ·rw [show k+(q+1)=k+q+1 by omega,e2,List.length_append,← em]; rfl
      ·rw [show k+(q+1)=k+q+1 by omega,e2,← et,List.take_succ_eq_append_getElem (by rw [List.length_set]; omega),List.getElem_set_self,List.take_set_of_le (Nat.le_refl _)]
      ·rw [List.getElem?_set_ne (by omega)]; exact ej j (by omega)
     ·have e2:compZ (zs.take (k+q+1))=compZ (zs.take (k+q)):=by
       rw [cs2,cstep,if_pos (by rw [cl2,heq2])]
      rw [wrap_i64 (show -9223372036854775808≤(q:Int)+1 by omega) (by omega)]
      refine ⟨⟨q+1,m,ys,by omega,rfl,by omega,by omega,?_,by omega,ly,?_,fun j hj=>ej j (by omega),S,f⟩,by show ((l:Int) - ((q:Int)+1)).toNat<((l:Int) - (q:Int)).toNat; omega⟩
      ·rw [show k+(q+1)=k+q+1 by omega,e2]; exact em
      ·rw [show k+(q+1)=k+q+1 by omega,e2]; exact et
    ·have eq:k+q=l:=by omega
     have ez:zs.take l=zs:=List.take_of_length_le (by omega)
     rw [eq,ez] at em et
     have cm:c≠(m:Int).toNat:=by rw [Int.toNat_natCast]; omega
     rw [if_neg cm,Option.map_some,Int.toNat_natCast,add_mk]
     refine ⟨⟨by omega,by omega⟩,ClearI own2.1 (by have:=own2.2; omega) fun h5 d5=>⟨⟨by omega,by omega⟩,?_⟩⟩
     have lr:(ints (List.replicate (l - m) 0)).length=l - m:=by rw [ints_length,List.length_replicate]
     have S5:=S.putAt (j:=m) (by rw [lr]; omega) d5
     have S6:=Pa.sl_sub S5 (m:=m) (by omega) c (by omega) (Nat.le_refl _)
     rw [take_put0 (by rw [lr,ints_length]; omega),show (ints ys).take m=ints (compZ zs) by rw [← et]; unfold ints; rw [List.map_take]] at S6
     exact hK h5 m em ((f.trans d5.fr fun _ _ y=>y).mono fun x _ y=>⟨_,rfl,y⟩) S6
   ·have e1:compZ (zs.take (k+1))=zs.take (k+1):=by
     rw [cs1,cstep,if_neg (by rw [cl]; exact fun y=>hne (Option.some.inj y).symm),ek,List.take_succ_eq_append_getElem hk]
    rw [wrap_i64 (show -9223372036854775808≤(k:Int)+1 by omega) (by omega)]
    exact ⟨⟨k+1,by omega,by omega,by omega,rfl,e1⟩,by show ((l:Int) - ((k:Int)+1)).toNat<((l:Int) - (k:Int)).toNat; omega⟩
  ·have:k=l:=by omega
   rw [this,List.take_of_length_le (by omega)] at ek
   exact done ek
end Go.Proofs.YtiapingedfnlnaaGreatDoor.Wl
