/-
  TEXTS FOR walkTree_card: TvE TvK TvL TvG TvM.
-/
import Derived.Test.YtiapingedfnlnaaGreatDoorGp5
namespace Go.Proofs.YtiapingedfnlnaaGreatDoor.Tr
open Go Go.Proofs Wx Hp W Ad Tm Bt Spc Re Ss
open Hd (ints)
open In (ints_length ints_one)
open Bm (Z0 fresh_av)
open Wl (Pl plV plV_one toM makeW To_spec Make_spec Height_spec heightM)
theorem NdAt.no {h h':Heap} {nb:Nat} {z:NdS} {x:Nd} (N:NdAt h nb z x) (f:Fr No h h'):NdAt h' nb z x:=by
 have lt:nb<h.size:=rd_lt (o:=0) (v := .int .i64 x.kind) (by rw [N.r]; rfl)
 exact ⟨(f.rd lt fun y=>y).trans N.r,SlCells.fr f N.na fun _ _ y=>y,SlCells.fr f N.ma fun _ _ y=>y,N.len⟩
theorem cell_no {h h':Heap} {a:Addr} {v:Value} (c:cellOf h a=some v) (f:Fr No h h'):cellOf h' a=some v:=by
 have e:=cellOf_some c
 have lt:=rd_lt e.2
 obtain ⟨b,o,sp⟩:=a
 have e1:sp=none:=e.1
 subst e1
 rw [cellOf_rd] at c ⊢
 rw [f.rd lt fun y=>y]; exact c
theorem Tree.no {h h':Heap} {s:Ts} {D:Dt} (t:Tree h s D) (f:Fr No h h'):Tree h' s D :=
 ⟨fun k k1 k2=>(t.nd k k1 k2).no f,fun k k1 k2=>by obtain ⟨p,e,c⟩:=t.ptr k k1 k2; exact ⟨p,e,cell_no c f⟩,by obtain ⟨p,e,c⟩:=t.nul; exact ⟨p,e,cell_no c f⟩⟩
theorem chunks_shows {n:Nat} {ts:List Th} (h:128≤n∧n<1128):Shows ⟨fresh (chunks (imgP n (treeP n ts))),[],[],false⟩ (geoN n) (treeP n ts):=by
 have g:=tree_good h ts
 have D:=img_disk g.fit g.tr.n2
 exact g.shows D (fresh_av D.len)
section
variable {h : Heap} {more : Int} {ta pa : Option Addr} {tl tc pl pc : Nat} {ts : List Th} {K : Value → Heap → Prop}
theorem img_len {n:Nat} (hn:128≤n∧n<1128) (ts:List Th):(imgP n (treeP n ts)).length=512*n:=by
 have g:=tree_good hn ts
 exact (img_disk g.fit g.tr.n2).len
theorem right_spec (Z:SlCells h ta (ts.flatMap thV)) (hl:ts.length=tl) (htl:tl≤1000000000) (ht:∀ t ∈ ts,t.name.length≤1000000000∧t.text.length≤1000000000)
  (hK:∀ tb dd F D h',Fr No h h'→Tx h' F (some ⟨tb,0,none⟩) dd ⟨fresh (chunks (imgP (blocksN more) (treeP (blocksN more) ts))),[],[],false⟩→(∀ b,F b→h.size≤b∧b<h'.size)→Tree h' (treeP (blocksN more) ts) D →
   K (.tuple #[.pointer (some ⟨tb,0,none⟩),.agg ⟨(geoN (blocksN more)).v⟩,.slice D.pa (treeP (blocksN more) ts).n D.pc,.bool true]) h'):C.bolelaw16_Setup_right (setV more ta tl tc pa pl pc) h K:=by
 have bn:=blocksN_rng more
 refine bolelaw16_Setup_right.ok (New.intro fun h2 n2=>New.intro fun h3 n3=>Put.add (n3.ow n2.own) (by rw [n3.at_ n2.own.lt,n2.rd]; show 0+2<3; decide) fun h4 d4=>?_)
 have z2:=n2.size
 have z3:=n3.size
 have z4:=d4.size
 have r3:rd h3 h.size=setV more ta tl tc pa pl pc:=(n3.at_ (by omega)).trans n2.rd
 have r4:rd h4 h.size=setV more ta tl tc none 0 0:=by rw [d4.rd,r3]; rfl
 have F4:Fr No h h4:=(n2.fr.new n3).did d4 fun y=>absurd y (by omega)
 have Z4:SlCells h4 ta (ts.flatMap thV):=SlCells.fr F4 Z fun _ _ y=>y
 refine ⟨_,rfl,cellsAll r4,image_spec (ps:=[]) Z4 hl htl ht rfl rfl (Nat.zero_le _) fun B h5 f5 hB o5 r5=>⟨_,_,_,_,rfl,NewRow.intro rfl (Spc.G.one _) rfl fun h7 n7=>?_⟩⟩
 have z5:=f5.size
 have z7:=n7.size
 have r7:rd h7 B=(imgP (blocksN more) (treeP (blocksN more) ts)).map bv:=(n7.at_ o5.lt).trans r5
 have lI:=img_len ⟨bn.1,bn.2⟩ ts
 refine begin_spec (strAll r7 lI) (Nat.le_refl _) (by omega) (by omega) (by omega) (by omega) fun tb dd F h8 f8 x8 hF=>⟨_,_,rfl,?_⟩
 have z8:=f8.size
 have f47:Fr No h4 h7:=f5.new n7
 have f48:Fr No h4 h8:=f47.no f8
 have rg8:rd h8 h5.size=(geoN (blocksN more)).v:=(f8.rd (by omega) fun y=>y).trans n7.rd
 have rs8:rd h8 h.size=setV more ta tl tc none 0 0:=(f48.rd (by omega) fun y=>y).trans r4
 refine ⟨_,rfl,cellsAll rg8,_,rfl,cellsAll rs8,tree_spec (SlCells.fr f48 Z4 fun _ _ y=>y) hl htl ht fun h0 h9 col D i hz f9 T9 hi o=>⟨_,_,_,rfl,?_⟩⟩
 have z9:=f9.size
 have rg9:rd h9 h5.size=(geoN (blocksN more)).v:=(f9.rd (by omega) fun y=>y).trans rg8
 have f39:Fr No h4 h9:=f48.no f9
 have rl9:(rd h9 h2.size).length=5:=by rw [f39.rd (by omega) fun y=>y,d4.at_ (by omega) (by omega),n3.rd]; rfl
 have or9:Own h9 h2.size:=f39.own (by omega) (fun y=>y) (d4.ow n3.own)
 refine ⟨⟨rfl,cellsAll rg9⟩,PutRow.intro or9 rfl (Spc.G.one _) (by rw [rl9]; exact Nat.le_refl _) fun h10 d10=>?_⟩
 have z10:=d10.size
 have r10:rd h10 h2.size=(geoN (blocksN more)).v:=by rw [d10.rd,put_all _ _ (by rw [rl9]; rfl)]
 refine ⟨_,rfl,cellsAll r10,?_⟩
 have xl:=fun b (hb:F b)=>x8.lt hb
 refine hK tb dd F D h10 ((F4.no f39).trans d10.fr fun b hb y=>by have y:b=h2.size:=y; omega) ((x8.no f9).fr d10.fr fun b hb y=>by
  have y:b=h2.size:=y
  have:=hF b hb
  omega) (fun b hb=>⟨by have:=hF b hb; omega,by have:=xl b hb; omega⟩) (T9.far d10.fr (fun b y=>by have y:b=h2.size:=y; omega) (by have:=o.n2; omega) fun k=>(o.len k).1)
theorem known_spec (gl:In.Glo h) (hK:∀ h',Fr No h h'→K (.bool true) h'):C.bolelaw16_known h K:=by
 refine bolelaw16_known.ok ⟨rfl,rfl,rfl,rfl,rfl,New.intro fun h2 n2=>NewRow.intro rfl setV_one rfl fun h4 n4=>?_⟩
 have z2:=n2.size
 have z4:=n4.size
 have Z4:SlCells h4 (some ⟨h.size,0,none⟩) (ts0.flatMap thV):=cellsAll ((n4.at_ n2.own.lt).trans n2.rd)
 have b0:blocksN 0=128:=rfl
 have D:=img_len (n:=128) ⟨Nat.le_refl _,by decide⟩ ts0
 have S:=chunks_shows (n:=128) (ts:=ts0) ⟨Nat.le_refl _,by decide⟩
 have g:=tree_good (n:=128) ⟨Nat.le_refl _,by decide⟩ ts0
 have tx:=tree_tx 128 ts0
 have F4:Fr No h h4:=n2.fr.new n4
 refine ⟨_,rfl,cellsAll n4.rd,image_spec (more:=0) (ts:=ts0) (ps:=[]) Z4 rfl (by decide) (fun t ht=>?_) rfl rfl (Nat.zero_le _) fun B h5 f5 hB o5 r5=>⟨_,_,_,_,rfl,NewRow.intro rfl (Spc.G.one _) rfl fun h7 n7=>?_⟩⟩
 ·have:∀ t ∈ ts0,t.name.length≤1000∧t.text.length≤1000:=by decide
  have:=this t ht
  omega
 have z5:=f5.size
 have z7:=n7.size
 have e0:∀ L,pokesP 128 [] L=L:=fun _=>rfl
 rw [b0,e0] at r5
 rw [b0]
 generalize hI:imgP 128 (treeP 128 ts0)=I0 at r5 D S
 have r7:rd h7 B=I0.map bv:=(n7.at_ o5.lt).trans r5
 refine begin_spec (strAll r7 D) (Nat.le_refl _) (by omega) (by omega) (by omega) (by omega) fun tb dd F h8 f8 x8 hF=>⟨_,_,rfl,cnot (ct rfl ?_)⟩
 have z8:=f8.size
 have F8:Fr No h h8:=((F4.no f5).new n7).no f8
 have gl8:=gl.no F8
 generalize hT:(⟨fresh (chunks I0),[],[],false⟩:TM)=T at x8 S
 have rg8:rd h8 h5.size=(geoN 128).v:=(f8.rd (by omega) fun y=>y).trans n7.rd
 refine ⟨_,rfl,cellsAll rg8,To_spec gl8 g.dim x8 (by decide) fun h9 a9 c9 f9 s9=>⟨_,_,rfl,NewRow.intro rfl plV_one rfl fun h11 n11=>?_⟩⟩
 rw [to_tree g tx S,ex_to1] at s9
 have n11:=n11
 rw [to_tree g tx S,ex_to1] at n11 ⊢
 have z9:=f9.size
 have z11:=n11.size
 have f11:Fr No h8 h11:=f9.new n11
 have rg11:rd h11 h5.size=(geoN 128).v:=(f11.rd (by omega) fun y=>y).trans rg8
 refine ⟨_,rfl,cellsAll rg11,Make_spec (gl8.no f11) g.dim (x8.no f11) (by decide) fun h12 a12 c12 f12 s12=>⟨_,_,rfl,NewRow.intro rfl plV_one rfl fun h14 n14=>?_⟩⟩
 rw [make_tree g tx S,ex_make] at s12
 have n14:=n14
 rw [make_tree g tx S,ex_make] at n14 ⊢
 have z12:=f12.size
 have z14:=n14.size
 have f14:Fr No h8 h14:=(f11.no f12).new n14
 have rg14:rd h14 h5.size=(geoN 128).v:=(f14.rd (by omega) fun y=>y).trans rg8
 refine ⟨_,rfl,cellsAll rg14,To_spec (gl8.no f14) g.dim (x8.no f14) (by decide) fun h15 a15 c15 f15 s15=>⟨_,_,rfl,NewRow.intro rfl plV_one rfl fun h17 n17=>?_⟩⟩
 rw [to_tree g tx S,ex_to2] at s15
 have n17:=n17
 rw [to_tree g tx S,ex_to2] at n17 ⊢
 have z15:=f15.size
 have z17:=n17.size
 have f17:Fr No h8 h17:=(f14.no f15).new n17
 have rg17:rd h17 h5.size=(geoN 128).v:=(f17.rd (by omega) fun y=>y).trans rg8
 refine ⟨_,rfl,cellsAll rg17,Height_spec (gl8.no f17) g.dim (x8.no f17) fun h18 f18=>⟨_,_,rfl,?_⟩⟩
 have eh:heightM T (geoN 128) 1=(3,0):=by
  have:=height_dir g S (k:=1) (Nat.le_refl _) g.tr.n2 g.tr.root.1
  rw [ex_height] at this; exact this
 rw [eh]
 have z18:=f18.size
 have r9:rd h18 h9.size=plV a9 c9 ⟨[1,2,3],[102],4⟩:=(f18.rd (by omega) fun y=>y).trans (((f12.new n14).no (f15.new n17)).rd (by omega) (fun y=>y) |>.trans n11.rd)
 have r12:rd h18 h12.size=plV a12 c12 ⟨[1,2,3],[120],0⟩:=(f18.rd (by omega) fun y=>y).trans ((f15.new n17).rd (by omega) (fun y=>y) |>.trans n14.rd)
 have r15:rd h18 h15.size=plV a15 c15 ⟨[1],[],1⟩:=(f18.rd (by omega) fun y=>y).trans n17.rd
 refine num_spec ⟨_,rfl,cn (fun y=>absurd rfl y) fun _=>num_spec ⟨_,rfl,cn (fun y=>absurd rfl y) fun _=>num_spec ⟨_,rfl,cn (fun y=>absurd rfl y) fun _=>num_spec ⟨_,rfl,cn (fun y=>absurd rfl y) fun _=>cn (fun y=>absurd rfl y) fun _=>?_⟩⟩⟩⟩
 refine ⟨_,rda r9 rfl,?_⟩
 rw [toList_mkStr]
 refine cnot (ct (by decide) ⟨_,rda r9 rfl,cn (fun y=>absurd rfl y) fun _=>⟨_,rda r12 rfl,?_⟩⟩)
 rw [toList_mkStr]
 refine cnot (ct (by decide) ⟨_,rda r12 rfl,cn (fun y=>absurd rfl y) fun _=>⟨_,rda r15 rfl,?_⟩⟩)
 rw [toList_mkStr]
 refine cnot (ct (by decide) ⟨_,rda r15 rfl,cn (fun y=>absurd rfl y) fun _=>?_⟩)
 have f918:Fr No h9 h18:=(((n11.fr.no f12).new n14).no (f15.new n17)).no f18
 have f1218:Fr No h12 h18:=(n14.fr.no (f15.new n17)).no f18
 have f1518:Fr No h15 h18:=n17.fr.no f18
 unfold bolelaw16_known.k1
 refine ⟨_,_,_,rda r9 rfl,New.intro fun h24 n24=>same_spec (xs:=[1,2,3]) (ys:=[1,2,3]) (SlCells.fr (f918.new n24) s9.cells fun _ _ y=>y) rfl (cellsAll n24.rd) rfl (by decide) ⟨_,rfl,ct rfl ?_⟩⟩
 have z24:=n24.size
 refine ⟨_,_,_,rda ((n24.at_ (by omega)).trans r12) rfl,New.intro fun h26 n26=>same_spec (xs:=[1,2,3]) (ys:=[1,2,3]) (SlCells.fr ((f1218.new n24).new n26) s12.cells fun _ _ y=>y) rfl (cellsAll n26.rd) rfl (by decide) ⟨_,rfl,ct rfl ?_⟩⟩
 have z26:=n26.size
 refine ⟨_,_,_,rda ((n26.at_ (by omega)).trans ((n24.at_ (by omega)).trans r15)) rfl,New.intro fun h28 n28=>same_spec (xs:=[1]) (ys:=[1]) (SlCells.fr (((f1518.new n24).new n26).new n28) s15.cells fun _ _ y=>y) rfl (cellsAll n28.rd) rfl (by decide) ⟨_,rfl,?_⟩⟩
 exact hK h28 (((((F8.no f17).no f18).new n24).new n26).new n28)
end
end Go.Proofs.YtiapingedfnlnaaGreatDoor.Tr
namespace Go.Proofs.YtiapingedfnlnaaGreatDoor.Tr
open Go Go.Proofs Wx Hp W Spc Re
open Hd (ints)
open In (ints_length ints_one)
open Sk (nameOk nameOk_iff)
open Pa (comps)
open Wl (St Pl noPl here upC more mu strs_one)
structure Gs (h2:Heap) (s:Ts) (R:Pl×Int) (fl beh:Bool) (st:St) (hh:Heap) (lA:Option Addr) (lL lC:Nat) (cA:Option Addr) (cL cC:Nat) (fol:Int):Prop where
 on:On s st
 fr:Fr No h2 hh
 ll:lL=st.left.length
 lc:lL≤lC
 lx:SlCells hh lA (Ch.strs st.left)
 cl:cL=st.chain.length
 cc:cL≤cC
 cx:SlCells hh cA (ints st.chain)
 cb:∀ p,cA=some p→h2.size≤p.block
 fo:fol=(st.fol:Int)
 res:goesM s.nd fl beh st=R
 mu:mu st+st.chain.length≤1000
theorem strs_len (l:List Tm.Txt):(Ch.strs l).length=l.length:=List.length_map _
theorem tail_cells {hh:Heap} {a:Option Addr} {l c:Nat} {x:Tm.Txt} {r:List Tm.Txt} (A:SlCells hh a (Ch.strs (x::r))) (hl:l=(x::r).length) (hc:l≤c):SlCells hh (if c=1 then a else Option.map (Addr.add · 1) a) (Ch.strs r):=by
 rw [List.length_cons] at hl
 by_cases e:c=1
 ·rw [if_pos e]
  have:r=[]:=List.length_eq_zero_iff.mp (by omega)
  subst this
  cases a with
  | none=>rfl
  | some p=>exact Cells.nil hh p
 ·rw [if_neg e]
  exact SlCells.drop A 1
section
variable {n : Nat} {s : Ts} {h h2 h4 h5 : Heap} {R : Pl × Int} {fl beh : Bool} {st : St} {lA cA : Option Addr} {lL lC cL cC : Nat} {fol : Int} {D : Dt} {K : Value → Heap → Prop}
theorem goes_end {p:Pl} {e:Int} {a:Option Addr} {c l:Nat} (f:Fr No h2 h5) (lt:h.size<h2.size) (o:Own h2 h.size) (ln:(rd h2 h.size).length=4) (f0:Fr No h h2) (hl:l=p.chain.length) (A:SlCells h5 a (ints p.chain)) (hb:∀ q,a=some q→h2.size≤q.block)
  (hK:∀ h' a c,Fr No h h'→SlCells h' a (ints p.chain)→(∀ q,a=some q→h.size≤q.block)→K (.agg ⟨spotV a c p e⟩) h') :
  PutRow ⟨h.size,0,none⟩ [.slice a l c,.string (mkStr p.name),.int .i64 p.ino,.int .i64 e] 4 h5 fun h6=>∃ res1:List Value,List.length res1=4∧Cells h6 ⟨h.size,0,none⟩ res1∧K (.agg ⟨res1⟩) h6:=by
 subst hl
 have l5:(rd h5 h.size).length=4:=by rw [f.rd lt fun y=>y]; exact ln
 refine PutRow.intro (f.own lt (fun y=>y) o) rfl (fun v hv=>?_) (by rw [l5]; exact Nat.le_refl _) fun h6 d6=>?_
 ·simp only [List.mem_cons,List.not_mem_nil,or_false] at hv
  rcases hv with rfl|rfl|rfl|rfl <;> rfl
 ·have r6:rd h6 h.size=spotV a c p e:=by rw [d6.rd,put_all _ _ (by rw [l5]; rfl)]; rfl
  exact ⟨_,rfl,cellsAll r6,hK h6 a c ((f0.no f).trans d6.fr fun b hb y=>by have y:b=h.size:=y; omega) (SlCells.fr d6.fr A fun q hq y=>by have:=hb q hq; have y:q.block=h.size:=y; omega) fun q hq=>by have:=hb q hq; omega⟩
theorem goes_link {I1:Option Addr→Nat→Nat→Option Addr→Nat→Nat→Int→Heap→Prop} {M1:Option Addr→Nat→Nat→Option Addr→Nat→Nat→Int→Heap→Nat} {q:Nat} {c:Tm.Txt} {r:List Tm.Txt} {m0:Nat}
  (g:Good n s) (tx:∀ k,TxOk (s.nd k)) (T:∀ hh,Fr No h2 hh→Tree hh s D) (G:Gs h2 s R fl beh st h4 lA lL lC cA cL cC fol) (lt:h.size<h2.size) (o:Own h2 h.size) (ln:(rd h2 h.size).length=4) (f0:Fr No h h2)
  (hl:st.left=c::r) (hne:c≠[46,46]) (hq:hasN (s.nd (here st.chain).toNat).names (s.nd (here st.chain).toNat).nums c=(q:Int)) (q1:1≤q) (q2:q<s.n) (k3:(s.nd q).kind=3) (hm:more beh r=true∨fl=true)
  (H:∀ st' hh lA' lL' lC' cA' cL' cC' fol',Gs h2 s R fl beh st' hh lA' lL' lC' cA' cL' cC' fol'→mu st'<mu st→I1 lA' lL' lC' cA' cL' cC' fol' hh∧M1 lA' lL' lC' cA' cL' cC' fol' hh<m0)
  (hK:∀ h' a c,Fr No h h'→SlCells h' a (ints R.1.chain)→(∀ q,a=some q→h.size≤q.block)→K (.agg ⟨spotV a c R.1 R.2⟩) h') :
  bif (decide ((IntKind.wrap .i64 (fol+1))>8)) then (
   PutRow ⟨h.size,0,none⟩ [.slice none 0 0,.string (mkStr []),.int .i64 0,.int .i64 162] 4 h4 fun h11 =>
   ∃ res2:List Value,List.length res2=4∧Cells h11 ⟨h.size,0,none⟩ res2∧K (.agg ⟨res2⟩) h11) else (
   (0≤(q:Int)∧(q:Int)<(s.n:Int)) ∧
   onSome D.pa fun p8 =>
   ∃ (q4:Option Addr),cellOf h4 (Addr.add p8 (Int.toNat (q:Int)))=some (.pointer q4) ∧
   onSome q4 fun p9 =>
   ∃ (s2:ByteArray),cellOf h4 (Addr.add p9 3)=some (.string s2) ∧
   C.bolelaw16_pieces s2 h4 fun r2 h12 =>
   ∃ (sA3:Option Addr) (sL3:Nat) (sC3:Nat),r2 = .slice sA3 sL3 sC3 ∧
   ∃ new3:List Value,List.length new3=(lL - (Int.toNat 1))*1∧SlCells h12 (if lC=(Int.toNat 1) then lA else Option.map (Addr.add · (Int.toNat 1)) lA) new3∧(∀ v ∈ new3,v.oneCell'=true) ∧
   AppendP ti9 9 sA3 sL3 sC3 (lL - (Int.toNat 1)) new3 h12 fun sA4 sL4 sC4 h13 =>
   (0≤(q:Int)∧(q:Int)<(s.n:Int)) ∧
   onSome D.pa fun p10 =>
   ∃ (q5:Option Addr),cellOf h13 (Addr.add p10 (Int.toNat (q:Int)))=some (.pointer q5) ∧
   onSome q5 fun p11 =>
   ∃ (s3:ByteArray),cellOf h13 (Addr.add p11 3)=some (.string s3) ∧
   (0≤(0:Int)∧0<(s3.size:Int)) ∧
   ∃ b1:UInt8,s3.toList[Int.toNat 0]?=some b1 ∧
   bif (((UInt8.toNat b1:Nat):Int) == 47) then (
   New [.int .i64 1] 3 h13 fun h14 =>
   I1 sA4 sL4 sC4 (some ⟨h13.size,0,none⟩) 1 1 (IntKind.wrap .i64 (fol+1)) h14∧M1 sA4 sL4 sC4 (some ⟨h13.size,0,none⟩) 1 1 (IntKind.wrap .i64 (fol+1)) h14<m0) else (
   I1 sA4 sL4 sC4 cA cL cC (IntKind.wrap .i64 (fol+1)) h13∧M1 sA4 sL4 sC4 cA cL cC (IntKind.wrap .i64 (fol+1)) h13<m0)):=by
 have f8:=G.on.fol
 have fo:=G.fo
 have ew:IntKind.wrap .i64 (fol+1)=((st.fol+1:Nat):Int):=by rw [fo,wrap_i64 (by omega) (by omega)]; omega
 have rs:=G.res
 rw [goes_nxt g tx G.on] at rs
 have en:nxt s.nd fl beh st=if st.fol=8 then .inl (noPl,162) else .inr ⟨if (s.nd q).text.head?=some 47 then [1] else st.chain,comps (s.nd q).text++r,st.fol+1⟩:=by
  unfold nxt
  rw [hl]
  dsimp only
  rw [if_neg hne,hq,if_neg (by omega),Int.toNat_natCast,if_neg (fun y=>by have:=y.1; omega),if_pos ⟨k3,hm⟩]
 rw [ew]
 refine cd (fun hgt=>?_) fun hgt=>?_
 ·rw [en,if_pos (by omega)] at rs
  have rs:(noPl,(162:Int))=R:=rs
  subst rs
  exact goes_end (p:=noPl) (e:=162) (a:=none) (c:=0) (l:=0) G.fr lt o ln f0 rfl rfl (fun q hq=>by cases hq) hK
 ·have hn:¬ st.fol=8:=by omega
  have nx:=nxt_ok g tx G.on (en.trans (if_neg hn))
  rw [en,if_neg hn] at rs
  have rs:goesM s.nd fl beh ⟨if (s.nd q).text.head?=some 47 then [1] else st.chain,comps (s.nd q).text++r,st.fol+1⟩=R:=rs
  have kt:=(g.kt q).2.2 k3
  have hmu:=G.mu
  have hcl:1≤st.chain.length:=List.length_pos_iff.mpr G.on.ne
  obtain ⟨p,ep,cp⟩:=(T h4 G.fr).ptr q q1 q2
  have N4:=(T h4 G.fr).nd q q1 q2
  have ll:=G.ll
  have lc:=G.lc
  rw [hl,List.length_cons] at ll
  have lx:=G.lx
  rw [hl] at lx
  refine ⟨⟨by omega,by omega⟩,?_⟩
  have ep0:=ep
  rw [ep,Int.toNat_natCast]
  refine os ⟨_,cp,os ⟨_,rda N4.r rfl,pieces_spec (by omega) fun a3 l3 c3 h12 f12 hl3 hl3' S3=>⟨_,_,_,rfl,Ch.strs r,by rw [strs_len]; show r.length=(lL - 1)*1; omega,tail_cells (SlCells.fr f12 lx fun _ _ y=>y) (by rw [List.length_cons]; omega) lc,strs_one r,?_⟩⟩⟩
  subst hl3
  have lr:r.length≤1000:=by
   have:mu st=33*(8 - st.fol)+st.left.length:=rfl
   rw [hl,List.length_cons] at this; omega
  have hbytes:(ti9).bytes=16:=rfl
  refine append_own (elem:=ti9) S3 (by rw [strs_len]; show r.length=(lL - 1)*1; omega) rfl (by rw [hbytes]; show ((comps (s.nd q).text).length+(lL - 1))*16≤_; omega) (by show (comps (s.nd q).text).length+(lL - 1)≤_; omega) fun a4 c4 h13 f13 S4=>?_
  have z12:=f12.size
  have z13:=f13.size
  have f13':Fr No h4 h13:=f12.trans f13 fun b hb y=>by have y:h4.size≤b:=y; omega
  have F13:=G.fr.no f13'
  have N13:=(T h13 F13).nd q q1 q2
  obtain ⟨p',ep',cp'⟩:=(T h13 F13).ptr q q1 q2
  have epp:p'=p:=by rw [ep'] at ep0; exact Option.some.inj ep0
  subst epp
  have hsz:(mkStr (s.nd q).text).size=(s.nd q).text.length:=rfl
  refine ⟨⟨by omega,by omega⟩,os ⟨_,cp',os ⟨_,rda N13.r rfl,⟨by decide,by rw [hsz]; omega⟩,(s.nd q).text[0]'(by omega),by rw [toList_mkStr]; exact List.getElem?_eq_getElem (by omega),?_⟩⟩⟩
  have hh:(s.nd q).text.head?=some ((s.nd q).text[0]'(by omega)):=by rw [List.head?_eq_getElem?]; exact List.getElem?_eq_getElem (by omega)
  have en4:(comps (s.nd q).text).length+(lL - 1)=(comps (s.nd q).text++r).length:=by rw [List.length_append]; omega
  have S4:SlCells h13 a4 (Ch.strs (comps (s.nd q).text++r)):=by
   have:=S4.cells
   rw [show Ch.strs (comps (s.nd q).text++r)=Ch.strs (comps (s.nd q).text)++Ch.strs r from List.map_append] 
   exact this
  have hc4:(comps (s.nd q).text).length+(lL - 1)≤c4:=by
   have:=(show Sl h13 1 a4 ((comps (s.nd q).text).length+(lL - 1)) c4 _ _ from ‹_›).le
   exact this
  refine ce (fun h47=>New.intro fun h14 n14=>?_) fun h47=>?_
  ·have e47:(s.nd q).text.head?=some 47:=by rw [hh,(ne_byte _ (m:=47) (by decide)).mp h47]; rfl
   rw [if_pos e47] at rs nx
   refine H _ h14 _ _ _ _ _ _ _ ⟨nx.1,F13.new n14,en4,hc4,SlCells.fr n14.fr S4 fun _ _ y=>y,rfl,Nat.le_refl _,cellsAll n14.rd,fun q hq=>?_,rfl,rs,?_⟩ nx.2
   ·cases hq
    show h2.size≤h13.size
    have:=F13.size
    exact this
   ·have:=nx.2
    show mu _+1≤1000
    omega
  ·have e47:¬ (s.nd q).text.head?=some 47:=by
    rw [hh]
    intro y
    exact h47 ((ne_byte _ (m:=47) (by decide)).mpr (Option.some.inj y))
   rw [if_neg e47] at rs nx
   refine H _ h13 _ _ _ _ _ _ _ ⟨nx.1,F13,en4,hc4,S4,G.cl,G.cc,SlCells.fr f13' G.cx fun _ _ y=>y,G.cb,rfl,rs,?_⟩ nx.2
   have:=nx.2
   show mu _+st.chain.length≤1000
   omega
end
end Go.Proofs.YtiapingedfnlnaaGreatDoor.Tr
namespace Go.Proofs.YtiapingedfnlnaaGreatDoor.Tr
open Go Go.Proofs Wx Hp W Spc Re
open Hd (ints)
open In (ints_length ints_one)
open Sk (nameOk nameOk_iff)
open Pa (comps)
open Wl (St Pl noPl here upC more mu strs_one)
section
variable {n : Nat} {s : Ts} {h h2 h4 h5 : Heap} {R : Pl × Int} {fl beh : Bool} {st : St} {lA cA : Option Addr} {lL lC cL cC : Nat} {fol : Int} {D : Dt} {K : Value → Heap → Prop}
theorem goes_k1 {I1:Option Addr→Nat→Nat→Option Addr→Nat→Nat→Int→Heap→Prop} {M1:Option Addr→Nat→Nat→Option Addr→Nat→Nat→Int→Heap→Nat} {q:Nat} {c:Tm.Txt} {r:List Tm.Txt} {lf:Bool}
  (g:Good n s) (tx:∀ k,TxOk (s.nd k)) (T:∀ hh,Fr No h2 hh→Tree hh s D) (G:Gs h2 s R fl beh st h4 lA lL lC cA cL cC fol) (lt:h.size<h2.size) (o:Own h2 h.size) (ln:(rd h2 h.size).length=4) (f0:Fr No h h2)
  (hl:st.left=c::r) (hne:c≠[46,46]) (hq:hasN (s.nd (here st.chain).toNat).names (s.nd (here st.chain).toNat).nums c=(q:Int)) (q1:1≤q) (q2:q<s.n) (hlf:lf=more beh r)
  (H:∀ st' hh lA' lL' lC' cA' cL' cC' fol',Gs h2 s R fl beh st' hh lA' lL' lC' cA' cL' cC' fol'→mu st'<mu st→I1 lA' lL' lC' cA' cL' cC' fol' hh∧M1 lA' lL' lC' cA' cL' cC' fol' hh<M1 lA lL lC cA cL cC fol h4)
  (hK:∀ h' a c,Fr No h h'→SlCells h' a (ints R.1.chain)→(∀ q,a=some q→h.size≤q.block)→K (.agg ⟨spotV a c R.1 R.2⟩) h') :
  bolelaw16_goes.k1 D.pa s.n fl h lA lL lC cA cL cC fol h4 I1 M1 (mkStr c) h4 (q:Int) lf K:=by
 subst hlf
 have f8:=G.on.fol
 have rs:=G.res
 rw [goes_nxt g tx G.on] at rs
 have en:nxt s.nd fl beh st=if (s.nd q).kind=2∧more beh r=true then .inr ⟨st.chain++[(q:Int)],r,st.fol⟩ else
  if (s.nd q).kind=3∧(more beh r=true∨fl=true) then (if st.fol=8 then .inl (noPl,162) else .inr ⟨if (s.nd q).text.head?=some 47 then [1] else st.chain,comps (s.nd q).text++r,st.fol+1⟩) else
  if more beh r=true then .inl (noPl,161) else .inl (⟨st.chain,c,(q:Int)⟩,0):=by
  unfold nxt
  rw [hl]
  dsimp only
  rw [if_neg hne,hq,if_neg (by omega),Int.toNat_natCast]
 obtain ⟨p,ep,cp⟩:=(T h4 G.fr).ptr q q1 q2
 have N4:=(T h4 G.fr).nd q q1 q2
 have ll:=G.ll
 have lc:=G.lc
 rw [hl,List.length_cons] at ll
 have lx:=G.lx
 rw [hl] at lx
 have hmu:=G.mu
 have z4:=G.fr.size
 have ends:(s.nd q).kind≠3∨fl=false→¬ more beh r=true→PutRow ⟨h.size,0,none⟩ [.slice cA cL cC,.string (mkStr c),.int .i64 (q:Int),.int .i64 0] 4 h4 fun h6=>∃ res1:List Value,List.length res1=4∧Cells h6 ⟨h.size,0,none⟩ res1∧K (.agg ⟨res1⟩) h6:=fun k3 mo=>by
  rw [en,if_neg (fun y=>mo y.2),if_neg (fun y=>by
   rcases y.2 with z|z
   ·exact mo z
   ·rcases k3 with w|w
    ·exact w y.1
    ·rw [w] at z; cases z),if_neg mo] at rs
  have rs:((⟨st.chain,c,(q:Int)⟩:Pl),(0:Int))=R:=rs
  subst rs
  exact goes_end (p:=⟨st.chain,c,(q:Int)⟩) (e:=0) G.fr lt o ln f0 G.cl G.cx G.cb hK
 unfold bolelaw16_goes.k1
 rw [ep,Int.toNat_natCast]
 refine ⟨⟨by omega,by omega⟩,os ⟨_,cp,os ⟨_,rda N4.r rfl,ce (fun k2=>cs (fun mo=>?_) fun mo=>?_) fun k2=>?_⟩⟩⟩
 ·rw [en,if_pos ⟨k2,mo⟩] at rs
  have nx:=nxt_ok g tx G.on (en.trans (if_pos ⟨k2,mo⟩))
  have rs:goesM s.nd fl beh ⟨st.chain++[(q:Int)],r,st.fol⟩=R:=rs
  have cl:=G.cl
  refine New.intro fun h7 n7=>?_
  have S7:Sl h7 1 (some ⟨h4.size,0,none⟩) 0 0 [] (From h4.size):=Sl.made (zs:=[]) n7 rfl (Nat.le_refl _) rfl (Nat.le_refl _) rfl
  have hbytes:(ti3).bytes=8:=rfl
  have z7:=n7.size
  refine ⟨ints st.chain,by rw [ints_length,← cl]; exact (Nat.mul_one _).symm,SlCells.fr n7.fr G.cx fun _ _ y=>y,ints_one _,append_own (elem:=ti3) S7 (by rw [ints_length,← cl]; exact (Nat.mul_one _).symm) rfl (by rw [hbytes]; show (0+cL)*8≤_; omega) (by omega) fun a8 c8 h8 f8' S8=>New.intro fun h9 n9=>?_⟩
  have z8:=f8'.size
  have z9:=n9.size
  have S9:=Sl.fr (F:=fun b=>From h4.size b∨h7.size≤b) n9.fr S8 fun _ _ _ y=>y
  have S9:Sl h9 1 a8 (0+cL) c8 (ints st.chain) (From h4.size):=S9.mono fun b hb=>by
   rcases hb with hb|hb
   ·exact hb
   ·show h4.size≤b; omega
  refine ⟨[.int .i64 (q:Int)],rfl,cellsAll n9.rd,fun v hv=>by rw [List.mem_singleton.mp hv]; rfl,append_own (elem:=ti3) S9 rfl rfl (by rw [hbytes]; show (0+cL+1)*8≤_; omega) (by omega) fun a10 c10 h10 f10 S10=>?_⟩
  have z10:=f10.size
  have F10:Fr No h4 h10:=((n7.fr.trans f8' fun b hb y=>by have y:h4.size≤b:=y; omega).new n9).trans f10 fun b hb y=>by have y:h4.size≤b:=y; omega
  refine H _ h10 _ _ _ _ _ _ _ ⟨nx.1,G.fr.no F10,by show lL - 1=r.length; omega,by show lL - 1≤lC - 1; omega,tail_cells (SlCells.fr F10 lx fun _ _ y=>y) (by rw [List.length_cons]; omega) lc,?_,S10.le,?_,fun p hp=>?_,G.fo,rs,?_⟩ nx.2
  ·show 0+cL+1=(st.chain++[(q:Int)]).length
   rw [List.length_append,← cl,Nat.zero_add]; rfl
  ·have:=S10.cells
   rw [show ints (st.chain++[(q:Int)])=ints st.chain++[.int .i64 (q:Int)] from List.map_append]
   exact this
  ·subst hp
   have:From h4.size p.block∨h9.size≤p.block:=S10.2.2.1
   rcases this with y|y
   ·have y:h4.size≤p.block:=y
    omega
   ·omega
  ·have:=nx.2
   show mu _+(st.chain++[(q:Int)]).length≤1000
   rw [List.length_append]
   show mu _+(st.chain.length+1)≤1000
   omega
 ·have mo':¬ more beh r=true:=by rw [mo]; decide
  refine ⟨⟨by omega,by omega⟩,os ⟨_,cp,os ⟨_,rda N4.r rfl,ce (fun k3=>absurd k3 (by omega)) fun _=>cs (fun y=>absurd y mo') fun _=>ends (.inl (by omega)) mo'⟩⟩⟩
 ·refine ⟨⟨by omega,by omega⟩,os ⟨_,cp,os ⟨_,rda N4.r rfl,ce (fun k3=>cs (fun mo=>?_) fun mo=>cs (fun hf=>?_) fun hf=>cs (fun y=>?_) fun _=>?_) fun k3=>cs (fun mo=>?_) fun mo=>?_⟩⟩⟩
  ·have:=goes_link (m0:=M1 lA lL lC cA cL cC fol h4) g tx T G lt o ln f0 hl hne hq q1 q2 k3 (.inl mo) H hK
   rw [ep,Int.toNat_natCast] at this
   exact this
  ·have:=goes_link (m0:=M1 lA lL lC cA cL cC fol h4) g tx T G lt o ln f0 hl hne hq q1 q2 k3 (.inr hf) H hK
   rw [ep,Int.toNat_natCast] at this
   exact this
  ·rw [mo] at y; cases y
  ·exact ends (.inr hf) (by rw [mo]; decide)
  ·rw [en,if_neg (fun y=>k2 y.1),if_neg (fun y=>k3 y.1),if_pos mo] at rs
   have rs:(noPl,(161:Int))=R:=rs
   subst rs
   exact goes_end (p:=noPl) (e:=161) (a:=none) (c:=0) (l:=0) G.fr lt o ln f0 rfl rfl (fun q hq=>by cases hq) hK
  ·exact ends (.inl k3) (by rw [mo]; decide)
theorem goes_spec {la:Option Addr} {l c:Nat} {cs0:List Tm.Txt} (g:Good n s) (tx:∀ k,TxOk (s.nd k)) (T:Tree h s D) (A:SlCells h la (Ch.strs cs0)) (hl:l=cs0.length) (hc:l≤c) (hcs:∀ c ∈ cs0,CompOk c) (hlen:cs0.length≤400)
  (hK:∀ h' a c,Fr No h h'→SlCells h' a (ints (goesM s.nd fl beh ⟨[1],cs0,0⟩).1.chain)→(∀ q,a=some q→h.size≤q.block)→K (.agg ⟨spotV a c (goesM s.nd fl beh ⟨[1],cs0,0⟩).1 (goesM s.nd fl beh ⟨[1],cs0,0⟩).2⟩) h'):C.bolelaw16_goes D.pa s.n D.pc la l c fl beh h K:=by
 refine bolelaw16_goes.ok (New.intro fun h2 n2=>New.intro fun h3 n3=>?_)
 have z2:=n2.size
 have z3:=n3.size
 have ln:(rd h2 h.size).length=4:=by rw [n2.rd]; rfl
 have T2:∀ hh,Fr No h2 hh→Tree hh s D:=fun hh f=>T.no (n2.fr.no f)
 have o0:=on_root g (l:=cs0) (Nat.zero_le 8) hcs
 generalize hR:goesM s.nd fl beh ⟨[1],cs0,0⟩=R at hK
 refine ⟨fun lA lL lC cA cL cC fol hh=>∃ st,Gs h2 s R fl beh st hh lA lL lC cA cL cC fol,fun _ lL _ _ _ _ fol _=>33*(8 - fol.toNat)+lL,
  ⟨⟨[1],cs0,0⟩,o0,n3.fr,hl,hc,SlCells.fr (n2.fr.new n3) A fun _ _ y=>y,rfl,Nat.le_refl _,cellsAll n3.rd,fun p hp=>by cases hp; exact Nat.le_refl _,rfl,hR,?_⟩,?_⟩
 ·show 33*(8 - 0)+cs0.length+1≤1000
  omega
 rintro lA lL lC cA cL cC fol h4 ⟨st,G⟩
 have H:∀ st' hh lA' lL' lC' cA' cL' cC' fol',Gs h2 s R fl beh st' hh lA' lL' lC' cA' cL' cC' fol'→mu st'<mu st→(∃ st,Gs h2 s R fl beh st hh lA' lL' lC' cA' cL' cC' fol')∧33*(8 - fol'.toNat)+lL'<33*(8 - fol.toNat)+lL:=fun st' hh lA' lL' lC' cA' cL' cC' fol' G' hm=>by
  refine ⟨⟨st',G'⟩,?_⟩
  have a:mu st=33*(8 - st.fol)+st.left.length:=rfl
  have b:mu st'=33*(8 - st'.fol)+st'.left.length:=rfl
  have c:=G.fo
  have d:=G'.fo
  have e:=G.ll
  have f:=G'.ll
  have g1:fol.toNat=st.fol:=by omega
  have g2:fol'.toNat=st'.fol:=by omega
  rw [g1,g2]
  omega
 have z4:=G.fr.size
 have ll:=G.ll
 have cl:=G.cl
 have hmu:=G.mu
 have hcl:1≤st.chain.length:=List.length_pos_iff.mpr G.on.ne
 have rs:=G.res
 rw [goes_nxt g tx G.on] at rs
 have w1:IntKind.wrap .i64 ((cL:Int) - 1)=((cL - 1:Nat):Int):=by rw [wrap_i64 (by omega) (by omega)]; omega
 have last:∃ p,cA=some p∧cellOf h4 (Addr.add p (cL - 1))=some (.int .i64 (here st.chain)):=by
  obtain ⟨p,ep,cp⟩:=cells_int G.cx (j:=cL - 1) (by omega)
  refine ⟨p,ep,?_⟩
  rw [cp]
  congr 2
  unfold here
  rw [List.getLastD_eq_getLast?,List.getLast?_eq_getElem?,List.getElem?_eq_getElem (by omega)]
  simp only [cl]; rfl
 obtain ⟨pc,epc,cpc⟩:=last
 refine cd (fun hgt=>?_) fun hgt=>?_
 ·cases hleft:st.left with
  | nil=>rw [hleft] at ll; exfalso; have ll:lL=0:=ll; omega
  | cons x r =>
   have lx:=G.lx
   rw [hleft] at lx ll
   rw [List.length_cons] at ll
   have lc:=G.lc
   obtain ⟨p,ep,cp⟩:=cells_str lx (j:=0) (by rw [List.length_cons]; omega)
   have cp:cellOf h4 (Addr.add p 0)=some (.string (mkStr x)):=cp
   have co:=G.on.left x (by rw [hleft]; exact List.mem_cons_self)
   refine ⟨⟨by decide,by omega⟩,?_⟩
   rw [ep]
   refine os ⟨_,cp,⟨by decide,by omega⟩,?_⟩
   rw [toList_mkStr,toList_mkStr]
   refine cs (fun hd=>?_) fun hd=>?_
   ·have hd:x=[46,46]:=eq_of_beq hd
    have en:nxt s.nd fl beh st = .inr ⟨upC st.chain,r,st.fol⟩:=by
     unfold nxt
     rw [hleft]
     dsimp only
     rw [if_pos hd]
    have nx:=nxt_ok g tx G.on en
    rw [en] at rs
    have rs:goesM s.nd fl beh ⟨upC st.chain,r,st.fol⟩=R:=rs
    have tl:SlCells h4 (if lC=1 then lA else Option.map (Addr.add · 1) lA) (Ch.strs r):=tail_cells lx (by rw [List.length_cons]; omega) lc
    rw [ep] at tl
    have hu:(upC st.chain).length≤st.chain.length:=by
     unfold upC
     split
     ·rw [List.length_dropLast]; omega
     ·exact Nat.le_refl _
    refine cd (fun h1=>?_) fun h1=>?_
    ·rw [w1,Int.toNat_natCast]
     have eu:upC st.chain=st.chain.dropLast:=if_pos (by omega)
     have cc:=G.cc
     refine ⟨⟨by omega,by omega⟩,H _ h4 _ _ _ _ _ _ _ ⟨nx.1,G.fr,by show lL - 1=r.length; omega,by show lL - 1≤lC - 1; omega,tl,?_,by omega,?_,G.cb,G.fo,rs,?_⟩ nx.2⟩
     ·show cL - 1=(upC st.chain).length
      rw [eu,List.length_dropLast]; omega
     ·show SlCells h4 cA (ints (upC st.chain))
      rw [eu,List.dropLast_eq_take]
      have:=SlCells.take G.cx (st.chain.length - 1)
      rw [show ints (st.chain.take (st.chain.length - 1))=(ints st.chain).take (st.chain.length - 1) from List.map_take]
      exact this
     ·have:=nx.2
      show mu _+(upC st.chain).length≤1000
      omega
    ·have eu:upC st.chain=st.chain:=if_neg (by omega)
     refine H _ h4 _ _ _ _ _ _ _ ⟨nx.1,G.fr,by show lL - 1=r.length; omega,by show lL - 1≤lC - 1; omega,tl,?_,G.cc,?_,G.cb,G.fo,rs,?_⟩ nx.2
     ·show cL=(upC st.chain).length
      rw [eu]; exact cl
     ·show SlCells h4 cA (ints (upC st.chain))
      rw [eu]; exact G.cx
     ·have:=nx.2
      show mu _+(upC st.chain).length≤1000
      omega
   ·have hd:x≠[46,46]:=fun y=>by rw [y] at hd; simp at hd
    obtain ⟨k,ek,k1,k2,k3⟩:=G.on.here_
    obtain ⟨pk,epk,cpk⟩:=(T2 h4 G.fr).ptr k k1 k2
    have Nk:=(T2 h4 G.fr).nd k k1 k2
    have lenk:=g.len k
    rw [w1,Int.toNat_natCast]
    refine ⟨⟨by omega,by omega⟩,?_⟩
    rw [epc]
    refine os ⟨_,cpc,?_⟩
    rw [ek,Int.toNat_natCast,epk]
    refine ⟨⟨by omega,by omega⟩,os ⟨_,cpk,has_spec Nk (by omega) ⟨_,rfl,ce (fun h0=>?_) fun h0=>?_⟩⟩⟩
    ·have en:nxt s.nd fl beh st = .inl (noPl,160):=by
      unfold nxt
      rw [hleft]
      dsimp only
      rw [if_neg hd,ek,Int.toNat_natCast,if_pos h0]
     rw [en] at rs
     have rs:(noPl,(160:Int))=R:=rs
     subst rs
     exact goes_end (p:=noPl) (e:=160) (a:=none) (c:=0) (l:=0) G.fr (by omega) n2.own ln n2.fr rfl rfl (fun q hq=>by cases hq) hK
    ·obtain ⟨q,eq,q1,q2⟩:=g.has_rng k2 h0
     have hq:hasN (s.nd (here st.chain).toNat).names (s.nd (here st.chain).toNat).nums x=(q:Int):=by rw [ek,Int.toNat_natCast]; exact eq
     rw [eq,← ep,← epc,← epk]
     refine cd (fun hr=>?_) fun hr=>?_
     ·exact goes_k1 g tx T2 G (by omega) n2.own ln n2.fr hleft hd hq q1 q2 (by
       have hr:((lL - 1:Nat):Int)>0:=hr
       unfold more
       rw [decide_eq_true (show 0<r.length by omega),Bool.or_true]) H hK
     ·exact goes_k1 g tx T2 G (by omega) n2.own ln n2.fr hleft hd hq q1 q2 (by
       have hr:¬ ((lL - 1:Nat):Int)>0:=hr
       unfold more
       rw [decide_eq_false (show ¬ 0<r.length by omega),Bool.or_false]) H hK
 ·have hleft:st.left=[]:=List.length_eq_zero_iff.mp (by omega)
  have en:nxt s.nd fl beh st = .inl (⟨st.chain,[],here st.chain⟩,0):=by
   unfold nxt
   rw [hleft]
  rw [en] at rs
  have rs:((⟨st.chain,[],here st.chain⟩:Pl),(0:Int))=R:=rs
  subst rs
  rw [w1,Int.toNat_natCast]
  refine ⟨⟨by omega,by omega⟩,?_⟩
  rw [epc]
  refine os ⟨_,cpc,?_⟩
  rw [← epc]
  exact goes_end (p:=⟨st.chain,[],here st.chain⟩) (e:=0) G.fr (by omega) n2.own ln n2.fr cl G.cx G.cb hK
end
end Go.Proofs.YtiapingedfnlnaaGreatDoor.Tr
namespace Go.Proofs.YtiapingedfnlnaaGreatDoor.Wo
open Go Go.Proofs Wx Hp W Spc Rz
open Tm (TM Tx)
open Hd (ints)
open In (ints_length ints_one)
open Ino (getM)
open Fi (readM)
open Pa (parseA makeA parse_fits)
open Di (findD)
open Wl (Pl noPl here upC more mu endGo endM metM linkM toM makeW To_spec Make_spec)
variable {h0 hh h' : Heap} {col col' : Nat → Nat}
theorem met_chain {T:TM} {g:G} {fl beh:Bool} {s:Wl.St} {kind n:Int}:(metM T g fl beh s kind n).2.2.chain.length≤s.chain.length+1:=by
 unfold metM
 split
 ·split
  ·exact Nat.le_succ _
  ·show (s.chain++[n]).length≤_
   rw [List.length_append]; exact Nat.le_refl _
 ·split
  ·unfold linkM
   split
   ·exact Nat.le_succ _
   ·split
    ·exact Nat.le_succ _
    ·split
     ·exact Nat.le_succ _
     ·split
      ·exact Nat.le_succ _
      ·show (if _ then [1] else s.chain).length≤_
       split
       ·show 1≤_; omega
       ·exact Nat.le_succ _
  ·split <;> exact Nat.le_succ _
theorem end_chain {T:TM} {g:G} {fl beh:Bool}:∀ (m:Nat) (s:Wl.St),(endGo T g fl beh m s).1.chain.length≤s.chain.length+m
 | 0,_=>Nat.zero_le _
 | m+1,s=>by
  unfold endGo
  cases s.left with
  | nil=>exact Nat.le_add_right _ _
  | cons c r =>
   dsimp only
   split
   ·have:=end_chain (T:=T) (g:=g) (fl:=fl) (beh:=beh) m ⟨upC s.chain,r,s.fol⟩
    have h:(upC s.chain).length≤s.chain.length:=by
     unfold upC
     split
     ·rw [List.length_dropLast]; omega
     ·exact Nat.le_refl _
    have e:(⟨upC s.chain,r,s.fol⟩:Wl.St).chain.length=(upC s.chain).length:=rfl
    omega
   ·split
    ·exact Nat.zero_le _
    ·split
     ·exact Nat.zero_le _
     ·split
      ·exact Nat.zero_le _
      ·split
       ·show s.chain.length≤_; omega
       ·have:=end_chain (T:=T) (g:=g) (fl:=fl) (beh:=beh) m (metM T g fl beh ⟨s.chain,r,s.fol⟩ ((getM T g (findD T g (here s.chain) c).1).1.getD 0 0) (findD T g (here s.chain) c).1).2.2
        have h:=met_chain (T:=T) (g:=g) (fl:=fl) (beh:=beh) (s:=⟨s.chain,r,s.fol⟩) (kind:=(getM T g (findD T g (here s.chain) c).1).1.getD 0 0) (n:=(findD T g (here s.chain) c).1)
        have e:(⟨s.chain,r,s.fol⟩:Wl.St).chain.length=s.chain.length:=rfl
        omega
theorem to_chain (T:TM) (g:G) (p:Tm.Txt) (fl:Bool):(toM T g p fl).1.chain.length≤400:=by
 have hp:=(parse_fits (s:=p) (b:=true)).1
 unfold toM
 split
 ·exact Nat.zero_le _
 ·refine Nat.le_trans (end_chain _ _) ?_
  show 1+(33*(8 - 0)+(parseA p true).1.length+1)≤400
  omega
theorem make_chain (T:TM) (g:G) (p:Tm.Txt):(makeW T g p).1.chain.length≤400:=by
 have hp:=Wl.make_fits p
 unfold makeW
 split
 ·exact Nat.zero_le _
 ·split
  ·show 1≤400; decide
  ·split
   ·exact Nat.zero_le _
   ·split
    ·exact Nat.zero_le _
    ·refine Nat.le_trans (end_chain _ _) ?_
     show 1+(33*(8 - 0)+(makeA p).1.length+1)≤400
     omega
end Go.Proofs.YtiapingedfnlnaaGreatDoor.Wo
namespace Go.Proofs.YtiapingedfnlnaaGreatDoor.Tr
open Go Go.Proofs Wx Hp W Spc Re
open Tm (TM Tx Written_spec)
open Hd (ints)
open In (ints_length ints_one)
open Pa (parseA makeA parse_fits taken_of Ls Parse_spec)
open Wl (Pl noPl here toM makeW plV plV_one To_spec)
section
variable {h hh : Heap} {K : Value → Heap → Prop}
theorem is_true {a b:Option Addr} {c c2:Nat} {p q:Pl} {e f:Int} (A:SlCells h a (ints p.chain)) (B:SlCells h b (ints q.chain)) (hl:p.chain.length≤140737488355328) (hp:p=q) (he:e=f) (hK:∀ h',Fr No h h'→K (.bool true) h'):C.bolelaw16_is (plV a c p) e (spotV b c2 q f) h K:=by
 subst hp he
 refine is_spec A B hl fun h' v fr iff=>?_
 have:v=true:=iff.mpr rfl
 subst this
 exact hK h' fr
theorem spot_one {a:Option Addr} {c:Nat} {p:Pl} {e:Int}:∀ v ∈ spotV a c p e,v.oneCell'=true:=fun v hv=>by
 simp only [spotV,List.mem_cons,List.not_mem_nil,or_false] at hv
 rcases hv with rfl|rfl|rfl|rfl <;> rfl
variable {n tb : Nat} {s : Ts} {D : Dt} {F : Nat → Prop} {dd : Option Addr} {T : TM} {h3 : Heap} {x : Tm.Txt}
theorem tree_two {NEXT:Heap→Prop} {a2:Option Addr} {l2 c2:Nat} {hb:Heap} (g:Good n s) (tx:∀ k,TxOk (s.nd k)) (S:Shows T (geoN n) s) (gl:In.Glo hh) (X:Tx hh F (some ⟨tb,0,none⟩) dd T) (Tt:Tree hh s D) (rg:rd hh h3.size=(geoN n).v) (rb:rd hh hb.size=[.bool false,.bool true]) (hx:x.length≤9223372036854775806)
  (L:SlCells hh a2 (Ch.strs (parseA x true).1)) (hl:l2=(parseA x true).1.length) (hc:l2≤c2) (hN:∀ h',Fr No hh h'→NEXT h') :
 ∃ (I2:Int→Heap→Prop) (M2:Int→Heap→Nat),I2 0 hh ∧
 ∀ (n3:Int),∀ h11:Heap,I2 n3 h11 →
 bif (decide (n3<(2:Int))) then (
 (0≤n3∧n3<(2:Int)) ∧
 ∃ (b3:Bool),cellOf h11 (Addr.add ⟨hb.size,0,none⟩ (Int.toNat n3))=some (.bool b3) ∧
 ∃ cs3:List Value,List.length cs3=5∧Cells h11 ⟨h3.size,0,none⟩ cs3 ∧
 C.walk_To (some ⟨tb,0,none⟩) cs3 (mkStr x) b3 h11 fun r4 h12 =>
 ∃ (cs4:List Value) (n4:Int),r4 = .tuple #[.agg ⟨cs4⟩,.int .i64 n4] ∧
 NewRow z66 66 cs4 3 h12 fun h14 =>
 C.bolelaw16_num (parseA x true).2 h14 fun r5 h15 =>
 ∃ (n5:Int),r5 = .int .i64 n5 ∧
 NewRow z72 72 [.slice none 0 0,.string (mkStr []),.int .i64 0,.int .i64 n5] 4 h15 fun h17 =>
 C.bolelaw16_num (parseA x true).2 h17 fun r6 h18 =>
 ∃ (n6:Int),r6 = .int .i64 n6 ∧
 bif (n6 == 0) then (
 C.bolelaw16_goes D.pa s.n D.pc a2 l2 c2 b3 false h18 fun r7 h19 =>
 ∃ (cs5:List Value),r7 = .agg ⟨cs5⟩ ∧
 PutRow ⟨h15.size,0,none⟩ cs5 4 h19 fun h20 =>
 ∃ cs6:List Value,List.length cs6=3∧Cells h20 ⟨h12.size,0,none⟩ cs6 ∧
 ∃ cs7:List Value,List.length cs7=4∧Cells h20 ⟨h15.size,0,none⟩ cs7 ∧
 C.bolelaw16_is cs6 n4 cs7 h20 fun r8 h21 =>
 ∃ (b4:Bool),r8 = .bool b4 ∧
 bif (!b4) then (
 K (.bool false) h21) else (
 I2 (IntKind.wrap .i64 (n3+1)) h21∧M2 (IntKind.wrap .i64 (n3+1)) h21<M2 n3 h11)) else (
 ∃ cs8:List Value,List.length cs8=3∧Cells h18 ⟨h12.size,0,none⟩ cs8 ∧
 ∃ cs9:List Value,List.length cs9=4∧Cells h18 ⟨h15.size,0,none⟩ cs9 ∧
 C.bolelaw16_is cs8 n4 cs9 h18 fun r9 h22 =>
 ∃ (b5:Bool),r9 = .bool b5 ∧
 bif (!b5) then (
 K (.bool false) h22) else (
 I2 (IntKind.wrap .i64 (n3+1)) h22∧M2 (IntKind.wrap .i64 (n3+1)) h22<M2 n3 h11))) else NEXT h11:=by
 have gbl:h3.size<hh.size:=rd_lt (o:=0) (v := .int .i64 (geoN n).blocks) (by rw [rg]; rfl)
 have hbl:hb.size<hh.size:=rd_lt (o:=0) (v := .bool false) (by rw [rb]; rfl)
 have pf:=(parse_fits (s:=x) (b:=true)).1
 refine ⟨fun i hx=>∃ k:Nat,i=k∧k≤2∧Fr No hh hx,fun i _=>((2:Nat) - i).toNat,⟨0,rfl,by omega,Fr.refl _ _⟩,?_⟩
 rintro i h11 ⟨k,rfl,hk,f11⟩
 have z11:=f11.size
 refine cd (fun hlt=>?_) fun hge=>hN h11 f11
 have rb11:rd h11 hb.size=[.bool false,.bool true]:=(f11.rd hbl fun y=>y).trans rb
 have rg11:rd h11 h3.size=(geoN n).v:=(f11.rd gbl fun y=>y).trans rg
 have next:∀ h',Fr No h11 h'→(∃ j:Nat,IntKind.wrap .i64 ((k:Int)+1)=j∧j≤2∧Fr No hh h')∧((2:Nat) - IntKind.wrap .i64 ((k:Int)+1)).toNat<((2:Nat) - (k:Int)).toNat:=fun h' f=>by
  rw [wrap_i64 (show -9223372036854775808≤(k:Int)+1 by omega) (by omega)]
  exact ⟨⟨k+1,by omega,by omega,f11.no f⟩,by omega⟩
 obtain ⟨fl,hfl⟩:∃ fl:Bool,cellOf h11 (Addr.add ⟨hb.size,0,none⟩ k)=some (.bool fl):=by
  have hk:k<2:=by omega
  obtain rfl|rfl:k=0∨k=1:=by omega
  ·exact ⟨false,rda rb11 rfl⟩
  ·exact ⟨true,rda rb11 rfl⟩
 refine ⟨⟨by omega,hlt⟩,fl,by rw [Int.toNat_natCast]; exact hfl,_,rfl,cellsAll rg11,To_spec (gl.no f11) g.dim (X.no f11) hx fun h12 a1 c1 f12 L1=>⟨_,_,rfl,NewRow.intro rfl plV_one rfl fun h14 n14=>num_spec ⟨_,rfl,NewRow.intro rfl (spot_one (a:=none) (c:=0) (p:=noPl)) rfl fun h17 n17=>num_spec ⟨_,rfl,?_⟩⟩⟩⟩
 have z12:=f12.size
 have z14:=n14.size
 have z17:=n17.size
 have f17:Fr No h11 h17:=(f12.new n14).new n17
 have et:=to_tree g tx S x (fl:=fl)
 have bl:(toM T (geoN n) x fl).1.chain.length≤140737488355328:=by have:=Wo.to_chain T (geoN n) x fl; omega
 have r12:rd h17 h12.size=plV a1 c1 (toM T (geoN n) x fl).1:=(n17.at_ (by omega)).trans n14.rd
 have L17:SlCells h17 a1 (ints (toM T (geoN n) x fl).1.chain):=SlCells.fr (n14.fr.new n17) L1.cells fun _ _ y=>y
 refine ce (fun e0=>?_) fun e0=>?_
 ·have eg:toM T (geoN n) x fl=goesM s.nd fl false ⟨[1],(parseA x true).1,0⟩:=by
   rw [et]; unfold toT; rw [if_neg (fun y=>y e0)]
  refine goes_spec (fl:=fl) (beh:=false) g tx (Tt.no (f11.no f17)) (SlCells.fr (f11.no f17) L fun _ _ y=>y) hl hc (taken_comp (taken_of e0)) (by omega) fun h19 a5 c5 f19 L5 hb5=>⟨_,rfl,?_⟩
  have z19:=f19.size
  have rl19:(rd h19 h14.size).length=4:=by rw [f19.rd (by omega) fun y=>y,n17.rd]; rfl
  refine PutRow.intro (f19.own (by omega) (fun y=>y) n17.own) rfl spot_one (by rw [rl19]; exact Nat.le_refl _) fun h20 d20=>?_
  have z20:=d20.size
  have r20:rd h20 h14.size=spotV a5 c5 (goesM s.nd fl false ⟨[1],(parseA x true).1,0⟩).1 (goesM s.nd fl false ⟨[1],(parseA x true).1,0⟩).2:=by rw [d20.rd,put_all _ _ (by rw [rl19]; rfl)]
  have r12':rd h20 h12.size=plV a1 c1 (toM T (geoN n) x fl).1:=(d20.at_ (by omega) (by omega)).trans ((f19.rd (by omega) fun y=>y).trans r12)
  have L20:SlCells h20 a1 (ints (toM T (geoN n) x fl).1.chain):=SlCells.fr d20.fr (SlCells.fr f19 L17 fun _ _ y=>y) fun p hp y=>by
   subst hp
   have y:p.block=h14.size:=y
   have:=(show Sl h12 1 (some p) _ c1 _ _ from L1).lt
   omega
  have M20:SlCells h20 a5 (ints (goesM s.nd fl false ⟨[1],(parseA x true).1,0⟩).1.chain):=SlCells.fr d20.fr L5 fun p hp y=>by
   have y:p.block=h14.size:=y
   have:=hb5 p hp
   omega
  refine ⟨_,rfl,cellsAll r12',_,rfl,cellsAll r20,is_true L20 M20 bl (by rw [eg]) (by rw [eg]) fun h21 f21=>⟨_,rfl,cnot (ct rfl (next h21 ?_))⟩⟩
  exact ((f17.no f19).trans d20.fr fun b hb y=>by have y:b=h14.size:=y; omega).no f21
 ·have eg:toM T (geoN n) x fl=(noPl,(parseA x true).2):=by
   rw [et]; unfold toT; rw [if_pos e0]
  have r14:rd h17 h14.size=spotV none 0 noPl (parseA x true).2:=n17.rd
  refine ⟨_,rfl,cellsAll r12,_,rfl,cellsAll r14,is_true L17 (q:=noPl) rfl bl (by rw [eg]) (by rw [eg]) fun h22 f22=>⟨_,rfl,cnot (ct rfl (next h22 (f17.no f22)))⟩⟩
theorem tree_make {NEXT:Heap→Prop} (g:Good n s) (tx:∀ k,TxOk (s.nd k)) (S:Shows T (geoN n) s) (gl:In.Glo hh) (X:Tx hh F (some ⟨tb,0,none⟩) dd T) (Tt:Tree hh s D) (rg:rd hh h3.size=(geoN n).v) (hx:x.length≤9223372036854775806) (hN:∀ h',Fr No hh h'→NEXT h') :
 C.path_Make (mkStr x) hh fun r10 h23 =>
 ∃ (sA3:Option Addr) (sL3:Nat) (sC3:Nat) (s3:ByteArray) (n7:Int),r10 = .tuple #[.slice sA3 sL3 sC3,.string s3,.int .i64 n7] ∧
 ∃ cs10:List Value,List.length cs10=5∧Cells h23 ⟨h3.size,0,none⟩ cs10 ∧
 C.walk_Make (some ⟨tb,0,none⟩) cs10 (mkStr x) h23 fun r11 h24 =>
 ∃ (cs11:List Value) (n8:Int),r11 = .tuple #[.agg ⟨cs11⟩,.int .i64 n8] ∧
 NewRow z66 66 cs11 3 h24 fun h26 =>
 C.bolelaw16_num n7 h26 fun r12 h27 =>
 ∃ (n9:Int),r12 = .int .i64 n9 ∧
 NewRow z72 72 [.slice none 0 0,.string (mkStr []),.int .i64 0,.int .i64 n9] 4 h27 fun h29 =>
 C.bolelaw16_num n7 h29 fun r13 h30 =>
 ∃ (n10:Int),r13 = .int .i64 n10 ∧
 bif (n10 == 0) then (
 C.bolelaw16_goes D.pa s.n D.pc sA3 sL3 sC3 true true h30 fun r14 h31 =>
 ∃ (cs12:List Value),r14 = .agg ⟨cs12⟩ ∧
 PutRow ⟨h27.size,0,none⟩ cs12 4 h31 fun h32 =>
 ∃ (n11:Int),cellOf h32 (Addr.add ⟨h27.size,0,none⟩ 3)=some (.int .i64 n11) ∧
 bif (n11 == 0) then (
 bif (!(s3.toList == (mkStr []).toList)) then (
 ∃ (n12:Int),cellOf h32 (Addr.add ⟨h27.size,0,none⟩ 2)=some (.int .i64 n12) ∧
 (0≤n12∧n12<(s.n:Int)) ∧
 onSome D.pa fun p2 =>
 ∃ (q2:Option Addr),cellOf h32 (Addr.add p2 (Int.toNat n12))=some (.pointer q2) ∧
 C.bolelaw16_Node_has q2 s3 h32 fun r15 h33 =>
 ∃ (n13:Int),r15 = .int .i64 n13 ∧
 Put (Addr.add ⟨h27.size,0,none⟩ 1) (.string s3) h33 fun h34 =>
 Put (Addr.add ⟨h27.size,0,none⟩ 2) (.int .i64 n13) h34 fun h35 =>
 ∃ cs13:List Value,List.length cs13=3∧Cells h35 ⟨h24.size,0,none⟩ cs13 ∧
 ∃ cs14:List Value,List.length cs14=4∧Cells h35 ⟨h27.size,0,none⟩ cs14 ∧
 C.bolelaw16_is cs13 n8 cs14 h35 fun r16 h36 =>
 ∃ (b6:Bool),r16 = .bool b6 ∧
 bif (!b6) then (
 K (.bool false) h36) else (
 NEXT h36)) else (
 ∃ cs15:List Value,List.length cs15=3∧Cells h32 ⟨h24.size,0,none⟩ cs15 ∧
 ∃ cs16:List Value,List.length cs16=4∧Cells h32 ⟨h27.size,0,none⟩ cs16 ∧
 C.bolelaw16_is cs15 n8 cs16 h32 fun r17 h37 =>
 ∃ (b7:Bool),r17 = .bool b7 ∧
 bif (!b7) then (
 K (.bool false) h37) else (
 NEXT h37))) else (
 ∃ cs17:List Value,List.length cs17=3∧Cells h32 ⟨h24.size,0,none⟩ cs17 ∧
 ∃ cs18:List Value,List.length cs18=4∧Cells h32 ⟨h27.size,0,none⟩ cs18 ∧
 C.bolelaw16_is cs17 n8 cs18 h32 fun r18 h38 =>
 ∃ (b8:Bool),r18 = .bool b8 ∧
 bif (!b8) then (
 K (.bool false) h38) else (
 NEXT h38))) else (
 ∃ cs19:List Value,List.length cs19=3∧Cells h30 ⟨h24.size,0,none⟩ cs19 ∧
 ∃ cs20:List Value,List.length cs20=4∧Cells h30 ⟨h27.size,0,none⟩ cs20 ∧
 C.bolelaw16_is cs19 n8 cs20 h30 fun r19 h39 =>
 ∃ (b9:Bool),r19 = .bool b9 ∧
 bif (!b9) then (
 K (.bool false) h39) else (
 NEXT h39)):=by
 have gbl:h3.size<hh.size:=rd_lt (o:=0) (v := .int .i64 (geoN n).blocks) (by rw [rg]; rfl)
 have mf:=Wl.make_fits x
 refine Pa.Make_spec hx fun a2 l2 c2 h23 f23 Z2=>⟨_,_,_,_,_,rfl,?_⟩
 have z23:=f23.size
 have rg23:rd h23 h3.size=(geoN n).v:=(f23.rd gbl fun y=>y).trans rg
 refine ⟨_,rfl,cellsAll rg23,Wl.Make_spec (gl.no f23) g.dim (X.no f23) hx fun h24 a1 c1 f24 L1=>⟨_,_,rfl,NewRow.intro rfl plV_one rfl fun h26 n26=>num_spec ⟨_,rfl,NewRow.intro rfl (spot_one (a:=none) (c:=0) (p:=noPl)) rfl fun h29 n29=>num_spec ⟨_,rfl,?_⟩⟩⟩⟩
 have z24:=f24.size
 have z26:=n26.size
 have z29:=n29.size
 have f29:Fr No h23 h29:=(f24.new n26).new n29
 have F29:Fr No hh h29:=f23.no f29
 have et:=make_tree g tx S x
 have bl:(makeW T (geoN n) x).1.chain.length≤140737488355328:=by have:=Wo.make_chain T (geoN n) x; omega
 have r24:rd h29 h24.size=plV a1 c1 (makeW T (geoN n) x).1:=(n29.at_ (by omega)).trans n26.rd
 have L29:SlCells h29 a1 (ints (makeW T (geoN n) x).1.chain):=SlCells.fr (n26.fr.new n29) L1.cells fun _ _ y=>y
 refine ce (fun e0=>?_) fun e0=>?_
 ·have mp:=make_parts e0
  have o0:=on_root g (s:=s) (l:=(makeA x).1) (Nat.zero_le 8) mp.1
  have gd:=go_dir s.nd true (Wl.mu ⟨[1],(makeA x).1,0⟩+1) ⟨[1],(makeA x).1,0⟩
  have ge:(goesM s.nd true true ⟨[1],(makeA x).1,0⟩).2≠0→(goesM s.nd true true ⟨[1],(makeA x).1,0⟩).1=noPl:=go_err s.nd true true (Wl.mu ⟨[1],(makeA x).1,0⟩+1) ⟨[1],(makeA x).1,0⟩
  have go:=goesM_on (fl:=true) (beh:=true) g tx o0
  have ef:=goesM_beh s.nd false true ⟨[1],(makeA x).1,0⟩
  have gd:(goesM s.nd true true ⟨[1],(makeA x).1,0⟩).2=0→(goesM s.nd true true ⟨[1],(makeA x).1,0⟩).1=noPl∨((goesM s.nd true true ⟨[1],(makeA x).1,0⟩).1.name=[]∧(goesM s.nd true true ⟨[1],(makeA x).1,0⟩).1.ino=here (goesM s.nd true true ⟨[1],(makeA x).1,0⟩).1.chain):=gd
  have em:makeW T (geoN n) x=if (makeA x).2.1=[] then (⟨[1],[],1⟩,0) else if (goesM s.nd true true ⟨[1],(makeA x).1,0⟩).2≠0 then (noPl,(goesM s.nd true true ⟨[1],(makeA x).1,0⟩).2) else
    (⟨(goesM s.nd true true ⟨[1],(makeA x).1,0⟩).1.chain,(makeA x).2.1,hasN (s.nd (here (goesM s.nd true true ⟨[1],(makeA x).1,0⟩).1.chain).toNat).names (s.nd (here (goesM s.nd true true ⟨[1],(makeA x).1,0⟩).1.chain).toNat).nums (makeA x).2.1⟩,0):=by
   rw [et]; unfold makeT; rw [if_neg (fun y=>y e0),ef]
  have nil:(makeA x).2.1=[]→goesM s.nd true true ⟨[1],(makeA x).1,0⟩=(⟨[1],[],1⟩,0):=fun z=>by
   have:(makeA x).1=[]:=by
    unfold makeA at e0 z ⊢
    split at e0
    ·cases e0
    ·rename_i h1
     rw [if_neg h1] at z ⊢
     split at e0
     ·cases e0
     ·rename_i h2
      rw [if_neg h2] at z ⊢
      split at e0
      ·cases e0
      ·rename_i cs hcs
       rw [hcs] at z
       dsimp only at z ⊢
       by_cases c0:cs=[]
       ·rw [if_pos c0]
       ·exfalso
        rw [if_neg c0] at z
        have hm:cs.getLastD [] ∈ cs:=by
         rw [List.getLastD_eq_getLast?,List.getLast?_eq_some_getLast c0]; exact List.getLast_mem c0
        have z:cs.getLastD []=[]:=z
        rw [z] at hm
        have t:Pa.Taken x true cs:=⟨by simpa using h1,hcs⟩
        rcases taken_comp t _ hm with y|y
        ·cases y
        ·exact absurd y (by decide)
   rw [this,goes_nxt g tx (on_root g (Nat.zero_le 8) fun c hc=>by cases hc)]
   rfl
  refine goes_spec (fl:=true) (beh:=true) g tx (Tt.no F29) (SlCells.fr f29 Z2.2.cells fun _ _ y=>y) Z2.1 Z2.2.le mp.1 (by omega) fun h31 a5 c5 f31 L5 hb5=>⟨_,rfl,?_⟩
  generalize goesM s.nd true true ⟨[1],(makeA x).1,0⟩=R at gd go ge em nil L5 ⊢
  have z31:=f31.size
  have rl31:(rd h31 h26.size).length=4:=by rw [f31.rd (by omega) fun y=>y,n29.rd]; rfl
  refine PutRow.intro (f31.own (by omega) (fun y=>y) n29.own) rfl spot_one (by rw [rl31]; exact Nat.le_refl _) fun h32 d32=>?_
  have z32:=d32.size
  have r32:rd h32 h26.size=spotV a5 c5 R.1 R.2:=by rw [d32.rd,put_all _ _ (by rw [rl31]; rfl)]
  have r24':rd h32 h24.size=plV a1 c1 (makeW T (geoN n) x).1:=(d32.at_ (by omega) (by omega)).trans ((f31.rd (by omega) fun y=>y).trans r24)
  have pb:∀ p,a1=some p→p.block<h24.size:=fun p hp=>by
   subst hp
   exact (show Sl h24 1 (some p) _ c1 _ _ from L1).lt
  have L32:SlCells h32 a1 (ints (makeW T (geoN n) x).1.chain):=SlCells.fr d32.fr (SlCells.fr f31 L29 fun _ _ y=>y) fun p hp y=>by
   have y:p.block=h26.size:=y
   have:=pb p hp
   omega
  have M32:SlCells h32 a5 (ints R.1.chain):=SlCells.fr d32.fr L5 fun p hp y=>by
   have y:p.block=h26.size:=y
   have:=hb5 p hp
   omega
  have F32:Fr No hh h32:=(F29.no f31).trans d32.fr fun b hb y=>by have y:b=h26.size:=y; omega
  refine ⟨R.2,rda r32 rfl,ce (fun w0=>?_) fun w0=>?_⟩
  ·rw [toList_mkStr,toList_mkStr]
   refine cnot (cs (fun hz=>?_) fun hz=>?_)
   ·have hz:(makeA x).2.1=[]:=eq_of_beq hz
    rw [if_pos hz,← nil hz] at em
    refine ⟨_,rfl,cellsAll r24',_,rfl,cellsAll r32,is_true L32 M32 bl (by rw [em]) (by rw [em]) fun h37 f37=>⟨_,rfl,cnot (ct rfl (hN h37 (F32.no f37)))⟩⟩
   ·have hz:(makeA x).2.1≠[]:=fun y=>by rw [y] at hz; simp at hz
    obtain ⟨c1',c2',_,_⟩:=go w0
    obtain ⟨k,ek,k1,k2,k3⟩:=c2' _ (here_mem c1')
    have gi:R.1.name=[]∧R.1.ino=here R.1.chain:=(gd w0).resolve_left fun y=>c1' (by rw [y]; rfl)
    rw [if_neg hz,if_neg (fun y=>y w0),ek,Int.toNat_natCast] at em
    have T32:=Tt.no F32
    obtain ⟨pk,epk,cpk⟩:=T32.ptr k k1 k2
    have Nk:=T32.nd k k1 k2
    have lenk:=g.len k
    have ik:R.1.ino=(k:Int):=gi.2.trans ek
    refine ⟨R.1.ino,rda r32 rfl,?_⟩
    rw [ik,Int.toNat_natCast,epk]
    refine ⟨⟨by omega,by omega⟩,os ⟨_,cpk,has_spec Nk (by omega) ⟨_,rfl,Put.add d32.own (by rw [r32]; show 0+1<4; decide) fun h34 d34=>Put.add d34.own (by rw [d34.rd,List.length_set,r32]; show 0+2<4; decide) fun h35 d35=>?_⟩⟩⟩
    have z34:=d34.size
    have z35:=d35.size
    have r35:rd h35 h26.size=spotV a5 c5 ⟨R.1.chain,(makeA x).2.1,hasN (s.nd k).names (s.nd k).nums (makeA x).2.1⟩ R.2:=by rw [d35.rd,d34.rd,r32]; rfl
    have f35:Fr (fun b=>b=h26.size) h32 h35:=d34.fr.trans d35.fr fun _ _ y=>y
    have r24'':rd h35 h24.size=plV a1 c1 (makeW T (geoN n) x).1:=(f35.rd (by omega) (by omega)).trans r24'
    have L35:SlCells h35 a1 (ints (makeW T (geoN n) x).1.chain):=SlCells.fr f35 L32 fun p hp y=>by
     have y:p.block=h26.size:=y
     have:=pb p hp
     omega
    have M35:SlCells h35 a5 (ints R.1.chain):=SlCells.fr f35 M32 fun p hp y=>by
     have y:p.block=h26.size:=y
     have:=hb5 p hp
     omega
    have F35:Fr No hh h35:=F32.trans f35 fun b hb y=>by have y:b=h26.size:=y; omega
    refine ⟨_,rfl,cellsAll r24'',_,rfl,cellsAll r35,is_true L35 (q:=⟨R.1.chain,(makeA x).2.1,hasN (s.nd k).names (s.nd k).nums (makeA x).2.1⟩) M35 bl (by rw [em]) (by rw [em,w0]) fun h36 f36=>⟨_,rfl,cnot (ct rfl (hN h36 (F35.no f36)))⟩⟩
  ·have hz:(makeA x).2.1≠[]:=fun y=>w0 (by rw [nil y])
   rw [if_neg hz,if_pos w0] at em
   refine ⟨_,rfl,cellsAll r24',_,rfl,cellsAll r32,is_true L32 M32 bl (by rw [em,ge w0]) (by rw [em]) fun h38 f38=>⟨_,rfl,cnot (ct rfl (hN h38 (F32.no f38)))⟩⟩
 ·have eg:makeW T (geoN n) x=(noPl,(makeA x).2.2):=by
   rw [et]; unfold makeT; rw [if_pos e0]
  have r26:rd h29 h26.size=spotV none 0 noPl (makeA x).2.2:=n29.rd
  refine ⟨_,rfl,cellsAll r24,_,rfl,cellsAll r26,is_true L29 (q:=noPl) rfl bl (by rw [eg]) (by rw [eg]) fun h39 f39=>⟨_,rfl,cnot (ct rfl (hN h39 (F29.no f39)))⟩⟩
variable {more : Int} {ta pa : Option Addr} {tl tc pl pc : Nat} {ts : List Th} {la : Option Addr} {ll lc : Nat} {xs : List Tm.Txt}
theorem WalkTree_spec (gl:In.Glo h) (Z:SlCells h ta (ts.flatMap thV)) (hl:ts.length=tl) (htl:tl≤1000000000) (ht:∀ t ∈ ts,t.name.length≤1000000000∧t.text.length≤1000000000)
  (A:SlCells h la (Ch.strs xs)) (hxl:xs.length=ll) (hlc:ll≤lc) (hx:∀ x ∈ xs,x.length≤9223372036854775806) (hK:∀ h',Fr No h h'→K (.bool true) h'):C.bolelaw16_WalkTree (setV more ta tl tc pa pl pc) la ll lc h K:=by
 have bn:=blocksN_rng more
 refine bolelaw16_WalkTree.ok (New.intro fun h2 n2=>⟨_,rfl,cellsAll n2.rd,right_spec (SlCells.fr n2.fr Z fun _ _ y=>y) hl htl ht fun tb dd F D h3 f3 x3 hF T3=>⟨_,_,_,_,_,_,rfl,NewRow.intro rfl (Spc.G.one _) rfl fun h5 n5=>cnot (ct rfl (known_spec (gl.no ((n2.fr.no f3).new n5)) fun h6 f6=>⟨_,rfl,cnot (ct rfl ?_)⟩))⟩⟩)
 have S:=chunks_shows (n:=blocksN more) (ts:=ts) ⟨bn.1,bn.2⟩
 have tx:=tree_tx (blocksN more) ts
 generalize hn:blocksN more=n at *
 have g:=tree_good ⟨bn.1,bn.2⟩ ts
 generalize treeP n ts=s at *
 have hput:(⟨Ad.fresh (Ad.chunks (imgP n s)),[],[],false⟩:TM).put=[]:=rfl
 generalize (⟨Ad.fresh (Ad.chunks (imgP n s)),[],[],false⟩:TM)=T at x3 S hput
 have z2:=n2.size
 have z3:=f3.size
 have z5:=n5.size
 have z6:=f6.size
 have f36:Fr No h3 h6:=n5.fr.no f6
 have F6:Fr No h h6:=(n2.fr.no f3).no f36
 have gl6:In.Glo h6:=gl.no F6
 have rg6:rd h6 h3.size=(geoN n).v:=(f6.rd (by omega) fun y=>y).trans n5.rd
 have X6:=x3.no f36
 have T6:=T3.no f36
 have em:(if (60:Int)<(ll:Int) then 60 else (ll:Int))=((min ll 60:Nat):Int):=by split <;> omega
 unfold bolelaw16_WalkTree.k1
 rw [em,Int.toNat_natCast]
 refine ⟨⟨by omega,by omega⟩,fun i1 hx=>∃ i:Nat,i1=i∧i≤min ll 60∧Fr No h6 hx,fun i1 _=>(((min ll 60:Nat):Int) - i1).toNat,⟨0,rfl,Nat.zero_le _,Fr.refl _ _⟩,?_⟩
 rintro i1 h8 ⟨i,rfl,hi,f8⟩
 have z8:=f8.size
 have F8:Fr No h h8:=F6.no f8
 refine cd (fun hlt=>?_) fun hge=>?_
 ·have hi':i<xs.length:=by omega
  obtain ⟨p,ep,cp⟩:=cells_str (SlCells.fr F8 A fun _ _ y=>y) hi'
  have hxl':=hx _ (List.getElem_mem hi')
  rw [ep,Int.toNat_natCast]
  generalize xs[i]=x at cp hxl'
  have next:∀ h',Fr No h6 h'→(∃ j:Nat,IntKind.wrap .i64 ((i:Int)+1)=j∧j≤min ll 60∧Fr No h6 h')∧(((min ll 60:Nat):Int) - IntKind.wrap .i64 ((i:Int)+1)).toNat<(((min ll 60:Nat):Int) - (i:Int)).toNat:=fun h' f=>by
   rw [wrap_i64 (show -9223372036854775808≤(i:Int)+1 by omega) (by omega)]
   exact ⟨⟨i+1,by omega,by omega,f⟩,by omega⟩
  refine ⟨⟨by omega,by omega⟩,os ⟨_,cp,Parse_spec hxl' fun a2 l2 c2 h9 f9 Z9=>⟨_,_,_,_,rfl,New.intro fun h10 n10=>?_⟩⟩⟩
  have z9:=f9.size
  have z10:=n10.size
  have f10:Fr No h6 h10:=(f8.no f9).new n10
  have rg10:rd h10 h3.size=(geoN n).v:=(f10.rd (by omega) fun y=>y).trans rg6
  refine tree_two (K:=K) g tx S (gl6.no f10) (X6.no f10) (T6.no f10) rg10 n10.rd hxl' (SlCells.fr n10.fr Z9.2.cells fun _ _ y=>y) Z9.1 Z9.2.le fun h11 f11=>?_
  have f11':=f10.no f11
  have z11:=f11.size
  have rg11:rd h11 h3.size=(geoN n).v:=(f11.rd (by omega) fun y=>y).trans rg10
  exact tree_make (K:=K) g tx S (gl6.no f11') (X6.no f11') (T6.no f11') rg11 hxl' fun h' f=>next h' (f11'.no f)
 ·refine Written_spec (X6.no f8) (by rw [hput]; exact Nat.zero_le _) fun a l c h40 f40 el S40=>⟨_,_,_,rfl,?_⟩
  rw [hput] at el
  subst el
  exact hK h40 (F8.no f40)
end
end Go.Proofs.YtiapingedfnlnaaGreatDoor.Tr
