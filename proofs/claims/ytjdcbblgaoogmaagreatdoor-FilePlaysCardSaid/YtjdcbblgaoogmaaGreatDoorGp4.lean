/- filePlays_card -/
import Derived.Test.YtjdcbblgaoogmaaGreatDoorCards
import Derived.Test.YtjdcbblgaoogmaaGreatDoorTie
import Derived.Shelf.SlIterI.Sorted
import Derived.Shelf.SortM.Plain
import Derived.Shelf.SortM.SortNone
import Derived.RecoverIn
import Derived.WalkKit
import Derived.WalkLawsBesides
import Derived.Test.YtjdcbblgaoogmaaGreatDoorGp3
namespace Go.Proofs.YtjdcbblgaoogmaaGreatDoor
open Go Go.Proofs Wx
variable{h h' hh:ad}{F D' R:NP}{b l c m k o r tb kl kc dl dc n0 sb e w al ac:Nat}{K:KT}{a d t ka da aa:OA}{bs ys:LB}{p:Addr}{xs:LV}{i:Int}{ao ay:Nat->Nat}{ns:List Int}
namespace W
def bS.k2(t1:OA)(k1:Int)(h1 h2 h3 fg:ad)(K:KT):=
 ∃vo,List.length vo=5/\aj fg ⟨h1.size,0,none⟩ vo/\
 ∃n8,cellOf fg (Addr.add ⟨h2.size,0,none⟩ 14)=some (vI n8)/\
 C.cZ vo n8 fg λr3 iY=>
 ∃n9,r3 = vI n9/\
 bif(n9 != 0)then(
 ∃vX,List.length vX=15/\aj iY ⟨h2.size,0,none⟩ vX/\
 ax ⟨h3.size,0,none⟩ vX 15 iY λfw=>
 ∃lF,List.length lF=15/\aj fw ⟨h3.size,0,none⟩ lF/\
 K (.tuple #[.agg ⟨lF⟩,vI n9]) fw)else(
 ∃n10,cellOf iY (Addr.add ⟨h2.size,0,none⟩ 14)=some (vI n10)/\
 C.eT t1 n10 iY λr4 ma=>
 ∃aI aF aT n11,r4 = .tuple #[vS aI aF aT,vI n11]/\
 bif(n11 != 0)then(
 ∃HW,List.length HW=15/\aj ma ⟨h2.size,0,none⟩ HW/\
 ax ⟨h3.size,0,none⟩ HW 15 ma λgm=>
 ∃qY,List.length qY=15/\aj gm ⟨h3.size,0,none⟩ qY/\
 K (.tuple #[.agg ⟨qY⟩,vI n11]) gm)else(
 ∃(I2:Bool->Int->ad->Prop) (M2:Bool->Int->ad->Nat),I2 false (wI (Int.tdiv (if(0:Int)>(wI ((wI (k1-10))-128))then 0 else(wI ((wI (k1-10))-128))) 128)) ma/\
 ∀(eU:Bool) (i2:Int),∀iK:ad,I2 eU i2 iK->
 bif(decide (i2<128))then(
 (0<=i2/\i2<(aF:Int))/\
 ae aI λp1=>
 ∃n12,cellOf iK (p1.add (Int.toNat i2))=some (vI n12)/\
 bif(n12==0)then(
 I2 eU (wI (i2+1)) iK/\M2 eU (wI (i2+1)) iK<M2 eU i2 iK)else(
 ∃uI,List.length uI=5/\aj iK ⟨h1.size,0,none⟩ uI/\
 (0<=i2/\i2<(aF:Int))/\
 ae aI λp2=>
 ∃n13,cellOf iK (p2.add (Int.toNat i2))=some (vI n13)/\
 C.gS t1 uI n13 (wI ((if(0:Int)>(wI ((wI (k1-10))-128))then 0 else(wI ((wI (k1-10))-128)))-(wI (i2*128)))) iK λr5 nR=>
 ∃b2 n14,r5 = .tuple #[.bool b2,vI n14]/\
 bif(n14 != 0)then(
 ∃LW,List.length LW=15/\aj nR ⟨h2.size,0,none⟩ LW/\
 ax ⟨h3.size,0,none⟩ LW 15 nR λnD=>
 ∃th,List.length th=15/\aj nD ⟨h3.size,0,none⟩ th/\
 K (.tuple #[.agg ⟨th⟩,vI n14]) nD)else(
 bif b2 then(
 (0<=i2/\i2<(aF:Int))/\
 ae aI λp3=>
 aO (p3.add (Int.toNat i2)) (vI 0) nR λjR=>
 I2 true (wI (i2+1)) jR/\M2 true (wI (i2+1)) jR<M2 eU i2 iK)else(
 I2 eU (wI (i2+1)) nR/\M2 eU (wI (i2+1)) nR<M2 eU i2 iK))))else(
 ∃LX,List.length LX=5/\aj iK ⟨h1.size,0,none⟩ LX/\
 ∃n15,cellOf iK (Addr.add ⟨h2.size,0,none⟩ 14)=some (vI n15)/\
 C.gi t1 LX n15 aI aF aT eU iK λr6 mu=>
 ∃b3 n16,r6 = .tuple #[.bool b3,vI n16]/\
 bif b3 then(
 aO (Addr.add ⟨h2.size,0,none⟩ 14) (vI 0) mu λuH=>
 ∃LY,List.length LY=15/\aj uH ⟨h2.size,0,none⟩ LY/\
 ax ⟨h3.size,0,none⟩ LY 15 uH λqu=>
 ∃Cb,List.length Cb=15/\aj qu ⟨h3.size,0,none⟩ Cb/\
 K (.tuple #[.agg ⟨Cb⟩,vI n16]) qu)else(
 ∃LZ,List.length LZ=15/\aj mu ⟨h2.size,0,none⟩ LZ/\
 ax ⟨h3.size,0,none⟩ LZ 15 mu λtx=>
 ∃xF,List.length xF=15/\aj tx ⟨h3.size,0,none⟩ xF/\
 K (.tuple #[.agg ⟨xF⟩,vI n16]) tx))))
def bS.k1(t1:OA)(k1:Int)(h1 h2 h3 cG:ad)(K:KT):=
 bif(decide (k1>=16522))then(
 ∃rh,List.length rh=15/\aj cG ⟨h2.size,0,none⟩ rh/\
 ax ⟨h3.size,0,none⟩ rh 15 cG λcg=>
 ∃fv,List.length fv=15/\aj cg ⟨h3.size,0,none⟩ fv/\
 K (.tuple #[.agg ⟨fv⟩,vI 0]) cg)else(
 ∃n7,cellOf cG (Addr.add ⟨h2.size,0,none⟩ 14)=some (vI n7)/\
 bif(n7==0)then(
 ∃tg,List.length tg=15/\aj cG ⟨h2.size,0,none⟩ tg/\
 ax ⟨h3.size,0,none⟩ tg 15 cG λcM=>
 ∃kE,List.length kE=15/\aj cM ⟨h3.size,0,none⟩ kE/\
 K (.tuple #[.agg ⟨kE⟩,vI 0]) cM)else(
 bS.k2 t1 k1 h1 h2 h3 cG K))
def bS(t1:OA)(g1 x1:LV)(k1:Int)(K:KT)(h1:ad):=
 az g1 80 h1 λh2=>
 az x1 155 h2 λh3=>
 az gv 155 h3 λh4=>
 ∃(I1:Int->ad->Prop) (M1:Int->ad->Nat),I1 k1 h4/\
 ∀(i1:Int),∀h5:ad,I1 i1 h5->
 bif(decide (i1<10))then(
 (0<=i1/\i1<(10:Int))/\
 ∃n1,cellOf h5 (Addr.add (Addr.add ⟨h2.size,0,none⟩ 3) (Int.toNat i1))=some (vI n1)/\
 bif(n1==0)then(
 I1 (wI (i1+1)) h5/\M1 (wI (i1+1)) h5<M1 i1 h5)else(
 ∃aW,List.length aW=5/\aj h5 ⟨h1.size,0,none⟩ aW/\
 (0<=i1/\i1<(10:Int))/\
 ∃n2,cellOf h5 (Addr.add (Addr.add ⟨h2.size,0,none⟩ 3) (Int.toNat i1))=some (vI n2)/\
 C.iG t1 aW n2 h5 λr1 h6=>
 ∃n3,r1 = vI n3/\
 bif(n3 != 0)then(
 ∃cH,List.length cH=15/\aj h6 ⟨h2.size,0,none⟩ cH/\
 ax ⟨h3.size,0,none⟩ cH 15 h6 λh7=>
 ∃bL,List.length bL=15/\aj h7 ⟨h3.size,0,none⟩ bL/\
 K (.tuple #[.agg ⟨bL⟩,vI n3]) h7)else(
 (0<=i1/\i1<(10:Int))/\
 aO (Addr.add (Addr.add ⟨h2.size,0,none⟩ 3) (Int.toNat i1)) (vI 0) h6 λh8=>
 I1 (wI (i1+1)) h8/\M1 (wI (i1+1)) h8<M1 i1 h5)))else(
 bif(decide (k1<138))then(
 ∃n4,cellOf h5 (Addr.add ⟨h2.size,0,none⟩ 13)=some (vI n4)/\
 bif(n4 != 0)then(
 ∃fV,List.length fV=5/\aj h5 ⟨h1.size,0,none⟩ fV/\
 ∃n5,cellOf h5 (Addr.add ⟨h2.size,0,none⟩ 13)=some (vI n5)/\
 C.gS t1 fV n5 (wI (k1-10)) h5 λr2 h9=>
 ∃b1 n6,r2 = .tuple #[.bool b1,vI n6]/\
 bif(n6 != 0)then(
 ∃kR,List.length kR=15/\aj h9 ⟨h2.size,0,none⟩ kR/\
 ax ⟨h3.size,0,none⟩ kR 15 h9 λcB=>
 ∃dY,List.length dY=15/\aj cB ⟨h3.size,0,none⟩ dY/\
 K (.tuple #[.agg ⟨dY⟩,vI n6]) cB)else(
 bif b1 then(
 aO (Addr.add ⟨h2.size,0,none⟩ 13) (vI 0) h9 λbQ=>
 bS.k1 t1 k1 h1 h2 h3 bQ K)else(
 bS.k1 t1 k1 h1 h2 h3 h9 K)))else(
 bS.k1 t1 k1 h1 h2 h3 h5 K))else(
 bS.k1 t1 k1 h1 h2 h3 h5 K))
theorem bS.ok{t1 g1 x1 k1 K h}(x:bS t1 g1 x1 k1 K h):C.bS t1 g1 x1 k1 h K:=fk (fun|2=>([0,3,5,6,8],[(10,.int .i64)])|26=>([0,5,6,8,15,16],[(17,.bool),(18,.int .i64)])|_=>([],[])) (fun|5=>(oS 0 7 (.op 7 [] .nil))|29=>(oS 0 15 (.op 15 [] .nil))|_=>.nil) Tryz.func277 x
def qC(v1 b1:Int)(K:KT)(h1:ad):=
 (0<=(bw .and .u32 (bw .xor .u32 v1 (IntKind.wrap .u32 (b1))) 15)/\(bw .and .u32 (bw .xor .u32 v1 (IntKind.wrap .u32 (b1))) 15)<(16:Int))/\
 ∃n1,cellOf h1 (Addr.add ⟨1,0,none⟩ (Int.toNat (bw .and .u32 (bw .xor .u32 v1 (IntKind.wrap .u32 (b1))) 15)))=some (.int .u32 n1)/\
 (0<=(bw .and .u32 (bw .xor .u32 n1 (Int.fdiv (bw .xor .u32 v1 (IntKind.wrap .u32 (b1))) (2 ^ min (Int.toNat 4) 32))) 15)/\(bw .and .u32 (bw .xor .u32 n1 (Int.fdiv (bw .xor .u32 v1 (IntKind.wrap .u32 (b1))) (2 ^ min (Int.toNat 4) 32))) 15)<(16:Int))/\
 ∃n2,cellOf h1 (Addr.add ⟨1,0,none⟩ (Int.toNat (bw .and .u32 (bw .xor .u32 n1 (Int.fdiv (bw .xor .u32 v1 (IntKind.wrap .u32 (b1))) (2 ^ min (Int.toNat 4) 32))) 15)))=some (.int .u32 n2)/\
 K (.int .u32 (bw .xor .u32 n2 (Int.fdiv (bw .xor .u32 n1 (Int.fdiv (bw .xor .u32 v1 (IntKind.wrap .u32 (b1))) (2 ^ min (Int.toNat 4) 32))) (2 ^ min (Int.toNat 4) 32)))) h1
theorem qC.ok{v1 b1 K h}(x:qC v1 b1 K h):C.qC v1 b1 h K:=fz Tryz.func278 x
def oJ(v1 n1:Int)(K:KT)(h1:ad):=
 az Vh 348 h1 λh2=>
 ∃(I1:Int->ad->Prop) (M1:Int->ad->Nat),I1 0 h2/\
 ∀(n2:Int),∀h3:ad,I1 n2 h3->
 bif(decide (n2<32))then(
 if n2<0 then False else
 C.qC (IntKind.wrap .u32 ((1*2 ^ min (Int.toNat n2) 32))) 0 h3 λr1 h4=>
 ∃n3,r1 = .int .u32 n3/\
 (0<=n2/\n2<(32:Int))/\
 aO (Addr.add (bA h1) (Int.toNat n2)) (.int .u32 n3) h4 λh5=>
 I1 (wI (n2+1)) h5/\M1 (wI (n2+1)) h5<M1 n2 h3)else(
 ∃(I2:Int->Int->ad->Prop) (M2:Int->Int->ad->Nat),I2 v1 n1 h3/\
 ∀(v2:Int) (n4:Int),∀h6:ad,I2 v2 n4 h6->
 bif(decide (n4>0))then(
 bif((bw .and .i64 n4 1)==1)then(
 C.gk (some (bA h1)) v2 h6 λr2 h7=>
 ∃n5,r2 = .int .u32 n5/\
 C.fG (some (bA h1)) h7 λr3 h8=>
 ∃aW,r3 = .agg ⟨aW⟩/\
 ax (bA h1) aW 32 h8 λh9=>
 I2 n5 (Int.fdiv n4 (2 ^ min (Int.toNat 1) 64)) h9/\M2 n5 (Int.fdiv n4 (2 ^ min (Int.toNat 1) 64)) h9<M2 v2 n4 h6)else(
 C.fG (some (bA h1)) h6 λr4 cB=>
 ∃cH,r4 = .agg ⟨cH⟩/\
 ax (bA h1) cH 32 cB λbQ=>
 I2 v2 (Int.fdiv n4 (2 ^ min (Int.toNat 1) 64)) bQ/\M2 v2 (Int.fdiv n4 (2 ^ min (Int.toNat 1) 64)) bQ<M2 v2 n4 h6))else(
 K (.int .u32 v2) h6))
theorem oJ.ok{v1 n1 K h}(x:oJ v1 n1 K h):C.oJ v1 n1 h K:=fk (fun|3=>([0,1,5],[(7,.int .i64)])|7=>([5],[(0,.int .u32),(1,.int .i64)])|_=>([],[])) o0 Tryz.func279 x
def qi(aR:OA)(aX bf:Nat)(K:KT)(h1:ad):=
 ∃(I1:Int->ad->Prop) (M1:Int->ad->Nat),I1 0 h1/\
 ∀(n1:Int),∀h2:ad,I1 n1 h2->
 bif(decide (n1<(aX:Int)))then(
 (0<=n1/\n1<(aX:Int))/\
 ae aR λp1=>
 ∃n2,cellOf h2 (p1.add (Int.toNat n1))=some (.int .u8 n2)/\
 bif(n2 != 0)then(
 K (.bool false) h2)else(
 I1 (wI (n1+1)) h2/\M1 (wI (n1+1)) h2<M1 n1 h2))else(
 K (.bool true) h2)
theorem qi.ok{aR aX bf K h}(x:qi aR aX bf K h):C.qi aR aX bf h K:=fk (fun|2=>([5,6],[(7,.int .i64)])|_=>([],[])) o0 Tryz.func280 x
def cK(fU n1:Int)(bj:OA)(K:KT)(h1:ad):=
 ae bj λp1=>
 ∃aI aF aT,cellOf h1 p1=some (vS aI aF aT)/\
 C.rE aI aF aT fU n1 h1 λr1 h2=>
 ∃n2 n3,r1 = .tuple #[.int .u64 n2,vI n3]/\
 K (vI (wI (n2))) h2
theorem cK.ok{fU n1 bj K h}(x:cK fU n1 bj K h):C.cK fU n1 bj h K:=fz Tryz.func293 x
def aU(aR:OA)(aX bf:Nat)(K:KT)(h1:ad):=
 ∃(I1:Int->Int->ad->Prop) (M1:Int->Int->ad->Nat),I1 0 (wI ((aX:Int)-1)) h1/\
 ∀(n1:Int) (i1:Int),∀h2:ad,I1 n1 i1 h2->
 bif(decide (i1>=0))then(
 (0<=i1/\i1<(aX:Int))/\
 ae aR λp1=>
 ∃n2,cellOf h2 (p1.add (Int.toNat i1))=some (.int .u8 n2)/\
 I1 (wI ((wI (n1*256))+(wI (n2)))) (wI (i1-1)) h2/\M1 (wI ((wI (n1*256))+(wI (n2)))) (wI (i1-1)) h2<M1 n1 i1 h2)else(
 K (vI n1) h2)
theorem aU.ok{aR aX bf K h}(x:aU aR aX bf K h):C.aU aR aX bf h K:=fk (fun|3=>([0],[(3,.int .i64),(4,.int .i64)])|_=>([],[])) o0 Tryz.func294 x
def jM(x1:LV)(i1 n1:Int)(K:KT)(h1:ad):=
 az x1 155 h1 λh2=>
 az gv 155 h2 λh3=>
 bif(i1==10)then(
 aO (Addr.add ⟨h1.size,0,none⟩ 13) (vI n1) h3 λh4=>
 ∃aW,List.length aW=15/\aj h4 ⟨h1.size,0,none⟩ aW/\
 ax ⟨h2.size,0,none⟩ aW 15 h4 λh5=>
 ∃bL,List.length bL=15/\aj h5 ⟨h2.size,0,none⟩ bL/\
 K (.agg ⟨bL⟩) h5)else(
 bif(i1==11)then(
 aO (Addr.add ⟨h1.size,0,none⟩ 14) (vI n1) h3 λh6=>
 ∃cH,List.length cH=15/\aj h6 ⟨h1.size,0,none⟩ cH/\
 ax ⟨h2.size,0,none⟩ cH 15 h6 λh7=>
 ∃dY,List.length dY=15/\aj h7 ⟨h2.size,0,none⟩ dY/\
 K (.agg ⟨dY⟩) h7)else(
 (0<=i1/\i1<(10:Int))/\
 aO (Addr.add (Addr.add ⟨h1.size,0,none⟩ 3) (Int.toNat i1)) (vI n1) h3 λh8=>
 ∃fV,List.length fV=15/\aj h8 ⟨h1.size,0,none⟩ fV/\
 ax ⟨h2.size,0,none⟩ fV 15 h8 λh9=>
 ∃fv,List.length fv=15/\aj h9 ⟨h2.size,0,none⟩ fv/\
 K (.agg ⟨fv⟩) h9))
theorem jM.ok{x1 i1 n1 K h}(x:jM x1 i1 n1 K h):C.jM x1 i1 n1 h K:=fz Tryz.func295 x
def gR(ju:OA)(hQ kC:Nat)(K:KT)(h1:ad):=
 ∃(I1:OA->Nat->Nat->Int->ad->Prop) (M1:OA->Nat->Nat->Int->ad->Nat),I1 none 0 0 0 h1/\
 ∀(aR:OA) (aX:Nat) (bf:Nat) (i1:Int),∀h2:ad,I1 aR aX bf i1 h2->
 bif(decide (i1<(hQ:Int)))then(
 (0<=i1/\i1<(hQ:Int))/\
 ae ju λp1=>
 ∃n1,cellOf h2 (p1.add (Int.toNat i1))=some (vI n1)/\
 (0<=i1/\i1<(hQ:Int))/\
 ae ju λp2=>
 ∃n2,cellOf h2 (p2.add (Int.toNat i1))=some (vI n2)/\
 (0<=i1/\i1<(hQ:Int))/\
 ae ju λp3=>
 ∃n3,cellOf h2 (p3.add (Int.toNat i1))=some (vI n3)/\
 (0<=i1/\i1<(hQ:Int))/\
 ae ju λp4=>
 ∃n4,cellOf h2 (p4.add (Int.toNat i1))=some (vI n4)/\
 az [.int .u8 (IntKind.wrap .u8 (n1)),.int .u8 (IntKind.wrap .u8 ((Int.fdiv n2 (2 ^ min (Int.toNat 8) 64)))),.int .u8 (IntKind.wrap .u8 ((Int.fdiv n3 (2 ^ min (Int.toNat 16) 64)))),.int .u8 (IntKind.wrap .u8 ((Int.fdiv n4 (2 ^ min (Int.toNat 24) 64))))] 5 h2 λh3=>
 ∃aG,List.length aG=4*1/\ak h3 (some ⟨h2.size,0,none⟩) aG/\(∀v∈aG,v.oneCell'=true)/\
 aH tf 5 aR aX bf 4 aG h3 λaI aF aT h4=>
 I1 aI aF aT (wI (i1+1)) h4/\M1 aI aF aT (wI (i1+1)) h4<M1 aR aX bf i1 h2)else(
 K (vS aR aX bf) h2)
theorem gR.ok{ju hQ kC K h}(x:gR ju hQ kC K h):C.gR ju hQ kC h K:=fk (fun|3=>([0],[(3,.slice),(4,.int .i64)])|_=>([],[])) (fun|5=>(oS 0 26 (.op 26 [] .nil))|_=>.nil) Tryz.func296 x
def iG(t1:OA)(g1:LV)(n1:Int)(K:KT)(h1:ad):=
 az g1 80 h1 λh2=>
 ∃aW,List.length aW=5/\aj h2 ⟨h1.size,0,none⟩ aW/\
 C.cZ aW n1 h2 λr1 h3=>
 ∃n2,r1 = vI n2/\
 bif(n2 != 0)then(
 K (vI n2) h3)else(
 ∃cH,List.length cH=5/\aj h3 ⟨h1.size,0,none⟩ cH/\
 C.eR t1 cH n1 h3 λr2 h4=>
 ∃n3,r2 = vI n3/\
 K (vI n3) h4)
theorem iG.ok{t1 g1 n1 K h}(x:iG t1 g1 n1 K h):C.iG t1 g1 n1 h K:=fz Tryz.func297 x
def gS(t1:OA)(g1:LV)(n1 kB:Int)(K:KT)(h1:ad):=
 az g1 80 h1 λh2=>
 ∃aW,List.length aW=5/\aj h2 ⟨h1.size,0,none⟩ aW/\
 C.cZ aW n1 h2 λr1 h3=>
 ∃n2,r1 = vI n2/\
 bif(n2 != 0)then(
 K (.tuple #[.bool false,vI n2]) h3)else(
 C.eT t1 n1 h3 λr2 h4=>
 ∃aI aF aT n3,r2 = .tuple #[vS aI aF aT,vI n3]/\
 bif(n3 != 0)then(
 K (.tuple #[.bool false,vI n3]) h4)else(
 ∃(I1:Bool->Int->ad->Prop) (M1:Bool->Int->ad->Nat),I1 false (if(0:Int)>kB then 0 else kB) h4/\
 ∀(eU:Bool) (i1:Int),∀h5:ad,I1 eU i1 h5->
 bif(decide (i1<128))then(
 (0<=i1/\i1<(aF:Int))/\
 ae aI λp1=>
 ∃n4,cellOf h5 (p1.add (Int.toNat i1))=some (vI n4)/\
 bif(n4==0)then(
 I1 eU (wI (i1+1)) h5/\M1 eU (wI (i1+1)) h5<M1 eU i1 h5)else(
 ∃cH,List.length cH=5/\aj h5 ⟨h1.size,0,none⟩ cH/\
 (0<=i1/\i1<(aF:Int))/\
 ae aI λp2=>
 ∃n5,cellOf h5 (p2.add (Int.toNat i1))=some (vI n5)/\
 C.iG t1 cH n5 h5 λr3 h6=>
 ∃n6,r3 = vI n6/\
 bif(n6 != 0)then(
 K (.tuple #[.bool false,vI n6]) h6)else(
 (0<=i1/\i1<(aF:Int))/\
 ae aI λp3=>
 aO (p3.add (Int.toNat i1)) (vI 0) h6 λh7=>
 I1 true (wI (i1+1)) h7/\M1 true (wI (i1+1)) h7<M1 eU i1 h5)))else(
 ∃fV,List.length fV=5/\aj h5 ⟨h1.size,0,none⟩ fV/\
 C.gi t1 fV n1 aI aF aT eU h5 λr4 h8=>
 ∃b1 n7,r4 = .tuple #[.bool b1,vI n7]/\
 K (.tuple #[.bool b1,vI n7]) h8)))
theorem gS.ok{t1 g1 n1 kB K h}(x:gS t1 g1 n1 kB K h):C.gS t1 g1 n1 kB h K:=fk (fun|9=>([0,2,5,11],[(12,.bool),(13,.int .i64)])|_=>([],[])) (fun|12=>(oS 0 7 (.op 7 [] .nil))|_=>.nil) Tryz.func298 x
def gi(t1:OA)(g1:LV)(n1:Int)(ju:OA)(hQ kC:Nat)(eU:Bool)(K:KT)(h1:ad):=
 az g1 80 h1 λh2=>
 C.jN ju hQ kC h2 λr1 h3=>
 ∃b1,r1 = .bool b1/\
 bif(!b1)then(
 ∃aW,List.length aW=5/\aj h3 ⟨h1.size,0,none⟩ aW/\
 C.eR t1 aW n1 h3 λr2 h4=>
 ∃n2,r2 = vI n2/\
 K (.tuple #[.bool (n2==0),vI n2]) h4)else(
 bif eU then(
 C.gR ju hQ kC h3 λr3 h5=>
 ∃aI aF aT,r3 = vS aI aF aT/\
 C.aC t1 n1 aI aF aT h5 λr4 h6=>
 ∃n3,r4 = vI n3/\
 K (.tuple #[.bool false,vI n3]) h6)else(
 K (.tuple #[.bool false,vI 0]) h3))
theorem gi.ok{t1 g1 n1 ju hQ kC eU K h}(x:gi t1 g1 n1 ju hQ kC eU K h):C.gi t1 g1 n1 ju hQ kC eU h K:=fz Tryz.func299 x
def gk(m1:OA)(v1:Int)(K:KT)(h1:ad):=
 ∃(I1:Int->Int->Int->ad->Prop) (M1:Int->Int->Int->ad->Nat),I1 v1 0 0 h1/\
 ∀(v2:Int) (r1:Int) (i1:Int),∀h2:ad,I1 v2 r1 i1 h2->
 bif(v2 != 0)then(
 bif((bw .and .u32 v2 1)==1)then(
 ae m1 λp1=>
 (0<=i1/\i1<(32:Int))/\
 ∃n1,cellOf h2 (p1.add (Int.toNat i1))=some (.int .u32 n1)/\
 I1 (Int.fdiv v2 (2 ^ min (Int.toNat 1) 32)) (bw .xor .u32 r1 n1) (wI (i1+1)) h2/\M1 (Int.fdiv v2 (2 ^ min (Int.toNat 1) 32)) (bw .xor .u32 r1 n1) (wI (i1+1)) h2<M1 v2 r1 i1 h2)else(
 I1 (Int.fdiv v2 (2 ^ min (Int.toNat 1) 32)) r1 (wI (i1+1)) h2/\M1 (Int.fdiv v2 (2 ^ min (Int.toNat 1) 32)) r1 (wI (i1+1)) h2<M1 v2 r1 i1 h2))else(
 K (.int .u32 r1) h2)
theorem gk.ok{m1 v1 K h}(x:gk m1 v1 K h):C.gk m1 v1 h K:=fk (fun|3=>([0],[(1,.int .u32),(5,.int .u32),(6,.int .i64)])|_=>([],[])) o0 Tryz.func300 x
def fG(m1:OA)(K:KT)(h1:ad):=
 az Vh 348 h1 λh2=>
 az Vh 348 h2 λh3=>
 ∃(I1:Int->ad->Prop) (M1:Int->ad->Nat),I1 0 h3/\
 ∀(n1:Int),∀h4:ad,I1 n1 h4->
 bif(decide (n1<32))then(
 ae m1 λp1=>
 (0<=n1/\n1<(32:Int))/\
 ∃n2,cellOf h4 (p1.add (Int.toNat n1))=some (.int .u32 n2)/\
 C.gk m1 n2 h4 λr1 h5=>
 ∃n3,r1 = .int .u32 n3/\
 (0<=n1/\n1<(32:Int))/\
 aO (Addr.add (bA h2) (Int.toNat n1)) (.int .u32 n3) h5 λh6=>
 I1 (wI (n1+1)) h6/\M1 (wI (n1+1)) h6<M1 n1 h4)else(
 ∃aW,List.length aW=32/\aj h4 (bA h2) aW/\
 ax (bA h1) aW 32 h4 λh7=>
 ∃bL,List.length bL=32/\aj h7 (bA h1) bL/\
 K (.agg ⟨bL⟩) h7)
theorem fG.ok{m1 K h}(x:fG m1 K h):C.fG m1 h K:=fk (fun|3=>([0,2,3],[(5,.int .i64)])|_=>([],[])) o0 Tryz.func301 x
def jN(ju:OA)(hQ kC:Nat)(K:KT)(h1:ad):=
 ∃(I1:Int->ad->Prop) (M1:Int->ad->Nat),I1 0 h1/\
 ∀(i1:Int),∀h2:ad,I1 i1 h2->
 bif(decide (i1<(hQ:Int)))then(
 (0<=i1/\i1<(hQ:Int))/\
 ae ju λp1=>
 ∃n1,cellOf h2 (p1.add (Int.toNat i1))=some (vI n1)/\
 bif(n1 != 0)then(
 K (.bool true) h2)else(
 I1 (wI (i1+1)) h2/\M1 (wI (i1+1)) h2<M1 i1 h2))else(
 K (.bool false) h2)
theorem jN.ok{ju hQ kC K h}(x:jN ju hQ kC K h):C.jN ju hQ kC h K:=fk (fun|2=>([0],[(3,.int .i64)])|_=>([],[])) o0 Tryz.func309 x
end W
namespace Su
open Hp W
def Cc(n:Int):Prop:=0<=n/\n<4294967296
theorem wrap_u32{n:Int}(h:Cc n):IntKind.wrap .u32 n=n:=by
 obtain⟨h1,h2⟩:=h;show n%4294967296=n;exact Int.emod_eq_of_lt h1 h2
theorem Du(n:Int):Cc (IntKind.wrap .u32 n):=by
 show 0<=n%4294967296/\n%4294967296<4294967296;exact⟨Int.emod_nonneg _ (by decide),Int.emod_lt_of_pos _ (by decide)⟩
theorem se(op:BinOp)(a b:Int):Cc (bw op .u32 a b):=by
 unfold bw;split <;> exact Du _
theorem ο(x:Int)(k:Nat)(hk:k<4294967296):0<=bw .and .u32 x k/\bw .and .u32 x k<=k:=by
 refine⟨(se _ _ _).1,?_⟩;show IntKind.wrap .u32 (((BitVec.ofInt 32 x &&& BitVec.ofInt 32 (k:Int)).toNat:Nat):Int)<=k
 have h1:(BitVec.ofInt 32 x &&& BitVec.ofInt 32 (k:Int)).toNat<=k:=by
  rw[BitVec.toNat_and];refine Nat.le_trans Nat.and_le_right ?_;rw[BitVec.ofInt_natCast,BitVec.toNat_ofNat];exact Nat.mod_le _ _
 rw[wrap_u32 ⟨by omega,by omega⟩];omega
theorem Gp(x:Int):0<=bw .and .u32 x 15/\bw .and .u32 x 15<((16:Nat):Int):=by
 have:=ο x 15 (by decide);have h2:bw .and .u32 x ((15:Nat):Int)<=((15:Nat):Int):=this.2;exact⟨this.1,by have e:((15:Nat):Int)=15:=rfl;rw[e]at h2;omega⟩
def JM : List Int:=[0,498536548,997073096,651767980,1994146192,1802195444,1303535960,1342533948,3988292384,4027552580,3604390888,3412177804,2607071920,2262029012,2685067896,3183342108]
def Dv(h:ad):Prop:=rd h 1=JM.map λn=>.int .u32 n
theorem Dv.lt(g:Dv h):1<h.size:=gr (show(rd h 1)[0]?=some (.int .u32 0) by rw[g];rfl)
theorem Dv.fr(g:Dv h)(f:Fr F h h')(hF:¬ F 1):Dv h':=(f.rd g.lt hF).trans g
def half(i:Int):Int:=JM.getD i.toNat 0
theorem Gq(g:Dv h){i:Int}(h0:0<=i)(h1:i<((16:Nat):Int)):cellOf h (Addr.add ⟨1,0,none⟩ (Int.toNat i))=some (.int .u32 (half i)):=by
 refine bJ g ?_;have h2:i.toNat<JM.length:=by show i.toNat<16;omega
 rw[Nat.zero_add,lG0,List.getElem?_eq_getElem h2,half,List.getD_eq_getElem?_getD,List.getElem?_eq_getElem h2];rfl
def xN(v:Int)(b:UInt8):Int:=
 bw .xor .u32 (half (bw .and .u32 (bw .xor .u32 (half (bw .and .u32 (bw .xor .u32 v (IntKind.wrap .u32 (b.toNat:Int))) 15)) (Int.fdiv (bw .xor .u32 v (IntKind.wrap .u32 (b.toNat:Int))) (2 ^ min (Int.toNat 4) 32))) 15))
  (Int.fdiv (bw .xor .u32 (half (bw .and .u32 (bw .xor .u32 v (IntKind.wrap .u32 (b.toNat:Int))) 15)) (Int.fdiv (bw .xor .u32 v (IntKind.wrap .u32 (b.toNat:Int))) (2 ^ min (Int.toNat 4) 32))) (2 ^ min (Int.toNat 4) 32))
theorem L2(v:Int)(b:UInt8):Cc (xN v b):=se _ _ _
theorem qj{v:Int}{b:UInt8}(g:Dv h)(hK:K (.int .u32 (xN v b)) h):C.qC v (b.toNat:Int) h K:=
 qC.ok ⟨Gp _,_,Gq g (Gp _).1 (Gp _).2,Gp _,_,Gq g (Gp _).1 (Gp _).2,hK⟩
def ofM(bs:LB):Int:=bw .xor .u32 (IntKind.max .u32) (bs.foldl xN 4294967295)
theorem JN(bs:LB):Cc (ofM bs):=se _ _ _
theorem Cw(g:Dv h)(B:aw h a l bs)(hl:l<=140737488355328)(hK:K (.int .u32 (ofM bs)) h):C.vW a l c h K:=by
 have hb:=B.1;refine vW.ok ⟨λv n hh=>0<=n/\n<=l/\h=hh/\v=(bs.take n.toNat).foldl xN 4294967295,λ_ n _=>((l:Int)-n).toNat,⟨by omega,by omega,rfl,rfl⟩,?_⟩;rintro v n _ ⟨n0,n1,rfl,rfl⟩;refine cd (λhn=>?_) λhn=>?_
 ·have nV:n.toNat<bs.length:=by omega
  obtain⟨_,B2⟩:=B
  cases a with
  | none=>have B2:bs.map bv=[]:=B2;have:=List.map_eq_nil_iff.mp B2;rw[this]at nV;exact absurd nV (by simp)
  | some p=>
   refine⟨⟨n0,hn⟩,os ⟨_,B2 n.toNat (bv bs[n.toNat]) (by rw[lG0,List.getElem?_eq_getElem nV];rfl),qj g ⟨_,rfl,?_⟩⟩⟩;rw[wrap_i64 (by omega) (by omega)];have ht:(n+1).toNat=n.toNat+1:=(by omega);refine⟨⟨by omega,by omega,rfl,?_⟩,di hn⟩;rw[ht,List.take_succ_eq_append_getElem nV,List.foldl_append];rfl
 ·have e:(bs.take n.toNat)=bs:=List.take_of_length_le (by omega);rw[e];exact hK
def pC(m:List Int):Nat->Int->Int->Nat->Int
 | 0,_,r,_=>r
 | f+1,v,r,i=>bif v != 0 then pC m f (Int.fdiv v (2 ^ min (Int.toNat 1) 32)) (bif bw .and .u32 v 1==1 then bw .xor .u32 r (m.getD i 0)else r) (i+1)else r
def uJ(m:List Int)(v:Int):Int:=pC m 33 v 0 0
theorem JO(m:List Int):∀(f:Nat) (v r:Int) (i:Nat),Cc r->Cc (pC m f v r i):=by
 intro f
 induction f with
 | zero=>intro v r i h;exact h
 | succ f ih=>
  intro v r i h;unfold pC
  cases hv:(v != 0)with
  | false=>exact h
  | true=>
   refine ih _ _ _ ?_
   cases hb:(bw .and .u32 v 1==1)with
   | false=>exact h
   | true=>exact(show Cc (bw .xor .u32 r (m.getD i 0)) from se _ _ _)
theorem zi(m:List Int)(v:Int):Cc (uJ m v):=JO m _ _ _ _ ⟨by decide,by decide⟩
def EL(m:List Int):LV:=m.map λn=>.int .u32 n
theorem Dw{m:List Int}{v:Int}(hv:Cc v)(hm:m.length=32)(M:aj h p (EL m))(hK:K (.int .u32 (uJ m v)) h):C.gk (some p) v h K:=by
 refine gk.ok ⟨λv2 r i hh=>0<=i/\i<=32/\0<=v2/\v2<((2 ^ (32-i.toNat):Nat):Int)/\h=hh/\uJ m v=pC m (33-i.toNat) v2 r i.toNat,λv2 _ _ _=>v2.toNat,
  ⟨by omega,by omega,hv.1,by have:=hv.2;exact this,rfl,rfl⟩,?_⟩
 rintro v2 r i _ ⟨i0,i1,v0,v1,rfl,e⟩;have e1:(2 ^ min (Int.toNat 1) 32:Int)=2:=by decide
 cases hb:(v2 != 0)with
 | false=>
  have e2:33-i.toNat=(32-i.toNat)+1:=by omega
  rw[e2,pC,hb]at e;rw[e]at hK;exact hK
 | true=>
  have dp:v2≠0:=by simpa using hb
  have hi:i<32:=by
   rcases Int.lt_or_le i 32 with h|h
   ·exact h
   ·have:32-i.toNat=0:=(by omega);rw[this]at v1;have v1:v2<1:=v1;omega
  have e2:33-i.toNat=(33-(i+1).toNat)+1:=by omega
  have e3:(i+1).toNat=i.toNat+1:=by omega
  rw[e2,pC,hb]at e
  have hp:((2 ^ (32-i.toNat):Nat):Int)=2*((2 ^ (32-(i+1).toNat):Nat):Int):=by
   rw[show 32-i.toNat=(32-(i+1).toNat)+1 by omega,Nat.pow_succ];omega
  have hd:Int.fdiv v2 2=v2/2:=Int.fdiv_eq_ediv_of_nonneg _ (by decide);rw[wq (i+1),e1,hd];rw[e1,hd]at e
  have nx:∀r',uJ m v=pC m (33-(i+1).toNat) (v2/2) r' (i.toNat+1)->(0<=i+1/\i+1<=32/\0<=v2/2/\v2/2<((2 ^ (32-(i+1).toNat):Nat):Int)/\h=h/\uJ m v=pC m (33-(i+1).toNat) (v2/2) r' (i+1).toNat)/\(v2/2).toNat<v2.toNat:=
   λr' h=>⟨⟨by omega,by omega,by omega,by omega,rfl,by rw[e3]at h ⊢;exact h⟩,by omega⟩
  refine ct rfl ?_
  cases V0:(bw .and .u32 v2 1==1)with
  | true=>
   rw[V0]at e;refine ct rfl (os ⟨⟨i0,hi⟩,m.getD i.toNat 0,?_,nx _ e⟩);exact aj.cell M (by rw[EL,lG0,List.getD_eq_getElem?_getD,List.getElem?_eq_getElem (by omega)];rfl)
  | false=>
   rw[V0]at e;exact cf rfl (nx _ e)
def gp(m:List Int):List Int:=m.map (uJ m)
theorem H3(m:List Int):∀x∈gp m,Cc x:=by
 intro x hx;obtain⟨y,_,rfl⟩:=List.mem_map.mp hx;exact zi _ _
theorem N3(m:List Int):∀v∈EL m,v.oneCell'=true:=by
 intro v hv;obtain⟨b,_,rfl⟩:=List.mem_map.mp hv;rfl
theorem Sb : (EL (List.replicate 32 0)).length=32:=by rw[EL,lM0,List.length_replicate]
theorem Gr{α:Type}(xs:List α)(n:Nat)(hn:n<xs.length)(f:α->Value)(z:Value):((xs.take n).map f++List.replicate (xs.length-n) z).set n (f xs[n])=(xs.take (n+1)).map f++List.replicate (xs.length-(n+1)) z:=by
 have hl:((xs.take n).map f).length=n:=by rw[lM0,lT0];omega
 rw[List.set_append_right _ _ (by rw[hl];exact nL0),hl,Nat.sub_self,show xs.length-n=(xs.length-(n+1))+1 by omega,List.replicate_succ,List.set_cons_zero,List.take_succ_eq_append_getElem hn,List.map_append,List.append_assoc];rfl
theorem BF{m:List Int}(hr:∀ x ∈ m,Cc x)(hm:m.length=32)(M:aj h p (EL m))(hK:∀ h',Fr No h h'->K (.agg ⟨EL (gp m)⟩) h'):C.fG (some p) h K:=by
 refine fG.ok (az.intro λh2 n2=>az.intro λh3 n3=>?_);have HA:=n2.size;have ND:=n3.size;have F3:Fr No h h3:=n2.fr.no n3.fr;have UZ:(gp m).length=32:=by rw[gp,lM0,hm]
 have z0:rd h3 h.size=EL (List.replicate 32 0):=(n3.at_ n2.own.lt).trans n2.rd
 refine⟨λn hh=>0<=n/\n<=32/\Fr No h hh/\dJ hh h2.size/\dJ hh h.size/\(rd hh h.size).length=32/\rd hh h2.size=((gp m).take n.toNat).map (λn=>.int .u32 n)++List.replicate ((gp m).length-n.toNat) (.int .u32 0),λn _=>((32:Nat)-n).toNat,
  ⟨by omega,by omega,F3,n3.own,n3.ow n2.own,by rw[z0];exact Sb,by rw[n3.rd,UZ];rfl⟩,?_⟩
 rintro n h4 ⟨k0,k1,f4,o4,o1,l1,r4⟩;have hs4:=f4.size;refine cd (λhn=>?_) λhn=>?_
 ·have hn:n<32:=hn;have nV:n.toNat<m.length:=by omega
  have M4:=aj.fr f4 M (λx=>x);refine os ⟨⟨k0,hn⟩,m[n.toNat],aj.cell M4 (by rw[EL,lG0,List.getElem?_eq_getElem nV];rfl),Dw (hr _ (List.getElem_mem nV)) hm M4 ⟨_,rfl,⟨k0,hn⟩,aO.add o4 (by rw[r4,lA0,lM0,lT0,List.length_replicate];omega) λh6 d6=>?_⟩⟩;rw[wrap_i64 (by omega) (by omega)];refine⟨⟨by omega,by omega,f4.did d6 (λx=>by omega),d6.own,d6.ow o1,by rw[d6.at_ (by have:=o1.lt;omega) (by omega)];exact l1,?_⟩,di (m:=32) hn⟩;have hns:n.toNat<(gp m).length:=by omega
  have ee:(gp m)[n.toNat]=uJ m m[n.toNat]:=by simp only[gp,List.getElem_map]
  rw[d6.rd,r4,Nat.zero_add,<-ee,Gr (gp m) n.toNat hns (λn=>.int .u32 n),show(n+1).toNat=n.toNat+1 by omega]
 ·have hn:¬n<32:=hn;have e:n.toNat=32:=by omega
  rw[e,<-UZ,List.take_length,Nat.sub_self,List.replicate_zero,List.append_nil]at r4;have r4:rd h4 h2.size=EL (gp m):=r4;have ml:(EL (gp m)).length=32:=by rw[EL,lM0,UZ]
  refine⟨EL (gp m),ml,ah r4,ax.intro o1 ml (N3 _) (by rw[l1];exact nL0) λh7 d7=>⟨EL (gp m),ml,ah ?_,hK h7 (f4.did d7 λx=>by omega)⟩⟩;rw[d7.rd,dC _ _ (by rw[l1,ml])]
def m0 : List Int:=(List.range 32).map λi=>xN (IntKind.wrap .u32 (1*2 ^ min i 32)) 0
def pD : Nat->List Int->Int->Int->Int
 | 0,_,v,_=>v
 | f+1,m,v,n=>bif decide (n>0)then pD f (gp m) (bif bw .and .i64 n 1==1 then uJ m v else v) (n/2)else v
def uK(v n:Int):Int:=pD 64 m0 v n
theorem JP{v n:Int}(g:Dv h)(hv:Cc v)(hn0:0<=n)(hn:n<=9223372036854775807)(hK:∀ h',Fr No h h'->K (.int .u32 (uK v n)) h'):C.oJ v n h K:=by
 refine oJ.ok (az.intro λh2 n2=>?_);have HA:=n2.size;have hml:m0.length=32:=by rw[m0,lM0,List.length_range]
 have hmr:∀x∈m0,Cc x:=by intro x hx;obtain⟨y,_,rfl⟩:=List.mem_map.mp hx;exact L2 _ _
 refine⟨λk hh=>0<=k/\k<=32/\Fr No h hh/\dJ hh h.size/\rd hh h.size=(m0.take k.toNat).map (λn=>.int .u32 n)++List.replicate (m0.length-k.toNat) (.int .u32 0),λk _=>((32:Nat)-k).toNat,
  ⟨by omega,by omega,n2.fr,n2.own,by rw[n2.rd,hml];rfl⟩,?_⟩
 rintro k h3 ⟨k0,k1,f3,o3,r3⟩;have ND:=f3.size;have g3:=g.fr f3 λx=>x;refine cd (λhk=>?_) λhk=>?_
 ·have hk:k<32:=hk;rw[if_neg (by omega)];have yM:k.toNat<m0.length:=by omega
  refine qj (b:=0) g3 ⟨_,rfl,⟨k0,hk⟩,aO.add o3 (by rw[r3,lA0,lM0,lT0,List.length_replicate];omega) λh5 d5=>?_⟩;rw[wrap_i64 (by omega) (by omega)];refine⟨⟨by omega,by omega,f3.did d5 (λx=>by omega),d5.own,?_⟩,di (m:=32) hk⟩;have ee:m0[k.toNat]=xN (IntKind.wrap .u32 (1*2 ^ min (Int.toNat k) 32)) 0:=by simp only[m0,List.getElem_map,List.getElem_range]
  rw[d5.rd,r3,Nat.zero_add,<-ee,Gr m0 k.toNat yM (λn=>.int .u32 n),show(k+1).toNat=k.toNat+1 by omega]
 ·have hk:¬k<32:=hk;have e:k.toNat=32:=by omega
  rw[e,<-hml,List.take_length,Nat.sub_self,List.replicate_zero,List.append_nil]at r3
  refine⟨λv2 n2 hh=>0<=n2/\Fr No h hh/\dJ hh h.size/\Cc v2/\∃f m,n2<((2 ^ f:Nat):Int)/\m.length=32/\(∀x∈m,Cc x)/\rd hh h.size=EL m/\uK v n=pD f m v2 n2,λ_ n2 _=>n2.toNat,
   ⟨hn0,f3,o3,hv,64,m0,by show n<18446744073709551616;omega,hml,hmr,r3,rfl⟩,?_⟩
  rintro v2 n4 h6 ⟨p0,f6,o6,hv2,f,m,hf,hm,hr,r6,eb⟩;have hs6:=f6.size;have e1:(2 ^ min (Int.toNat 1) 64:Int)=2:=by decide
  refine cd (λPq=>?_) λPq=>?_
  rotate_left
  ·have:v2=uK v n:=by
    rw[eb]
    cases f with
    | zero=>rfl
    | succ f=>rw[pD,decide_eq_false Pq];rfl
   rw[this];exact hK h6 f6
  have hd:Int.fdiv n4 2=n4/2:=Int.fdiv_eq_ediv_of_nonneg _ (by decide);rw[e1,hd]
  cases f with
  | zero=>have hf:n4<1:=hf;omega
  | succ f=>
  rw[pD,decide_eq_true Pq]at eb;have hf2:n4/2<((2 ^ f:Nat):Int):=by rw[Nat.pow_succ]at hf;omega
  have sqm:(gp m).length=32:=by rw[gp,lM0,hm]
  have ml:(EL (gp m)).length=32:=by rw[EL,lM0,sqm]
  have ml2:(EL m).length=32:=by rw[EL,lM0,hm]
  have M6:aj h6 (bA h) (EL m):=ah r6
  have nx:∀v3,Cc v3->uK v n=pD f (gp m) v3 (n4/2)->∀h8,Fr No h6 h8->ax (bA h) (EL (gp m)) 32 h8 λh9=>
    (0<=n4/2/\Fr No h h9/\dJ h9 h.size/\Cc v3/\∃f m,n4/2<((2 ^ f:Nat):Int)/\m.length=32/\(∀x∈m,Cc x)/\rd h9 h.size=EL m/\uK v n=pD f m v3 (n4/2))/\(n4/2).toNat<n4.toNat:=by
   intro v3 hv3 e3 h8 f8;have r8:=(f8.rd o6.lt λx=>x).trans r6;refine ax.intro (f8.own o6.lt (λx=>x) o6) ml (N3 _) (by rw[r8,ml2];exact nL0) λh9 d9=>?_;exact⟨⟨by omega,(f6.no f8).did d9 (λx=>by omega),d9.own,hv3,f,gp m,hf2,sqm,H3 m,by rw[d9.rd,dC _ _ (by rw[r8,ml,ml2])],e3⟩,by omega⟩
  cases hb:(bw .and .i64 n4 1==1)with
  | true=>
   rw[hb]at eb;exact ct rfl (Dw hv2 hm M6 ⟨_,rfl,BF hr hm M6 λh8 f8=>⟨_,rfl,nx _ (zi _ _) eb h8 f8⟩⟩)
  | false=>
   rw[hb]at eb;exact cf rfl (BF hr hm M6 λh8 f8=>⟨_,rfl,nx _ hv2 eb h8 f8⟩)
def xO(a b n:Int):Int:=bw .xor .u32 (uK a n) b
theorem Dx(a b n:Int):Cc (xO a b n):=se _ _ _
theorem Pr{a b n:Int}(g:Dv h)(ha:Cc a)(h0:0<=n)(h1:n<=1099511627776)(hK:∀ h',Fr No h h'->K (.tuple #[.int .u32 (xO a b n),vI 0]) h'):C.pz a b n h K:=
 pz.ok (cd (λx=>by omega) λ_=>cd (λx=>by omega) λ_=>JP g ha h0 (by omega) λh' f=>⟨_,rfl,hK h' f⟩)
end Su
namespace Re
open Hp W Su
def H4 : List Bool:=[false,true,true,false,true,false,false,false,true]
def L4(h:ad):Prop:=rd h 0=H4.map .bool
theorem L4.lt(g:L4 h):0<h.size:=gr (show(rd h 0)[0]?=some (.bool false) by rw[g];rfl)
theorem L4.fr(g:L4 h)(f:Fr F h h')(hF:¬ F 0):L4 h':=(f.rd g.lt hF).trans g
structure kJ(h:ad):Prop where
 half:Dv h
 wide:L4 h
theorem kJ.fr{h h':ad}{F:NP}(g:kJ h)(f:Fr F h h')(h1:∀ b,b<2->¬ F b):kJ h':=⟨g.half.fr f (h1 _ (by decide)),g.wide.fr f (h1 _ (by decide))⟩
theorem kJ.no(g:kJ h)(f:Fr No h h'):kJ h':=g.fr f λ_ _ x=>x
theorem kJ.lt{h:ad}(g:kJ h):2<=h.size:=by have:=g.half.lt;have:=g.wide.lt;omega
theorem rF{n:Int}(g:kJ h)(hn:n=1∨n=2∨n=4∨n=8)(hK:K (.bool true) h):C.jA n h K:=by
 refine jA.ok (ct (decide_eq_true (by omega)) (ct (decide_eq_true (by omega)) ⟨⟨by omega,by omega⟩,true,bJ g.wide ?_,hK⟩))
 rcases hn with rfl|rfl|rfl|rfl <;> rfl
theorem v7{at_ n:Int}(hl:l<=140737488355328)(h0:0<=at_)(h1:0<=n)(h2:at_+n<=l)(hK:K (.bool true) h):C.py a l c at_ n h K:=by
 refine py.ok (ct (decide_eq_true h0) (ct (decide_eq_true h1) (ct (decide_eq_true (by omega)) ?_)));rw[wrap_i64 (by omega) (by omega),decide_eq_true (by omega)];exact hK
def AE : LB->Nat
 | []=>0
 | b::r=>b.toNat+256*AE r
theorem H5 : ∀bs:LB,AE bs<256 ^ bs.length:=by
 intro bs
 induction bs with
 | nil=>exact Nat.one_pos
 | cons b r ih=>
  have hb:b.toNat<256:=b.toNat_lt;rw[AE,List.length_cons,Nat.pow_succ];omega
theorem JQ(bs:LB)(b:UInt8):AE (bs++[b])=AE bs+b.toNat*256 ^ bs.length:=by
 induction bs with
 | nil=>simp[AE]
 | cons x r ih=>rw[List.cons_append,AE,ih,AE,List.length_cons,Nat.pow_succ,Nat.mul_add];simp only[Nat.mul_comm,Nat.mul_left_comm,Nat.mul_assoc,Nat.add_assoc]
theorem wS(k:Nat):256 ^ k=2 ^ (8*k):=by rw[Nat.pow_mul]
theorem V1{v:Nat}{b:UInt8}(hk:k<8)(hv:v<256 ^ k) :
  bw .or .u64 (v:Int) (IntKind.wrap .u64 ((IntKind.wrap .u64 (b.toNat:Int))*2 ^ min (Int.toNat (wI (8*(k:Int)))) 64))=((v+b.toNat*256 ^ k:Nat):Int):=by
 have hb:b.toNat<256:=b.toNat_lt
 have wu:∀n:Nat,n<18446744073709551616->IntKind.wrap .u64 (n:Int)=(n:Int):=λn h=>by
  show(n:Int)%18446744073709551616=n;exact Int.emod_eq_of_lt (by omega) (by omega)
 rw[wrap_i64 (by omega) (by omega),wu _ (by omega)];have e1:min (Int.toNat (8*(k:Int))) 64=8*k:=by omega
 rw[e1];have hp:256 ^ k<=256 ^ 7:=Nat.pow_le_pow_right (by decide) (by omega);have hp1:256 ^ (k+1)<=256 ^ 8:=Nat.pow_le_pow_right (by decide) (by omega)
 have hsum:v+b.toNat*256 ^ k<256 ^ (k+1):=by
  rw[Nat.pow_succ];have:b.toNat*256 ^ k<=255*256 ^ k:=Nat.mul_le_mul_right _ (by omega);omega
 have e8:(256:Nat) ^ 8=18446744073709551616:=by decide
 have e2:((b.toNat:Int)*2 ^ (8*k))=((b.toNat*256 ^ k:Nat):Int):=by rw[wS];simp
 rw[e2,wu _ (by omega)];show IntKind.wrap .u64 (((BitVec.ofInt 64 (v:Int) ||| BitVec.ofInt 64 ((b.toNat*256 ^ k:Nat):Int)).toNat:Nat):Int)=_;rw[BitVec.toNat_or,BitVec.ofInt_natCast,BitVec.ofInt_natCast,BitVec.toNat_ofNat,BitVec.toNat_ofNat,Nat.mod_eq_of_lt (by omega),Nat.mod_eq_of_lt (by omega)]
 have e3:v ||| b.toNat*256 ^ k=v+b.toNat*256 ^ k:=by
  rw[Nat.or_comm,wS,Nat.mul_comm,<-Nat.two_pow_add_eq_or_of_lt (by rw[<-wS];exact hv)];omega
 rw[e3,wu _ (by omega)]
def iH(xs:LB)(o:Nat)(ys:LB):LB:=xs.take o++ys++xs.drop (o+ys.length)
theorem BG{xs:LB}(h:o+ys.length<=xs.length):(iH xs o ys).length=xs.length:=by
 simp only[iH,lA0,lT0,lD0];omega
theorem qD{xs:LB}(h:o+ys.length<=xs.length):put (xs.map bv) o (ys.map bv)=(iH xs o ys).map bv:=by
 rw[put_eq _ _ _ (by rw[lM0,lM0];exact h)];simp only[iH,List.map_append,List.map_take,List.map_drop,lM0]
theorem Dy(xs:LB)(o:Nat):iH xs o []=xs:=by simp[iH]
theorem v8(xs ys zs:LB)(ys':LB)(h:ys'.length=ys.length):iH (xs++ys++zs) xs.length ys'=xs++ys'++zs:=by
 have e1:(xs++ys++zs).take xs.length=xs:=by rw[List.append_assoc,List.take_left]
 have e2:(xs++ys++zs).drop (xs.length+ys.length)=zs:=by rw[<-lA0,List.drop_left]
 rw[iH,h,e1,e2]
def br(n v:Nat):LB:=(List.range n).map λk=>UInt8.ofNat (v/256 ^ k)
theorem bB(n v:Nat):(br n v).length=n:=by rw[br,lM0,List.length_range]
theorem N4(v k:Nat)(hk:k<8):(Value.int .u8 (IntKind.wrap .u8 (Int.fdiv (v:Int) (2 ^ min (Int.toNat (wI (8*(k:Int)))) 64))))=bv (UInt8.ofNat (v/256 ^ k)):=by
 rw[wrap_i64 (by omega) (by omega),show min (Int.toNat (8*(k:Int))) 64=8*k by omega]
 have e:Int.fdiv (v:Int) (2 ^ (8*k))=((v/256 ^ k:Nat):Int):=by
  rw[wS,Int.fdiv_eq_ediv_of_nonneg _ (by exact Int.le_of_lt (Int.pow_pos (by decide)))];simp
 rw[e];show Value.int .u8 (((v/256 ^ k:Nat):Int)%256)=Value.int .u8 ((UInt8.ofNat (v/256 ^ k)).toNat:Int);rw[UInt8.toNat_ofNat'];simp
theorem lO{at_ n:Int}{v:Nat}(g:kJ h)(s:Sl h 1 (some ⟨b,o,none⟩) l c (bs.map bv) F)(hl:l<=140737488355328)(hn:n=1∨n=2∨n=4)(h0:0<=at_)(h2:at_+n<=l)
  (hv:v<256 ^ n.toNat) (hK:∀h',Fr (λx=>x=b) h h'->Sl h' 1 (some ⟨b,o,none⟩) l c ((iH bs at_.toNat (br n.toNat v)).map bv) F->K (vI 0) h'):C.jQ (some ⟨b,o,none⟩) l c at_ n (v:Int) h K:=by
 have sf:=s.1;rw[lM0,Nat.mul_one]at sf;refine jQ.ok (rF g (by omega) ⟨_,rfl,jV (ct rfl (ct (decide_eq_true (by omega)) ?_))⟩);have w8:wI (8*n)=8*n:=wrap_i64 (by omega) (by omega);rw[if_neg (by rw[w8];omega)]
 have hz:Int.fdiv (v:Int) (2 ^ min (Int.toNat (wI (8*n))) 64)=0:=by
  rw[w8,show min (Int.toNat (8*n)) 64=8*n.toNat by omega]
  have e:Int.fdiv (v:Int) (2 ^ (8*n.toNat))=((v/256 ^ n.toNat:Nat):Int):=by
   rw[wS,Int.fdiv_eq_ediv_of_nonneg _ (by exact Int.le_of_lt (Int.pow_pos (by decide)))];simp
  rw[e,Nat.div_eq_of_lt hv];rfl
 refine cf (by rw[hz];rfl) (v7 hl h0 (by omega) h2 ⟨_,rfl,jV (ct rfl ?_)⟩);have hlB:=bB n.toNat v;refine⟨λk hh=>0<=k/\k<=n/\Fr (λx=>x=b) h hh/\Sl hh 1 (some ⟨b,o,none⟩) l c ((iH bs at_.toNat ((br n.toNat v).take k.toNat)).map bv) F,λk _=>(n-k).toNat,⟨by omega,by omega,Fr.refl _ _,by rw[show(0:Int).toNat=0 from rfl,List.take_zero,Dy];exact s⟩,?_⟩;rintro k h4 ⟨k0,k1,f4,s4⟩;refine cd (λhk=>?_) λhk=>?_
 ·rw[if_neg (by rw[wrap_i64 (by omega) (by omega)];omega),wq (at_+k)];obtain⟨w1,w2⟩:=s4.wr;refine⟨⟨by omega,by omega⟩,os (aO.add w1 (by omega) λh5 d5=>?_)⟩;have hkB:k.toNat<(br n.toNat v).length:=by omega
  have eb:=N4 v k.toNat (by omega);rw[show((k.toNat:Nat):Int)=k by omega]at eb;rw[eb]at d5;have s5:=s4.putAt (j:=(at_+k).toNat) (new:=[_]) (by rw[List.length_singleton];omega) d5;rw[wq (k+1)];refine⟨⟨by omega,by omega,f4.did d5 (λ_=>rfl),?_⟩,by show(n-(k+1)).toNat<(n-k).toNat;omega⟩;have π:((br n.toNat v).take k.toNat).length=k.toNat:=by rw[lT0];omega
  have ee:(br n.toNat v)[k.toNat]=UInt8.ofNat (v/256 ^ k.toNat):=by simp only[br,List.getElem_map,List.getElem_range]
  have ep:put ((iH bs at_.toNat ((br n.toNat v).take k.toNat)).map bv) (at_+k).toNat [bv (UInt8.ofNat (v/256 ^ k.toNat))]=(iH bs at_.toNat ((br n.toNat v).take (k+1).toNat)).map bv:=by
   rw[<-qD (by rw[π];omega),<-qD (by rw[lT0];omega),show(k+1).toNat=k.toNat+1 by omega,List.take_succ_eq_append_getElem hkB,List.map_append,List.map_singleton,ee]
   have:∀(ys:LV) (X:LV) (o:Nat) (y:Value),put X o (ys++[y])=(put X o ys).set (o+ys.length) y:=by
    intro ys
    induction ys with
    | nil=>intro X o y;rfl
    | cons v r ih=>
     intro X o y;show put (X.set o v) (o+1) (r++[y])=_;rw[ih,List.length_cons,show o+1+r.length=o+(r.length+1) by omega];rfl
   rw[this,lM0,π,show(at_+k).toNat=at_.toNat+k.toNat by omega];rfl
  rw[ep]at s5;exact s5
 ·have:k=n:=by omega
  subst this;rw[List.take_of_length_le (by omega)]at s4;exact hK h4 f4 s4
def lG(bs:LB):Bool:=bs.all (· == 0)
theorem L5(B:aw h a l bs)(hl:l<=140737488355328)(hK:K (.bool (lG bs)) h):C.qi a l c h K:=by
 have hb:=B.1;refine qi.ok ⟨λn hh=>0<=n/\n<=l/\h=hh/\lG bs=lG (bs.drop n.toNat),λn _=>((l:Int)-n).toNat,⟨by omega,by omega,rfl,rfl⟩,?_⟩;rintro n _ ⟨n0,n1,rfl,e⟩;refine cd (λhn=>?_) λhn=>?_
 ·have nV:n.toNat<bs.length:=by omega
  obtain⟨_,B2⟩:=B;have ed:lG (bs.drop n.toNat)=(bs[n.toNat] == 0 && lG (bs.drop (n.toNat+1))):=by rw[List.drop_eq_getElem_cons nV];rfl
  cases a with
  | none=>have B2:bs.map bv=[]:=B2;have:=List.map_eq_nil_iff.mp B2;rw[this]at nV;exact absurd nV (by simp)
  | some p=>
   refine⟨⟨n0,hn⟩,os ⟨_,B2 n.toNat (bv bs[n.toNat]) (by rw[lG0,List.getElem?_eq_getElem nV];rfl),cn (λx=>?_) λx=>?_⟩⟩
   ·have:(bs[n.toNat] == 0)=false:=by
     rw[beq_eq_false_iff_ne];intro e0;rw[e0]at x;exact x rfl
    rw[e,ed,this]at hK;exact hK
   ·have:(bs[n.toNat] == 0)=true:=by
     rw[beq_iff_eq];exact UInt8.toNat_inj.mp (by have x:((bs[n.toNat].toNat:Nat):Int)=0:=x;show _=0;omega)
    rw[wrap_i64 (by omega) (by omega)];exact⟨⟨by omega,by omega,rfl,by rw[e,ed,this,show(n+1).toNat=n.toNat+1 by omega];rfl⟩,di hn⟩
 ·rw[List.drop_of_length_le (by omega)]at e;rw[e]at hK;exact hK
theorem aw.cut{i j:Nat}(B:aw h a l bs)(IX:l<=c)(NG:i<=j)(hj:j<=l):aw h (if c=i then a else Option.map (Addr.add · i) a) (j-i) ((bs.drop i).take (j-i)):=by
 by_cases e:c=i
 ·rw[if_pos e];have:j-i=0:=by omega
  rw[this,List.take_zero];exact aw.nil _ _
 ·rw[if_neg e];exact aw.take (aw.drop B i) (by omega)
theorem Gs{at_ n:Int}(B:aw h a l bs)(IX:l<=c)(hl:l<=140737488355328)(h0:0<=at_)(h1:0<=n)(h2:at_+n<=l)
  (hK:K (.tuple #[.bool (lG ((bs.drop at_.toNat).take n.toNat)),vI 0]) h):C.qB a l c at_ n h K:=by
 refine qB.ok (cf (decide_eq_false (by omega)) (v7 hl h0 h1 h2 ⟨_,rfl,jV (ct rfl ?_)⟩));rw[wrap_i64 (by omega) (by omega)];have e:(at_+n).toNat-at_.toNat=n.toNat:=by omega
 refine⟨⟨h0,by omega,by omega⟩,L5 (bs:=(bs.drop at_.toNat).take n.toNat) ?_ (by omega) ⟨_,rfl,hK⟩⟩;have:=aw.cut B IX (i:=at_.toNat) (j:=(at_+n).toNat) (by omega) (by omega);rw[e]at this;rw[e];exact this
theorem L6(B:aw h a l bs)(hl:l<=140737488355328)(hz:∀ x ∈ bs,x≠0)(hK:K (vI l) h):C.qh a l c h K:=by
 have hb:=B.1;refine qh.ok ⟨λn hh=>0<=n/\n<=l/\h=hh,λn _=>((l:Int)-n).toNat,⟨by omega,by omega,rfl⟩,?_⟩;rintro n _ ⟨n0,n1,rfl⟩;refine cd (λhn=>?_) λhn=>hK;have nV:n.toNat<bs.length:=by omega
 obtain⟨_,B2⟩:=B
 cases a with
 | none=>have B2:bs.map bv=[]:=B2;have:=List.map_eq_nil_iff.mp B2;rw[this]at nV;exact absurd nV (by simp)
 | some p=>
  refine⟨⟨n0,hn⟩,os ⟨_,B2 n.toNat (bv bs[n.toNat]) (by rw[lG0,List.getElem?_eq_getElem nV];rfl),ce (λx=>?_) λx=>?_⟩⟩
  ·exact absurd (UInt8.toNat_inj.mp (by have x:((bs[n.toNat].toNat:Nat):Int)=0:=x;show _=0;omega)) (hz _ (List.getElem_mem nV))
  ·rw[wrap_i64 (by omega) (by omega)];exact⟨⟨by omega,by omega,rfl⟩,di hn⟩
theorem H6{ss:LB}{at_ n:Int}(s:Sl h 1 (some ⟨b,o,none⟩) l c (bs.map bv) F)(hl:l<=140737488355328)(hn:n=ss.length)(h0:0<=at_)(hle:at_+n<=l)(hz:∀ x ∈ ss,x≠0)
  (hK:∀h',Fr (λx=>x=b) h h'->Sl h' 1 (some ⟨b,o,none⟩) l c ((iH bs at_.toNat ss).map bv) F->K (vI 0) h'):C.mL (some ⟨b,o,none⟩) l c at_ n (mkStr ss) h K:=by
 have sf:=s.1;rw[lM0,Nat.mul_one]at sf;have IX:=s.le;have mW:(mkStr ss).size=ss.length:=rfl;refine mL.ok (cf (decide_eq_false (by omega)) (cf (decide_eq_false (by rw[mW];omega)) λcap xY=>?_));rw[toList_mkStr];have e0:vz h (ss.map bv++List.replicate (cap-(mkStr ss).size) (bv 0)) 5=vz h (ss.map bv++List.replicate (cap-(mkStr ss).size) (bv 0)) 5:=rfl;generalize hh2:vz h (ss.map bv++List.replicate (cap-(mkStr ss).size) (bv 0)) 5=h2
 have f2:Fr No h h2:=by
  subst hh2;exact⟨by simp[vz],λx hx _=>by simp[vz,Array.getElem?_push,show x≠h.size by omega]⟩
 have r2:rd h2 h.size=ss.map bv++List.replicate (cap-(mkStr ss).size) (bv 0):=by
  subst hh2;simp[rd,vz]
 have B2:aw h2 (some (bA h)) ss.length ss:=⟨rfl,aal (by rw[r2,List.drop_zero,List.take_left])⟩;have s2:=s.fr f2 λ_ _ _ x=>x;rw[mW];refine L6 B2 (by omega) hz ⟨_,rfl,cf (decide_eq_false (by omega)) (v7 hl h0 (by omega) hle ⟨_,rfl,jV (ct rfl ?_)⟩)⟩;rw[wq (at_+n)];obtain⟨w1,w2⟩:=s2.wr;refine⟨⟨h0,by omega,by omega⟩,?_⟩
 by_cases hss:ss=[]
 ·subst hss;have hn0:n=0:=hn;subst hn0;rw[Int.add_zero,Nat.sub_self];have fin:K (vI 0) h2:=hK h2 (f2.mono λ_ _ x=>x.elim) (by rw[Dy];exact s2);have wr0:∀(a:OA),Lf h2 a 0 0:=λa=>by cases a with|none=>rfl|some p=>exact λi hi=>absurd hi (Nat.not_lt_zero _)
  have st0:∀(a:OA),uu h2 a 0 []=h2:=λa=>by cases a <;> rfl
  refine⟨trivial,by show Lf h2 _ 0 (min 0 0);exact wr0 _,?_⟩;show _/\_;rw[toList_mkStr,List.take_nil,List.map_nil,st0];refine⟨⟨by rw[wrap_i64 (by omega) (by omega)];show 0<=at_+0;omega,by rw[wrap_i64 (by omega) (by omega)];show at_+0<=at_;omega,by omega⟩,?_⟩;have e2:at_.toNat-Int.toNat (wI (at_+((min (mkStr []).size 0:Nat):Int)))=0:=by rw[wrap_i64 (by omega) (by omega)];show at_.toNat-(at_+0).toNat=0;omega
  rw[e2];refine⟨trivial,wr0 _,?_⟩;show K _ (uu h2 _ 0 (aN _ 0));have e3:∀z,z=[Value.int .u8 0]->aN z 0=[]:=λz hz=>by subst hz;rfl
  rw[show aN tf.zero 0=[] from e3 _ rfl,st0];exact fin
 ·have Pq:0<ss.length:=List.length_pos_iff.mpr hss;have hci:c≠at_.toNat:=by omega
  rw[if_neg hci,Option.map_some,bm];have e1:(at_+n).toNat-at_.toNat=ss.length:=by omega
  rw[e1];have em:min (mkStr ss).size ss.length=ss.length:=by rw[mW];exact Nat.min_self _
  refine⟨trivial,?_,?_⟩
  ·show Lf h2 _ 0 (min (mkStr ss).size ss.length);rw[em];simp only[Lf,Addr.add_zero];exact Au w1 (by omega)
  rw[em,toList_mkStr,List.take_length]
  have d5:rW b h2 (uu h2 (some ⟨b,o+at_.toNat,none⟩) 0 (ss.map bv)) (put (rd h2 b) (o+at_.toNat) (ss.map bv)):=by
   simp only[uu,Addr.add_zero];exact⟨Hp.size_setRow _ _ _ _,Fr.setRow (F:=λx=>x=b) (Or.inl rfl) (Fr.refl _ h2),pV w1,by rw[jY,Nat.add_zero]⟩
  generalize uu h2 (some ⟨b,o+at_.toNat,none⟩) 0 (ss.map bv)=h5 at d5;have s5:=s2.putAt (j:=at_.toNat) (new:=ss.map bv) (by rw[lM0];omega) d5;rw[qD (by omega)]at s5;have fin:K (vI 0) h5:=hK h5 ((f2.mono λ_ _ x=>x.elim).did d5 λ_=>rfl) s5;have wr0:∀(a:OA),Lf h5 a 0 0:=λa=>by cases a with|none=>rfl|some p=>exact λi hi=>absurd hi (Nat.not_lt_zero _)
  have st0:∀(a:OA),uu h5 a 0 []=h5:=λa=>by cases a <;> rfl
  show(0<=wI (at_+((ss.length:Nat):Int))/\wI (at_+((ss.length:Nat):Int))<=at_+n/\at_+n<=(c:Int))/\_;rw[wq (at_+((ss.length:Nat):Int))];refine⟨⟨by omega,by omega,by omega⟩,?_⟩;have e2:(at_+n).toNat-(at_+(ss.length:Int)).toNat=0:=by omega
  rw[e2];refine⟨trivial,wr0 _,?_⟩;show K _ (uu h5 _ 0 (aN _ 0));have e3:∀z,z=[Value.int .u8 0]->aN z 0=[]:=λz hz=>by subst hz;rfl
  rw[show aN tf.zero 0=[] from e3 _ rfl,st0];exact fin
end Re
section
open Go Go.ChangeShapes Go.WideShapes Go.ChangeAt Go.RowKit Wx Hp Gl
theorem Tryz.own : ownKnob Tryz.prog.godebug=none:=by kernel_rfl
theorem Tryz.laidOut : laidOutB Tryz.prog=true:=by kernel_rfl
theorem Tryz.cellsBool : Tryz.prog.cellsOf 4=1:=by kernel_rfl
theorem Tryz.cellsWord : Tryz.prog.cellsOf 244=1:=by kernel_rfl
theorem Tryz.cellsHalf : Tryz.prog.cellsOf 346=16:=by kernel_rfl
theorem Tryz.cellsWide : Tryz.prog.cellsOf 328=9:=by kernel_rfl
theorem Tryz.gWide : Tryz.prog.globalNamed "bole/rec.widths" = some 0 := by kernel_rfl
theorem Tryz.gHalf : Tryz.prog.globalNamed "bole/sum.half" = some 1 := by kernel_rfl
theorem Tryz.tWide : (Tryz.prog.globals[0]?).map (·.type)=some 328:=by kernel_rfl
theorem Tryz.tHalf : (Tryz.prog.globals[1]?).map (·.type)=some 346:=by kernel_rfl
theorem tables {W:World} (h : laidMetH Tryz.prog [("bole/rec.widths", Rows.laid_bole_rec_widths), ("bole/sum.half", Rows.laid_bole_sum_half)] W) : Re.kJ W.heap := by
 obtain⟨ps,⟨g',t',cs,fuel,p,q,XE,QA,hvar,hd,⟨g2,t2,cH,fuel2,p2,q2,hg2,ht2,adC,hd2,_,_⟩,_⟩,_⟩:=h;obtain rfl:=Option.some.inj (Tryz.gWide.symm.trans XE);obtain rfl:=Option.some.inj (Tryz.tWide.symm.trans QA);obtain rfl:=Option.some.inj (Tryz.gHalf.symm.trans hg2);obtain rfl:=Option.some.inj (Tryz.tHalf.symm.trans ht2);refine⟨?_,?_⟩
 ·exact(RP Tryz.gHalf adC).trans (Lib.cells_of_tab (zs:=Su.JM) Tryz.underlying346 Tryz.underlying244 Tryz.cellsWord Tryz.cellsHalf hd2)
 ·exact(RP Tryz.gWide hvar).trans (Dj (zs:=Re.H4) Tryz.underlying328 Tryz.underlying4 Tryz.cellsBool Tryz.cellsWide hd)
def adD(cs:LV):Obj->Obj
 | .cells _ t frozen=>.cells ⟨cs⟩ t frozen
 | o=>o
noncomputable def AF(os:Os):World:=
 { World.holding Tryz.prog os ⟨#[],#[],[]⟩with heap:=((World.holding Tryz.prog os ⟨#[],#[],[]⟩).heap.modify 0 (adD (Re.H4.map .bool))).modify 1 (adD (Su.JM.map λn=>.int .u32 n)) }
end
namespace Ad
open Hp W
structure RD where
 aB:List LB
 bz:List (Int×LB)
 left:Int
 keep:List Bool
 down:Bool
 writes:Int
 av:Int
 tape:List (Int×Int×LB)
def Dz(b:LB):LV:=b.map bv
def sP(p:Int×LB):LV:=vI p.1::p.2.map bv
structure kG where
 kind:Int
 at_:Int
 a:OA
 l:Nat
 c:Nat
def kG.cells(e:kG):LV:=[vI e.kind,vI e.at_,vS e.a e.l e.c]
def nI(h:ad)(ao:Nat->Nat)(k:Nat):List kG->List (Int×Int×LB)->Prop
 | [],[]=>True
 | e::r,t::s=>e.kind=t.1/\e.at_=t.2.1/\aw h e.a e.l t.2.2/\(∀p,e.a=some p->p.block<h.size/\ao p.block=k)/\nI h ao k r s
 | _,_=>False
theorem nI.keep(f:Fr F h h')(g:Ag h.size ao ay)(hF:∀ b,ao b=k->¬ F b) :
  ∀{es:List kG} {ts:List (Int×Int×LB)},nI h ao k es ts->nI h' ay k es ts:=by
 intro es
 induction es with
 | nil=>intro ts e;cases ts with
  | nil=>trivial
  | cons _ _=>exact e.elim
 | cons x r ih=>intro ts e;cases ts with
  | nil=>exact e.elim
  | cons t s=>
   obtain⟨h1,h2,h3,h4,h5⟩:=e;exact⟨h1,h2,aw.fr f h3 (λp hp=>hF _ (h4 p hp).2),λp hp=>⟨Nat.lt_of_lt_of_le (h4 p hp).1 f.size,(g _ (h4 p hp).1).trans (h4 p hp).2⟩,ih h5⟩
theorem nI.length{h:ad}{ao:Nat->Nat}{k:Nat}:∀{es:List kG} {ts:List (Int×Int×LB)},nI h ao k es ts->es.length=ts.length:=by
 intro es
 induction es with
 | nil=>intro ts e;cases ts with
  | nil=>rfl
  | cons _ _=>exact e.elim
 | cons x r ih=>intro ts e;cases ts with
  | nil=>exact e.elim
  | cons t s=>simp[ih e.2.2.2.2]
structure Raw where
 la:OA
 ln:Nat
 lc:Nat
 pa:OA
 pn:Nat
 pc:Nat
 left:Int
 ka:OA
 kn:Nat
 kc:Nat
 down:Bool
 writes:Int
 av:Int
 ta:OA
 tn:Nat
 tc:Nat
def Raw.cells(r:Raw):LV:=
 [vS r.la r.ln r.lc,vS r.pa r.pn r.pc,vI r.left,vS r.ka r.kn r.kc,.bool r.down,vI r.writes,vI r.av,vS r.ta r.tn r.tc]
structure Parts(h:ad)(S:RD)(ao:Nat->Nat)(m:Nat)(r:Raw)(es:List kG):Prop where
 left:r.left=S.left
 ny:0<=S.left/\S.left<=9223372036854775807
 down:r.down=S.down
 writes:r.writes=S.writes
 av:r.av=S.av
 l:Sl h 512 r.la r.ln r.lc (S.aB.flatMap Dz) (On ao (m+1))
 lw:∀x∈S.aB,x.length=512
 ln:r.ln=S.aB.length
 AJ:S.aB.length<=16384
 p:Sl h 513 r.pa r.pn r.pc (S.bz.flatMap sP) (On ao (m+2))
 pw:∀x∈S.bz,x.2.length=512
 pn:r.pn=S.bz.length
 pi:∀x∈S.bz,0<=x.1/\x.1<S.aB.length
 DA:S.bz.length<=140737488355328
 k:Sl h 1 r.ka r.kn r.kc (S.keep.map .bool) (On ao (m+3))
 kn:r.kn=S.keep.length
 t:Sl h 3 r.ta r.tn r.tc (es.flatMap kG.cells) (On ao (m+4))
 tn:r.tn=es.length
 H7:es.length<=140737488355328
 ts:nI h ao (m+5) es S.tape
structure pg(h:ad)(b:Nat)(S:RD)(ao:Nat->Nat)(m:Nat)(r:Raw)(es:List kG):Prop extends Parts h S ao m r es where
 sc:ao b=m
 so:dJ h b
 sr:rd h b=r.cells
def gT(h:ad)(d:OA)(S:RD)(ao:Nat->Nat)(m:Nat):Prop:=∃b r es,d=some ⟨b,0,none⟩/\pg h b S ao m r es
theorem Parts.keep{h h':ad}{S:RD}{ao ay:Nat->Nat}{m:Nat}{r:Raw}{es:List kG}{F:NP}(d:Parts h S ao m r es)(f:Fr F h h')(g:Ag h.size ao ay)
  (hF:∀b,m+1<=ao b->ao b<=m+5->¬F b):Parts h' S ay m r es:=
 ⟨d.left,d.ny,d.down,d.writes,d.av,d.l.keep f g (λb e=>hF b (by omega) (by omega)),d.lw,d.ln,d.AJ,
  d.p.keep f g (λb e=>hF b (by omega) (by omega)),d.pw,d.pn,d.pi,d.DA,d.k.keep f g (λb e=>hF b (by omega) (by omega)),d.kn,d.t.keep f g (λb e=>hF b (by omega) (by omega)),d.tn,d.H7,
  nI.keep f g (λb e=>hF b (by omega) (by omega)) d.ts⟩
theorem pg.pE{S:RD}{r:Raw}{es:List kG}(d:pg h b S ao m r es)(f:Fr F h h')(g:Ag h.size ao ay)
  (hF:∀b,m<=ao b->ao b<=m+5->¬F b):pg h' b S ay m r es:=by
 have hb:=d.so.lt;have hs:¬F b:=hF b (by have:=d.sc;omega) (by have:=d.sc;omega);exact⟨d.toParts.keep f g (λb h1 h2=>hF b (by omega) h2),(g _ hb).trans d.sc,f.own hb hs d.so,(f.rd hb hs).trans d.sr⟩
theorem pg.re{S:RD}{r:Raw}{es:List kG}(P:Parts h S ao m r es)(sc:ao b=m)(D:rW b h h' r.cells):pg h' b S ao m r es:=
 ⟨P.keep D.fr (Ag.refl _ _) (λx h1 _ e=>by rw[e]at h1;omega),sc,D.own,D.rd⟩
theorem gT.keep{S:RD}(D:gT h d S ao m)(f:Fr F h h')(g:Ag h.size ao ay)
  (hF:∀b,m<=ao b->ao b<=m+5->¬F b):gT h' d S ay m:=by
 obtain⟨b,r,es,e,D⟩:=D;exact⟨b,r,es,e,D.pE f g hF⟩
def fresh(ls:List LB):RD:=⟨ls,[],0,[],false,0,0,[]⟩
def oh : LB:=List.replicate 512 0
theorem E8(z:LV)(hz:z=List.replicate 512 (.int .u8 0))(n:Nat):aN z n=(List.replicate n oh).flatMap Dz:=by
 rw[qy,List.flatMap_replicate];subst hz;have:Dz oh=List.replicate 512 (.int .u8 0):=by simp only[Dz,oh,List.map_replicate];rfl
 rw[this]
theorem Sd{n:Int}(ao:Nat->Nat)(m:Nat)
  (h1:n<1∨16384<n->K (.tuple #[vP none,vI 32]) h)
  (h2:1<=n->n<=16384->∀q h' ay,Fr No h h'->Ag h.size ao ay->gT h' (some q) (fresh (List.replicate n.toNat oh)) ay m->K (.tuple #[vP (some q),vI 0]) h') :
  C.pX n h K:=by
 refine pX.ok ?_;refine cd (λa=>h1 (Or.inl a)) λa=>cd (λb=>h1 (Or.inr b)) λb=>⟨by omega,?_⟩;refine az.intro λtP n2=>az.intro λh3 n3=>?_;refine h2 (by omega) (by omega) _ _ (oR (oR ao h.size (m+1)) (h.size+1) m) (n2.fr.new n3) ((pW _ _ _).trans (pW _ _ _) (by omega)) ?_;refine⟨_,⟨some (bA h),n.toNat,n.toNat,none,0,0,0,none,0,0,false,0,0,none,0,0⟩,[],rfl,?_⟩;have hl:=fW Dz 512 (List.replicate n.toNat oh) (by intro x hx;rw[List.eq_of_mem_replicate hx];simp only[Dz,oh,lM0,List.length_replicate]);rw[List.length_replicate]at hl;have e2:rd tP h.size=(List.replicate n.toNat oh).flatMap Dz:=n2.rd.trans (E8 _ rfl _);refine⟨⟨rfl,⟨by simp[fresh],by simp[fresh]⟩,rfl,rfl,rfl,?_,?_,?_,?_,Sl.nil _ _ _,?_,rfl,?_,by simp[fresh],Sl.nil _ _ _,rfl,Sl.nil _ _ _,rfl,by simp,trivial⟩,uE (by rw[n2.size];omega),n3.own,n3.rd⟩
 ·refine⟨hl,rfl,?_,n3.ow n2.own,nL0,?_,?_⟩
  ·show oR (oR ao h.size (m+1)) (h.size+1) m h.size=m+1;rw[Dh (by omega),uE nL0]
  ·show((rd h3 h.size).drop 0).take _=_;rw[n3.at_ n2.own.lt,e2,List.drop_zero];exact List.take_length
  ·show 0+n.toNat*512<=(rd h3 h.size).length;rw[n3.at_ n2.own.lt,e2,hl];omega
 ·intro x hx;rw[List.eq_of_mem_replicate hx];simp only[oh,List.length_replicate]
 ·simp[fresh]
 ·simp only[fresh,List.length_replicate];omega
 ·intro x hx;simp[fresh]at hx
 ·intro x hx;simp[fresh]at hx
theorem pg.field{S:RD}{r:Raw}{es:List kG}(d:pg h b S ao m r es)(k:Nat):cellOf h (Addr.add ⟨b,0,none⟩ k)=r.cells[k]?:=by
 rw[bm,jX,d.sr,Nat.zero_add]
theorem si{S:RD}(D:gT h d S ao m)
  (hK:K (.bool (decide (0<=i/\i<S.aB.length))) h):C.iD d i h K:=by
 obtain⟨b,r,es,rfl,D⟩:=D;refine iD.ok (cd (λa=>⟨_,_,_,D.field 0,?_⟩) λa=>?_)
 ·rw[D.ln];have e:(0<=i/\i<S.aB.length)=(i<S.aB.length):=by rw[eq_true (show 0<=i from a),true_and]
  simpa only[e]using hK
 ·have:¬(0<=i/\i<S.aB.length):=by omega
  simpa only[this,decide_false]using hK
theorem iI{S:RD}(D:gT h d S ao m)
  (hK:K (vI S.aB.length) h):C.dD d h K:=by
 obtain⟨b,r,es,rfl,D⟩:=D;refine dD.ok ⟨_,_,_,D.field 0,?_⟩;rw[D.ln];exact hK
def iZ(b:LB)(i:Int)(ps:List (Int×LB)):LB:=ps.foldl (λb p=>if p.1=i then p.2 else b) b
def mh(S:RD)(i:Nat):LB:=iZ (S.aB.getD i []) i S.bz
theorem tQ{p:Int×LB}(h:p.2.length=512):(sP p).length=513:=by simp only[sP,List.length_cons,lM0,h]
theorem m9{b:LB}(h:b.length=512):(Dz b).length=512:=by simp only[Dz,lM0,h]
theorem yp(p:Int×LB):((sP p).drop (0+1)).take (Dz p.2).length=Dz p.2:=by
 simp only[sP,Dz,Nat.zero_add,List.drop_succ_cons,List.drop_zero];exact List.take_length
theorem wU(p:Int×LB):∀v∈sP p,v.oneCell'=true:=by
 intro v hv
 rcases List.mem_cons.mp hv with rfl|hv
 ·rfl
 ·exact ij _ v hv
theorem pg.AK{S:RD}{r:Raw}{es:List kG}(d:pg h b S ao m r es){h':ad}{ay:Nat->Nat}{i:Nat}(hi:i<S.bz.length)
  (s:Sl h' 513 r.pa r.pn r.pc (S.bz.flatMap sP) (On ay (m+2))):∃p,r.pa=some p/\aj h' (p.add (i*513)) (sP S.bz[i]):=by
 obtain⟨p,e,c⟩:=s.get (by rw[d.pn];omega);refine⟨p,e,?_⟩;have:=aj.part c (i*513) 513;rw[m6 sP 513 S.bz (λx hx=>tQ (d.pw x hx)) i hi]at this;exact this
theorem pg.Gt{S:RD}{r:Raw}{es:List kG}(d:pg h b S ao m r es){h':ad}{ay:Nat->Nat}{i:Nat}(hi:i<S.aB.length)
  (s:Sl h' 512 r.la r.ln r.lc (S.aB.flatMap Dz) (On ay (m+1))):∃p,r.la=some p/\aj h' (p.add (i*512)) (Dz S.aB[i]):=by
 obtain⟨p,e,c⟩:=s.get (by rw[d.ln];omega);refine⟨p,e,?_⟩;have:=aj.part c (i*512) 512;rw[m6 Dz 512 S.aB (λx hx=>m9 (d.lw x hx)) i hi]at this;exact this
theorem qv{b:LB}{ps:List (Int×LB)}{n:Nat}(hn:n<ps.length):iZ b i (ps.take (n+1))=if ps[n].1=i then ps[n].2 else iZ b i (ps.take n):=by
 rw[iZ,List.take_add_one,List.foldl_append,List.getElem?_eq_getElem hn];rfl
theorem cD{S:RD}(D:gT h d S ao m)
  (h1:S.down=true->K (.tuple #[vS none 0 0,vI 30]) h)
  (h2:S.down=false->¬(0<=i/\i<S.aB.length)->K (.tuple #[vS none 0 0,vI 31]) h)
  (h3:S.down=false->0<=i->i<S.aB.length->∀b h',Fr No h h'->h.size<=b->dJ h' b->rd h' b=(mh S i.toNat).map bv->(mh S i.toNat).length=512->
   K (.tuple #[vS (some ⟨b,0,none⟩) 512 512,vI 0]) h') :
  C.gN d i h K:=by
 have D0:=D;obtain⟨b,r,es,rfl,D⟩:=D;refine gN.ok ⟨_,D.field 4,?_⟩;rw[D.down];refine cs h1 λhd=>si D0 ⟨_,rfl,jV (cd (λa=>?_) (h2 hd))⟩;have hi:i.toNat<S.aB.length:=by omega
 obtain⟨p,e,c⟩:=D.Gt hi D.l;refine⟨_,_,_,D.field 0,⟨a.1,by rw[D.ln];exact a.2⟩,?_⟩;rw[e];have hlen:=m9 (D.lw _ (List.getElem_mem hi));refine⟨_,hlen,c,aM.intro hlen (ij _) List.length_replicate λh4 n4=>?_⟩;have D4:=D.pE n4.fr (Ag.refl _ _) (λ_ _ _ x=>x);refine⟨_,_,_,D4.field 1,?_⟩
 refine⟨λn hh=>0<=n/\n<=S.bz.length/\Fr No h hh/\dJ hh h.size/\rd hh h.size=(iZ S.aB[i.toNat] i (S.bz.take n.toNat)).map bv/\(iZ S.aB[i.toNat] i (S.bz.take n.toNat)).length=512,
  λn _=>(S.bz.length-n).toNat,⟨by omega,by omega,n4.fr,n4.own,n4.rd,D.lw _ (List.getElem_mem hi)⟩,?_⟩
 rintro n h5 ⟨n0,n1,f5,o5,r5,l5⟩;have D5:=D.pE f5 (Ag.refl _ _) (λ_ _ _ x=>x);rw[D.pn];refine cd (λhn=>?_) λhn=>?_
 rotate_left
 ·have:mh S i.toNat=iZ S.aB[i.toNat] i (S.bz.take n.toNat):=by
   rw[List.take_of_length_le (by omega),mh,List.getD_eq_getElem?_getD,List.getElem?_eq_getElem hi,Option.getD_some,Int.toNat_of_nonneg a.1]
  exact h3 hd a.1 a.2 _ _ f5 nL0 o5 (by rw[this];exact r5) (by rw[this];exact l5)
 have nV:n.toNat<S.bz.length:=by omega
 obtain⟨q,e',c'⟩:=D5.AK nV D5.p;refine⟨⟨n0,hn⟩,?_⟩;rw[e'];have L7:=D.pw _ (List.getElem_mem nV);have V2:=tQ L7;refine⟨_,V2,c',aM.intro V2 (wU _) (List.length_cons.trans (congrArg (· + 1) List.length_replicate)) λh7 n7=>?_⟩;have f7:=f5.new n7;have hs5:=f5.size;have hw:wI (n+1)=n+1:=wrap_i64 (by omega) (by have:=D.DA;omega);have ht:(n+1).toNat=n.toNat+1:=by omega
 refine⟨_,bJ n7.rd rfl,?_⟩;rw[hw];refine ce (λhq=>?_) λhq=>?_
 ·have hb:=m9 L7;have r7:=n7.at_ o5.lt;refine⟨_,hb,uF n7.rd (yp _),ax.intro (n7.ow o5) hb (ij _) (by rw[r7,r5,lM0,l5];omega) λh8 n8=>⟨⟨by omega,by omega,f7.did n8 (λx=>by omega),n8.own,?_,?_⟩,di hn⟩⟩
  ·rw[n8.rd,r7,r5,dC _ _ (by rw[hb,lM0,l5]),ht,qv nV,if_pos hq];rfl
  ·rw[ht,qv nV,if_pos hq];exact L7
 ·refine⟨⟨by omega,by omega,f7,n7.ow o5,?_,?_⟩,di hn⟩
  ·rw[n7.at_ o5.lt,r5,ht,qv nV,if_neg hq]
  ·rw[ht,qv nV,if_neg hq];exact l5
theorem pg.H8{S:RD}{r:Raw}{es:List kG}(d:pg h b S ao m r es){lb lo i:Nat}{y:LB}(hi:i<S.aB.length)(hy:y.length=512)
  (e:r.la=some ⟨lb,lo,none⟩) (D:rW lb h h' (put (rd h lb) (lo+i*512) (Dz y))):pg h' b { S with aB:=S.aB.set i y } ao m r es:=by
 have L:=d.l;rw[e]at L;have hc:ao lb=m+1:=L.2.2.1;have K:=d.pE (F:=λx=>x=lb/\False) (h':=h) ⟨nL0,λ_ _ _=>rfl⟩ (Ag.refl _ _) (λ_ _ _ x=>x.2);have hs:b≠lb:=by intro x;have:=d.sc;rw[x]at this;omega
 have g:Ag h.size ao ao:=Ag.refl _ _;have hk:∀k,k≠m+1->∀x,ao x=k->¬(x=lb):=by intro k hk x hx e;rw[e]at hx;omega
 exact⟨⟨d.left,d.ny,d.down,d.writes,d.av,by rw[e];exact L.Vc (λx hx=>m9 (d.lw x hx)) hi (m9 hy) D,
  λx hx=>by rcases List.mem_or_eq_of_mem_set hx with hx|rfl;exact d.lw x hx;exact hy,by simp only[List.length_set];exact d.ln,by simp only[List.length_set];exact d.AJ,
  d.p.keep D.fr g (hk _ (by omega)),d.pw,d.pn,by simp only[List.length_set];exact d.pi,d.DA,d.k.keep D.fr g (hk _ (by omega)),d.kn,d.t.keep D.fr g (hk _ (by omega)),d.tn,d.H7,nI.keep D.fr g (hk _ (by omega)) d.ts⟩,d.sc,D.ow d.so,(D.at_ d.so.lt hs).trans d.sr⟩
theorem dQ{α:Type}(xs:List α)(n:Nat)(h:n<xs.length):xs.take (n+1)=xs.take n++[xs[n]]:=by
 rw[List.take_add_one,List.getElem?_eq_getElem h];rfl
def chunks(bs:LB):List LB:=(List.range (bs.length/512)).map λi=>(bs.drop (i*512)).take 512
theorem jD(bs:LB):(chunks bs).length=bs.length/512:=by simp only[chunks,lM0,List.length_range]
theorem yq(bs:LB){i:Nat}(h:i<(chunks bs).length):(chunks bs)[i]=(bs.drop (i*512)).take 512:=by simp only[chunks,List.getElem_map,List.getElem_range]
theorem uL(bs:LB):∀x∈chunks bs,x.length=512:=by
 intro x hx;obtain⟨i,hi,rfl⟩:=List.getElem_of_mem hx;rw[jD]at hi;rw[yq,lT0,lD0];omega
theorem Fa(bs:LB):∀n,((List.range n).map λi=>(bs.drop (i*512)).take 512).flatten=bs.take (n*512):=by
 intro n
 induction n with
 | zero=>simp
 | succ n ih=>
  rw[List.range_succ,List.map_append,List.flatten_append,ih,Nat.add_mul,Nat.one_mul,List.take_add];simp
theorem JR(h:bs.length % 512=0):(chunks bs).flatten=bs:=by
 rw[chunks,Fa,List.take_of_length_le];omega
theorem Pw(ao:Nat->Nat)(m:Nat)(hf:ZC h ao m)(B:aw h a l bs)(IX:l<=c)(hl:l<=140737488355328)
  (h1:l%512≠0∨l=0∨16384<l/512->K (.tuple #[vP none,vI 32]) h)
  (h2:l%512=0->0<l->l/512<=16384->∀q h' ay,Fr No h h'->Ag h.size ao ay->gT h' (some q) (fresh (chunks bs)) ay m->K (.tuple #[vP (some q),vI 0]) h') :
  C.mC a l c h K:=by
 have sf:=B.1;have hd:Int.tdiv (l:Int) 512=((l/512:Nat):Int):=by rw[Int.tdiv_eq_ediv_of_nonneg (by omega)];omega
 have hmd:Int.tmod (l:Int) 512=((l%512:Nat):Int):=by rw[Int.tmod_eq_emod_of_nonneg (by omega)];omega
 have hw:wI (Int.tdiv (l:Int) 512)=((l/512:Nat):Int):=by rw[hd];exact wq _
 refine mC.ok (cn (λx=>h1 (Or.inl (by omega))) λx=>?_);rw[hw];refine Sd ao m (λy=>⟨_,_,rfl,cn (λ_=>h1 (by omega)) (λz=>absurd z (by omega))⟩) λy1 y2 q h' ay f1 g1 D1=>⟨_,_,rfl,cn (λz=>absurd rfl z) λ_=>?_⟩;obtain⟨b,r,es,hq,D1⟩:=D1;have hq:q=⟨b,0,none⟩:=by simpa using hq
 subst hq;rw[tN0]at D1;have hN:=D1.ln;simp only[fresh,List.length_replicate]at hN;refine⟨_,_,_,D1.field 0,?_⟩
 refine⟨λn hh=>0<=n/\n<=(l/512:Nat)/\Fr No h hh/\pg hh b (fresh ((chunks bs).take n.toNat++List.replicate (l/512-n.toNat) oh)) ay m r es,λn _=>((l/512:Nat)-n).toNat,
  ⟨by omega,by omega,f1,by rw[show(0:Int).toNat=0 from rfl,List.take_zero,List.nil_append,Nat.sub_zero];exact D1⟩,?_⟩
 rintro n h3 ⟨n0,n1,f3,D3⟩;rw[hN];have Da:=jD bs;refine cd (λhn=>?_) λhn=>?_
 rotate_left
 ·have e:n.toNat=l/512:=by omega
  rw[e,List.take_of_length_le (by rw[Da,sf];omega),Nat.sub_self,List.replicate_zero,List.append_nil]at D3;exact h2 (by omega) (by omega) (by omega) _ _ _ f3 g1 ⟨b,r,es,rfl,D3⟩
 have nV:n.toNat<l/512:=by omega
 refine⟨_,_,_,D3.field 0,⟨n0,by rw[hN];exact hn⟩,?_⟩;obtain⟨p,e,_⟩:=D3.l.get (by rw[hN];omega);rw[e];have L:=D3.l;rw[e]at L;obtain⟨lb,lo,sp⟩:=p;have hsp:sp=none:=L.2.1;subst hsp;have hw3:wI (n*512)=((n.toNat*512:Nat):Int):=by rw[wrap_i64 (by omega) (by omega)];omega
 have σ:wI (n+1)=n+1:=wrap_i64 (by omega) (by omega);simp only[hw3,σ,tN0];refine⟨by omega,?_⟩;rw[if_neg (by omega),bm];have B3:=aw.take (aw.drop (aw.fr f3 B (λ_ _ x=>x)) (n.toNat*512)) (n:=512) (by omega);obtain⟨w1,w2⟩:=L.wr;rw[hN]at w2;have hy:((bs.drop (n.toNat*512)).take 512).length=512:=B3.1;have hm:min (l-n.toNat*512) 512=512:=by omega
 refine rP.intro (new:=Dz ((bs.drop (n.toNat*512)).take 512)) (by rw[m9 hy,hm];rfl) B3.2 (ij _) w1 (by rw[m9 hy];omega) λh4 d4=>?_;have hi:n.toNat<((chunks bs).take n.toNat++List.replicate (l/512-n.toNat) oh).length:=by rw[lA0,lT0,List.length_replicate,Da,sf];omega
 have D4:=D3.H8 (i:=n.toNat) hi hy e d4;refine⟨⟨by omega,by omega,?_,?_⟩,di hn⟩
 ·refine f3.did d4 λx=>?_;have hc:ay lb=m+1:=L.2.2.1;have:=hf.new g1 (b:=lb) (by omega) (by omega);omega
 ·have ht:(n+1).toNat=n.toNat+1:=by omega
  have hx:n.toNat<(chunks bs).length:=by rw[Da,sf];omega
  have e1:((chunks bs).take n.toNat++List.replicate (l/512-n.toNat) oh).set n.toNat ((bs.drop (n.toNat*512)).take 512)=(chunks bs).take (n+1).toNat++List.replicate (l/512-(n+1).toNat) oh:=by
   have h1:((chunks bs).take n.toNat).length=n.toNat:=(by rw[lT0];omega);rw[List.set_append_right _ _ (by omega),h1,Nat.sub_self,show l/512-n.toNat=(l/512-(n+1).toNat)+1 by omega,List.replicate_succ,List.set_cons_zero,ht,dQ _ _ hx,yq,List.append_assoc];rfl
  rw[<-e1];exact D4
theorem uM(B:aw h a l bs)(hl:l<=140737488355328)
  (hK:∀a' c' h',Fr No h h'->Sl h' 1 a' l c' (bs.map bv) (dG h.size)->K (vS a' l c') h'):C.bD a l c h K:=by
 have sf:=B.1;refine bD.ok (cs (λe=>?_) λ_=>az.intro λh2 n2=>?_)
 ·cases a with
  | none=>
   have e1:=B.2;have e2:bs.map bv=[]:=e1;have e2:bs=[]:=List.map_eq_nil_iff.mp e2;subst e2;have:l=0:=sf.symm;subst this;exact hK none 0 h (Fr.refl _ _) (Sl.nil _ _ _)
  | some p=>simp at e
 ·obtain⟨s1,s2,s3⟩:=aw.src (aw.fr n2.fr B (λ_ _ x=>x));refine⟨_,s1,s2,s3,?_⟩;refine dh (xs:=[]) (F:=dG h.size) (Sl.made n2 rfl nL0 rfl nL0 rfl) s1 rfl (by show(0+l)*1<=_;omega) (by omega) λa' c' h' f s=>?_;rw[Nat.zero_add,List.nil_append]at s;rw[Nat.zero_add];have:=n2.size;exact hK a' c' h' (n2.fr.trans f λb hb e=>by have:h.size<=b:=e;omega) (s.mono λb hb=>by rcases hb with hb|hb;exact hb;show h.size<=b;omega)
structure Gw(h:ad)(D:NP)(h':ad)(D':NP):Prop where
 old:∀b,b<h.size->(D' b↔D b)
 lt:∀b,D' b->b<h'.size
theorem Gw.refl{D:NP}(hs:h.size<=h'.size)(hD:∀ b,D b->b<h.size):Gw h D h' D:=⟨λ_ _=>Iff.rfl,λb hb=>Nat.lt_of_lt_of_le (hD b hb) hs⟩
theorem Gw.trans{h h' Se:ad}{D D' D'':NP}(g:Gw h D h' D')(g':Gw h' D' Se D'')(hs:h.size<=h'.size):Gw h D Se D'':=
 ⟨λb hb=>(g'.old b (by omega)).trans (g.old b hb),g'.lt⟩
theorem Gw.new{D:NP}(g:Gw h D h' D'){b:Nat}(hb:D' b):D b∨h.size<=b:=by
 rcases Nat.lt_or_ge b h.size with h1|h1
 ·exact .inl ((g.old b h1).mp hb)
 ·exact .inr h1
def trim(ao:Nat->Nat)(n:Nat):Nat->Nat:=λb=>if b<n then ao b else 0
theorem uN{n:Nat}(h:b<n):trim ao n b=ao b:=if_pos h
theorem zk{n:Nat}(h:n<=b):trim ao n b=0:=if_neg (by omega)
theorem N6(ao:Nat->Nat)(n:Nat):Ag n ao (trim ao n):=λ_ hb=>if_pos hb
def cw(h:ad)(D:NP)(d:OA)(S:RD):Prop:=∃ao,gT h d S ao 1/\(∀b,h.size<=b->ao b=0)/\∀b,D b↔1<=ao b/\ao b<=6
theorem cw.mk{S:RD}(a:gT h d S ao 1):cw h (λb=>b<h.size/\1<=ao b/\ao b<=6) d S:=by
 refine⟨trim ao h.size,a.keep (F:=No) (Fr.refl _ h) (N6 _ _) λ_ _ _ x=>x,λb hb=>zk hb,λb=>⟨λhb=>by rw[uN hb.1];exact hb.2,λhb=>?_⟩⟩
 rcases Nat.lt_or_ge b h.size with h1|h1
 ·rw[uN h1]at hb;exact⟨h1,hb⟩
 ·rw[zk h1]at hb;omega
theorem cw.lt{D:NP}{S:RD}(a:cw h D d S){b:Nat}(hb:D b):b<h.size:=by
 obtain⟨ao,_,hz,hD⟩:=a
 rcases Nat.lt_or_ge b h.size with h1|h1
 ·exact h1
 ·have:=(hD b).mp hb;rw[hz b h1]at this;omega
theorem cw.fr{D:NP}{S:RD}(a:cw h D d S)(f:Fr F h h')(hF:∀ b,D b->¬ F b):cw h' D d S:=by
 obtain⟨ao,a,hz,hD⟩:=a;have:=f.size;exact⟨ao,a.keep f (Ag.refl _ _) λb h1 h2=>hF b ((hD b).mpr ⟨h1,h2⟩),λb hb=>hz b (by omega),hD⟩
theorem cw.no{D:NP}{S:RD}(a:cw h D d S)(f:Fr No h h'):cw h' D d S:=a.fr f λ_ _ x=>x
theorem cw.iff{D:NP}{S:RD}(a:cw h D d S)(e:∀ b,D' b↔D b):cw h D' d S:=by
 obtain⟨ao,a,hz,hD⟩:=a;exact⟨ao,a,hz,λb=>(e b).trans (hD b)⟩
theorem cw.gw{D:NP}{S':RD}(hD:∀ b,D b↔1<=ao b/\ao b<=6)(g:Ag h.size ao ay)(hs:h.size<=h'.size)(a:gT h' d S' ay 1) :
  ∃D',Gw h D h' D'/\cw h' D' d S'/\∀b,D' b↔b<h'.size/\1<=ay b/\ay b<=6:=
 ⟨_,⟨λb hb=>by rw[hD b,g b hb];exact⟨λx=>x.2,λx=>⟨by omega,x⟩⟩,λb hb=>hb.1⟩,cw.mk a,λ_=>Iff.rfl⟩
theorem cw.blocks{D:NP}{S:RD}(a:cw h D d S)(hK:K (vI S.aB.length) h):C.dD d h K:=by
 obtain⟨ao,a,_⟩:=a;exact iI a hK
theorem cw.max{D:NP}{S:RD}(a:cw h D d S):S.aB.length<=16384/\∀x∈S.aB,x.length=512:=by
 obtain⟨ao,⟨b,r,es,_,D⟩,_⟩:=a;exact⟨D.AJ,D.lw⟩
theorem cw.read{D:NP}{S:RD}(a:cw h D d S)
  (h1:S.down=true->K (.tuple #[vS none 0 0,vI 30]) h)
  (h2:S.down=false->¬(0<=i/\i<S.aB.length)->K (.tuple #[vS none 0 0,vI 31]) h)
  (h3:S.down=false->0<=i->i<S.aB.length->∀b h',Fr No h h'->Sl h' 1 (some ⟨b,0,none⟩) 512 512 ((mh S i.toNat).map bv) (dG h.size)->(mh S i.toNat).length=512->
   K (.tuple #[vS (some ⟨b,0,none⟩) 512 512,vI 0]) h') :
  C.gN d i h K:=by
 obtain⟨ao,a,_⟩:=a;refine cD a h1 h2 λe i0 i1 b h' f hb o r l=>h3 e i0 i1 b h' f ⟨by rw[lM0,l],rfl,hb,o,nL0,?_,?_⟩ l
 ·show((rd h' b).drop 0).take _=_;rw[r,List.drop_zero,List.take_length]
 ·show 0+512*1<=(rd h' b).length;rw[r,lM0,l];exact nL0
theorem L8(B:aw h a l bs)(IX:l<=c)(hl:l<=140737488355328)
  (h1:l%512≠0∨l=0∨16384<l/512->K (.tuple #[vP none,vI 32]) h)
  (h2:l%512=0->0<l->l/512<=16384->∀q h' D,Fr No h h'->(∀b,D b->h.size<=b)->cw h' D (some q) (fresh (chunks bs))->K (.tuple #[vP (some q),vI 0]) h') :
  C.mC a l c h K:=by
 refine Pw (λ_=>0) 1 (λ_ _ h1 _=>absurd h1 (by show ¬(1<=0);omega)) B IX hl h1 λy1 y2 y3 q h' ay f g a=>?_;refine h2 y1 y2 y3 q h' _ f (λb hb=>?_) (cw.mk a)
 rcases Nat.lt_or_ge b h.size with h1|h1
 ·have e:ay b=0:=g b h1;omega
 ·exact h1
end Ad
namespace Tm
open Hp W Ad
abbrev cL :=LB
def cR{α:Type}:List (Int×α)->Int->Option α
 | [],_=>none
 | (k,v)::r,x=>bif x==k then some v else cR r x
def ja{α:Type}:List (Int×α)->Int->α->List (Int×α)
 | [],x,v=>[(x,v)]
 | (k,u)::r,x,v=>bif x==k then(x,v)::r else(k,u)::ja r x v
def yr{α:Type}:List (Int×α)->Int->List (Int×α)
 | [],_=>[]
 | (k,u)::r,x=>bif x==k then r else(k,u)::yr r x
theorem Gu{α:Type}(v:α)(i j:Int):∀m:List (Int×α),cR (ja m i v) j=if j=i then some v else cR m j
 | []=>by
  show(bif j==i then some v else none)=_
  by_cases h:j=i
  ·rw[if_pos h,h,beq_self_eq_true];rfl
  ·rw[if_neg h,beq_eq_false_iff_ne.mpr h];rfl
 | (k,u)::r=>by
  have ih:=Gu v i j r
  show cR (bif i==k then(i,v)::r else(k,u)::ja r i v) j=if j=i then some v else(bif j==k then some u else cR r j)
  by_cases h:i=k
  ·subst h;rw[beq_self_eq_true];show(bif j==i then some v else cR r j)=_
   by_cases h2:j=i
   ·rw[if_pos h2,h2,beq_self_eq_true];rfl
   ·rw[if_neg h2,beq_eq_false_iff_ne.mpr h2];rfl
  ·rw[beq_eq_false_iff_ne.mpr h];show(bif j==k then some u else cR (ja r i v) j)=_;rw[ih]
   by_cases h2:j=k
   ·have hn:¬j=i:=λe=>h (e.symm.trans h2);rw[if_neg hn,if_neg hn,h2,beq_self_eq_true]
   ·rw[beq_eq_false_iff_ne.mpr h2];rfl
theorem wV{α:Type}{i:Int}:∀{m:List (Int×α)},cR m i=none↔∀p∈m,p.1≠i
 | []=>⟨λ_ p hp=>(by cases hp),λ_=>rfl⟩
 | (k,u)::r=>by
  show(bif i==k then some u else cR r i)=none↔_
  by_cases h:i=k
  ·rw[h,beq_self_eq_true];exact⟨λx=>(by cases x),λx=>absurd rfl (x (k,u) (List.mem_cons_self ..))⟩
  ·rw[beq_eq_false_iff_ne.mpr h];show cR r i=none↔_;rw[wV];refine⟨λx p hp=>?_,λx p hp=>x p (List.mem_cons_of_mem _ hp)⟩
   rcases List.mem_cons.mp hp with rfl|hp
   ·exact λe=>h e.symm
   ·exact x p hp
theorem tR{α:Type}{i:Int}{v:α}:∀{m:List (Int×α)},cR m i=some v->(i,v)∈m
 | [],h=>by cases h
 | (k,u)::r,h=>by
  have h:(bif i==k then some u else cR r i)=some v:=h
  by_cases e:i=k
  ·rw[e,beq_self_eq_true]at h
   cases h
   rw[e];exact List.mem_cons_self ..
  ·rw[beq_eq_false_iff_ne.mpr e]at h;exact List.mem_cons_of_mem _ (tR h)
theorem we{α:Type}{i:Int}{v:α}{p:Int×α}:∀{m:List (Int×α)},p∈ja m i v->p=(i,v)∨p∈m
 | [],h=>.inl (List.mem_singleton.mp h)
 | (k,u)::r,h=>by
  have h:p∈(bif i==k then(i,v)::r else(k,u)::ja r i v):=h
  by_cases e:i=k
  ·rw[e,beq_self_eq_true]at h
   rcases List.mem_cons.mp h with h|h
   ·left;rw[h,e]
   ·exact .inr (List.mem_cons_of_mem _ h)
  ·rw[beq_eq_false_iff_ne.mpr e]at h
   rcases List.mem_cons.mp h with h|h
   ·exact .inr (h▸List.mem_cons_self ..)
   ·rcases we h with h|h
    ·exact .inl h
    ·exact .inr (List.mem_cons_of_mem _ h)
theorem DB{α:Type}{i:Int}{p:Int×α}:∀{m:List (Int×α)},p∈yr m i->p∈m
 | [],h=>h
 | (k,u)::r,h=>by
  have h:p∈(bif i==k then r else(k,u)::yr r i):=h
  by_cases e:i=k
  ·rw[e,beq_self_eq_true]at h;exact List.mem_cons_of_mem _ h
  ·rw[beq_eq_false_iff_ne.mpr e]at h
   rcases List.mem_cons.mp h with h|h
   ·exact h▸List.mem_cons_self ..
   ·exact List.mem_cons_of_mem _ (DB h)
theorem wW{α:Type}{i:Int}{v:α}:∀{m:List (Int×α)},cR m i=none->yr (ja m i v) i=m
 | [],_=>by show(bif i==i then[]else _)=_;rw[beq_self_eq_true];rfl
 | (k,u)::r,h=>by
  have h:(bif i==k then some u else cR r i)=none:=h
  by_cases e:i=k
  ·rw[e,beq_self_eq_true]at h;cases h
  ·rw[beq_eq_false_iff_ne.mpr e]at h;show yr (bif i==k then(i,v)::r else(k,u)::ja r i v) i=_;rw[beq_eq_false_iff_ne.mpr e];show(bif i==k then _ else(k,u)::yr (ja r i v) i)=_;rw[beq_eq_false_iff_ne.mpr e,wW h];rfl
theorem wX{α:Type}{i:Int}{v w:α}:∀{m:List (Int×α)},cR m i=some w->ja (ja m i v) i w=m
 | [],h=>by cases h
 | (k,u)::r,h=>by
  have h:(bif i==k then some u else cR r i)=some w:=h;show ja (bif i==k then(i,v)::r else(k,u)::ja r i v) i w=_
  by_cases e:i=k
  ·subst e;rw[beq_self_eq_true]at h ⊢
   cases h
   show(bif i==i then(i,w)::r else _)=_;rw[beq_self_eq_true];rfl
  ·rw[beq_eq_false_iff_ne.mpr e]at h ⊢;show(bif i==k then _ else(k,u)::ja (ja r i v) i w)=_;rw[beq_eq_false_iff_ne.mpr e,wX h];rfl
theorem BH{α:Type}{i:Int}{v:α}:∀{m:List (Int×α)},(ja m i v).length=if cR m i=none then m.length+1 else m.length
 | []=>rfl
 | (k,u)::r=>by
  have ih:=BH (i:=i) (v:=v) (m:=r)
  show(bif i==k then(i,v)::r else(k,u)::ja r i v).length=if(bif i==k then some u else cR r i)=none then _ else _
  by_cases e:i=k
  ·rw[e,beq_self_eq_true];rfl
  ·rw[beq_eq_false_iff_ne.mpr e]
   show(ja r i v).length+1=if cR r i=none then r.length+1+1 else r.length+1
   rw[ih];split <;> rfl
theorem zm{α β:Type}(f:α->β)(i:Int):∀m:List (Int×α),cR (m.map λp=>(p.1,f p.2)) i=(cR m i).map f
 | []=>rfl
 | (k,u)::r=>by
  show(bif i==k then some (f u)else cR (r.map λp=>(p.1,f p.2)) i)=(bif i==k then some u else cR r i).map f;rw[zm f i r]
  cases i==k <;> rfl
theorem DC{α β:Type}(f:α->β)(i:Int)(v:α):∀m:List (Int×α),ja (m.map λp=>(p.1,f p.2)) i (f v)=(ja m i v).map λp=>(p.1,f p.2)
 | []=>rfl
 | (k,u)::r=>by
  show(bif i==k then(i,f v)::r.map (λp=>(p.1,f p.2))else(k,f u)::ja (r.map λp=>(p.1,f p.2)) i (f v))=(bif i==k then(i,v)::r else(k,u)::ja r i v).map λp=>(p.1,f p.2);rw[DC f i v r]
  cases i==k <;> rfl
theorem JS{α β:Type}(f:α->β)(i:Int):∀m:List (Int×α),yr (m.map λp=>(p.1,f p.2)) i=(yr m i).map λp=>(p.1,f p.2)
 | []=>rfl
 | (k,u)::r=>by
  show(bif i==k then r.map (λp=>(p.1,f p.2))else(k,f u)::yr (r.map λp=>(p.1,f p.2)) i)=(bif i==k then r else(k,u)::yr r i).map λp=>(p.1,f p.2);rw[JS f i r]
  cases i==k <;> rfl
def mm{α:Type}(f:α->Value)(m:List (Int×α)):qW:=m.map λp=>(.i p.1,f p.2)
theorem zn{α:Type}(f:α->Value)(i:Int):∀m:List (Int×α),mX (mm f m) (.i i)=(cR m i).map f
 | []=>rfl
 | (k,u)::r=>by
  show(bif i==k then some (f u)else mX (mm f r) (.i i))=(bif i==k then some u else cR r i).map f;rw[zn f i r]
  cases i==k <;> rfl
theorem H9{α:Type}(f:α->Value)(i:Int)(v:α):∀m:List (Int×α),xA (mm f m) (.i i) (f v)=mm f (ja m i v)
 | []=>rfl
 | (k,u)::r=>by
  show(bif i==k then(.i i,f v)::mm f r else(.i k,f u)::xA (mm f r) (.i i) (f v))=mm f (bif i==k then(i,v)::r else(k,u)::ja r i v);rw[H9 f i v r]
  cases i==k <;> rfl
theorem N7{α:Type}(f:α->Value)(i:Int):∀m:List (Int×α),Jb (mm f m) (.i i)=mm f (yr m i)
 | []=>rfl
 | (k,u)::r=>by
  show(bif i==k then mm f r else(.i k,f u)::Jb (mm f r) (.i i))=mm f (bif i==k then r else(k,u)::yr r i);rw[N7 f i r]
  cases i==k <;> rfl
theorem wY{α:Type}(f:α->Value)(m:List (Int×α)):(mm f m).length=m.length:=List.length_map ..
abbrev DI : D:=.int .i64
theorem map_lt{d:D}{m:qW}(a:mz d h r m):r<h.size:=by
 obtain⟨es,ck,e,_⟩:=a;exact(Array.getElem?_eq_some_iff.mp e).1
theorem tj{d:D}{m:qW}(a:mz d h r m)(f:Fr F h h')(hF:¬ F r):mz d h' r m:=by
 have hl:=map_lt a;obtain⟨es,ck,e,q⟩:=a;exact⟨es,ck,(f.same r hl hF).trans e,q⟩
theorem zp{d:D}{m:qW}(t:MapTo d h r m h'):Fr (λb=>b=r) h h':=⟨by rw[t.size];exact nL0,λb _ hb=>t.same b hb⟩
theorem Gv(h:ad):(Ht h).size=h.size+1:=by simp[Ht]
theorem V3(h:ad):Fr No h (Ht h):=⟨by rw[Gv];omega,λb hb _=>by simp only[Ht];rw[Array.getElem?_push,if_neg (by omega)]⟩
theorem V4(h:ad):mz DI (Ht h) h.size []:=⟨#[],0,by simp[Ht],rfl,(λp hp=>by cases hp),MapKept.stamped_empty 0⟩
structure TM where
 aK:RD
 put:List (Int×cL)
 ar:List (Int×Option cL)
 over:Bool
def TM.N(T:TM):Nat:=T.aK.aB.length
def TM.get(T:TM)(i:Int):cL×Int:=match cR T.put i with
 | some b=>(b,0)
 | none=>if T.aK.down=true then([],30)else(mh T.aK i.toNat,0)
theorem TM.get_some{T:TM}{b:cL}(e:cR T.put i=some b):T.get i=(b,0):=by unfold TM.get;rw[e]
theorem TM.get_none{T:TM}(e:cR T.put i=none):T.get i=if T.aK.down=true then([],30)else(mh T.aK i.toNat,0):=by unfold TM.get;rw[e]
def TM.read(T:TM)(i:Int):cL×Int:=
 if T.over=true then([],61)else if i<0∨i>=T.N then([],31)else T.get i
def TM.write(T:TM)(i:Int)(bs:cL):TM×Int:=
 if T.over=true then(T,61)else if i<98∨i>=T.N then(T,31)else if bs.length≠512 then(T,32)else if cR T.put i=none/\T.put.length>=96 then(T,60)
  else({ T with put:=ja T.put i bs,ar:=T.ar++[(i,cR T.put i)] },0)
def TM.mark(T:TM):Int×Int:=if T.over=true then(0,61)else(T.ar.length,0)
def pO(m:List (Int×cL))(u:Int×Option cL):List (Int×cL):=match u.2 with
 | some b=>ja m u.1 b
 | none=>yr m u.1
def df(m:List (Int×cL))(us:List (Int×Option cL)):List (Int×cL):=us.foldr (λu m=>pO m u) m
def TM.back(T:TM)(mark:Int):TM×Int:=
 if T.over=true then(T,61)else if mark<0∨mark>T.ar.length then(T,62)
  else({ T with put:=df T.put (T.ar.drop mark.toNat),ar:=T.ar.take mark.toNat },0)
structure Sc where
 a:OA
 l:Nat
 c:Nat
def Sc.v(s:Sc):Value:=vS s.a s.l s.c
structure τ(h:ad)(ao:Nat->Nat)(k:Nat)(x:Sc×cL):Prop where
 s:aw h x.1.a x.1.l x.2
 l:x.2.length=512
 at_:∀p,x.1.a=some p->p.block<h.size/\ao p.block=k
theorem τ.keep{x:Sc×cL}(b:τ h ao k x)(f:Fr F h h')(g:Ag h.size ao ay)(hF:∀ b,b<h.size->ao b=k->¬ F b):τ h' ay k x:=
 ⟨aw.fr f b.s λp e=>hF _ (b.at_ p e).1 (b.at_ p e).2,b.l,λp e=>⟨Nat.lt_of_lt_of_le (b.at_ p e).1 f.size,(g _ (b.at_ p e).1).trans (b.at_ p e).2⟩⟩
structure UR where
 i:Int
 QI:Option (Sc×cL)
 ok:Nat
 w:Nat
 tc:Nat
 ic:Nat
def UR.v(u:UR):Value:=.func (.func 157) #[] ⟨[vP (some ⟨u.ok,0,none⟩),vP (some ⟨u.w,0,none⟩),vP (some ⟨u.tc,0,none⟩),vP (some ⟨u.ic,0,none⟩)]⟩
def υ(w:Option (Sc×cL)):Value:=match w with
 | some x=>x.1.v
 | none=>vS none 0 0
structure Und(h:ad)(ao:Nat->Nat)(tb:Nat)(u:UR):Prop where
 ok:rd h u.ok=[.bool u.QI.isSome]
 w:rd h u.w=[υ u.QI]
 tc:rd h u.tc=[vP (some ⟨tb,0,none⟩)]
 ic:rd h u.ic=[vI u.i]
 at_:∀b,b=u.ok∨b=u.w∨b=u.tc∨b=u.ic->b<h.size/\ao b=4
 b:∀x,u.QI=some x->τ h ao 4 x
theorem Und.keep{h h':ad}{ao ay:Nat->Nat}{tb:Nat}{u:UR}{F:NP}(a:Und h ao tb u)(f:Fr F h h')(g:Ag h.size ao ay)(hF:∀ b,b<h.size->ao b=4->¬ F b):Und h' ay tb u:=by
 have k:∀b,b=u.ok∨b=u.w∨b=u.tc∨b=u.ic->rd h' b=rd h b:=λb hb=>f.rd (a.at_ b hb).1 (hF b (a.at_ b hb).1 (a.at_ b hb).2);exact⟨(k _ (by simp)).trans a.ok,(k _ (by simp)).trans a.w,(k _ (by simp)).trans a.tc,(k _ (by simp)).trans a.ic,λb hb=>⟨Nat.lt_of_lt_of_le (a.at_ b hb).1 f.size,(g _ (a.at_ b hb).1).trans (a.at_ b hb).2⟩,λx e=>(a.b x e).keep f g hF⟩
structure TR where
 tb:Nat
 mb:Nat
 ua:OA
 uc:Nat
 ps:List (Int×(Sc×cL))
 us:List UR
structure IY(h:ad)(ao:Nat->Nat)(d:OA)(r:TR)(T:TM):Prop where
 vp:∀b,h.size<=b->ao b=0
 sc:ao r.tb=1
 own:dJ h r.tb
 cell:rd h r.tb=[vP d,.map (some r.mb),vS r.ua r.us.length r.uc,.bool false]
 mc:ao r.mb=2
 map:mz DI h r.mb (mm (λx=>x.1.v) r.ps)
 un:Sl h 1 r.ua r.us.length r.uc (r.us.map UR.v) (On ao 3)
 V5:∀p∈r.ps,τ h ao 4 p.2
 uok:∀u∈r.us,Und h ao r.tb u
 put:T.put=r.ps.map λp=>(p.1,p.2.2)
 ar:T.ar=r.us.map λu=>(u.i,u.QI.map (·.2))
 live:T.over=false
 dk:cw h (λb=>ao b=5) d T.aK
 pk:∀p∈T.put,98<=p.1/\p.1<T.N
 ui:∀u∈r.us,98<=u.i/\u.i<T.N
structure φ(h:ad)(ao:Nat->Nat)(d:OA)(tb:Nat)(T:TM):Prop where
 vp:∀b,h.size<=b->ao b=0
 sc:ao tb=1
 own:dJ h tb
 cell:rd h tb=[vP d,.map none,vS none 0 0,.bool true]
 gone:T.put=[]/\T.ar=[]
 over:T.over=true
 dk:cw h (λb=>ao b=5) d T.aK
def Tx(h:ad)(F:NP)(t d:OA)(T:TM):Prop:=
 (∃ao r,t=some ⟨r.tb,0,none⟩/\IY h ao d r T/\∀b,F b↔1<=ao b/\ao b<=5)∨(∃ao tb,t=some ⟨tb,0,none⟩/\φ h ao d tb T/\∀b,F b↔1<=ao b/\ao b<=5)
theorem IY.keep{h h':ad}{ao ay:Nat->Nat}{d:OA}{r:TR}{T:TM}{F:NP}(t:IY h ao d r T)(f:Fr F h h')(g:Ag h.size ao ay)(hz:∀ b,h'.size<=b->ay b=0)(hn:∀ b,h.size<=b->¬ (1<=ay b/\ay b<=5))(hF:∀ b,b<h.size->1<=ao b->ao b<=5->¬ F b):IY h' ay d r T:=by
 have hl:=t.own.lt;have s1:=t.sc;have s2:=t.mc;have ml:=map_lt t.map;have k4:∀b,b<h.size->ao b=4->¬F b:=λb hb e=>hF b hb (by omega) (by omega)
 refine⟨hz,(g _ hl).trans s1,f.own hl (hF _ hl (by omega) (by omega)) t.own,(f.rd hl (hF _ hl (by omega) (by omega))).trans t.cell,(g _ ml).trans s2,tj t.map f (hF _ ml (by omega) (by omega)),?_,
  λp hp=>(t.V5 p hp).keep f g k4,λu hu=>(t.uok u hu).keep f g k4,t.put,t.ar,t.live,?_,t.pk,t.ui⟩
 ·have s':=Hp.Sl.fr f t.un (λb hb hk=>hF b hb (by have hk:ao b=3:=hk;omega) (by have hk:ao b=3:=hk;omega));obtain⟨h1,h2⟩:=s';refine⟨h1,?_⟩;have ul:=t.un
  revert h2 ul
  cases r.ua with
  | none=>intro h2 _;exact h2
  | some p=>intro h2 ul;obtain⟨a1,a2,a3,a4⟩:=h2;exact⟨a1,(g _ ul.lt).trans a2,a3,a4⟩
 ·refine(t.dk.fr f λb hb=>hF b (t.dk.lt hb) (by have hb:ao b=5:=hb;omega) (by have hb:ao b=5:=hb;omega)).iff λb=>?_
  rcases Nat.lt_or_ge b h.size with h1|h1
  ·show ay b=5↔ao b=5;rw[g b h1]
  ·have:=hn b h1;have:=t.vp b h1;show ay b=5↔ao b=5;omega
theorem φ.keep{T:TM}(t:φ h ao d tb T)(f:Fr F h h')(hF:∀ b,b<h.size->1<=ao b->ao b<=5->¬ F b):φ h' ao d tb T:=by
 have hl:=t.own.lt;have s1:=t.sc;have hs:=f.size
 exact⟨λb hb=>t.vp b (by omega),s1,f.own hl (hF _ hl (by omega) (by omega)) t.own,(f.rd hl (hF _ hl (by omega) (by omega))).trans t.cell,t.gone,t.over,
  t.dk.fr f λb hb=>hF b (t.dk.lt hb) (by have hb:ao b=5:=hb;omega) (by have hb:ao b=5:=hb;omega)⟩
theorem Tx.lt{T:TM}(x:Tx h F t d T){b:Nat}(hb:F b):b<h.size:=by
 rcases Nat.lt_or_ge b h.size with h1|h1
 ·exact h1
 ·exfalso
  rcases x with⟨ao,r,_,c,hF⟩|⟨ao,tb,_,c,hF⟩
  ·have:=(hF b).mp hb;rw[c.vp b h1]at this;omega
  ·have:=(hF b).mp hb;rw[c.vp b h1]at this;omega
theorem Tx.fr{G:NP}{T:TM}(x:Tx h F t d T)(f:Fr G h h')(hG:∀ b,F b->¬ G b):Tx h' F t d T:=by
 have hs:=f.size
 rcases x with⟨ao,r,e,c,hF⟩|⟨ao,tb,e,c,hF⟩
 ·exact .inl ⟨ao,r,e,c.keep f (Ag.refl _ _) (λb hb=>c.vp b (by omega)) (λb hb y=>by rw[c.vp b hb]at y;omega) λb _ h1 h2=>hG b ((hF b).mpr ⟨h1,h2⟩),hF⟩
 ·exact .inr ⟨ao,tb,e,c.keep f λb _ h1 h2=>hG b ((hF b).mpr ⟨h1,h2⟩),hF⟩
theorem Tx.no{T:TM}(x:Tx h F t d T)(f:Fr No h h'):Tx h' F t d T:=x.fr f λ_ _ y=>y
theorem V6(s:Sl h 1 a l c xs F)(hm:m<=l):Sl h 1 a m c (xs.take m) F:=by
 cases a with
 | none=>
  obtain⟨h1,h2,h3⟩:=s;have:m=0:=by omega
  subst this;exact⟨rfl,rfl,h3⟩
 | some p=>
  obtain⟨h1,a1,a2,a3,a4,a5,a6⟩:=s;rw[Nat.mul_one]at h1;refine⟨by rw[lT0];omega,a1,a2,a3,by omega,?_,by rw[Nat.mul_one]at a6 ⊢;omega⟩;rw[lT0,h1,Nat.min_eq_left hm]
  conv=>rhs;rw[<-a5]
  rw[List.take_take,h1,Nat.min_eq_left hm]
theorem Tx.dk{h:ad}{F:NP}{t d:OA}{T:TM}(x:Tx h F t d T):∃D,cw h D d T.aK/\∀b,D b->F b:=by
 rcases x with⟨ao,r,e,c,hF⟩|⟨ao,tb,e,c,hF⟩
 ·exact⟨_,c.dk,λb hb=>(hF b).mpr (by have hb:ao b=5:=hb;omega)⟩
 ·exact⟨_,c.dk,λb hb=>(hF b).mpr (by have hb:ao b=5:=hb;omega)⟩
theorem oe{α:Type}{a:Option α}{p:α}{k:α->Prop}(e:a=some p)(h:k p):ae a k:=by rw[e];exact h
theorem Sf(D:NP)(x y:Nat):∃c:Nat->Nat,(∀b,D b->c b=x)/\∀b,¬D b->c b=y:=
 ⟨λb=>@ite _ (D b) (Classical.propDecidable _) x y,λb h=>if_pos h,λb h=>if_neg h⟩
theorem yt{D:NP}{S:RD}(a:cw h D d S)
  (hK:∀tb h' F,Fr No h h'->Gw h D h' F->Tx h' F (some ⟨tb,0,none⟩) d ⟨S,[],[],false⟩->K (vP (some ⟨tb,0,none⟩)) h'):C.pZ d h K:=by
 refine pZ.ok ?_;show az _ _ (Ht h) _;refine az.intro λh3 n3=>?_;have sm:=Gv h;have s3:=n3.size;have F:=(V3 h).new n3;have e:=n3.rd;have o:=n3.own;rw[sm]at e o;unfold bA;rw[sm];obtain⟨c,c1,c2⟩:=Sf D 5 0;have bK:∀b,D b->b<h.size:=λb hb=>a.lt hb;have cz:∀b,h.size<=b->c b=0:=λb hb=>c2 b λx=>by have:=bK b x;omega
 have cr:∀b,1<=c b->D b:=λb x=>by
  by_cases hd:D b
  ·exact hd
  ·rw[c2 b hd]at x;omega
 have cd:∀b,c b=5↔D b:=λb=>⟨λx=>cr b (by omega),c1 b⟩
 obtain⟨ao,k1,k2,k3⟩:∃ao:Nat->Nat,(∀b,b≠h.size->b≠h.size+1->ao b=c b)/\ao h.size=2/\ao (h.size+1)=1:=
  ⟨λb=>if b=h.size then 2 else if b=h.size+1 then 1 else c b,λb x y=>by show(if _ then _ else if _ then _ else _)=_;rw[if_neg x,if_neg y],if_pos rfl,by show(if _ then _ else if _ then _ else _)=_;rw[if_neg (by omega),if_pos rfl]⟩
 refine hK (h.size+1) h3 (λb=>1<=ao b/\ao b<=5) F ⟨λb hb=>?_,λb hb=>?_⟩ (.inl ⟨ao,⟨h.size+1,h.size,none,0,[],[]⟩,rfl,⟨λb hb=>?_,k3,o,e,k2,tj (V4 h) n3.fr λx=>x,Sl.nil _ _ _,λp hp=>(by cases hp),λu hu=>(by cases hu),rfl,rfl,rfl,?_,λp hp=>(by cases hp),λu hu=>(by cases hu)⟩,λb=>Iff.rfl⟩)
 ·show 1<=ao b/\ao b<=5↔D b;rw[k1 b (by omega) (by omega)];exact⟨λx=>cr b x.1,λx=>by rw[c1 b x];omega⟩
 ·have hb:1<=ao b/\ao b<=5:=hb
  by_cases x:b=h.size
  ·omega
  ·by_cases y:b=h.size+1
   ·omega
   ·rw[k1 b x y]at hb;have:=bK b (cr b hb.1);omega
 ·rw[k1 b (by omega) (by omega)];exact cz b (by omega)
 ·refine(a.no F).iff λb=>?_;show ao b=5↔D b
  by_cases x:b=h.size
  ·subst x;rw[k2];exact⟨λx=>(by omega),λx=>by have:=bK _ x;omega⟩
  ·by_cases y:b=h.size+1
   ·subst y;rw[k3];exact⟨λx=>(by omega),λx=>by have:=bK _ x;omega⟩
   ·rw[k1 b x y];exact cd b
theorem Gx(B:aw h a l bs)(hl:l<=140737488355328)
  (hK:∀a' c' h',Fr No h h'->Sl h' 1 a' l c' (bs.map bv) (dG h.size)->K (vS a' l c') h'):C.bD a l c h K:=uM B hl hK
theorem cD{T:TM}(x:Tx h F t d T)
  (hK:∀a l c h',Fr No h h'->l=(T.read i).1.length->Sl h' 1 a l c ((T.read i).1.map bv) (dG h.size)->K (.tuple #[vS a l c,vI (T.read i).2]) h'):C.cF t i h K:=by
 rcases x with⟨ao,r,rfl,c,hF⟩|⟨ao,tb,rfl,c,hF⟩
 ·refine cF.ok (os ⟨_,bJ c.cell rfl,cf rfl ?_⟩)
  have e0:T.read i=if i<0∨i>=T.N then([],31)else T.get i:=by
   unfold TM.read;rw[c.live,if_neg (by simp)]
  have bad:(i<0∨i>=T.N)->K (.tuple #[vS none 0 0,vI 31]) h:=λhb=>by
   rw[e0,if_pos hb]at hK;exact hK none 0 0 h (Fr.refl _ _) rfl (Sl.nil _ _ _)
  refine cd (λhn=>bad (.inl hn)) λh0=>os ⟨_,bJ c.cell rfl,c.dk.blocks ⟨_,rfl,cd (λhn=>bad (.inr hn)) λh1=>?_⟩⟩
  have e1:¬(i<0∨i>=T.N):=by
   rintro(x|x)
   ·exact h0 x
   ·exact h1 x
  rw[e0,if_neg e1]at hK;unfold cF.k1;refine os ⟨_,bJ c.cell rfl,_,c.map,?_⟩;dsimp only;rw[zn];have Px:cR T.put i=(cR r.ps i).map (·.2):=by rw[c.put];exact zm (λx:Sc×cL=>x.2) i r.ps
  cases e:cR r.ps i with
  | none=>
   rw[TM.get_none (by rw[Px,e];rfl)]at hK;refine⟨none,0,0,rfl,cf rfl (os ⟨_,bJ c.cell rfl,c.dk.read (λhd=>?_) (λ_ QG=>absurd ⟨by omega,by have:¬i>=(T.N:Int):=h1;have e:T.N=T.aK.aB.length:=rfl;omega⟩ QG) λhd _ _ b h' f s hl=>?_⟩)⟩
   ·rw[if_pos hd]at hK;exact⟨_,_,_,_,rfl,hK none 0 0 h (Fr.refl _ _) rfl (Sl.nil _ _ _)⟩
   ·rw[if_neg (by rw[hd];simp)]at hK;exact⟨_,_,_,_,rfl,hK _ 512 512 h' f hl.symm s⟩
  | some x=>
   rw[TM.get_some (b:=x.2) (by rw[Px,e];rfl)]at hK;have B:=c.V5 _ (tR e);have B:τ h ao 4 x:=B;have hl:x.1.l=512:=(by rw[<-B.s.1];exact B.l);refine⟨x.1.a,x.1.l,x.1.c,rfl,ct rfl (Gx B.s (by omega) λa' c' h' f s=>⟨_,_,_,rfl,?_⟩)⟩;exact hK a' x.1.l c' h' f B.s.1.symm s
 ·refine cF.ok (os ⟨_,bJ c.cell rfl,ct rfl ?_⟩);have e0:T.read i=([],61):=by unfold TM.read;rw[c.over,if_pos rfl]
  rw[e0]at hK;exact hK none 0 0 h (Fr.refl _ _) rfl (Sl.nil _ _ _)
theorem ng{T:TM}(x:Tx h F t d T)(hK:K (.tuple #[vI T.mark.1,vI T.mark.2]) h):C.iC t h K:=by
 rcases x with⟨ao,r,rfl,c,hF⟩|⟨ao,tb,rfl,c,hF⟩
 ·refine iC.ok (os ⟨_,bJ c.cell rfl,cf rfl (os ⟨_,_,_,bJ c.cell rfl,?_⟩)⟩);have:T.mark=((r.us.length:Int),0):=by unfold TM.mark;rw[c.live,if_neg (by simp),c.ar,lM0]
  rw[this]at hK;exact hK
 ·refine iC.ok (os ⟨_,bJ c.cell rfl,ct rfl ?_⟩);have:T.mark=(0,61):=by unfold TM.mark;rw[c.over,if_pos rfl]
  rw[this]at hK;exact hK
theorem Gy{m1:Option Nat}{W:qW}{sA:OA}{sL sC:Nat}
  (hc:∀hq,Fr No h hq->cellOf hq (Addr.add ⟨tb,0,none⟩ 1)=some (.map m1)) (hM:∀hq (K':qW->Prop),Fr No h hq->K' W->tB DI m1 hq K') (hs:Option.getD (mX W (.i i)) (zeroV B8) = vS sA sL sC)
  (fin:∀(h2:ad) h7 wb ob,h2.size=h.size+1->Fr No h h7->h.size+2<=wb->h.size+2<=ob->wb<h7.size->ob<h7.size->wb≠ob->rd h7 h.size=[vP (some ⟨tb,0,none⟩)]->rd h7 (h.size+1)=[vI i]->
   rd h7 wb=[vS sA sL sC]->rd h7 ob=[.bool (mX W (.i i)).isSome]->aY.k1 a l c h h2 (some ⟨wb,0,none⟩) (some ⟨ob,0,none⟩) h7 K):C.aY (some ⟨tb,0,none⟩) i a l c h K:=by
 refine aY.ok (az.intro λh2 n2=>az.intro λh3 n3=>?_);have s2:=n2.size;have s3:=n3.size;have F3:=n2.fr.new n3;have r1:rd h3 h.size=[vP (some ⟨tb,0,none⟩)]:=(n3.at_).trans n2.rd;have r2:rd h3 h2.size=[vI i]:=n3.rd;refine⟨_,cI r1 rfl,os ⟨_,hc h3 F3,_,cI r2 rfl,?_⟩⟩;have C1:∀{hq:ad},Fr No h3 hq->cellOf hq (bA h)=some (vP (some ⟨tb,0,none⟩)):=λfq=>cI ((fq.rd (by omega) λx=>x).trans r1) rfl;have C2:∀{hq:ad},Fr No h3 hq->cellOf hq (Addr.add ⟨tb,0,none⟩ 1)=some (.map m1):=λfq=>hc _ (F3.no fq);have C3:∀{hq:ad},Fr No h3 hq->cellOf hq (bA h2)=some (vI i):=λfq=>cI ((fq.rd (by omega) λx=>x).trans r2) rfl;have M:∀{hq:ad} {K':qW->Prop},Fr No h3 hq->K' W->tB DI m1 hq K':=λfq k=>hM _ _ (F3.no fq) k
 -- two new blocks, written: then the rest
 have adE:∀{hq:ad} {wb ob:Nat} {zw zo:Value},Fr No h3 hq->wb≠ob->h3.size<=wb->h3.size<=ob->dJ hq wb->dJ hq ob->rd hq wb=[zw]->rd hq ob=[zo]->
   aO ⟨wb,0,none⟩ (vS sA sL sC) hq λh6=>aO ⟨ob,0,none⟩ (.bool (Option.isSome (mX W (.i i)))) h6 λh7=>aY.k1 a l c h h2 (some ⟨wb,0,none⟩) (some ⟨ob,0,none⟩) h7 K:=by
  intro hq wb ob zw zo fq dp hw ho ow oo rw' ro';refine aO.intro ow (by rw[rw'];exact Nat.one_pos) λh6 d6=>?_;have ro6:rd h6 ob=[zo]:=(d6.at_ oo.lt (λe=>dp e.symm)).trans ro';refine aO.intro (d6.ow oo) (by rw[ro6];exact Nat.one_pos) λh7 d7=>?_;have F7:Fr No h h7:=((F3.no fq).did d6 λbK=>by omega).did d7 λbK=>by omega
  have F7':Fr No h3 h7:=(fq.did d6 λbK=>by omega).did d7 λbK=>by omega
  have z7:=F7'.size;have z6:=d6.size;have z7':=d7.size;have lo:=oo.lt;have lw:=ow.lt;exact fin h2 h7 wb ob s2 F7 (by omega) (by omega) (by omega) (by omega) dp ((F7'.rd (by omega) λx=>x).trans r1) (by rw[<-s2];exact(F7'.rd (by omega) λx=>x).trans r2)
   ((d7.at_ (by omega) dp).trans (by rw[d6.rd,rw'];rfl)) (by rw[d7.rd,ro6];rfl)
 have Py:∀{hq hr hs:ad} {v1 v2:Value},Fr No h3 hq->sM hq hr [v1]->sM hr hs [v2]->
   (aO (bA hq) (vS sA sL sC) hs λh6=>aO (bA hr) (.bool (Option.isSome (mX W (.i i)))) h6 λh7=>aY.k1 a l c h h2 (some (bA hq)) (some (bA hr)) h7 K)/\
   (aO (bA hr) (vS sA sL sC) hs λh6=>aO (bA hq) (.bool (Option.isSome (mX W (.i i)))) h6 λh7=>aY.k1 a l c h h2 (some (bA hr)) (some (bA hq)) h7 K):=by
  intro hq hr hs v1 v2 fq n1 Uw;have z1:=n1.size;have z2:=Uw.size;have zq:=fq.size;have g:rd hs hq.size=[v1]:=(Uw.at_).trans n1.rd;exact⟨adE ((fq.new n1).new Uw) (by omega) (by omega) (by omega) (Uw.ow n1.own) Uw.own g Uw.rd,adE ((fq.new n1).new Uw) (by omega) (by omega) (by omega) Uw.own (Uw.ow n1.own) Uw.rd g⟩
 refine⟨M (Fr.refl _ _) ⟨_,_,_,hs,az.intro λh4 n4=>⟨C1 n4.fr,C2 n4.fr,C3 n4.fr,az.intro λh5 n5=>⟨C1 (n4.fr.new n5),C2 (n4.fr.new n5),C3 (n4.fr.new n5),(Py (Fr.refl _ _) n4 n5).1⟩⟩,
  az.intro λh4 n4=>⟨C1 n4.fr,C2 n4.fr,C3 n4.fr,az.intro λh5 n5=>⟨C1 (n4.fr.new n5),C2 (n4.fr.new n5),C3 (n4.fr.new n5),(Py (Fr.refl _ _) n4 n5).2⟩⟩⟩,
  az.intro λh4 n4=>⟨C1 n4.fr,C2 n4.fr,C3 n4.fr,M n4.fr ⟨_,_,_,hs,az.intro λh5 n5=>⟨C1 (n4.fr.new n5),C2 (n4.fr.new n5),C3 (n4.fr.new n5),(Py (Fr.refl _ _) n4 n5).1⟩⟩,
   az.intro λh5 n5=>⟨C1 (n4.fr.new n5),C2 (n4.fr.new n5),C3 (n4.fr.new n5),M (n4.fr.new n5) ⟨_,_,_,hs,(Py (Fr.refl _ _) n4 n5).1⟩⟩⟩,
  az.intro λh4 n4=>⟨C1 n4.fr,C2 n4.fr,C3 n4.fr,M n4.fr ⟨_,_,_,hs,az.intro λh5 n5=>⟨C1 (n4.fr.new n5),C2 (n4.fr.new n5),C3 (n4.fr.new n5),(Py (Fr.refl _ _) n4 n5).2⟩⟩,
   az.intro λh5 n5=>⟨C1 (n4.fr.new n5),C2 (n4.fr.new n5),C3 (n4.fr.new n5),M (n4.fr.new n5) ⟨_,_,_,hs,(Py (Fr.refl _ _) n4 n5).2⟩⟩⟩⟩
theorem tl{c:Bool}{A B:Prop}(b:B)(a:c=true->B->A):bif c then A else B:=by
 cases c with
 | false=>exact b
 | true=>exact a rfl b
theorem eF{T:TM}{bs:cL}(x:Tx h F t d T)(B:aw h a l bs)(hl:l<=140737488355328)(ha:∀ p,a=some p->¬ F p.block)(hu:T.ar.length<1000000000)
  (hK:∀h' F',Fr F h h'->Gw h F h' F'->Tx h' F' t d (T.write i bs).1->K (vI (T.write i bs).2) h'):C.aY t i a l c h K:=by
 have sf:=B.1;have bK:=λb hb=>x.lt (b:=b) hb
 rcases x with⟨ao,r,rfl,X,hF⟩|⟨ao,tb,rfl,X,hF⟩
 rotate_left
 ·refine Gy (m1:=none) (W:=[]) (sA:=none) (sL:=0) (sC:=0) (λhq f=>bJ ((f.rd X.own.lt λx=>x).trans X.cell) rfl) (λhq K' _ k=>k) rfl λh2 h7 wb ob _ f7 w1 o1 w2 o2 _ r1 _ _ _=>?_;have e0:T.write i bs=(T,61):=by unfold TM.write;rw[X.over,if_pos rfl]
  rw[e0]at hK;have X7:=X.keep f7 λ_ _ _ _ x=>x;refine⟨_,cI r1 rfl,os ⟨_,bJ X7.cell rfl,ct rfl ?_⟩⟩;exact hK h7 F (f7.mono λ_ _ x=>x.elim) (Gw.refl f7.size bK) (.inr ⟨ao,tb,rfl,X7,hF⟩)
 ·have Px:cR T.put i=(cR r.ps i).map (·.2):=by rw[X.put];exact zm (λx:Sc×cL=>x.2) i r.ps
  have L9:T.put.length=r.ps.length:=by rw[X.put,lM0]
  have eul:T.ar.length=r.us.length:=by rw[X.ar,lM0]
  obtain⟨sA,sL,sC,esl⟩:∃(sA:OA) (sL:Nat) (sC:Nat),υ (cR r.ps i) = vS sA sL sC:=by
   cases cR r.ps i with
   | none=>exact⟨_,_,_,rfl⟩
   | some x=>exact⟨_,_,_,rfl⟩
  have esl2:Option.getD (mX (mm (λx:Sc×cL=>x.1.v) r.ps) (.i i)) (zeroV B8) = vS sA sL sC:=by
   rw[zn,<-esl]
   cases cR r.ps i <;> rfl
  refine Gy (m1:=some r.mb) (W:=mm (λx=>x.1.v) r.ps) (λhq f=>bJ ((f.rd X.own.lt λx=>x).trans X.cell) rfl) (λhq K' f k=>⟨_,tj X.map f λx=>x,k⟩) esl2 λh2 h8 wb ob s2 f w1 o1 w2 o2 dp r1 r2 rw' ro=>?_;have eis:(mX (mm (λx:Sc×cL=>x.1.v) r.ps) (.i i)).isSome=(cR r.ps i).isSome:=by rw[zn];cases cR r.ps i <;> rfl
  rw[eis]at ro;have X8:IY h8 ao d r T:=X.keep f (Ag.refl _ _) (λb hb=>X.vp b (by have:=f.size;omega)) (λb hb y=>by rw[X.vp b hb]at y;omega) λ_ _ _ _ x=>x
  have refuse:∀e h9,h9=h8->T.write i bs=(T,e)->K (vI e) h9:=λe h9 e9 e0=>by
   subst e9;rw[e0]at hK;exact hK h9 F (f.mono λ_ _ x=>x.elim) (Gw.refl f.size bK) (.inl ⟨ao,r,rfl,X8,hF⟩)
  have live:=X.live;have fs:=f.size;have tbl:=X.own.lt;have mbl:=map_lt X.map;have ctb:=X.sc;have cmb:=X.mc;rw[<-s2]at r2;refine⟨_,cI r1 rfl,os ⟨_,bJ X8.cell rfl,cf rfl ⟨_,cI r2 rfl,cd (λhn=>refuse 31 h8 rfl ?_) λh98=>⟨_,cI r2 rfl,_,cI r1 rfl,os ⟨_,bJ X8.cell rfl,X8.dk.blocks ⟨_,rfl,cI r2 rfl,cd (λhn=>refuse 31 h8 rfl ?_) λhN=>cn (λh5=>refuse 32 h8 rfl ?_) λh5=>?_⟩⟩⟩⟩⟩⟩
  ·unfold TM.write;rw[live,if_neg (by simp),if_pos (.inl hn)]
  ·unfold TM.write;rw[live,if_neg (by simp),if_pos (.inr hn)]
  ·unfold TM.write;rw[live,if_neg (by simp),if_neg (by rintro(x|x);exact h98 x;exact hN x),if_pos (by omega)]
  have V7:¬(i<98∨i>=T.N):=by rintro(x|x);exact h98 x;exact hN x
  have h5':bs.length=512:=by omega
  refine os ⟨_,cI ro rfl,?_⟩
  by_cases vq:cR r.ps i=none/\r.ps.length>=96
  ·refine ct (by rw[vq.1];rfl) ⟨_,cI r1 rfl,os ⟨_,bJ X8.cell rfl,_,X8.map,?_⟩⟩;dsimp only;rw[wY];refine ct (decide_eq_true (by omega)) (refuse 60 h8 rfl ?_);unfold TM.write;rw[live,if_neg (by simp),if_neg V7,if_neg (by omega),if_pos ⟨by rw[Px,vq.1];rfl,by omega⟩]
  have e0:T.write i bs=({ T with put:=ja T.put i bs,ar:=T.ar++[(i,cR T.put i)] },0):=by
   unfold TM.write;rw[live,if_neg (by simp),if_neg V7,if_neg (by omega),if_neg];rw[Px,L9];rintro⟨x1,x2⟩;refine vq ⟨?_,x2⟩
   cases e:cR r.ps i with
   | none=>rfl
   | some y=>rw[e]at x1;cases x1
  rw[e0]at hK;refine tl ?_ λho go=>?_
  rotate_left
  ·have Rc:cR r.ps i=none:=by
    cases e:cR r.ps i with
    | none=>rfl
    | some x=>rw[e]at ho;cases ho
   refine⟨_,cI r1 rfl,os ⟨_,bJ X8.cell rfl,_,X8.map,?_⟩⟩;dsimp only;rw[wY];exact cf (decide_eq_false λhx=>vq ⟨Rc,by omega⟩) go
  -- the put
  have k1:∀{b:Nat},b<h.size->ao b≠3->¬On ao 3 b:=λ_ hb x=>hb x;refine⟨_,cI r1 rfl,_,cI r1 rfl,os ⟨_,_,_,bJ X8.cell rfl,az.intro λcB n10=>?_⟩⟩;have Ma:=n10.size;have Ux:IY cB ao d r T:=X8.keep n10.fr (Ag.refl _ _) (λb hb=>X.vp b (by omega)) (λb hb y=>by rw[X.vp b (by omega)]at y;omega) λ_ _ _ _ x=>x;have χ:=(n10.at_ (show h.size<h8.size by omega)).trans r1;have r2':=(n10.at_ (show h2.size<h8.size by omega)).trans r2;refine⟨cI χ rfl,cI χ rfl,bJ Ux.cell rfl,_,rfl,ah n10.rd,by intro v hv;rw[List.mem_singleton.mp hv];rfl,?_⟩;refine dh Ux.un rfl rfl (by show(r.us.length+1)*_<=_;have b16:ti1.bytes<=16:=(by decide);have:=Nat.mul_le_mul (show r.us.length+1<=1000000001 from(by omega)) b16;exact Nat.le_trans this (by decide)) (by omega) λa' c' bQ f11 Fc=>?_;have Pz:=f11.size;have nz:∀b,h.size<=b->¬On ao 3 b:=λb hb x=>by have x:ao b=3:=x;rw[X.vp b hb]at x;omega
  have nt:¬On ao 3 r.tb:=λx=>by have x:ao r.tb=3:=x;omega
  have nm:¬On ao 3 r.mb:=λx=>by have x:ao r.mb=3:=x;omega
  have g1:rd bQ h.size=[vP (some ⟨r.tb,0,none⟩)]:=(f11.rd (by omega) (nz _ nL0)).trans χ;have g2:rd bQ h2.size=[vI i]:=(f11.rd (by omega) (nz _ (by omega))).trans r2';have gt:=(f11.rd Ux.own.lt nt).trans Ux.cell;have gw:rd bQ wb=[υ (cR r.ps i)]:=by rw[esl];exact(f11.rd (by omega) (nz _ (by omega))).trans ((n10.at_ w2).trans rw')
  have go':rd bQ ob=[.bool (cR r.ps i).isSome]:=(f11.rd (by omega) (nz _ (by omega))).trans ((n10.at_ o2).trans ro);refine⟨cI g1 rfl,os (aO.add (f11.own Ux.own.lt nt Ux.own) (by rw[gt];show 0+2<4;omega) λcG d12=>?_)⟩;have QJ:=d12.size;have g1:rd cG h.size=[vP (some ⟨r.tb,0,none⟩)]:=(d12.at_).trans g1;have g2:rd cG h2.size=[vI i]:=(d12.at_).trans g2;have gw:=(d12.at_ (show wb<bQ.size by omega) (by omega)).trans gw;have go':=(d12.at_ (show ob<bQ.size by omega) (by omega)).trans go';have gt:rd cG r.tb=[vP d,.map (some r.mb),vS a' (r.us.length+1) c',.bool false]:=d12.rd.trans (by rw[gt];rfl);have nF:∀p,a=some p->¬F p.block:=ha;have B12:aw cG a l bs:=aw.fr d12.fr (aw.fr f11 (aw.fr n10.fr (aw.fr f B λ_ _ x=>x) λ_ _ x=>x) λq e y=>ha q e ((hF _).mpr (by have y:ao q.block=3:=y;omega))) λq e y=>ha q e ((hF _).mpr (by rw[y];omega));refine⟨_,cI g1 rfl,os ⟨_,bJ gt rfl,_,cI g2 rfl,Gx B12 hl λaq cq cg f13 s13=>?_⟩⟩;have V8:=f13.size;have g1:rd cg h.size=[vP (some ⟨r.tb,0,none⟩)]:=(f13.rd (by omega) λx=>x).trans g1;have g2:rd cg h2.size=[vI i]:=(f13.rd (by omega) λx=>x).trans g2;have gw:=(f13.rd (show wb<cG.size by omega) λx=>x).trans gw;have go':=(f13.rd (show ob<cG.size by omega) λx=>x).trans go';have gt:=(f13.rd (by omega) λx=>x).trans gt;have ot:=f13.own d12.own.lt (λx=>x) d12.own;have hmt:r.mb≠r.tb:=λe=>by rw[e]at cmb;omega
  have m13:mz DI cg r.mb (mm (λx=>x.1.v) r.ps):=tj (tj (tj Ux.map f11 nm) d12.fr hmt) f13 λx=>x;refine⟨_,_,_,rfl,cI g1 rfl,bJ gt rfl,cI g2 rfl,os ⟨_,m13,λcM t14=>?_⟩⟩;have f14:=zp t14;have Sg:=t14.size;have m14:=t14.at_;rw[show vS aq l cq=(λx:Sc×cL=>x.1.v) (⟨aq,l,cq⟩,bs) from rfl,H9]at m14
  have G:Fr (λb=>ao b=3∨b=r.tb∨b=r.mb) h cM:=
   ((((((f.new n10).mono (G:=λb=>ao b=3∨b=r.tb∨b=r.mb) λ_ _ x=>x.elim).trans f11 λb _ x=>Or.inl x).did d12 λ_=>Or.inr (Or.inl rfl)).no f13).trans f14 λb _ x=>Or.inr (Or.inr x))
  -- the afU
  have ub:∀p,a'=some p->(ao p.block=3∨cB.size<=p.block)/\p.block<bQ.size:=by
   rintro p rfl;exact⟨Fc.2.2.1,Fc.lt⟩
  have qb:∀p,aq=some p->cG.size<=p.block/\p.block<cg.size:=by
   rintro p rfl;exact⟨s13.2.2.1,s13.lt⟩
  obtain⟨ay,ag,cz,c4,c3,cq4,c5⟩:∃ay:Nat->Nat,Ag h.size ao ay/\(∀b,cM.size<=b->ay b=0)/\(∀b,b=h.size∨b=h2.size∨b=wb∨b=ob->ay b=4)/\(∀p,a'=some p->ay p.block=3)/\(∀p,aq=some p->ay p.block=4)/\(∀b,h.size<=b->ay b=0∨ay b=3∨ay b=4):=by
   refine⟨λb=>if b<h.size then ao b else if b=h.size∨b=h2.size∨b=wb∨b=ob then 4 else if a'.map (·.block)=some b then 3 else if aq.map (·.block)=some b then 4 else 0,λb hb=>if_pos hb,λb hb=>?_,λb hb=>?_,λp e=>?_,λp e=>?_,λb hb=>?_⟩
   ·show(if _ then _ else if _ then _ else if _ then _ else if _ then _ else _)=_;rw[if_neg (by omega),if_neg (by omega),if_neg,if_neg]
    ·intro e
     cases ψ:aq with
     | none=>rw[ψ]at e;cases e
     | some p=>rw[ψ]at e;have:=(qb p ψ).2;have e:p.block=b:=Option.some.inj e;omega
    ·intro e
     cases ψ:a' with
     | none=>rw[ψ]at e;cases e
     | some p=>rw[ψ]at e;have:=(ub p ψ).2;have e:p.block=b:=Option.some.inj e;omega
   ·show(if _ then _ else if _ then _ else if _ then _ else if _ then _ else _)=_;rw[if_neg (by omega),if_pos hb]
   ·show(if _ then _ else if _ then _ else if _ then _ else if _ then _ else _)=_;have:=ub p e
    rcases Nat.lt_or_ge p.block h.size with h1|h1
    ·rw[if_pos h1]
     rcases this.1 with h3|h3
     ·exact h3
     ·omega
    ·have h3:cB.size<=p.block:=by
      rcases this.1 with h3|h3
      ·rw[X.vp _ h1]at h3;omega
      ·exact h3
     rw[if_neg (by omega),if_neg (by omega),if_pos (by rw[e];rfl)]
   ·show(if _ then _ else if _ then _ else if _ then _ else if _ then _ else _)=_;have:=qb p e;rw[if_neg (by omega),if_neg (by omega),if_neg,if_pos (by rw[e];rfl)];intro e2
    cases ha':a' with
    | none=>rw[ha']at e2;cases e2
    | some q=>rw[ha']at e2;have:=(ub q ha').2;have e2:q.block=p.block:=Option.some.inj e2;omega
   ·show(if _ then _ else if _ then _ else if _ then _ else if _ then _ else _)=0∨(if _ then _ else if _ then _ else if _ then _ else if _ then _ else _)=3∨(if _ then _ else if _ then _ else if _ then _ else if _ then _ else _)=4;rw[if_neg (by omega)]
    split
    ·exact .inr (.inr rfl)
    ·split
     ·exact .inr (.inl rfl)
     ·split
      ·exact .inr (.inr rfl)
      ·exact .inl rfl
  have k4:∀b,b<h.size->ao b=4->¬(ao b=3∨b=r.tb∨b=r.mb):=by
   rintro b _ e (x|x|x)
   ·omega
   ·rw[x]at e;omega
   ·rw[x]at e;omega
  have hF':Gw h F cM (λb=>1<=ay b/\ay b<=5):=⟨λb hb=>by rw[hF b,ag b hb],λb hb=>by
   rcases Nat.lt_or_ge b cM.size with h1|h1
   ·exact h1
   ·have hb:1<=ay b/\ay b<=5:=hb
    rw[cz b h1]at hb;omega⟩
  refine hK cM (λb=>1<=ay b/\ay b<=5) (G.mono λb _ x=>(hF b).mpr ?_) hF' (.inl ⟨ay,⟨r.tb,r.mb,a',c',ja r.ps i (⟨aq,l,cq⟩,bs),r.us++[⟨i,cR r.ps i,ob,wb,h.size,h2.size⟩]⟩,rfl,⟨cz,(ag _ tbl).trans ctb,?_,?_,(ag _ mbl).trans cmb,m14,?_,λp hp=>?_,λu hu=>?_,?_,?_,live,?_,λp hp=>?_,λu hu=>?_⟩,λb=>Iff.rfl⟩)
  ·rcases x with x|rfl|rfl <;> omega
  ·exact f14.own ot.lt (λx=>hmt x.symm) ot
  ·rw[lA0,List.length_singleton];exact(f14.rd ot.lt λx=>hmt x.symm).trans gt
  ·rw[lA0,List.length_singleton,List.map_append];have u14:=((Fc.fr d12.fr λb hb x e=>?_).fr f13 λ_ _ _ x=>x).fr f14 λb hb x e=>?_
   ·obtain⟨y1,y2⟩:=u14;refine⟨y1,?_⟩
    revert y2 c3
    cases a' with
    | none=>intro _ y2;exact y2
    | some p=>intro c3 y2;obtain⟨v1,v2,v3⟩:=y2;exact⟨v1,c3 p rfl,v3⟩
   ·rw[e]at x
    rcases x with x|x
    ·have x:ao r.tb=3:=x;omega
    ·omega
   ·have e:b=r.mb:=e;rw[e]at x
    rcases x with x|x
    ·have x:ao r.mb=3:=x;omega
    ·omega
  ·rcases we hp with rfl|hp
   ·refine⟨aw.fr f14 ?_ ?_,h5',λp e=>⟨by have:=(qb p e).2;omega,cq4 p e⟩⟩
    ·refine⟨sf,?_⟩;exact s13.cells
    ·intro p e x;have:=(qb p e).1;have x:p.block=r.mb:=x;omega
   ·exact(X.V5 p hp).keep G ag k4
  ·rcases List.mem_append.mp hu with hu|hu
   ·exact(X.uok u hu).keep G ag k4
   ·rw[List.mem_singleton.mp hu];have fr:∀b,h.size<=b->b<cg.size->rd cM b=rd cg b:=λb hb XB=>f14.rd XB λe=>by have e:b=r.mb:=e;omega
    refine⟨(fr ob (by omega) (by omega)).trans go',(fr wb (by omega) (by omega)).trans gw,(fr h.size (by omega) (by omega)).trans g1,(fr h2.size (by omega) (by omega)).trans g2,λb hb=>⟨?_,c4 b ?_⟩,λy ey=>?_⟩
    ·have hb:b=ob∨b=wb∨b=h.size∨b=h2.size:=hb;omega
    ·rcases hb with rfl|rfl|rfl|rfl
     ·exact .inr (.inr (.inr rfl))
     ·exact .inr (.inr (.inl rfl))
     ·exact .inl rfl
     ·exact .inr (.inl rfl)
    ·exact(X.V5 _ (tR ey)).keep G ag k4
  ·show ja T.put i bs=_;rw[X.put];exact DC (λx:Sc×cL=>x.2) i (⟨aq,l,cq⟩,bs) r.ps
  ·show T.ar++[(i,cR T.put i)]=_;rw[X.ar,Px,List.map_append];rfl
  ·refine(X.dk.fr G λb hb=>?_).iff λb=>?_
   ·have hb:ao b=5:=hb;rintro(x|x|x)
    ·omega
    ·rw[x]at hb;omega
    ·rw[x]at hb;omega
   ·show ay b=5↔ao b=5
    rcases Nat.lt_or_ge b h.size with h1|h1
    ·rw[ag b h1]
    ·have:=c5 b h1;have:=X.vp b h1;omega
  ·rcases we hp with rfl|hp
   ·exact⟨by omega,by have:¬i>=(T.N:Int):=λy=>V7 (.inr y);show i<(T.N:Int);omega⟩
   ·exact X.pk p hp
  ·rcases List.mem_append.mp hu with hu|hu
   ·exact X.ui u hu
   ·rw[List.mem_singleton.mp hu];exact⟨by show 98<=i;omega,by have:¬i>=(T.N:Int):=λy=>V7 (.inr y);show i<(T.N:Int);omega⟩
def zr(m:List (Int×(Sc×cL)))(u:UR):List (Int×(Sc×cL)):=match u.QI with
 | some x=>ja m u.i x
 | none=>yr m u.i
theorem PA(m:List (Int×(Sc×cL)))(u:UR):((zr m u).map λp=>(p.1,p.2.2))=pO (m.map λp=>(p.1,p.2.2)) (u.i,u.QI.map (·.2)):=by
 unfold zr pO
 cases u.QI with
 | none=>exact(JS (λx:Sc×cL=>x.2) u.i m).symm
 | some x=>exact(DC (λx:Sc×cL=>x.2) u.i x m).symm
theorem H'(m:List (Int×cL))(us:List (Int×Option cL)){k:Nat}(hk:k<us.length):df m (us.drop k)=pO (df m (us.drop (k+1))) us[k]:=by
 rw[List.drop_eq_getElem_cons hk];rfl
theorem IY.Yw{r:TR}{T:TM}(x:IY h ao d r T){V9:List (Int×(Sc×cL))}{ω:List (Int×cL)}(m:MapTo DI h r.mb (mm (λx=>x.1.v) V9) h')(hp:∀ p ∈ V9,p ∈ r.ps∨τ h ao 4 p.2)(e:ω=V9.map λp=>(p.1,p.2.2))(hk:∀ p ∈ ω,98<=p.1/\p.1<T.N) :
  IY h' ao d { r with ps:=V9 } { T with put:=ω }:=by
 have f:=zp m;have s1:=x.sc;have s2:=x.mc;have hmt:r.tb≠r.mb:=λe=>by rw[e]at s1;omega
 have k4:∀b,b<h.size->ao b=4->¬b=r.mb:=λb _ e e2=>by rw[e2]at e;omega
 have hs:=m.size;refine⟨λb hb=>x.vp b (by omega),s1,f.own x.own.lt hmt x.own,(f.rd x.own.lt hmt).trans x.cell,s2,m.at_,x.un.fr f λb _ hb e=>?_,λp xB=>?_,λu hu=>(x.uok u hu).keep f (Ag.refl _ _) k4,e,x.ar,x.live,x.dk.fr f λb hb e=>?_,hk,x.ui⟩
 ·have hb:ao b=3:=hb;have e:b=r.mb:=e;rw[e]at hb;omega
 ·rcases hp p xB with h1|h1
  ·exact(x.V5 p h1).keep f (Ag.refl _ _) k4
  ·exact h1.keep f (Ag.refl _ _) k4
 ·have hb:ao b=5:=hb;have e:b=r.mb:=e;rw[e]at hb;omega
theorem wZ{r:TR}{T:TM}{u:UR}(x:IY h ao d r T)(hu:u ∈ r.us)
  (hK:∀h',Fr (λb=>b=r.mb) h h'->IY h' ao d { r with ps:=zr r.ps u } { T with put:=pO T.put (u.i,u.QI.map (·.2)) }->K (.tuple #[]) h'):cT Tryz.prog u.v [] h K:=by
 have U:=x.uok u hu;show C.jI (some ⟨u.ok,0,none⟩) (some ⟨u.w,0,none⟩) (some ⟨u.tc,0,none⟩) (some ⟨u.ic,0,none⟩) h K;refine jI.ok (os ⟨_,cI U.ok rfl,?_⟩)
 have hk:∀p∈pO T.put (u.i,u.QI.map (·.2)),98<=p.1/\p.1<T.N:=by
  intro p hp;unfold pO at hp
  split at hp
  ·rcases we hp with rfl|hp
   ·exact x.ui u hu
   ·exact x.pk p hp
  ·exact x.pk p (DB hp)
 have ew:pO T.put (u.i,u.QI.map (·.2))=(zr r.ps u).map λp=>(p.1,p.2.2):=by rw[PA,x.put]
 cases e:u.QI with
 | none=>
  refine cf rfl (os ⟨_,cI U.tc rfl,os ⟨_,bJ x.cell rfl,os ⟨_,cI U.ic rfl,_,x.map,λh3 t3=>?_⟩⟩⟩);have t3:=t3.toMapTo;rw[N7]at t3;have er:zr r.ps u=yr r.ps u.i:=by unfold zr;rw[e]
  rw[er]at hK ew;exact hK h3 (zp t3) (x.Yw t3 (λp hp=>.inl (DB hp)) ew hk)
 | some y=>
  have hw:rd h u.w=[y.1.v]:=by rw[U.w,e];rfl
  refine ct rfl (os ⟨_,cI U.tc rfl,os ⟨_,bJ x.cell rfl,os ⟨_,cI U.ic rfl,os ⟨_,_,_,cI hw rfl,os ⟨_,x.map,λh2 t2=>?_⟩⟩⟩⟩⟩);rw[show vS y.1.a y.1.l y.1.c=(λx:Sc×cL=>x.1.v) y from rfl,H9]at t2;have er:zr r.ps u=ja r.ps u.i y:=by unfold zr;rw[e]
  rw[er]at hK ew;refine hK h2 (zp t2) (x.Yw t2 (λp hp=>?_) ew hk)
  rcases we hp with rfl|hp
  ·exact .inr (U.b y e)
  ·exact .inl hp
theorem nh{T:TM}{mark:Int}(x:Tx h F t d T)(hu:T.ar.length<1000000000)
  (hK:∀h',Fr F h h'->Tx h' F t d (T.back mark).1->K (vI (T.back mark).2) h'):C.ft t mark h K:=by
 rcases x with⟨ao,r,rfl,X,hF⟩|⟨ao,tb,rfl,X,hF⟩
 rotate_left
 ·refine ft.ok (os ⟨_,bJ X.cell rfl,ct rfl ?_⟩);have e0:T.back mark=(T,61):=by unfold TM.back;rw[X.over,if_pos rfl]
  rw[e0]at hK;exact hK h (Fr.refl _ _) (.inr ⟨ao,tb,rfl,X,hF⟩)
 ·have eul:T.ar.length=r.us.length:=by rw[X.ar,lM0]
  have live:=X.live;refine ft.ok (os ⟨_,bJ X.cell rfl,cf rfl (cd (λhn=>?_) λh0=>os ⟨_,_,_,bJ X.cell rfl,cd (λhn=>?_) λh1=>?_⟩)⟩)
  ·have e0:T.back mark=(T,62):=(by unfold TM.back;rw[live,if_neg (by simp),if_pos (.inl hn)]);rw[e0]at hK;exact hK h (Fr.refl _ _) (.inl ⟨ao,r,rfl,X,hF⟩)
  ·have e0:T.back mark=(T,62):=(by unfold TM.back;rw[live,if_neg (by simp),if_pos (.inr (by omega))]);rw[e0]at hK;exact hK h (Fr.refl _ _) (.inl ⟨ao,r,rfl,X,hF⟩)
  have e0:T.back mark=({ T with put:=df T.put (T.ar.drop mark.toNat),ar:=T.ar.take mark.toNat },0):=by unfold TM.back;rw[live,if_neg (by simp),if_neg (by omega)]
  rw[e0]at hK;unfold ft.k1;refine os ⟨_,_,_,bJ X.cell rfl,?_⟩;rw[wq ((r.us.length:Int)-1)]
  refine⟨λk hh=>mark-1<=k/\k<r.us.length/\Fr (λb=>b=r.mb) h hh/\∃V9,IY hh ao d { r with ps:=V9 } { T with put:=df T.put (T.ar.drop (k+1).toNat) },λk _=>(k+1).toNat,
   ⟨by omega,by omega,Fr.refl _ _,r.ps,?_⟩,?_⟩
  ·rw[show((r.us.length:Int)-1+1).toNat=T.ar.length by omega,List.drop_length];exact X
  rintro k h2 ⟨k0,k1,f2,V9,X2⟩;refine cd (λhk=>?_) λhk=>?_
  ·have yM:k.toNat<r.us.length:=(by omega);have X2c:rd h2 r.tb=[vP d,.map (some r.mb),vS r.ua r.us.length r.uc,.bool false]:=X2.cell;obtain⟨p,ep,cc⟩:=X2.un.get (by show 0<r.us.length;omega);have ep:r.ua=some p:=ep;have cc:aj h2 p (r.us.map UR.v):=cc;have cv:cellOf h2 (p.add k.toNat)=some (UR.v r.us[k.toNat]):=aj.cell cc (by rw[lG0,List.getElem?_eq_getElem yM];rfl);refine os ⟨_,_,_,bJ X2c rfl,⟨by omega,by omega⟩,oe ep ⟨_,cv,?_⟩⟩;refine wZ X2 (List.getElem_mem yM) λh3 f3 X3=>⟨rfl,?_,?_⟩
   ·rw[wq (k-1)];refine⟨by omega,by omega,f2.trans f3 λb _ e=>e,zr V9 r.us[k.toNat],?_⟩;have hd:k.toNat<T.ar.length:=(by omega);have eu:T.ar[k.toNat]=(r.us[k.toNat].i,r.us[k.toNat].QI.map (·.2)):=(by simp only[X.ar,List.getElem_map]);rw[show(k-1+1).toNat=k.toNat by omega,H' T.put T.ar hd,eu,show k.toNat+1=(k+1).toNat by omega];exact X3
   ·show(wI (k-1)+1).toNat<(k+1).toNat;rw[wq (k-1)];omega
  ·have X2c:rd h2 r.tb=[vP d,.map (some r.mb),vS r.ua r.us.length r.uc,.bool false]:=X2.cell;have cap:r.us.length<=r.uc:=X2.un.le;have ek:(k+1).toNat=mark.toNat:=(by omega);rw[ek]at X2;have s1:=X2.sc;have s2:=X2.mc;have s1:ao r.tb=1:=s1;have s2:ao r.mb=2:=s2;refine os ⟨_,_,_,bJ X2c rfl,⟨by omega,by omega⟩,os (aO.add X2.own (by rw[show rd h2 _=_ from X2c];show 0+2<4;omega) λh4 d4=>?_)⟩;have s4:=d4.size;have k4:∀b,b<h2.size->ao b=4->¬b=r.tb:=λb _ e e2=>by rw[e2]at e;omega
   have hml:r.mb<h2.size:=map_lt X2.map;have Γ:(r.us.take mark.toNat).length=mark.toNat:=(by rw[lT0];omega);refine hK h4 ((f2.mono λb _ e=>(hF b).mpr (by have e:b=r.mb:=e;rw[e];omega)).did d4 λ_=>(hF _).mpr (by show 1<=ao r.tb/\ao r.tb<=5;omega)) (.inl ⟨ao,{ r with ps:=V9,us:=r.us.take mark.toNat },rfl,⟨λb hb=>X2.vp b (by omega),s1,d4.own,?_,s2,tj X2.map d4.fr λe=>?_,?_,λp hp=>(X2.V5 p hp).keep d4.fr (Ag.refl _ _) k4,λu hu=>(X2.uok u (List.mem_of_mem_take hu)).keep d4.fr (Ag.refl _ _) k4,X2.put,?_,live,X2.dk.fr d4.fr λb hb e=>?_,X2.pk,λu hu=>X2.ui u (List.mem_of_mem_take hu)⟩,hF⟩)
   ·rw[d4.rd,show rd h2 _=_ from X2c];show _=([vP d,.map (some r.mb),vS r.ua (r.us.take mark.toNat).length r.uc,.bool false]:LV);rw[Γ];rfl
   ·have e:r.mb=r.tb:=e;rw[e]at s2;omega
   ·show Sl h4 1 r.ua (r.us.take mark.toNat).length r.uc ((r.us.take mark.toNat).map UR.v) (On ao 3);rw[Γ,List.map_take];exact V6 (X2.un.fr d4.fr λb _ hb e=>by have hb:ao b=3:=hb;have e:b=r.tb:=e;rw[e]at hb;omega) (by show mark.toNat<=r.us.length;omega)
   ·show T.ar.take mark.toNat=(r.us.take mark.toNat).map _;rw[X.ar,List.map_take]
   ·have hb:ao b=5:=hb;have e:b=r.tb:=e;rw[e]at hb;omega
end Tm
namespace Spc
open Hp W Ad Tm
theorem zt{i:Int}:∀(ps:List (Int×LB)) (b:LB),b.length=512->(∀p∈ps,p.2.length=512)->(iZ b i ps).length=512
 | [],b,h,_=>h
 | p::r,b,h,hp=>by
  show(iZ (if p.1=i then p.2 else b) i r).length=512;refine zt r _ ?_ λq hq=>hp q (List.mem_cons_of_mem _ hq)
  split
  ·exact hp p (List.mem_cons_self ..)
  ·exact h
theorem cw.gX{D:NP}{S:RD}(a:cw h D d S){i:Nat}(hi:i<S.aB.length):(mh S i).length=512:=by
 obtain⟨ao,⟨b,r,es,_,P⟩,_⟩:=a;refine zt _ _ ?_ P.pw;rw[List.getD_eq_getElem?_getD,List.getElem?_eq_getElem hi];exact P.lw _ (List.getElem_mem hi)
theorem Tx.Δ{T:TM}(x:Tx h F t d T):∀p∈T.put,p.2.length=512:=by
 rcases x with⟨ao,r,_,c,_⟩|⟨ao,tb,_,c,_⟩
 ·intro p hp;rw[c.put]at hp;obtain⟨q,hq,rfl⟩:=List.mem_map.mp hp;exact(c.V5 q hq).l
 ·intro p hp;rw[c.gone.1]at hp;cases hp
theorem Tx.gX{h:ad}{F:NP}{t d:OA}{T:TM}(x:Tx h F t d T){i:Int}(e:(T.read i).2=0):(T.read i).1.length=512:=by
 obtain⟨D,dk,_⟩:=x.dk;unfold TM.read at e ⊢
 split at e
 ·cases e
 ·rename_i h1;rw[if_neg h1]
  split at e
  ·cases e
  ·rename_i h2;rw[if_neg h2]
   cases eg:cR T.put i with
   | some b=>rw[TM.get_some eg];exact Tx.Δ x _ (tR eg)
   | none=>
    rw[TM.get_none eg]at e ⊢
    split at e
    ·cases e
    ·rename_i h3;rw[if_neg h3];exact cw.gX dk (by have:T.N=T.aK.aB.length:=rfl;omega)
theorem TM.wg{T:TM}{bs:cL}(e:(T.write i bs).2=0):T.over=false/\98<=i/\i<T.N/\bs.length=512/\¬(cR T.put i=none/\T.put.length>=96)/\(T.write i bs).1={ T with put:=ja T.put i bs,ar:=T.ar++[(i,cR T.put i)] }:=by
 unfold TM.write at e ⊢
 split at e
 ·cases e
 ·rename_i h1
  split at e
  ·cases e
  ·rename_i h2
   split at e
   ·cases e
   ·rename_i h3
    split at e
    ·cases e
    ·rename_i h4;rw[if_neg h1,if_neg h2,if_neg h3,if_neg h4];exact⟨by cases ho:T.over <;> simp_all,by omega,by omega,by omega,h4,rfl⟩
theorem TM.xa{T:TM}{bs:cL}(e:(T.write i bs).2≠0):(T.write i bs).1=T:=by
 unfold TM.write at e ⊢
 split
 ·rfl
 ·split
  ·rfl
  ·split
   ·rfl
   ·split
    ·rfl
    ·rename_i h1 h2 h3 h4;rw[if_neg h1,if_neg h2,if_neg h3,if_neg h4]at e;exact absurd rfl e
theorem TM.zu{T:TM}(e:(T.read i).2=0):T.over=false:=by
 unfold TM.read at e
 split at e
 ·cases e
 ·rename_i h;cases ho:T.over <;> simp_all
theorem Gz{α:Type}(i:Int)(v:α):∀m:List (Int×α),(ja m i v).map (·.1)=if cR m i=none then m.map (·.1)++[i]else m.map (·.1)
 | []=>rfl
 | (k,u)::r=>by
  have ih:=Gz i v r
  show(bif i==k then(i,v)::r else(k,u)::ja r i v).map (·.1)=if(bif i==k then some u else cR r i)=none then _ else _
  by_cases e:i=k
  ·subst e;rw[beq_self_eq_true];rfl
  ·rw[beq_eq_false_iff_ne.mpr e]
   show k::(ja r i v).map (·.1)=if cR r i=none then _ else _
   rw[ih]
   split <;> rfl
end Spc
end Go.Proofs.YtjdcbblgaoogmaaGreatDoor
namespace Go.Proofs
open Go Go.Shelf
def Tryz.keysA_ren : Go.Shelf.Ren:=⟨fun|7=>143|10=>198|n=>n,fun|23=>132|26=>3|3=>37|28=>195|0=>0|27=>194|33=>146|4=>4|n=>n,λn=>n⟩
theorem Tryz.keysA : SlLaysZI.n7 Tryz.prog Tryz.keysA_ren where
 mixed:=by kernel_rfl
 f7 := ⟨ "maps.Keys[map[int][]byte,int,[]byte]", by decide, Tryz.func143.trans (congrArg some (by kernel_rfl))⟩
 f10 := ⟨ "maps.Keys[map[int][]byte,int,[]byte]$1", by decide, Tryz.func198.trans (congrArg some (by kernel_rfl))⟩
 t0:=Tryz.underlying0
 a0:=Tryz.isAgg0
 z0:=Tryz.sizeOf0
 v0:=Tryz.zeroValue0
 t4:=Tryz.underlying4
 a4:=Tryz.isAgg4
 z4:=Tryz.sizeOf4
 v4:=Tryz.zeroValue4
 t23:=Tryz.underlying132
 a23:=Tryz.isAgg132
 z23:=Tryz.sizeOf132
 v23:=Tryz.zeroValue132
 t26:=Tryz.underlying3
 a26:=Tryz.isAgg3
 z26:=Tryz.sizeOf3
 v26:=Tryz.zeroValue3
 t27:=Tryz.underlying194
 a27:=Tryz.isAgg194
 z27:=Tryz.sizeOf194
 v27:=Tryz.zeroValue194
 t28:=Tryz.underlying195
 a28:=Tryz.isAgg195
 z28:=Tryz.sizeOf195
 v28:=Tryz.zeroValue195
 t33:=Tryz.underlying146
 a33:=Tryz.isAgg146
 z33:=Tryz.sizeOf146
 v33:=Tryz.zeroValue146
def Tryz.sortedA_ren : Go.Shelf.Ren:=⟨fun|6=>142|8=>196|9=>197|11=>258|13=>260|12=>259|23=>291|24=>292|14=>282|15=>283|16=>284|17=>285|18=>286|19=>287|20=>288|21=>289|22=>290|25=>303|26=>304|27=>305|28=>306|29=>307|30=>308|31=>310|n=>n,fun|26=>3|28=>195|24=>137|0=>0|3=>3|37=>315|48=>244|50=>243|4=>4|40=>334|39=>333|45=>338|5=>5|9=>9|51=>351|55=>324|57=>358|58=>48|33=>146|n=>n,λn=>n⟩
theorem Tryz.sortedA : SlLaysZI.n6 Tryz.prog Tryz.sortedA_ren where
 mixed:=by kernel_rfl
 f6 := ⟨ "slices.Sorted[int]", by decide, Tryz.func142.trans (congrArg some (by kernel_rfl))⟩
 f8 := ⟨ "slices.Collect[int]", by decide, Tryz.func196.trans (congrArg some (by kernel_rfl))⟩
 f11 := ⟨ "slices.AppendSeq[[]int,int]", by decide, Tryz.func258.trans (congrArg some (by kernel_rfl))⟩
 t0:=Tryz.underlying0
 a0:=Tryz.isAgg0
 z0:=Tryz.sizeOf0
 v0:=Tryz.zeroValue0
 t24:=Tryz.underlying137
 a24:=Tryz.isAgg137
 z24:=Tryz.sizeOf137
 v24:=Tryz.zeroValue137
 t26:=Tryz.underlying3
 a26:=Tryz.isAgg3
 z26:=Tryz.sizeOf3
 v26:=Tryz.zeroValue3
 t28:=Tryz.underlying195
 a28:=Tryz.isAgg195
 z28:=Tryz.sizeOf195
 v28:=Tryz.zeroValue195
 i26:=by kernel_rfl
def Tryz.sortA_ren : Go.Shelf.Ren:=⟨fun|5=>197|8=>260|7=>259|19=>291|20=>292|10=>282|11=>283|12=>284|13=>285|14=>286|15=>287|16=>288|17=>289|18=>290|30=>303|31=>304|32=>305|33=>306|34=>307|35=>308|40=>310|n=>n,fun|23=>137|25=>3|3=>3|32=>315|22=>137|0=>0|44=>244|46=>243|4=>4|36=>334|35=>333|41=>338|5=>5|9=>9|53=>351|57=>324|63=>358|64=>48|n=>n,λn=>n⟩
theorem Tryz.sortA : SlLaysM.n5 Tryz.prog Tryz.sortA_ren where
 mixed:=by kernel_rfl
 f5 := ⟨ "slices.Sort[[]int,int]", by decide, Tryz.func197.trans (congrArg some (by kernel_rfl))⟩
 f7 := ⟨ "slices.pdqsortOrdered[int]", by decide, Tryz.func259.trans (congrArg some (by kernel_rfl))⟩
 f8:=Tryz.func260.trans (congrArg some (by kernel_rfl))
 f10 := ⟨ "slices.insertionSortOrdered[int]", by decide, Tryz.func282.trans (congrArg some (by kernel_rfl))⟩
 f11 := ⟨ "slices.heapSortOrdered[int]", by decide, Tryz.func283.trans (congrArg some (by kernel_rfl))⟩
 f12 := ⟨ "slices.breakPatternsOrdered[int]", by decide, Tryz.func284.trans (congrArg some (by kernel_rfl))⟩
 f13 := ⟨ "slices.choosePivotOrdered[int]", by decide, Tryz.func285.trans (congrArg some (by kernel_rfl))⟩
 f14 := ⟨ "slices.reverseRangeOrdered[int]", by decide, Tryz.func286.trans (congrArg some (by kernel_rfl))⟩
 f15 := ⟨ "slices.partialInsertionSortOrdered[int]", by decide, Tryz.func287.trans (congrArg some (by kernel_rfl))⟩
 f16 := ⟨ "cmp.Less[int]", by decide, Tryz.func288.trans (congrArg some (by kernel_rfl))⟩
 f17 := ⟨ "slices.partitionEqualOrdered[int]", by decide, Tryz.func289.trans (congrArg some (by kernel_rfl))⟩
 f18 := ⟨ "slices.partitionOrdered[int]", by decide, Tryz.func290.trans (congrArg some (by kernel_rfl))⟩
 f19:=Tryz.func291.trans (congrArg some (by kernel_rfl))
 f20:=Tryz.func292.trans (congrArg some (by kernel_rfl))
 f30 := ⟨ "slices.siftDownOrdered[int]", by decide, Tryz.func303.trans (congrArg some (by kernel_rfl))⟩
 f31:=Tryz.func304.trans (congrArg some (by kernel_rfl))
 f32:=Tryz.func305.trans (congrArg some (by kernel_rfl))
 f33 := ⟨ "slices.medianAdjacentOrdered[int]", by decide, Tryz.func306.trans (congrArg some (by kernel_rfl))⟩
 f34 := ⟨ "slices.medianOrdered[int]", by decide, Tryz.func307.trans (congrArg some (by kernel_rfl))⟩
 f35 := ⟨ "cmp.isNaN[int]", by decide, Tryz.func308.trans (congrArg some (by kernel_rfl))⟩
 f40 := ⟨ "slices.order2Ordered[int]", by decide, Tryz.func310.trans (congrArg some (by kernel_rfl))⟩
 t0:=Tryz.underlying0
 a0:=Tryz.isAgg0
 z0:=Tryz.sizeOf0
 v0:=Tryz.zeroValue0
 t3:=Tryz.underlying3
 a3:=Tryz.isAgg3
 z3:=Tryz.sizeOf3
 v3:=Tryz.zeroValue3
 t4:=Tryz.underlying4
 a4:=Tryz.isAgg4
 z4:=Tryz.sizeOf4
 v4:=Tryz.zeroValue4
 t5:=Tryz.underlying5
 a5:=Tryz.isAgg5
 z5:=Tryz.sizeOf5
 v5:=Tryz.zeroValue5
 t9:=Tryz.underlying9
 a9:=Tryz.isAgg9
 z9:=Tryz.sizeOf9
 v9:=Tryz.zeroValue9
 t22:=Tryz.underlying137
 a22:=Tryz.isAgg137
 z22:=Tryz.sizeOf137
 v22:=Tryz.zeroValue137
 t23:=Tryz.underlying137
 a23:=Tryz.isAgg137
 z23:=Tryz.sizeOf137
 v23:=Tryz.zeroValue137
 t25:=Tryz.underlying3
 a25:=Tryz.isAgg3
 z25:=Tryz.sizeOf3
 v25:=Tryz.zeroValue3
 t32:=Tryz.underlying315
 a32:=Tryz.isAgg315
 z32:=Tryz.sizeOf315
 v32:=Tryz.zeroValue315
 t35:=Tryz.underlying333
 a35:=Tryz.isAgg333
 z35:=Tryz.sizeOf333
 v35:=Tryz.zeroValue333
 t36:=Tryz.underlying334
 a36:=Tryz.isAgg334
 z36:=Tryz.sizeOf334
 v36:=Tryz.zeroValue334
 t41:=Tryz.underlying338
 a41:=Tryz.isAgg338
 z41:=Tryz.sizeOf338
 v41:=Tryz.zeroValue338
 t44:=Tryz.underlying244
 a44:=Tryz.isAgg244
 z44:=Tryz.sizeOf244
 v44:=Tryz.zeroValue244
 t46:=Tryz.underlying243
 a46:=Tryz.isAgg243
 z46:=Tryz.sizeOf243
 v46:=Tryz.zeroValue243
 t53:=Tryz.underlying351
 a53:=Tryz.isAgg351
 z53:=Tryz.sizeOf351
 v53:=Tryz.zeroValue351
 t57:=Tryz.underlying324
 a57:=Tryz.isAgg324
 z57:=Tryz.sizeOf324
 v57:=Tryz.zeroValue324
 t63:=Tryz.underlying358
 a63:=Tryz.isAgg358
 z63:=Tryz.sizeOf358
 v63:=Tryz.zeroValue358
 t64:=Tryz.underlying48
 a64:=Tryz.isAgg48
 z64:=Tryz.sizeOf48
 v64:=Tryz.zeroValue48
end Go.Proofs
namespace Go.Proofs.YtjdcbblgaoogmaaGreatDoor
open Go Go.Proofs Wx
variable{h h' hh:ad}{F D' R:NP}{b l c m k o r tb kl kc dl dc n0 sb e w al ac:Nat}{K:KT}{a d t ka da aa:OA}{bs ys:LB}{p:Addr}{xs:LV}{i:Int}{ao ay:Nat->Nat}{ns:List Int}
namespace Tm
open Hp W Ad
theorem insert_perm{H:Type}(x:Lit×DataW H):∀l:List (Lit×DataW H),(DataW.insert x l).Perm (x::l)
 | []=>List.Perm.refl _
 | y::r=>by
  show(if x.1.before y.1 then x::y::r else y::DataW.insert x r).Perm _
  split
  ·exact List.Perm.refl _
  ·exact((insert_perm x r).cons y).trans (List.Perm.swap x y r)
theorem DD{H:Type}:∀l:List (Lit×DataW H),(l.foldr DataW.insert []).Perm l
 | []=>List.Perm.refl _
 | x::r=>(insert_perm x _).trans ((DD r).cons x)
def Cd : Value->Option (DataW Unit×List MemPlace):=λ_=>some (.nil,[])
def valI : Value->Int
 | .int _ n=>n
 | _=>0
def vd(l:List Int):List Int:=l.mergeSort λx y=>decide (x<=y)
theorem JV{α:Type}{f:α->Value}{bx mb:Nat}{m:List (Int×α)}(hbx:rd h bx=[.map (some mb)])(M:mz DI h mb (mm f m))(hm:m.length<=1000000)(hr:∀ p ∈ m,-9223372036854775808<=p.1/\p.1<=9223372036854775807)
  (hK:∀a c h',Fr No h h'->Sl h' 1 a m.length c ((vd (m.map (·.1))).map (.int .i64)) (dG h.size)->K (vS a m.length c) h') :
  C.sN (.func (.func 198) #[] ⟨[vP (some ⟨bx,0,none⟩)]⟩) h K:=by
 refine⟨⟨_,Tryz.func142,by kernel_rfl,by kernel_rfl⟩,λw hw=>?_⟩;subst hw;obtain⟨es,clock,hb,he,_,qS⟩:=M
 have hlen:es.size=m.length:=by
  have:=congrArg List.length he;rw[lM0,lM0,wY]at this;simpa using this
 have BX:∀x∈es.toList,∃p∈m,x.key = vI p.1:=by
  intro x hx;have:(x.key,x.val)∈es.toList.map (λe=>(e.key,e.val)):=List.mem_map.mpr ⟨x,hx,rfl⟩;rw[he]at this;obtain⟨q,hq,e⟩:=List.mem_map.mp this;obtain⟨p,hp,rfl⟩:=List.mem_map.mp hq;exact⟨p,hp,(congrArg Prod.fst e).symm⟩
 have hwf:∀n:Int,-9223372036854775808<=n/\n<=9223372036854775807->(Lit.int .i64 n).wf=true:=λn hn=>by
  have h1:IntKind.i64.min = -9223372036854775808:=rfl;have h2:IntKind.i64.max=9223372036854775807:=rfl;simp only[Lit.wf,Bool.and_eq_true,decide_eq_true_eq];omega
 have Yy:∀n:Int,-9223372036854775808<=n/\n<=9223372036854775807->∀x:MapEntry,x.key = .int .i64 n->WideElems.rd Tryz.prog 3 Cd x=some (.int .i64 n,.nil):=λn hn x hx=>by
  have h1:keyOf Tryz.prog 3 x.key=some (.int .i64 n):=by
   rw[hx];simp[keyOf,mapKey,Tryz.underlying3,hwf n hn]
  simp[WideElems.rd,h1,Cd]
 have fit:WideElems.Fit Tryz.prog 3 Cd es clock:=⟨by rw[hlen];exact Nat.le_trans hm (by decide),qS,λx hx=>by
  obtain⟨p,hp,e⟩:=BX x hx
  exact⟨_,Yy p.1 (hr p hp) x e⟩⟩
 have hown:w.ownsMap Tryz.prog 3 Cd mb m.length (.map ((es.toList.map (WideElems.rg Tryz.prog 3 Cd)).foldr DataW.insert [])):=⟨es,clock,hb,fit,by omega,rfl⟩
 have Yz:(intKeys (H:=Unit) (.map ((es.toList.map (WideElems.rg Tryz.prog 3 Cd)).foldr DataW.insert []))).Perm (m.map (·.1)):=by
  refine List.Perm.trans (l₂:=(es.toList.map (WideElems.rg Tryz.prog 3 Cd)).map λp:Lit×DataW Unit=>Go.intOf p.1) ((DD _).map _) ?_;rw[List.map_map]
  have e1:es.toList.map ((λp:Lit×DataW Unit=>Go.intOf p.1) ∘ WideElems.rg Tryz.prog 3 Cd)=m.map (·.1):=by
   have e2:es.toList.map (λx=>x.key)=m.map λp=>(vI p.1:Value):=by
    have:=congrArg (List.map Prod.fst) he;rw[List.map_map,List.map_map]at this;rw[show(es.toList.map λx=>x.key)=es.toList.map (Prod.fst ∘ λe=>(e.key,e.val)) from rfl,this];rw[mm,List.map_map];rfl
   have e3:es.toList.map ((λp:Lit×DataW Unit=>Go.intOf p.1) ∘ WideElems.rg Tryz.prog 3 Cd)=(es.toList.map (λx=>x.key)).map valI:=by
    rw[List.map_map];refine List.map_congr_left λx hx=>?_;obtain⟨p,hp,e⟩:=BX x hx;have h1:=WideElems.rg_of (Yy p.1 (hr p hp) x e);rw[Function.comp_apply,Function.comp_apply,h1,e];rfl
   rw[e3,e2,List.map_map];rfl
  rw[e1]
 have sf:bx<w.heap.size:=gr (o:=0) (v:=.map (some mb)) (by rw[hbx];rfl)
 have mW:Maps.size (.map ((es.toList.map (WideElems.rg Tryz.prog 3 Cd)).foldr DataW.insert []):DataW Unit)=m.length:=by
  have:=Yz.length_eq;rw[lM0]at this;rw[<-this];show _=(List.map _ _).length;rw[lM0];rfl
 have hc:w.cell? ⟨bx,0,none⟩=some (.map (some mb)):=cI hbx rfl
 have hseq:SeqGives Fence.wide 2 Tryz.prog 198 #[.pointer (some ⟨bx,0,none⟩)] encZ (λss=>ss.Perm (intKeys (H:=Unit) (.map ((es.toList.map (WideElems.rg Tryz.prog 3 Cd)).foldr DataW.insert [])))) (Maps.size (.map ((es.toList.map (WideElems.rg Tryz.prog 3 Cd)).foldr DataW.insert []):DataW Unit)) w:=
  AnyZI.keys_gives (ρ:=Tryz.keysA_ren) { Tryz.keysA with } Fence.wide _ trivial rfl (by omega) bx mb m.length _ _ sf hc hown
 have adK:∀k,AnyZI.SortsIn Tryz.prog Tryz.sortedA_ren Fence.wide k:=λk=>
  ⟨λDz off cap ss W hH hblk mW=>callsIn_wide.2 (AnyM.slices_Sort_int Tryz.sortA Dz off cap ss W hH hblk mW),
   λp cap W=>callsIn_wide.2 (AnyM.slices_Sort_int_none Tryz.sortA p cap W)⟩
 have cS:=AnyZI.sorted_in Tryz.sortedA Fence.wide 5 trivial trivial trivial trivial rfl (by omega) (adK _) (enters_of Tryz.func197 (by kernel_rfl) rfl) 198 #[vP (some ⟨bx,0,none⟩)] trivial (enters_of Tryz.func198 (by kernel_rfl) rfl) _ _ (by rw[mW];exact Nat.le_trans hm (by decide)) (by rw[mW];omega) _ hseq;refine((callsIn_wide (n:=5)).1 cS).mono λe w' ⟨v,ss,Θ,hS,Wa,_,Si⟩=>?_;have hS':ss.Perm (m.map (·.1)):=hS.trans Yz;have el:ss.length=m.length:=by have:=hS'.length_eq;rw[lM0]at this;exact this
 have IM:ss.mergeSort (λx y=>decide (x<=y))=vd (m.map (·.1)):=mergeSort_of_perm_i hS';rw[IM,el]at Wa;have fr:Fr No w.heap w'.heap:=⟨Si.size,λk hk _=>Si.block k hk⟩;refine⟨v,Θ,⟨Si.os,Si.tape,Si.output⟩,?_⟩;obtain⟨hl,Wa⟩:=Wa
 rcases Wa with⟨rfl,hz⟩|⟨gb,cap,cur,rfl,NT,Ξ,r1,r2,r3,r4⟩
 ·rw[hz]at hK;refine hK none 0 w'.heap fr ⟨?_,rfl,rfl⟩;rw[hz]at hl;exact hl
 ·refine hK _ cap w'.heap fr ⟨hl,rfl,NT,⟨_,_,_,Ξ,.inl rfl⟩,r1,?_,?_⟩
  ·have e:rd w'.heap gb=cur.toList:=(by unfold rd;rw[Ξ]);show((rd w'.heap gb).drop 0).take _=_;rw[e,List.drop_zero,hl];exact r4
  ·have e:rd w'.heap gb=cur.toList:=(by unfold rd;rw[Ξ]);show 0+cap*1<=(rd w'.heap gb).length;rw[e,Array.length_toList,r3];omega
def TM.written(T:TM):List Int:=vd (T.put.map (·.1))
theorem zv{T:TM}(x:Tx h F t d T)(hp:T.put.length<=1000000)
  (hK:∀a l c h',Fr No h h'->l=T.put.length->Sl h' 1 a l c (T.written.map (.int .i64)) (dG h.size)->K (vS a l c) h'):C.fR t h K:=by
 rcases x with⟨ao,r,rfl,X,hF⟩|⟨ao,tb,rfl,X,hF⟩
 ·have L9:T.put.length=r.ps.length:=by rw[X.put,lM0]
  refine fR.ok (os ⟨_,bJ X.cell rfl,cf rfl (os ⟨_,bJ X.cell rfl,?_⟩)⟩);refine cC.ok (az.intro λh2 n2=>⟨_,rfl,?_⟩);obtain⟨D,dk,_⟩:=Tx.dk (.inl ⟨ao,r,rfl,X,hF⟩:Tx h F (some ⟨r.tb,0,none⟩) d T);have adL:T.N<=16384:=dk.max.1;refine JV (f:=λx:Sc×cL=>x.1.v) (m:=r.ps) n2.rd (tj X.map n2.fr λx=>x) (by omega) (λp hp=>?_) λa c h3 f3 s=>⟨_,_,_,rfl,?_⟩
  ·have:=X.pk (p.1,p.2.2) (by rw[X.put];exact List.mem_map.mpr ⟨p,hp,rfl⟩);simp only at this;omega
  ·have e:T.written=vd (r.ps.map (·.1)):=by
    unfold TM.written;rw[X.put,List.map_map];rfl
   rw[<-e]at s;exact hK a _ c h3 (n2.fr.no f3) L9.symm (s.mono λb hb=>Nat.le_trans n2.fr.size hb)
 ·refine fR.ok (os ⟨_,bJ X.cell rfl,ct rfl ?_⟩);have e1:=X.gone.1;have e:T.written=[]:=by unfold TM.written;rw[e1];exact List.mergeSort_nil
  have hK:=hK none 0 0 h (Fr.refl _ _) (by rw[e1];rfl);rw[e]at hK;exact hK (Sl.nil _ _ _)
end Tm
namespace Ad
open Hp W
theorem PD{S:RD}(D:gT h d S ao m)
  (hK:K (.bool S.down) h):C.gM d h K:=by
 obtain⟨b,r,es,rfl,D⟩:=D;refine gM.ok ⟨_,D.field 4,?_⟩;rw[D.down];exact hK
theorem yu{S:RD}(D:gT h d S ao m)
  (hK:∀a c h',Fr No h h'->Sl h' 1 a (S.aB.length*512) c (S.aB.flatten.map bv) (dG h.size)->K (vS a (S.aB.length*512) c) h'):C.fX d h K:=by
 obtain⟨b,r,es,rfl,D⟩:=D;have hm:=D.AJ;have hw:wI ((r.ln:Int)*512)=((S.aB.length*512:Nat):Int):=by rw[D.ln];exact wq _
 refine fX.ok ⟨_,_,_,D.field 0,?_⟩;rw[hw];refine⟨by omega,az.intro λh2 n2=>?_⟩;have D2:=D.pE n2.fr (Ag.refl _ _) (λ_ _ _ x=>x);refine⟨_,_,_,D2.field 0,?_⟩
 refine⟨λa l c n hh=>0<=n/\n<=S.aB.length/\l=n.toNat*512/\Fr No h hh/\Sl hh 1 a l c ((S.aB.take n.toNat).flatten.map bv) (dG h.size),λ_ _ _ n _=>(S.aB.length-n).toNat,
  ⟨by omega,by omega,rfl,n2.fr,Sl.made n2 (List.nil_append _).symm nL0 rfl (by omega) (by rw[iO];exact Nat.mul_comm _ _▸by rfl)⟩,?_⟩
 rintro a l c n h3 ⟨n0,n1,hl,f3,s3⟩;have D3:=D.pE f3 (Ag.refl _ _) (λ_ _ _ x=>x);rw[D.ln];refine cd (λhn=>?_) λhn=>?_
 rotate_left
 ·have e:n.toNat=S.aB.length:=by omega
  rw[hl,e];rw[hl,e,List.take_length]at s3;exact hK _ _ _ f3 s3
 have nV:n.toNat<S.aB.length:=by omega
 obtain⟨q,e',c'⟩:=D3.Gt nV D3.l;refine⟨⟨n0,hn⟩,?_⟩;rw[e'];have hx:=D.lw _ (List.getElem_mem nV);have hlen:=m9 hx;refine⟨_,hlen,c',aM.intro hlen (ij _) List.length_replicate λh5 n5=>?_⟩;refine⟨Dz S.aB[n.toNat],hlen,ah n5.rd,ij _,?_⟩;refine dh (s3.fr n5.fr λ_ _ _ x=>x) hlen rfl (by show(l+512)*1<=_;omega) (by omega) λa' c2 h6 f6 s6=>?_;have σ:wI (n+1)=n+1:=wrap_i64 (by omega) (by omega);rw[σ];have hs:=f3.size;have ht:(n+1).toNat=n.toNat+1:=by omega
 refine⟨⟨by omega,by omega,by omega,?_,?_⟩,di hn⟩
 ·exact(f3.new n5).trans f6 (λb hb e=>by have:h.size<=b:=e;omega)
 ·rw[ht,List.take_add_one,List.getElem?_eq_getElem nV,Option.toList_some,List.flatten_append,List.map_append,List.flatten_cons,List.flatten_nil,List.append_nil];refine s6.mono λb hb=>?_
  rcases hb with hb|hb
  ·exact hb
  ·have:=n5.size;show h.size<=b;omega
def Dk(ao:Nat->Nat)(m:Nat):Nat->Prop:=λb=>m<=ao b/\ao b<=m+5
def cy(ls:List LB)(ps:List (Int×LB)):List LB:=ps.foldl (λl p=>l.set p.1.toNat p.2) ls
def iy(ps:List (Int×LB))(keep:List Bool):List (Int×LB):=((ps.zip keep).filter (·.2)).map (·.1)
def RD.cut(S:RD)(keep:List Bool):RD:={ S with aB:=cy S.aB (iy S.bz keep),bz:=[],keep:=[],left:=0,down:=true }
theorem dX(ps:List (Int×LB)):∀ls,(cy ls ps).length=ls.length:=by
 induction ps with
 | nil=>intro ls;rfl
 | cons p r ih=>intro ls;simp only[cy,List.foldl_cons]at ih ⊢;rw[ih,List.length_set]
theorem JW{ps:List (Int×LB)}{keep:List Bool}{n:Nat}(h1:n<ps.length)(h2:n<keep.length) :
  iy (ps.take (n+1)) (keep.take (n+1))=iy (ps.take n) (keep.take n)++(if keep[n]then[ps[n]]else[]):=by
 rw[dQ _ _ h1,dQ _ _ h2];simp only[iy];rw[List.zip_append (by rw[lT0,lT0];omega),List.filter_append,List.map_append];congr 1
 cases keep[n] <;> rfl
theorem Mc(ps:List (Int×LB))(keep:List Bool)(n:Nat)(h:n=min ps.length keep.length):iy (ps.take n) (keep.take n)=iy ps keep:=by
 simp only[iy];congr 2;show List.zipWith _ _ _=List.zipWith _ _ _;rw[<-List.take_zipWith,List.take_of_length_le (by rw[List.length_zipWith];omega)]
theorem qF{keep:List Bool}{S:RD}(D:gT h d S ao m)
  (EM:keep.length=kl) (hk:ak h ka (keep.map .bool)) (hkc:∀p,ka=some p->keep≠[]->ao p.block≠m+1)
  (hK:∀h',Fr (Dk ao m) h h'->gT h' d (S.cut keep) ao m->K (.tuple #[]) h'):C.iE d ka kl kc h K:=by
 obtain⟨b,r,es,rfl,D⟩:=D;refine iE.ok ⟨_,_,_,D.field 1,?_⟩;have hN:(if(r.pn:Int)<(kl:Int)then(r.pn:Int)else(kl:Int))=((min S.bz.length keep.length:Nat):Int):=by rw[D.pn,<-EM];split <;> omega
 rw[hN];have hNdef:min S.bz.length keep.length<=S.bz.length/\min S.bz.length keep.length<=keep.length:=⟨Nat.min_le_left _ _,Nat.min_le_right _ _⟩
 refine⟨λn hh=>0<=n/\n<=(min S.bz.length keep.length:Nat)/\Fr (On ao (m+1)) h hh/\pg hh b { S with aB:=cy S.aB (iy (S.bz.take n.toNat) (keep.take n.toNat)) } ao m r es,
  λn _=>((min S.bz.length keep.length:Nat)-n).toNat,⟨by omega,by omega,Fr.refl _ _,D⟩,?_⟩
 rintro n h2 ⟨n0,n1,f2,D2⟩;refine cd (λhn=>?_) λhn=>?_
 ·have Wb:n.toNat<S.bz.length:=by omega
  have hn2:n.toNat<keep.length:=by omega
  obtain⟨q,e',c'⟩:=D2.AK (S:={ S with aB:=cy S.aB (iy (S.bz.take n.toNat) (keep.take n.toNat)) }) Wb D2.p;refine⟨_,_,_,D2.field 1,⟨n0,by rw[D.pn];omega⟩,?_⟩;rw[e'];have L7:=D.pw _ (List.getElem_mem Wb);have V2:=tQ L7;refine⟨_,V2,c',aM.intro V2 (wU _) (List.length_cons.trans (congrArg (· + 1) List.length_replicate)) λh4 n4=>⟨⟨n0,by omega⟩,?_⟩⟩;have f4:=f2.new n4;have k4:=ak.fr f4 hk (λp hp=>hkc p hp (by rintro rfl;simp at hn2));have D4:=D2.pE n4.fr (Ag.refl _ _) (λ_ _ _ x=>x);have σ:wI (n+1)=n+1:=wrap_i64 (by omega) (by have:=D.DA;omega);have ht:(n+1).toNat=n.toNat+1:=by omega
  have Bk:=JW Wb hn2
  cases ka with
  | none=>have k4:keep.map Value.bool=[]:=k4;simp at k4;rw[k4]at hn2;simp at hn2
  | some kp=>
   refine os ⟨_,k4 n.toNat _ (by rw[List.getElem?_eq_getElem (by rw[lM0];exact hn2),List.getElem_map]),?_⟩;rw[σ];refine cs (λhb=>?_) λhb=>?_
   ·obtain⟨i0,i1⟩:=D.pi _ (List.getElem_mem Wb);have hlen:=dX (iy (S.bz.take n.toNat) (keep.take n.toNat)) S.aB;have sf:=m9 L7;refine⟨_,_,_,D4.field 0,_,bJ n4.rd rfl,_,sf,uF n4.rd (yp _),⟨i0,by rw[D4.ln];show _<((cy _ _).length:Int);rw[hlen];exact i1⟩,?_⟩;obtain⟨p,e,_⟩:=D4.l.get (by rw[D4.ln];show 0<(cy _ _).length;rw[hlen];omega);rw[e];have L:=D4.l;rw[e]at L;have Us:=L.mk;rw[Us]at e L ⊢;obtain⟨w1,w2⟩:=L.wr;have YA:=L.1;rw[fW Dz 512 _ (λx hx=>m9 (D4.lw x hx))]at YA;have hi:S.bz[n.toNat].1.toNat<(cy S.aB (iy (S.bz.take n.toNat) (keep.take n.toNat))).length:=by rw[hlen];omega
    have hr:S.bz[n.toNat].1.toNat*512+512<=r.ln*512:=by
     have:r.ln=(cy S.aB (iy (S.bz.take n.toNat) (keep.take n.toNat))).length:=D4.ln;rw[this];omega
    refine os (ax.add w1 sf (ij _) (by omega) λh5 d5=>⟨⟨by omega,by omega,?_,?_⟩,di hn⟩)
    ·exact f4.did d5 (λ_=>L.2.2.1)
    ·have D5:=D4.H8 hi L7 e d5;rw[ht,Bk,if_pos hb,cy,List.foldl_append];exact D5
   ·refine⟨⟨by omega,by omega,f4,?_⟩,di hn⟩;rw[ht,Bk,if_neg (by rw[hb];exact Bool.false_ne_true),List.append_nil];exact D4
 ·have e:n.toNat=min S.bz.length keep.length:=by omega
  rw[e,Mc _ _ _ rfl]at D2;have hsb:ao b=m:=D.sc;have dk:b<h.size->Dk ao m b:=λ_=>⟨by omega,by omega⟩;have F2:Fr (Dk ao m) h h2:=f2.mono λx _ hx=>by have hx:ao x=m+1:=hx;exact⟨by omega,by omega⟩
  have P2:=D2.toParts;refine os (aO.add D2.so (by rw[D2.sr];exact(by decide:0+1<8)) λh6 d6=>?_);rw[D2.sr]at d6
  have P6:Parts h6 { (S.cut keep)with keep:=S.keep,left:=S.left,down:=S.down } ao m { r with pa:=none,pn:=0,pc:=0 } es:=by
   have Q:=P2.keep d6.fr (Ag.refl _ _) (λx h1 _ e=>by rw[e]at h1;omega);exact⟨Q.left,Q.ny,Q.down,Q.writes,Q.av,Q.l,Q.lw,Q.ln,Q.AJ,Sl.nil _ _ _,(λx hx=>by simp[RD.cut]at hx),rfl,(λx hx=>by simp[RD.cut]at hx),nZ0,Q.k,Q.kn,Q.t,Q.tn,Q.H7,Q.ts⟩
  refine os (aO.add d6.own (by rw[d6.rd];exact(by decide:0+3<8)) λh7 d7=>?_);rw[d6.rd]at d7;refine os (aO.add d7.own (by rw[d7.rd];exact(by decide:0+2<8)) λh8 d8=>?_);rw[d7.rd]at d8;refine os (aO.add d8.own (by rw[d8.rd];exact(by decide:0+4<8)) λh9 d9=>?_);rw[d8.rd]at d9;have hF:∀x,m+1<=ao x->ao x<=m+5->¬(x=b):=λx h1 _ e=>by rw[e]at h1;omega
  have P8:=((P6.keep d7.fr (Ag.refl _ _) hF).keep d8.fr (Ag.refl _ _) hF);refine hK h9 ((((F2.did d6 dk).did d7 dk).did d8 dk).did d9 dk) ⟨b,{ r with pa:=none,pn:=0,pc:=0,ka:=none,kn:=0,kc:=0,left:=0,down:=true },es,rfl,?_⟩;refine pg.re ?_ D.sc d9;exact⟨rfl,⟨Int.le_refl _,(by decide:(0:Int)<=9223372036854775807)⟩,rfl,P8.writes,P8.av,P8.l,P8.lw,P8.ln,P8.AJ,P8.p,P8.pw,P8.pn,P8.pi,P8.DA,Sl.nil _ _ _,rfl,P8.t,P8.tn,P8.H7,P8.ts⟩
theorem yv{keep:List Bool}{S:RD}(D:gT h d S ao m)
  (EM:keep.length=kl) (hk:ak h ka (keep.map .bool)) (hkc:∀p,ka=some p->keep≠[]->ao p.block≠m+1)
  (hK:∀h',Fr (Dk ao m) h h'->gT h' d (if S.down then S else S.cut keep) ao m->K (.tuple #[]) h'):C.fj d ka kl kc h K:=by
 have D0:=D;obtain⟨b,r,es,rfl,D⟩:=D;refine fj.ok ⟨_,D.field 4,jV ?_⟩;rw[D.down]
 cases hd:S.down with
 | true=>rw[hd]at hK;exact hK h (Fr.refl _ _) D0
 | false=>rw[hd]at hK;exact cf rfl (qF D0 EM hk hkc λh' f D'=>⟨rfl,hK h' f D'⟩)
def RD.step(S:RD)(f:RD->RD):RD×Int:=
 if 0<S.left then(if S.left-1=0 then(RD.cut { S with left:=S.left-1 } S.keep,30)else(f { S with left:=S.left-1 },0))else(f S,0)
theorem qj{v:Value}{K:KT}{S:RD}{f:RD->RD}(D:gT h d S ao m)(hv:Fz v=true)
  (hn:wF v=true->∀S',f S'=S')
  (hc:wF v=false->∀(S':RD) (h2:ad) (K':KT),(S'=S∨S'={ S with left:=S.left-1 })->Fr (Dk ao m) h h2->gT h2 d S' ao m->
   (∀h3 ay,Fr (Dk ao m) h2 h3->Ag h2.size ao ay->gT h3 d (f S') ay m->K' (.tuple #[]) h3)->cT Tryz.prog v [] h2 K')
  (hK:∀h' ay,Fr (Dk ao m) h h'->Ag h.size ao ay->gT h' d (S.step f).1 ay m->K (vI (S.step f).2) h'):C.gQ d v h K:=by
 have D0:=D;obtain⟨b,r,es,rfl,D⟩:=D
 have go:∀S' h2,(S'=S∨S'={ S with left:=S.left-1 })->Fr (Dk ao m) h h2->gT h2 (some ⟨b,0,none⟩) S' ao m->(S.step f)=(f S',0)->
   (Fz v=true/\bif !(wF v)then(cT Tryz.prog v [] h2 λr2 h4=>r2 = .tuple #[]/\K (vI 0) h4)else(K (vI 0) h2)):=by
  intro S' h2 hS f2 D2 e;refine⟨hv,jV (cs (λe1=>?_) λe1=>?_)⟩
  ·have:=hK h2 ao f2 (Ag.refl _ _) (by rw[e,hn e1];exact D2);rw[e]at this;exact this
  ·refine hc e1 S' h2 _ hS f2 D2 λh3 ay f3 g3 D3=>⟨rfl,?_⟩;have:=hK h3 ay (f2.trans f3 λ_ _ x=>x) (g3.le f2.size) (by rw[e];exact D3);rw[e]at this;exact this
 have Φ:=D.ny;refine gQ.ok ⟨_,D.field 2,?_⟩;rw[D.left];refine cd (λhp=>?_) λhp=>go S h (Or.inl rfl) (Fr.refl _ _) D0 (by rw[RD.step,if_neg (by omega)]);refine os ⟨_,D.field 2,os (aO.add D.so (by rw[D.sr];exact(by decide:0+2<8)) λh2 d2=>?_)⟩;rw[D.left,wrap_i64 (by omega) (by omega),D.sr]at d2
 have D2:pg h2 b { S with left:=S.left-1 } ao m { r with left:=S.left-1 } es:=by
  refine pg.re ?_ D.sc d2;exact⟨rfl,⟨by show 0<=S.left-1;omega,by show S.left-1<=_;omega⟩,D.down,D.writes,D.av,D.l,D.lw,D.ln,D.AJ,D.p,D.pw,D.pn,D.pi,D.DA,D.k,D.kn,D.t,D.tn,D.H7,D.ts⟩
 have f2:Fr (Dk ao m) h h2:=(Fr.refl _ _).did d2 λ_=>⟨by rw[D.sc];omega,by rw[D.sc];omega⟩;refine os ⟨_,D2.field 2,ce (λe=>?_) λe=>go _ h2 (Or.inr rfl) f2 ⟨_,_,_,rfl,D2⟩ (by rw[RD.step,if_pos (by omega),if_neg e])⟩;have e:S.left-1=0:=e;refine os ⟨_,_,_,D2.field 3,?_⟩;refine qF (keep:=S.keep) ⟨_,_,_,rfl,D2⟩ D2.kn.symm D2.k.cells (λp hp _=>?_) λh3 f3 D3=>⟨rfl,?_⟩
 ·have hk:=D2.k;rw[show({ r with left:=S.left-1 }:Raw).ka=some p from hp]at hk;have:ao p.block=m+3:=hk.2.2.1;omega
 ·have hs:S.step f=(RD.cut { S with left:=S.left-1 } S.keep,30):=by rw[RD.step,if_pos (by omega),if_pos e]
  have:=hK h3 ao (f2.trans f3 λ_ _ x=>x) (Ag.refl _ _) (by rw[hs];exact D3);rw[hs]at this;exact this
theorem nI.snoc{e:kG}{t:Int×Int×LB}(h1:e.kind=t.1)(h2:e.at_=t.2.1)(h3:aw h e.a e.l t.2.2)(h4:∀ p,e.a=some p->p.block<h.size/\ao p.block=k) :
  ∀{es:List kG} {ts:List (Int×Int×LB)},nI h ao k es ts->nI h ao k (es++[e]) (ts++[t]):=by
 intro es
 induction es with
 | nil=>intro ts x;cases ts with
  | nil=>exact⟨h1,h2,h3,h4,trivial⟩
  | cons _ _=>exact x.elim
 | cons y r ih=>intro ts x;cases ts with
  | nil=>exact x.elim
  | cons t' s=>exact⟨x.1,x.2.1,x.2.2.1,x.2.2.2.1,ih x.2.2.2.2⟩
def RD.pH(S:RD)(i:Int)(b:LB):RD:={ S with bz:=S.bz++[(i,b)],tape:=S.tape++[(1,i,b)],writes:=wI (S.writes+1) }
def RD.write(S:RD)(i:Int)(b:LB):RD×Int:=
 if S.down then(S,30)else if ¬(0<=i/\i<S.aB.length)then(S,31)else if b.length≠512 then(S,32)else(S.pH i b).step id
theorem eF{S:RD}(D:gT h d S ao m)
  (B:aw h a l bs) (We:∀p,a=some p->bs≠[]->¬Dk ao m p.block) (hp:S.bz.length<1000000000) (ht:S.tape.length<1000000000)
  (hK:∀h' ay,Fr (Dk ao m) h h'->Ag h.size ao ay->gT h' d (S.write i bs).1 ay m->K (vI (S.write i bs).2) h'):C.fY d i a l c h K:=by
 have D0:=D;obtain⟨b,r,es,rfl,D⟩:=D;have sf:=B.1;refine fY.ok ⟨_,D.field 4,?_⟩;rw[D.down];refine cs (λe=>?_) λe=>?_
 ·have:=hK h ao (Fr.refl _ _) (Ag.refl _ _);rw[RD.write,if_pos e]at this;exact this D0
 refine si D0 ⟨_,rfl,jV (cd (λhi=>cn (λx=>?_) λx=>?_) λhi=>?_)⟩
 rotate_left
 rotate_left
 ·have:=hK h ao (Fr.refl _ _) (Ag.refl _ _);rw[RD.write,if_neg (by rw[e];exact Bool.false_ne_true),if_pos hi]at this;exact this D0
 ·have:=hK h ao (Fr.refl _ _) (Ag.refl _ _);rw[RD.write,if_neg (by rw[e];exact Bool.false_ne_true),if_neg (λy=>y hi),if_pos (by omega)]at this;exact this D0
 have hl:bs.length=512:=by omega
 have Da:(bs.map bv).length=512:=by rw[lM0,hl]
 refine os ⟨_,_,_,D.field 1,by omega,?_⟩;have B2:=B.2
 cases a with
 | none=>have:bs.map bv=[]:=B2;rw[this]at Da;exact absurd Da (by decide)
 | some ap=>
 have hn:(sP (i,bs)).length=513:=tQ hl;refine os ⟨bs.map bv,Da,B2,Da,hn,az.intro λh3 n3=>?_⟩;have D3:=D.pE n3.fr (Ag.refl _ _) (λ_ _ _ x=>x);refine⟨D3.field 1,sP (i,bs),by rw[hn],ah n3.rd,wU _,?_⟩;rw[D.pn];have Dp:=D3.p;rw[D.pn]at Dp;refine rV Dp (by rw[hn];rfl) (List.length_cons.trans (congrArg (· + 1) List.length_replicate)) (by show(S.bz.length+1)*520<=_;omega) (by omega) λa4 c4 h4 f4 s4=>?_
 -- after the append to what is pending
 have g4:Ag h3.size ao (oR ao h3.size (m+2)):=pW _ _ _;have e4:(S.bz++[(i,bs)]).flatMap sP=S.bz.flatMap sP++sP (i,bs):=by rw[List.flatMap_append,List.flatMap_singleton]
 have dp:∀k,k≠m+2->∀x,ao x=k->¬On ao (m+2) x:=λk hk x hx y=>hk (hx.symm.trans y);have sb3:=D3.so.lt;have nsb:¬On ao (m+2) b:=dp m (by omega) b D.sc
 have P4:Parts h4 { S with bz:=S.bz++[(i,bs)] } (oR ao h3.size (m+2)) m { r with pa:=a4,pn:=S.bz.length+1,pc:=c4 } es:=by
  refine⟨D3.left,D3.ny,D3.down,D3.writes,D3.av,D3.l.keep f4 g4 (dp _ (by omega)),D3.lw,D3.ln,D3.AJ,by rw[e4];exact s4,?_,by simp,?_,by simp only[lA0,List.length_singleton];omega,D3.k.keep f4 g4 (dp _ (by omega)),D3.kn,D3.t.keep f4 g4 (dp _ (by omega)),D3.tn,D3.H7,nI.keep f4 g4 (dp _ (by omega)) D3.ts⟩
  ·intro x hx;rcases List.mem_append.mp hx with hx|hx
   ·exact D3.pw x hx
   ·rw[List.mem_singleton.mp hx];exact hl
  ·intro x hx;rcases List.mem_append.mp hx with hx|hx
   ·exact D3.pi x hx
   ·rw[List.mem_singleton.mp hx];exact hi
 have sc4:oR ao h3.size (m+2) b=m:=(g4 b sb3).trans D.sc;have r4:=(f4.rd sb3 nsb).trans D3.sr;refine os (aO.add (f4.own sb3 nsb D3.so) (by rw[r4];exact(by decide:0+1<8)) λh5 d5=>?_);rw[r4]at d5;have D5:=pg.re P4 sc4 d5;refine os ⟨_,_,_,D5.field 7,?_⟩;have F3:Fr (Dk ao m) h h3:=(n3.fr).mono λ_ _ x=>x.elim;have F4:Fr (Dk ao m) h h4:=F3.trans f4 λx _ hx=>by have hx:ao x=m+2:=hx;exact⟨by omega,by omega⟩
 have F5:Fr (Dk ao m) h h5:=F4.did d5 λ_=>⟨by rw[D.sc];omega,by rw[D.sc];omega⟩;refine uM (aw.fr F5 B λp hp=>We p hp (by rintro rfl;exact absurd hl (by decide))) (by omega) λa6 c6 h6 f6 s6=>⟨_,_,_,rfl,?_⟩;have g6:Ag h5.size (oR ao h3.size (m+2)) (oR (oR ao h3.size (m+2)) h5.size (m+5)):=pW _ _ _;have D6:=D5.pE f6 g6 (λ_ _ _ x=>x);refine⟨D6.field 7,rfl,az.intro λh7 n7=>?_⟩;have D7:=D6.pE n7.fr (Ag.refl _ _) (λ_ _ _ x=>x);have s7:=s6.fr n7.fr λ_ _ _ x=>x;refine⟨D7.field 7,_,rfl,ah n7.rd,?_,?_⟩
 ·intro v hv;simp only[List.mem_cons,List.not_mem_nil,or_false]at hv;rcases hv with rfl|rfl|rfl <;> rfl
 have ZE:=nI.length D.ts;have htn:=D.tn;refine rV D7.t rfl rfl (by show(r.tn+1)*40<=_;omega) (by show r.tn+1<=_;omega) λa8 c8 h8 f8 s8=>?_;have hs6:=f6.size;have hs7:=n7.size;have c6k:∀x,h5.size<=x->oR (oR ao h3.size (m+2)) h5.size (m+5) x=m+5:=λx hx=>uE hx;have g8:Ag h7.size (oR (oR ao h3.size (m+2)) h5.size (m+5)) (oR (oR (oR ao h3.size (m+2)) h5.size (m+5)) h7.size (m+4)):=pW _ _ _;have Ce:∀k,k≠m+4->∀x,oR (oR ao h3.size (m+2)) h5.size (m+5) x=k->¬On (oR (oR ao h3.size (m+2)) h5.size (m+5)) (m+4) x:=λk hk x hx y=>hk (hx.symm.trans y);have Ψ:=D7.so.lt;have Sj:=Ce m (by omega) b D7.sc
 have Sk:∀p,a6=some p->p.block<h7.size/\oR (oR ao h3.size (m+2)) h5.size (m+5) p.block=m+5:=by
  intro p hp;subst hp;exact⟨s7.lt,c6k _ s7.2.2.1⟩
 have e8:(es++[kG.mk 1 i a6 l c6]).flatMap kG.cells=es.flatMap kG.cells++[vI 1,vI i,vS a6 l c6]:=by rw[List.flatMap_append,List.flatMap_singleton];rfl
 have P8:Parts h8 { S with bz:=S.bz++[(i,bs)],tape:=S.tape++[(1,i,bs)] } (oR (oR (oR ao h3.size (m+2)) h5.size (m+5)) h7.size (m+4)) m { r with pa:=a4,pn:=S.bz.length+1,pc:=c4,ta:=a8,tn:=r.tn+1,tc:=c8 } (es++[⟨1,i,a6,l,c6⟩]):=by
  refine⟨D7.left,D7.ny,D7.down,D7.writes,D7.av,D7.l.keep f8 g8 (Ce _ (by omega)),D7.lw,D7.ln,D7.AJ,D7.p.keep f8 g8 (Ce _ (by omega)),D7.pw,D7.pn,D7.pi,D7.DA,D7.k.keep f8 g8 (Ce _ (by omega)),D7.kn,?_,?_,?_,?_⟩
  ·rw[e8];exact s8
  ·simp only[lA0,List.length_singleton];omega
  ·simp only[lA0,List.length_singleton];omega
  ·refine nI.snoc rfl rfl (aw.fr f8 s7.str λp hp=>Ce _ (by omega) _ (Sk p hp).2) (λp hp=>⟨Nat.lt_of_lt_of_le (Sk p hp).1 f8.size,(g8 _ (Sk p hp).1).trans (Sk p hp).2⟩) (nI.keep f8 g8 (Ce _ (by omega)) D7.ts)
 have r8:=(f8.rd Ψ Sj).trans D7.sr;have Ω:=(g8 b Ψ).trans D7.sc;refine os (aO.add (f8.own Ψ Sj D7.so) (by rw[r8];exact(by decide:0+7<8)) λh9 d9=>?_);rw[r8]at d9;have D9:=pg.re P8 Ω d9;refine os ⟨_,D9.field 5,os (aO.add D9.so (by rw[D9.sr];exact(by decide:0+5<8)) λcB d10=>?_)⟩;rw[D9.sr]at d10
 have D10:pg cB b (S.pH i bs) (oR (oR (oR ao h3.size (m+2)) h5.size (m+5)) h7.size (m+4)) m { r with pa:=a4,pn:=S.bz.length+1,pc:=c4,ta:=a8,tn:=r.tn+1,tc:=c8,writes:=wI (r.writes+1) } (es++[⟨1,i,a6,l,c6⟩]):=by
  refine pg.re ?_ Ω d10;exact⟨D9.left,D9.ny,D9.down,by show wI (r.writes+1)=wI (S.writes+1);rw[D.writes],D9.av,D9.l,D9.lw,D9.ln,D9.AJ,D9.p,D9.pw,D9.pn,D9.pi,D9.DA,D9.k,D9.kn,D9.t,D9.tn,D9.H7,D9.ts⟩
 have dkb:b<h.size->Dk ao m b:=λ_=>⟨by rw[D.sc];omega,by rw[D.sc];omega⟩;have hs35:h.size<=h3.size:=by have:=n3.size;omega
 have hs45:h3.size<=h5.size:=by have:=f4.size;have:=d5.size;omega
 have gg:Ag h.size ao (oR (oR (oR ao h3.size (m+2)) h5.size (m+5)) h7.size (m+4)):=
  (g4.le hs35).trans ((g6.le hs45).trans (g8.le (by omega)) nL0) (by omega)
 have F8:Fr (Dk ao m) h h8:=((F5.no f6).new n7).trans f8 λx hx y=>by
  have y:oR (oR ao h3.size (m+2)) h5.size (m+5) x=m+4:=y;rw[Dh (by omega),Dh (by omega)]at y;exact⟨by omega,by omega⟩
 have JX:=(F8.did d9 dkb).did d10 dkb;refine qj (v:=.nilFunc) (f:=id) ⟨b,_,_,rfl,D10⟩ rfl (λ_ _=>rfl) (λx=>Bool.noConfusion x) λh' ay f' g' D'=>⟨_,rfl,?_⟩;have hw:S.write i bs=(S.pH i bs).step id:=by rw[RD.write,if_neg (by rw[e];exact Bool.false_ne_true),if_neg (λy=>y hi),if_neg (λy=>y hl)]
 have:=hK h' ay (JX.trans f' λx hx y=>by have e:=gg x hx;exact⟨by have:=y.1;omega,by have:=y.2;omega⟩) (gg.trans g' JX.size) (by rw[hw];exact D');rw[hw]at this;exact this
def RD.om(S:RD):RD:={ S with aB:=cy S.aB S.bz,bz:=[],tape:=S.tape++[(2,0,[])] }
def RD.flush(S:RD):RD×Int:=if S.down then(S,30)else RD.step { S with av:=wI (S.av+1) } RD.om
theorem Fe{cb:Nat}{S:RD}(D:gT h d S ao m)
  (hc:rd h cb=[vP d]) (Da:cb<h.size) (hcc:¬Dk ao m cb) (ht:S.tape.length<1000000000)
  (hK:∀h' ay,Fr (Dk ao m) h h'->Ag h.size ao ay->gT h' d S.om ay m->K (.tuple #[]) h'):C.gK (some ⟨cb,0,none⟩) h K:=by
 obtain⟨b,r,es,rfl,D⟩:=D;refine gK.ok (os ⟨_,cI hc rfl,os ⟨_,_,_,D.field 1,?_⟩⟩);rw[D.pn]
 refine⟨λn hh=>0<=n/\n<=S.bz.length/\Fr (On ao (m+1)) h hh/\pg hh b { S with aB:=cy S.aB (S.bz.take n.toNat) } ao m r es,
  λn _=>(S.bz.length-n).toNat,⟨by omega,by omega,Fr.refl _ _,D⟩,?_⟩
 rintro n h2 ⟨n0,n1,f2,D2⟩;have hc1:¬On ao (m+1) cb:=λx=>hcc ⟨by have x:ao cb=m+1:=x;omega,by have x:ao cb=m+1:=x;omega⟩;have c2:rd h2 cb=[vP (some ⟨b,0,none⟩)]:=(f2.rd Da hc1).trans hc;have aaa:cb<h2.size:=Nat.lt_of_lt_of_le Da f2.size;have hbc:b≠cb:=λe=>hcc ⟨by rw[<-e,D.sc];omega,by rw[<-e,D.sc];omega⟩;refine cd (λhn=>?_) λhn=>?_
 ·have Wb:n.toNat<S.bz.length:=by omega
  obtain⟨q,e',c'⟩:=D2.AK (S:={ S with aB:=cy S.aB (S.bz.take n.toNat) }) Wb D2.p;refine⟨⟨n0,hn⟩,?_⟩;rw[e'];have L7:=D.pw _ (List.getElem_mem Wb);have V2:=tQ L7;refine os ⟨_,V2,c',aM.intro V2 (wU _) (List.length_cons.trans (congrArg (· + 1) List.length_replicate)) λh4 n4=>?_⟩;have f4:=f2.new n4;have D4:=D2.pE n4.fr (Ag.refl _ _) (λ_ _ _ x=>x);have σ:wI (n+1)=n+1:=wrap_i64 (by omega) (by have:=D.DA;omega);have ht:(n+1).toNat=n.toNat+1:=by omega
  obtain⟨i0,i1⟩:=D.pi _ (List.getElem_mem Wb);have hlen:=dX (S.bz.take n.toNat) S.aB;have sf:=m9 L7;refine os ⟨_,cI ((n4.at_ aaa).trans c2) rfl,os ⟨_,_,_,D4.field 0,_,bJ n4.rd rfl,_,sf,uF n4.rd (yp _),⟨i0,by rw[D4.ln];show _<((cy _ _).length:Int);rw[hlen];exact i1⟩,?_⟩⟩;obtain⟨p,e,_⟩:=D4.l.get (by rw[D4.ln];show 0<(cy _ _).length;rw[hlen];omega);rw[e];have L:=D4.l;rw[e]at L;have Us:=L.mk;rw[Us]at e L ⊢;obtain⟨w1,w2⟩:=L.wr;have hi:S.bz[n.toNat].1.toNat<(cy S.aB (S.bz.take n.toNat)).length:=by rw[hlen];omega
  have hr:S.bz[n.toNat].1.toNat*512+512<=r.ln*512:=by
   have:r.ln=(cy S.aB (S.bz.take n.toNat)).length:=D4.ln;rw[this];omega
  rw[σ];refine os (ax.add w1 sf (ij _) (by omega) λh5 d5=>⟨⟨by omega,by omega,f4.did d5 (λ_=>L.2.2.1),?_⟩,di hn⟩);have D5:=D4.H8 hi L7 e d5;rw[ht,dQ _ _ Wb,cy,List.foldl_append];exact D5
 ·rw[List.take_of_length_le (by omega)]at D2;have dk:b<h.size->Dk ao m b:=λ_=>⟨by rw[D.sc];omega,by rw[D.sc];omega⟩;have F2:Fr (Dk ao m) h h2:=f2.mono λx _ hx=>by have hx:ao x=m+1:=hx;exact⟨by omega,by omega⟩
  refine os ⟨_,cI c2 rfl,os (aO.add D2.so (by rw[D2.sr];exact(by decide:0+1<8)) λh6 d6=>?_)⟩;rw[D2.sr]at d6
  have D6:pg h6 b { S with aB:=cy S.aB S.bz,bz:=[] } ao m { r with pa:=none,pn:=0,pc:=0 } es:=by
   refine pg.re ?_ D.sc d6;have Q:=D2.toParts;exact⟨Q.left,Q.ny,Q.down,Q.writes,Q.av,Q.l,Q.lw,Q.ln,Q.AJ,Sl.nil _ _ _,(λx hx=>by simp at hx),rfl,(λx hx=>by simp at hx),nZ0,Q.k,Q.kn,Q.t,Q.tn,Q.H7,Q.ts⟩
  have c6:rd h6 cb=[vP (some ⟨b,0,none⟩)]:=(d6.at_ aaa (Ne.symm hbc)).trans c2;have hcl6:cb<h6.size:=by rw[d6.size];exact aaa
  refine os ⟨_,cI c6 rfl,os ⟨_,cI c6 rfl,os ⟨_,_,_,D6.field 7,rfl,az.intro λh7 n7=>?_⟩⟩⟩;have c7:=(n7.at_ hcl6).trans c6;have D7:=D6.pE n7.fr (Ag.refl _ _) (λ_ _ _ x=>x);refine⟨cI c7 rfl,cI c7 rfl,D7.field 7,_,rfl,ah n7.rd,?_,?_⟩
  ·intro v hv;simp only[List.mem_cons,List.not_mem_nil,or_false]at hv;rcases hv with rfl|rfl|rfl <;> rfl
  have ZE:=nI.length D.ts;have htn:=D.tn;refine rV D7.t rfl rfl (by show(r.tn+1)*40<=_;omega) (by show r.tn+1<=_;omega) λa8 c8 h8 f8 s8=>?_;have g8:Ag h7.size ao (oR ao h7.size (m+4)):=pW _ _ _;have Ce:∀k,k≠m+4->∀x,ao x=k->¬On ao (m+4) x:=λk hk x hx y=>hk (hx.symm.trans y);have hcc8:¬On ao (m+4) cb:=λx=>hcc ⟨by have x:ao cb=m+4:=x;omega,by have x:ao cb=m+4:=x;omega⟩;have hcl7:cb<h7.size:=by rw[n7.size];omega
  have Ψ:=D7.so.lt;have Sj:=Ce m (by omega) b D7.sc;have e8:(es++[kG.mk 2 0 none 0 0]).flatMap kG.cells=es.flatMap kG.cells++[vI 2,vI 0,vS none 0 0]:=by rw[List.flatMap_append,List.flatMap_singleton];rfl
  have P8:Parts h8 S.om (oR ao h7.size (m+4)) m { r with pa:=none,pn:=0,pc:=0,ta:=a8,tn:=r.tn+1,tc:=c8 } (es++[⟨2,0,none,0,0⟩]):=by
   refine⟨D7.left,D7.ny,D7.down,D7.writes,D7.av,D7.l.keep f8 g8 (Ce _ (by omega)),D7.lw,D7.ln,D7.AJ,D7.p.keep f8 g8 (Ce _ (by omega)),D7.pw,D7.pn,D7.pi,D7.DA,D7.k.keep f8 g8 (Ce _ (by omega)),D7.kn,?_,?_,?_,?_⟩
   ·rw[e8];exact s8
   ·simp only[lA0,List.length_singleton];omega
   ·simp only[lA0,List.length_singleton];omega
   ·exact nI.snoc rfl rfl (aw.nil _ _) (λp hp=>by cases hp) (nI.keep f8 g8 (Ce _ (by omega)) D7.ts)
  have r8:=(f8.rd Ψ Sj).trans D7.sr;have Ω:=(g8 b Ψ).trans D7.sc;refine⟨cI ((f8.rd hcl7 hcc8).trans c7) rfl,os (aO.add (f8.own Ψ Sj D7.so) (by rw[r8];exact(by decide:0+7<8)) λh9 d9=>?_)⟩;rw[r8]at d9;have D9:=pg.re P8 Ω d9;have hs:=f2.size
  have F8:Fr (Dk ao m) h h8:=((F2.did d6 dk).new n7).trans f8 λx hx y=>by
   have y:ao x=m+4:=y;exact⟨by omega,by omega⟩
  refine hK h9 (oR ao h7.size (m+4)) (F8.did d9 dk) (g8.le ?_) ⟨b,_,_,rfl,D9⟩;have:=n7.size;have:=d6.size;omega
theorem yw{S:RD}(D:gT h d S ao m)(ht:S.tape.length<1000000000)
  (hK:∀h' ay,Fr (Dk ao m) h h'->Ag h.size ao ay->gT h' d S.flush.1 ay m->K (vI S.flush.2) h'):C.fZ d h K:=by
 refine fZ.ok (az.intro λh2 n2=>⟨_,cI n2.rd rfl,?_⟩);have g2:Ag h.size ao (oR ao h.size (m+6)):=pW _ _ _;have D2:=D.keep n2.fr g2 (λ_ _ _ x=>x);have D20:=D2;have F2:Fr (Dk ao m) h h2:=n2.fr.mono λ_ _ x=>x.elim;obtain⟨b,r,es,rfl,D2⟩:=D2;refine os ⟨_,D2.field 4,?_⟩;rw[D2.down];refine cs (λe=>?_) λe=>?_
 ·have:=hK h2 _ F2 g2;rw[RD.flush,if_pos e]at this;exact this D20
 have hcb:oR ao h.size (m+6) h.size=m+6:=uE nL0;have hbc:h.size≠b:=λx=>by have:=D2.sc;rw[<-x]at this;omega
 have HA:=n2.size;refine⟨_,cI n2.rd rfl,os ⟨_,D2.field 6,os (aO.add D2.so (by rw[D2.sr];exact(by decide:0+6<8)) λh3 d3=>?_)⟩⟩;rw[D2.sr]at d3
 have D3:pg h3 b { S with av:=wI (S.av+1) } (oR ao h.size (m+6)) m { r with av:=wI (r.av+1) } es:=by
  refine pg.re ?_ D2.sc d3;exact⟨D2.left,D2.ny,D2.down,D2.writes,by show wI (r.av+1)=wI (S.av+1);rw[D2.av],D2.l,D2.lw,D2.ln,D2.AJ,D2.p,D2.pw,D2.pn,D2.pi,D2.DA,D2.k,D2.kn,D2.t,D2.tn,D2.H7,D2.ts⟩
 have c3:rd h3 h.size=[vP (some ⟨b,0,none⟩)]:=(d3.at_ (by omega) hbc).trans n2.rd
 have F3:Fr (Dk ao m) h h3:=F2.did d3 λhb=>by
  have e:=g2 b hb;exact⟨by have:=D2.sc;omega,by have:=D2.sc;omega⟩
 have adO:¬Dk (oR ao h.size (m+6)) m h.size:=λx=>by have:=x.2;omega
 refine⟨_,cI c3 rfl,qj (f:=RD.om) ⟨b,_,_,rfl,D3⟩ rfl (λx=>Bool.noConfusion x) (λ_ S' h4 K' hS' f4 D4 k'=>?_) λh' ay f' g' D'=>⟨_,rfl,?_⟩⟩
 ·refine Fe (S:=S') D4 ((f4.rd (by rw[d3.size];omega) adO).trans c3) (by have:=f4.size;have:=d3.size;omega) adO ?_ k'
  rcases hS' with rfl|rfl <;> exact ht
 ·have hf:S.flush=RD.step { S with av:=wI (S.av+1) } RD.om:=by rw[RD.flush,if_neg (by rw[e];exact Bool.false_ne_true)]
  have ND:=d3.size;have:=hK h' ay (F3.trans f' λx hx y=>by have e:=g2 x hx;exact⟨by have:=y.1;omega,by have:=y.2;omega⟩) (g2.trans g' (by omega)) (by rw[hf];exact D');rw[hf]at this;exact this
end Ad
namespace Hd
open Hp W Su Re
structure Sc where
 a:OA
 l:Nat
 c:Nat
def Sc.v(s:Sc):Value:=vS s.a s.l s.c
structure Wf(h:ad)(a:OA)(l:Nat)(ss:List Sc)(ds:List LB):Prop where
 cells:ak h a (ss.map Sc.v)
 num:ss.length=l
 len:ss.length=ds.length
 at_:∀i (h1:i<ss.length) (h2:i<ds.length),aw h ss[i].a ss[i].l ds[i]
theorem Wf.fr{h h':ad}{a:OA}{l:Nat}{ss:List Sc}{ds:List LB}(d:Wf h a l ss ds)(f:Fr No h h'):Wf h' a l ss ds:=
 ⟨ak.fr f d.cells λ_ _ x=>x,d.num,d.len,λi h1 h2=>aw.fr f (d.at_ i h1 h2) λ_ _ x=>x⟩
theorem Wf.get{ss:List Sc}{ds:List LB}(d:Wf h a l ss ds){i:Nat}(hi:i<l) :
  ∃p s b,a=some p/\cellOf h (p.add i)=some (Sc.v s)/\ds[i]?=some b/\aw h s.a s.l b:=by
 have h1:=d.num;have h2:=d.len;have h3:i<ss.length:=by omega
 have h4:i<ds.length:=by omega
 have c:=d.cells
 cases a with
 | none=>have c:ss.map Sc.v=[]:=c;have:=List.map_eq_nil_iff.mp c;rw[this]at h3;exact absurd h3 (by simp)
 | some p=>exact⟨p,ss[i],ds[i],rfl,c i _ (by rw[lG0,List.getElem?_eq_getElem h3];rfl),List.getElem?_eq_getElem h4,d.at_ i h3 h4⟩
def ints(ns:List Int):LV:=ns.map λn=>vI n
theorem gn(c:ak h a (ints ns)){i:Nat}(hi:i<ns.length):∃p,a=some p/\cellOf h (p.add i)=some (vI ns[i]):=by
 cases a with
 | none=>have c:ints ns=[]:=c;have:=List.map_eq_nil_iff.mp c;rw[this]at hi;exact absurd hi (by simp)
 | some p=>exact⟨p,rfl,c i _ (by rw[ints,lG0,List.getElem?_eq_getElem hi];rfl)⟩
def tm(n:Int):Int->List Int->Bool
 | _,[]=>true
 | last,i::r=>!(decide (i<=last) || decide (i>=n)) && tm n i r
def DE(ns:List Int)(n:Int):Bool:=tm n 97 ns && (decide ((ns.length:Int)>=1) && decide ((ns.length:Int)<=96))
theorem Wg{bl bn:Nat}{last n:Int}(o:dJ h bl)(r:rd h bl=[vI last])(rn:rd h bn=[vI n])(dp:bl≠bn)
  (hK:∀h',rW bl h h' [vI i]->K (.bool (decide (i<=last) || decide (i>=n))) h'):C.mN i (some ⟨bl,0,none⟩) (some ⟨bn,0,none⟩) h K:=by
 refine mN.ok (os ⟨last,cI r rfl,os (aO.intro o (by rw[r];exact(by decide:0<1)) λh2 d2=>?_)⟩);rw[r]at d2;have k:=hK h2 d2;refine cd (λhi=>?_) λhi=>os ⟨n,?_,?_⟩
 ·rw[decide_eq_true hi]at k;exact k
 ·have bK:bn<h.size:=gr (show(rd h bn)[0]?=some (vI n) by rw[rn];rfl);exact cI ((d2.at_ bK (λe=>dp e.symm)).trans rn) rfl
 ·rw[decide_eq_false hi]at k;exact k
theorem tS{n:Int}(B:ak h a (ints ns))(hn:ns.length=l)(hl:l<=140737488355328)
  (hK:∀h',Fr No h h'->K (.bool (DE ns n)) h'):C.rY a l c n h K:=by
 refine rY.ok (az.intro λh2 n2=>az.intro λh3 n3=>aO.intro n3.own (by rw[n3.rd];exact Nat.one_pos) λh4 d4=>?_);have HA:=n2.size;have ND:=n3.size;have hs4:=d4.fr.size;have F4:Fr No h h4:=(n2.fr.no n3.fr).did d4 λx=>by omega
 refine⟨λk hh=>0<=k/\k<=l/\Fr No h hh/\rd hh h.size=[vI n]/\dJ hh h2.size/\∃last,rd hh h2.size=[vI last]/\tm n 97 ns=tm n last (ns.drop k.toNat),λk _=>((l:Int)-k).toNat,
  ⟨by omega,by omega,F4,(d4.at_).trans ((n3.at_ n2.own.lt).trans n2.rd),d4.own,97,by rw[d4.rd,n3.rd];rfl,rfl⟩,?_⟩
 rintro k h5 ⟨k0,k1,f5,r5,o5,last,rl,e⟩;refine cd (λhk=>?_) λhk=>?_
 ·have yM:k.toNat<ns.length:=by omega
  obtain⟨p,rfl,c5⟩:=gn (ak.fr f5 B λ_ _ x=>x) yM;refine⟨⟨k0,hk⟩,os ⟨_,c5,Wg o5 rl r5 (by omega) λh6 d6=>⟨_,rfl,?_⟩⟩⟩;have f6:=f5.did d6 λx=>by omega
  rw[List.drop_eq_getElem_cons yM,tm]at e;refine cs (λhb=>?_) λhb=>?_
  ·rw[hb]at e;have:DE ns n=false:=(by rw[DE,e];rfl);have k6:=hK h6 f6;rw[this]at k6;exact k6
  ·rw[hb]at e;rw[wrap_i64 (by omega) (by omega)];exact⟨⟨by omega,by omega,f6,(d6.at_ (gr (show(rd h5 h.size)[0]?=some (vI n) by rw[r5];rfl)) (by omega)).trans r5,d6.own,_,d6.rd,by rw[e,show(k+1).toNat=k.toNat+1 by omega];rfl⟩,di hk⟩
 ·rw[List.drop_of_length_le (by omega)]at e;have k5:=hK h5 f5;have e1:tm n 97 ns=true:=e;unfold DE at k5;rw[e1,hn]at k5;refine cd (λh1=>?_) λh1=>?_
  ·rw[decide_eq_true h1]at k5;exact k5
  ·rw[decide_eq_false h1]at k5;exact k5
def YB(ds:List LB)(n:Int):Bool:=ds.all (λd=>d.length==512) && ((ds.length:Int)==n)
theorem DF{ss:List Sc}{ds:List LB}{n:Int}(D:Wf h a l ss ds)(hl:l<=140737488355328)
  (hK:K (.bool (YB ds n)) h):C.jL a l c n h K:=by
 have h1:=D.num;have h2:=D.len;refine jL.ok ⟨λk hh=>0<=k/\k<=l/\h=hh/\ds.all (λd=>d.length==512)=(ds.drop k.toNat).all (λd=>d.length==512),λk _=>((l:Int)-k).toNat,⟨by omega,by omega,rfl,rfl⟩,?_⟩;rintro k _ ⟨k0,k1,rfl,e⟩;refine cd (λhk=>?_) λhk=>?_
 ·obtain⟨p,s,b,rfl,cp,hb,S⟩:=D.get (i:=k.toNat) (by omega);have yM:k.toNat<ds.length:=by omega
  rw[List.getElem?_eq_getElem yM]at hb;have hb:=Option.some.inj hb;rw[List.drop_eq_getElem_cons yM,List.all_cons,hb]at e;have sl:=S.1;refine⟨⟨k0,hk⟩,os ⟨_,_,_,cp,cn (λx=>?_) λx=>?_⟩⟩
  ·have:(b.length==512)=false:=(by rw[beq_eq_false_iff_ne];omega);rw[this]at e;rw[YB,e]at hK;exact hK
  ·have:(b.length==512)=true:=(by rw[beq_iff_eq];omega);rw[this]at e;rw[wrap_i64 (by omega) (by omega)];exact⟨⟨by omega,by omega,rfl,by rw[e,show(k+1).toNat=k.toNat+1 by omega];rfl⟩,di hk⟩
 ·rw[List.drop_of_length_le (by omega)]at e;rw[YB,e,<-h2,h1]at hK;exact hK
theorem uM(B:aw h (some p) l bs)(hl:l<=140737488355328)
  (hK:∀a' c' h',Fr No h h'->Sl h' 1 a' l c' (bs.map bv) (dG h.size)->K (vS a' l c') h'):C.mO (some p) l c h K:=by
 refine mO.ok (cf rfl (az.intro λh2 n2=>?_));have HA:=n2.size;obtain⟨s1,s2,s3⟩:=aw.src (aw.fr n2.fr B (λ_ _ x=>x));refine⟨_,s1,s2,s3,?_⟩;refine dh (xs:=[]) (F:=dG h.size) (Sl.made n2 rfl nL0 rfl nL0 rfl) s1 rfl (by show(0+l)*1<=_;omega) (by omega) λa' c' h' f s=>?_;rw[Nat.zero_add,List.nil_append]at s;rw[Nat.zero_add];exact hK a' c' h' (n2.fr.trans f λb hb e=>by have:h.size<=b:=e;omega) (s.mono λb hb=>by rcases hb with hb|hb;exact hb;show h.size<=b;omega)
def yx(hd:LB)(ds:List LB):Int:=ds.foldl (λs d=>xO s (ofM d) d.length) (ofM (iH hd 12 (br 4 0)))
theorem JY(ds:List LB):∀s,Cc s->Cc (ds.foldl (λs d=>xO s (ofM d) d.length) s):=by
 induction ds with
 | nil=>intro s h;exact h
 | cons d r ih=>intro s _;exact ih _ (Dx _ _ _)
theorem GB(hd:LB)(ds:List LB):Cc (yx hd ds):=JY _ _ (JN _)
theorem Md{hd:LB}{ss:List Sc}{ds:List LB}(g:kJ h)(B:aw h a l hd)(hl:l=512)(D:Wf h da dl ss ds)(hdl:dl<=140737488355328)
  (Ro:∀d∈ds,d.length<=1099511627776) (hK:∀h',Fr No h h'->K (.int .u32 (yx hd ds)) h'):C.oI a l c da dl dc h K:=by
 have hb:=B.1;have hn:=D.num;have hlen:=D.len
 cases a with
 | none=>have:=B.2;have:hd.map bv=[]:=this;have:=List.map_eq_nil_iff.mp this;rw[this]at hb;simp at hb;omega
 | some p=>
 refine oI.ok (uM B (by omega) λa2 c2 h2 f2 s2=>⟨_,_,_,rfl,?_⟩);have g2:=g.no f2;obtain⟨p2,rfl,_⟩:=s2.get (by omega);have L7:=s2.mk;obtain⟨b2,o2,sp⟩:=p2;have L7:sp=none:=by simpa using L7
 subst L7;have Up:h.size<=b2:=s2.2.2.1;refine lO (v:=0) g2 s2 (by omega) (by omega) (by omega) (by omega) (by decide) λh3 f3 s3=>⟨_,rfl,?_⟩;have F3:Fr No h h3:=f2.trans f3 λx hx e=>by have:x=b2:=e;omega
 have g3:=g.no F3;refine Su.Cw g3.half s3.str (by omega) ⟨_,rfl,?_⟩;refine⟨λs k hh=>0<=k/\k<=dl/\Fr No h hh/\Cc s/\s=(ds.take k.toNat).foldl (λs d=>xO s (ofM d) d.length) (ofM (iH hd 12 (br 4 0))),λ_ k _=>((dl:Int)-k).toNat,⟨by omega,by omega,F3,JN _,rfl⟩,?_⟩;rintro s k h5 ⟨k0,k1,f5,us,es⟩;refine cd (λhk=>?_) λhk=>?_
 ·obtain⟨q,sc,d,rfl,cq,Lg,S⟩:=(D.fr f5).get (i:=k.toNat) (by omega);have yM:k.toNat<ds.length:=by omega
  rw[List.getElem?_eq_getElem yM]at Lg;have Lg:=Option.some.inj Lg;have hdm:=Ro _ (List.getElem_mem yM);rw[Lg]at hdm;have sl:=S.1;have g5:=g.no f5;refine⟨⟨k0,hk⟩,os ⟨_,_,_,cq,Su.Cw g5.half S (by omega) ⟨_,rfl,Pr g5.half us (by omega) (by omega) λh7 f7=>⟨_,_,rfl,?_⟩⟩⟩⟩;rw[wrap_i64 (by omega) (by omega)];refine⟨⟨by omega,by omega,f5.no f7,Dx _ _ _,?_⟩,di hk⟩;rw[show(k+1).toNat=k.toNat+1 by omega,List.take_succ_eq_append_getElem yM,List.foldl_append,<-es,Lg];show xO s (ofM d) (sc.l:Int)=xO s (ofM d) (d.length:Int);rw[sl]
 ·rw[List.take_of_length_le (by omega)]at es;rw[es];exact hK h5 f5
def aL(n:Nat):LB:=List.replicate n 0
theorem rM(m n:Nat):aL (m+n)=aL m++aL n:=List.replicate_append_replicate.symm
theorem eM(n:Nat):(aL n).length=n:=List.length_replicate
theorem DG(hK:∀ h',sM h h' ((aL 512).map bv)->K (vS (some (bA h)) 512 512) h'):C.mH h K:=by
 refine mH.ok ⟨⟨by decide,by decide,by decide,by decide⟩,az.intro λh2 n2=>hK h2 ?_⟩;have e:aN z5 (Int.toNat 512)=(aL 512).map bv:=by rw[aL,List.map_replicate];rfl
 rw[<-e];exact n2
def iU : LB:=[66,79,76,69,76,79,71,49]
def bW(ns:List Int):LB:=ns.flatMap λi=>br 4 i.toNat
def jT(ns:List Int)(s:Nat):LB:=iU++br 2 ns.length++aL 2++br 4 s++bW ns++aL (496-4*ns.length)
theorem ji(ns:List Int):(bW ns).length=4*ns.length:=by
 induction ns with
 | nil=>rfl
 | cons n r ih=>
  have e:bW (n::r)=br 4 n.toNat++bW r:=rfl;rw[e,lA0,bB,ih,List.length_cons];omega
theorem JZ(ns:List Int)(s t:Nat):iH (jT ns s) 12 (br 4 t)=jT ns t:=by
 have hx:(iU++br 2 ns.length++aL 2).length=12:=by simp only[lA0,bB,eM];rfl
 have:=v8 (iU++br 2 ns.length++aL 2) (br 4 s) (bW ns++aL (496-4*ns.length)) (br 4 t) (by rw[bB,bB]);rw[hx]at this;simp only[jT,List.append_assoc]at this ⊢;exact this
theorem J1 : br 4 0=aL 4:=by decide
theorem Sn{n:Int}:∀(ns:List Int) (last:Int),tm n last ns=true->∀x∈ns,last<x/\x<n:=by
 intro ns
 induction ns with
 | nil=>intro _ _ x hx;exact absurd hx List.not_mem_nil
 | cons i r ih=>
  intro last h x hx;rw[tm,Bool.and_eq_true,Bool.not_eq_true',Bool.or_eq_false_iff]at h;obtain⟨⟨h1,h2⟩,h3⟩:=h;have h1:=of_decide_eq_false h1;have h2:=of_decide_eq_false h2
  rcases List.mem_cons.mp hx with rfl|hx
  ·omega
  ·have:=ih i h3 x hx;omega
theorem Sp{n:Int}(h:DE ns n=true):(∀x∈ns,97<x/\x<n)/\1<=ns.length/\ns.length<=96:=by
 rw[DE,Bool.and_eq_true,Bool.and_eq_true]at h;have h1:=of_decide_eq_true h.2.1;have h2:=of_decide_eq_true h.2.2;exact⟨Sn ns 97 h.1,by omega,by omega⟩
theorem wrap_u64{n:Int}(h0:0<=n)(h1:n<18446744073709551616):IntKind.wrap .u64 n=n:=by
 show n%18446744073709551616=n;exact Int.emod_eq_of_lt h0 h1
theorem PE{na:OA}{nl nc:Nat}{ss:List Sc}{ds:List LB}(g:kJ h)(B:ak h na (ints ns))(hn:ns.length=nl)(hnl:nl<=140737488355328)(D:Wf h da dl ss ds)(hdl:dl<=140737488355328)
  (h1:DE ns 16384=false->∀h',Fr No h h'->K (.tuple #[vS none 0 0,vI 40]) h')
  (h2:DE ns 16384=true->YB ds ns.length=false->∀h',Fr No h h'->K (.tuple #[vS none 0 0,vI 32]) h')
  (h3:DE ns 16384=true->YB ds ns.length=true->∀b h',Fr No h h'->h.size<=b->Sl h' 1 (some ⟨b,0,none⟩) 512 512 ((jT ns (yx (jT ns 0) ds).toNat).map bv) (λx=>x=b)->K (.tuple #[vS (some ⟨b,0,none⟩) 512 512,vI 0]) h') :
  C.qc na nl nc da dl dc h K:=by
 refine qc.ok (tS B hn hnl λtP f2=>⟨_,rfl,jV (cs (λhm=>?_) λhm=>h1 hm _ f2)⟩);refine DF (D.fr f2) hdl ⟨_,rfl,jV (cs (λhb=>?_) λhb=>h2 hm (by rw[hn];exact hb) _ f2)⟩;rw[<-hn]at hb;have k:=h3 hm hb;obtain⟨vl,π,YA⟩:=Sp hm
 have sf:∀d∈ds,d.length<=1099511627776:=λd hd=>by
  rw[YB,Bool.and_eq_true]at hb;have:=List.all_eq_true.mp hb.1 d hd;rw[beq_iff_eq]at this;omega
 refine DG λh4 n4=>⟨_,_,_,rfl,?_⟩;have hs4:=n4.size;have F4:=f2.new n4;have g4:=g.no F4;have HA:=f2.size;have new:h.size<=tP.size:=HA;have s4:Sl h4 1 (some (bA tP)) 512 512 ((aL 512).map bv) (λb=>b=tP.size):=Sl.made n4 (by rw[List.append_nil]) rfl (by rw[lM0,eM]) nL0 rfl;have fr:∀{h' Se:ad},Fr No h h'->Fr (λx=>x=tP.size) h' Se->Fr No h Se:=λf f'=>f.trans f' λx hx e=>by have:x=tP.size:=e;omega
 refine H6 (n:=8) (ss:=iU) s4 (by omega) rfl (by omega) (by omega) (by decide) λh5 f5 s5=>⟨_,rfl,?_⟩;have F5:=fr F4 f5;have e5:iH (aL 512) (0:Int).toNat iU=iU++aL 504:=v8 [] (aL 8) (aL 504) iU rfl;rw[e5]at s5;rw[wrap_u64 (by omega) (by omega)];refine lO (n:=2) (at_:=8) (v:=nl) (g.no F5) s5 (by omega) (by omega) (by omega) (by omega) (by show nl<65536;omega) λh6 f6 s6=>⟨_,rfl,?_⟩;have F6:=fr F5 f6
 have e6:iH (iU++aL 504) (8:Int).toNat (br (2:Int).toNat nl)=iU++br 2 nl++aL 502:=by
  have:=v8 iU (aL 2) (aL 502) (br 2 nl) (by rw[bB,eM]);rw[List.append_assoc,<-rM]at this;exact this
 rw[e6]at s6;have P16l:(iU++br 2 nl++aL 6).length=16:=by simp only[lA0,bB,eM];rfl
 refine⟨λk hh=>0<=k/\k<=nl/\Fr No h hh/\Sl hh 1 (some (bA tP)) 512 512 ((iU++br 2 nl++aL 6++bW (ns.take k.toNat)++aL (496-4*k.toNat)).map bv) (λb=>b=tP.size),λk _=>((nl:Int)-k).toNat,
  ⟨by omega,by omega,F6,?_⟩,?_⟩
 ·have e:iU++br 2 nl++aL 502=iU++br 2 nl++aL 6++bW (ns.take (0:Int).toNat)++aL (496-4*(0:Int).toNat):=by
   show _=iU++br 2 nl++aL 6++[]++aL 496;rw[List.append_nil,List.append_assoc _ (aL 6),<-rM]
  rw[<-e];exact s6
 rintro i h7 ⟨i0,i1,f7,s7⟩;refine cd (λhi=>?_) λhi=>?_
 ·have vt:i.toNat<ns.length:=by omega
  obtain⟨p,rfl,cp⟩:=gn (ak.fr f7 B λ_ _ x=>x) vt;have hx:=vl _ (List.getElem_mem vt);refine⟨⟨i0,hi⟩,os ⟨_,cp,?_⟩⟩;rw[wq (4*i),wq (16+4*i),wrap_u64 (by omega) (by omega),wq (i+1)];have ev:ns[i.toNat]=((ns[i.toNat].toNat:Nat):Int):=by omega
  rw[ev];refine lO (n:=4) (at_:=16+4*i) (v:=ns[i.toNat].toNat) (g.no f7) s7 (by omega) (by omega) (by omega) (by omega) (by show ns[i.toNat].toNat<4294967296;omega) λh8 f8 s8=>⟨_,rfl,?_⟩;refine⟨⟨by omega,by omega,fr f7 f8,?_⟩,di hi⟩
  have hxl:(iU++br 2 nl++aL 6++bW (ns.take i.toNat)).length=(16+4*i).toNat:=by
   rw[lA0,P16l,ji,lT0];omega
  have hz:aL (496-4*i.toNat)=aL 4++aL (496-4*(i.toNat+1)):=by rw[<-rM];congr 1;omega
  have ee:iH (iU++br 2 nl++aL 6++bW (ns.take i.toNat)++aL (496-4*i.toNat)) (16+4*i).toNat (br (4:Int).toNat ns[i.toNat].toNat) =
    iU++br 2 nl++aL 6++bW (ns.take (i+1).toNat)++aL (496-4*(i+1).toNat):=by
   rw[hz,<-hxl,<-List.append_assoc];have:=v8 (iU++br 2 nl++aL 6++bW (ns.take i.toNat)) (aL 4) (aL (496-4*(i.toNat+1))) (br 4 ns[i.toNat].toNat) (by rw[bB,eM]);rw[show(4:Int).toNat=4 from rfl,this,show(i+1).toNat=i.toNat+1 by omega,List.take_succ_eq_append_getElem vt];have:bW (ns.take i.toNat++[ns[i.toNat]])=bW (ns.take i.toNat)++br 4 ns[i.toNat].toNat:=(by simp only[bW,List.flatMap_append,List.flatMap_cons,List.flatMap_nil,List.append_nil]);rw[this];simp only[List.append_assoc]
  rw[ee]at s8;exact s8
 ·have e:i.toNat=nl:=by omega
  rw[e,List.take_of_length_le (by omega)]at s7
  have e0:iU++br 2 nl++aL 6++bW ns++aL (496-4*nl)=jT ns 0:=by
   rw[jT,J1,hn,show aL 6=aL 2++aL 4 from rM 2 4];simp only[List.append_assoc]
  rw[e0]at s7;refine Md (g.no f7) s7.str rfl (D.fr f7) hdl sf λh9 f9=>⟨_,rfl,?_⟩;have us:=GB (jT ns 0) ds;obtain⟨u0,u1⟩:=us;rw[wrap_u64 u0 (by omega)];have ev:yx (jT ns 0) ds=(((yx (jT ns 0) ds).toNat:Nat):Int):=by omega
  rw[ev];refine lO (n:=4) (at_:=12) (v:=(yx (jT ns 0) ds).toNat) (g.no (f7.no f9)) (s7.fr f9 λ_ _ _ x=>x) (by omega) (by omega) (by omega) (by omega) (by show(yx (jT ns 0) ds).toNat<4294967296;omega) λcB f10 Ma=>⟨_,rfl,?_⟩;have e1:iH (jT ns 0) (12:Int).toNat (br (4:Int).toNat (yx (jT ns 0) ds).toNat)=jT ns (yx (jT ns 0) ds).toNat:=JZ ns 0 _;rw[e1]at Ma;exact k _ cB (fr (f7.no f9) f10) HA Ma
def jO(hd:LB)(o n:Nat):Nat:=AE ((hd.drop o).take n)
theorem Sq(hd:LB)(o n:Nat):jO hd o n<256 ^ n:=by
 refine Nat.lt_of_lt_of_le (H5 _) (Nat.pow_le_pow_right (by decide) ?_);rw[lT0];exact Nat.min_le_left _ _
theorem wh(n v:Nat):br (n+1) v=UInt8.ofNat v::br n (v/256):=by
 rw[br,List.range_succ_eq_map,List.map_cons,List.map_map];congr 1
 ·rw[Nat.pow_zero,Nat.div_one]
 ·rw[br];apply List.map_congr_left;intro k _;show UInt8.ofNat (v/256 ^ (k+1))=UInt8.ofNat (v/256/256 ^ k);rw[Nat.pow_succ,Nat.mul_comm,Nat.div_div_eq_div_mul]
theorem zx : ∀(bs:LB),br bs.length (AE bs)=bs:=by
 intro bs
 induction bs with
 | nil=>rfl
 | cons b r ih=>
  have hb:b.toNat<256:=b.toNat_lt;rw[List.length_cons,wh,AE,show(b.toNat+256*AE r)/256=AE r by omega,ih];congr 1;apply UInt8.toNat_inj.mp;rw[UInt8.toNat_ofNat'];omega
theorem Ff(h:lG bs=true):bs=aL bs.length:=by
 induction bs with
 | nil=>rfl
 | cons b r ih=>
  rw[lG,List.all_cons,Bool.and_eq_true]at h;have hb:b=0:=by simpa using h.1
  have:=ih h.2;rw[List.length_cons,aL,List.replicate_succ,hb];exact congrArg _ this
theorem sj(xs:LB)(i n:Nat):xs.drop i=(xs.drop i).take n++xs.drop (i+n):=by
 have:=List.take_append_drop n (xs.drop i);rw[List.drop_drop]at this;exact this.symm
theorem zy{xs:LB}{n:Nat}(h:xs.length=n):(xs++ys).drop n=ys:=by rw[<-h,List.drop_left]
theorem Cy(n:Int):(Value.int .u8 (IntKind.wrap .u8 n))=bv (UInt8.ofNat (n%256).toNat):=by
 show Value.int .u8 (n%256)=Value.int .u8 ((UInt8.ofNat (n%256).toNat).toNat:Int);rw[UInt8.toNat_ofNat'];congr 1;have:=Int.emod_nonneg n (show(256:Int)≠0 by decide);have:=Int.emod_lt_of_pos n (show(0:Int)<256 by decide);omega
end Hd
namespace Wc
open Hp W Ad
inductive Me where
 | w (i:Int) (b:LB)
 | f
def Me.on(S:RD):Me->RD×Int
 | .w i b=>S.write i b
 | .f=>S.flush
def oK : List Me->RD->RD×Int
 | [],S=>(S,0)
 | s::r,S=>if(s.on S).2=0 then oK r (s.on S).1 else s.on S
abbrev Nb :=List (Int×LB)
def ws(l:Nb):List Me:=l.map λp=>.w p.1 p.2
def GC(l:Nb):List Me:=ws l++[.f,.w 1 (Hd.aL 512),.f]
def Ia(l:Nb):Nb:=l.mapIdx λk x=>(2+(k:Int),x.2)
theorem mP(l:Nb):(Ia l).length=l.length:=List.length_mapIdx
theorem J2(l:Nb){k:Nat}(h:k<(Ia l).length):(Ia l)[k]=(2+(k:Int),(l[k]'(by rw[mP]at h;exact h)).2):=List.getElem_mapIdx ..
def pI(l:Nb)(Sr:LB):List Me:=ws (Ia l)++[.f,.w 1 Sr,.f]++GC l
def nA(l:Nb):LB:=Hd.jT (l.map (·.1)) (Hd.yx (Hd.jT (l.map (·.1)) 0) (l.map (·.2))).toNat
def AL(l:Nb)(n:Int):Bool:=Hd.tm n 97 (l.map (·.1)) && decide ((l.length:Int)<=96)
def AM(S:RD)(l:Nb):RD×Int:=
 if l=[]then(S,0)else if AL l S.aB.length=false then(S,40)else if(l.map (·.2)).all (λd=>d.length==512)=false then(S,32)
  else if S.down=true then(S,30)else oK (pI l (nA l)) S
abbrev Sc :=Tm.Sc
theorem cw.write{h:ad}{D:NP}{d:OA}{S:RD}{i:Int}{a:OA}{l c:Nat}{bs:LB}{K:KT}(A:cw h D d S)
  (B:aw h a l bs) (We:∀p,a=some p->¬D p.block) (hp:S.bz.length<1000000000) (ht:S.tape.length<1000000000)
  (hK:∀h' D',Fr D h h'->Gw h D h' D'->cw h' D' d (S.write i bs).1->K (vI (S.write i bs).2) h'):C.fY d i a l c h K:=by
 obtain⟨ao,A,hz,hD⟩:=A;refine eF A B (λp e _ x=>We p e ((hD _).mpr x)) hp ht λh' ay f g A'=>?_;obtain⟨D',g',a',_⟩:=cw.gw hD g f.size A';exact hK h' D' (f.mono λb _ x=>(hD b).mpr x) g' a'
theorem cw.flush{h:ad}{D:NP}{d:OA}{S:RD}{K:KT}(A:cw h D d S)(ht:S.tape.length<1000000000)
  (hK:∀h' D',Fr D h h'->Gw h D h' D'->cw h' D' d S.flush.1->K (vI S.flush.2) h'):C.fZ d h K:=by
 obtain⟨ao,A,hz,hD⟩:=A;refine yw A ht λh' ay f g A'=>?_;obtain⟨D',g',a',_⟩:=cw.gw hD g f.size A';exact hK h' D' (f.mono λb _ x=>(hD b).mpr x) g' a'
theorem cw.down{h:ad}{D:NP}{d:OA}{S:RD}{K:KT}(A:cw h D d S)(hK:K (.bool S.down) h):C.gM d h K:=by
 obtain⟨ao,A,_⟩:=A;exact PD A hK
inductive SV where
 | w (ib bb:Nat) (i:Int) (s:Sc) (b:LB)
 | f
def SV.v : SV->Value
 | .w ib bb _ _ _=>.func (.func 181) #[] ⟨[vP (some ⟨ib,0,none⟩),vP (some ⟨bb,0,none⟩)]⟩
 | .f=>.func (.func 182) #[] ⟨[]⟩
def SV.sF : SV->Me
 | .w _ _ i _ b=>.w i b
 | .f=>.f
def SV.Ok(h:ad)(D:NP):SV->Prop
 | .w ib bb i s b=>rd h ib=[vI i]/\rd h bb=[s.v]/\(ib<h.size/\¬D ib)/\(bb<h.size/\¬D bb)/\aw h s.a s.l b/\∀p,s.a=some p->p.block<h.size/\¬D p.block
 | .f=>True
theorem SV.Ok.fr{h h':ad}{D D':NP}{x:SV}(a:x.Ok h D)(f:Fr D h h')(g:Gw h D h' D'):x.Ok h' D':=by
 cases x with
 | f=>trivial
 | w ib bb i s b=>
  obtain⟨a1,a2,a3,a4,a5,a6⟩:=a;have k:∀{c:Nat},c<h.size/\¬D c->c<h'.size/\¬D' c:=fun {c} hc=>⟨Nat.lt_of_lt_of_le hc.1 f.size,λy=>hc.2 ((g.old c hc.1).mp y)⟩;exact⟨(f.rd a3.1 a3.2).trans a1,(f.rd a4.1 a4.2).trans a2,k a3,k a4,aw.fr f a5 λp e=>(a6 p e).2,λp e=>k (a6 p e)⟩
theorem SV.Ok.no{D:NP}{x:SV}(a:x.Ok h D)(f:Fr No h h')(hD:∀ b,D b->b<h.size):x.Ok h' D:=
 a.fr (f.mono λ_ _ y=>y.elim) (Gw.refl f.size hD)
theorem J3(S:RD)(f:RD->RD)(t p:Nat)(h1:(∀ S':RD,S'.tape=S.tape->S'.bz=S.bz->(f S').tape.length<=t/\(f S').bz.length<=p))(h2:S.tape.length<=t):(S.step f).1.tape.length<=t/\(S.step f).1.bz.length<=p:=by
 unfold RD.step
 by_cases a:0<S.left
 ·rw[if_pos a]
  by_cases b:S.left-1=0
  ·rw[if_pos b];exact⟨h2,nZ0⟩
  ·rw[if_neg b];exact h1 _ rfl rfl
 ·rw[if_neg a];exact h1 _ rfl rfl
theorem xd(S:RD)(s:Me):(s.on S).1.tape.length<=S.tape.length+1/\(s.on S).1.bz.length<=S.bz.length+1:=by
 have no:S.tape.length<=S.tape.length+1/\S.bz.length<=S.bz.length+1:=⟨Nat.le_succ _,Nat.le_succ _⟩
 cases s with
 | w i b=>
  show(S.write i b).1.tape.length<=_/\(S.write i b).1.bz.length<=_;have e1:(S.pH i b).tape.length=S.tape.length+1:=by show(S.tape++[_]).length=_;rw[lA0];rfl
  have e2:(S.pH i b).bz.length=S.bz.length+1:=by show(S.bz++[_]).length=_;rw[lA0];rfl
  unfold RD.write
  split
  ·exact no
  ·split
   ·exact no
   ·split
    ·exact no
    ·exact J3 _ _ _ _ (λS' h1 h2=>by show S'.tape.length<=_/\S'.bz.length<=_;rw[h1,h2,e1,e2];exact⟨nL0,nL0⟩) (by rw[e1];exact nL0)
 | f=>
  show S.flush.1.tape.length<=_/\S.flush.1.bz.length<=_;unfold RD.flush
  split
  ·exact no
  ·refine J3 _ _ _ _ (λS' h1 h2=>?_) (Nat.le_succ _);show(S'.tape++[_]).length<=_/\([]:List (Int×LB)).length<=_;rw[lA0,h1];exact⟨nL0,nZ0⟩
theorem qj{D:NP}{S:RD}{x:SV}(A:cw h D d S)(o:x.Ok h D)(hp:S.bz.length<1000000000)(ht:S.tape.length<1000000000)
  (hK:∀h' D',Fr D h h'->Gw h D h' D'->cw h' D' d (x.sF.on S).1->K (vI (x.sF.on S).2) h'):cT Tryz.prog x.v [vP d] h K:=by
 cases x with
 | w ib bb i s b=>
  obtain⟨a1,a2,a3,a4,a5,a6⟩:=o;show C.ir d (some ⟨ib,0,none⟩) (some ⟨bb,0,none⟩) h K;refine ir.ok (os ⟨_,cI a1 rfl,os ⟨s.a,s.l,s.c,cI a2 rfl,cw.write A a5 (λp e=>(a6 p e).2) hp ht λh' D' f g A'=>⟨_,rfl,hK h' D' f g A'⟩⟩⟩)
 | f=>
  show C.iu d h K;exact iu.ok (cw.flush A ht λh' D' f g A'=>⟨_,rfl,hK h' D' f g A'⟩)
theorem Wh{D:NP}{S:RD}{xs:List SV}(A:cw h D d S)(o:∀ x ∈ xs,x.Ok h D)
  (s:ak h a (xs.map SV.v)) (ha:∀p,a=some p->p.block<h.size/\¬D p.block) (hp:S.bz.length+xs.length<1000000000) (ht:S.tape.length+xs.length<1000000000)
  (hK:∀h' D',Fr D h h'->Gw h D h' D'->cw h' D' d (oK (xs.map SV.sF) S).1->K (vI (oK (xs.map SV.sF) S).2) h'):C.j6 a xs.length c d h K:=by
 refine j6.ok ⟨λn hh=>0<=n/\n<=xs.length/\∃D' S',cw hh D' d S'/\Fr D h hh/\Gw h D hh D'/\S'.tape.length<=S.tape.length+n.toNat/\S'.bz.length<=S.bz.length+n.toNat/\oK (xs.map SV.sF) S=oK ((xs.drop n.toNat).map SV.sF) S',
  λn _=>((xs.length:Int)-n).toNat,⟨by omega,by omega,D,S,A,Fr.refl _ _,Gw.refl nL0 (λb hb=>A.lt hb),by omega,by omega,rfl⟩,?_⟩
 rintro n h2 ⟨n0,n1,D',S',A',f,g,t1,t2,e⟩;refine cd (λhn=>?_) λhn=>?_
 ·have nV:n.toNat<xs.length:=by omega
  refine⟨⟨n0,hn⟩,?_⟩
  cases a with
  | none=>
   have s:xs.map SV.v=[]:=s;have:=List.map_eq_nil_iff.mp s;rw[this]at nV;exact absurd nV (by simp)
  | some p=>
   have cv:cellOf h2 (p.add n.toNat)=some xs[n.toNat].v:=aj.cell (aj.fr f s (ha p rfl).2) (by rw[lG0,List.getElem?_eq_getElem nV];rfl);rw[List.drop_eq_getElem_cons nV,List.map_cons]at e
   have e:oK (xs.map SV.sF) S=if(xs[n.toNat].sF.on S').2=0 then oK ((xs.drop (n.toNat+1)).map SV.sF) (xs[n.toNat].sF.on S').1 else xs[n.toNat].sF.on S':=e
   refine os ⟨_,cv,qj A' ((o _ (List.getElem_mem nV)).fr f g) (by omega) (by omega) λh3 D3 f3 g3 A3=>⟨_,rfl,cn (λhe=>?_) λhe=>?_⟩⟩
   ·rw[if_neg he]at e;have F:Fr D h h3:=f.trans f3 λb hb x=>(g.old b hb).mp x;rw[e]at hK;exact hK h3 D3 F (g.trans g3 f.size) A3
   ·rw[if_pos he]at e;have F:Fr D h h3:=f.trans f3 λb hb x=>(g.old b hb).mp x;have l:=xd S' xs[n.toNat].sF;rw[wrap_i64 (by omega) (by omega)];refine⟨⟨by omega,by omega,D3,_,A3,F,g.trans g3 f.size,by omega,by omega,?_⟩,di hn⟩;rw[e,show(n+1).toNat=n.toNat+1 by omega]
 ·rw[List.drop_of_length_le (by omega)]at e;have e:oK (xs.map SV.sF) S=(S',0):=e;rw[e]at hK;exact hK h2 D' f g A'
structure Bd(n0:Nat)(D:NP)(hh:ad)(sb:Nat)(R:NP)(xs:List SV):Prop where
 rsb:R sb
 ge:∀b,R b->n0<=b/\b<hh.size
 own:dJ hh sb
 row:∃a c,rd hh sb=[vS a xs.length c]/\Sl hh 1 a xs.length c (xs.map SV.v) (λb=>R b/\b≠sb)
 ok:∀x∈xs,x.Ok hh (λb=>D b∨R b)
theorem Bd.no{n0:Nat}{D:NP}{hh h':ad}{sb:Nat}{R:NP}{xs:List SV}(b:Bd n0 D hh sb R xs)(f:Fr No hh h')(hD:∀ b,D b->b<hh.size):Bd n0 D h' sb R xs:=by
 obtain⟨a,c,e,s⟩:=b.row
 exact⟨b.rsb,λx hx=>⟨(b.ge x hx).1,Nat.lt_of_lt_of_le (b.ge x hx).2 f.size⟩,f.own b.own.lt (λx=>x) b.own,⟨a,c,(f.rd b.own.lt λx=>x).trans e,s.fr f λ_ _ _ x=>x⟩,
  λx hx=>(b.ok x hx).no f λy hy=>hy.elim (hD y) λz=>(b.ge y z).2⟩
theorem DH{D:NP}{xs:List SV}{x:SV}{elem:TI}{K:HP}{v:Value}(b:Bd n0 D hh sb R xs)(hD:∀ b,D b->b<n0)(hx:x.Ok hh (λb=>D b∨R b))(hv:v=x.v)(hl:xs.length<1000000)
  (hz:elem.zero.length=elem.cells) (hc:elem.cells=1) (hby:elem.bytes<=64)
  (hK:∀h' R',Fr R hh h'->(∀b,R' b->R b∨hh.size<=b)->Bd n0 D h' sb R' (xs++[x])->K h') :
  ∀sA sL sC,cellOf hh ⟨sb,0,none⟩=some (vS sA sL sC)->
  az [v] e hh λh4=>∃aG:LV,List.length aG=1*1/\ak h4 (some (bA hh)) aG/\(∀v∈aG,v.oneCell'=true)/\
   aH elem e sA sL sC 1 aG h4 λdP dB ff h5=>ae (some (⟨sb,0,none⟩:Addr)) λp2=>Wx.aO p2 (vS dP dB ff) h5 λh6=>K h6:=by
 intro sA sL sC hs;subst hv;obtain⟨a,c,er,s⟩:=b.row;have hs':some (vS a xs.length c)=some (vS sA sL sC):=(cI er rfl).symm.trans hs
 cases hs'
 refine az.intro λh4 n4=>?_;have z4:=n4.size;have sbl:=b.own.lt;have one:x.v.oneCell'=true:=by cases x <;> rfl
 refine⟨[x.v],rfl,ah n4.rd,by intro v hv;rw[List.mem_singleton.mp hv];exact one,?_⟩;have s4:Sl h4 elem.cells sA xs.length sC (xs.map SV.v) (λb=>R b/\b≠sb):=by rw[hc];exact s.fr n4.fr λ_ _ _ x=>x
 refine dh s4 (by rw[hc];rfl) hz (Nat.le_trans (Nat.mul_le_mul (show xs.length+1<=1000000 by omega) hby) (by decide)) (by omega) λa' c' h5 f5 s5=>?_;rw[hc]at s5;have z5:=f5.size;have f45:Fr (λb=>R b/\b≠sb) hh h5:=(n4.fr.mono λ_ _ x=>x.elim).trans f5 λb _ x=>x;have o5:dJ h5 sb:=f45.own sbl (λx=>x.2 rfl) b.own;have r5:rd h5 sb=[vS sA xs.length sC]:=(f45.rd sbl λx=>x.2 rfl).trans er;refine os (aO.intro o5 (by rw[r5];exact Nat.one_pos) λh6 d6=>?_);rw[r5]at d6;have z6:=d6.size;have hb:=b.rsb;have f46:Fr R hh h6:=(f45.mono λb _ x=>x.1).did d6 λ_=>hb
 have s6:Sl h6 1 a' (xs.length+1) c' (xs.map SV.v++[x.v]) (λb=>(R b/\b≠sb)∨h4.size<=b):=s5.fr d6.fr λb hb x e=>by
  have e:b=sb:=e
  rcases x with x|x
  ·exact x.2 e
  ·omega
 have ge:=b.ge
 have g:Gw hh (λb=>D b∨R b) h6 (λb=>D b∨((R b∨h4.size<=b)/\b<h6.size)):=by
  refine⟨λy hy=>?_,λy hy=>?_⟩
  ·constructor
   ·rintro(q|⟨q|q,_⟩)
    ·exact .inl q
    ·exact .inr q
    ·omega
   ·rintro(q|q)
    ·exact .inl q
    ·exact .inr ⟨.inl q,by omega⟩
  ·rcases hy with q|q
   ·have:=hD y q;have:=(ge _ hb).1;omega
   ·exact q.2
 have fx:Fr (λb=>D b∨R b) hh h6:=f46.mono λ_ _ x=>.inr x;refine hK h6 (λb=>(R b∨h4.size<=b)/\b<h6.size) f46 (λy hy=>hy.1.imp id λq=>by omega) ⟨⟨.inl hb,by omega⟩,λy hy=>⟨?_,hy.2⟩,d6.own,⟨a',c',?_,?_⟩,λy hy=>?_⟩
 ·rcases hy.1 with q|q
  ·exact(ge y q).1
  ·have:=(ge _ hb).1;omega
 ·rw[d6.rd,lA0,List.length_singleton];rfl
 ·rw[lA0,List.length_singleton,List.map_append];have l6:∀y,dJ h6 y->y<h6.size:=λy o=>o.lt;obtain⟨q1,q2⟩:=s6;refine⟨q1,?_⟩
  cases a' with
  | none=>exact q2
  | some p=>
   obtain⟨a1,a2,a3,a4⟩:=q2;refine⟨a1,⟨⟨a2.imp (·.1) id,a3.lt⟩,λe=>?_⟩,a3,a4⟩
   rcases a2 with q|q
   ·exact q.2 e
   ·omega
 ·rcases List.mem_append.mp hy with q|q
  ·exact(b.ok y q).fr fx g
  ·rw[List.mem_singleton.mp q];exact hx.fr fx g
theorem ni{D:NP}{xs:List SV}{s:Sc}(b:Bd n0 D hh sb R xs)(hD:∀ b,D b->b<n0)(B:aw hh s.a s.l bs)
  (hs:∀p,s.a=some p->p.block<hh.size/\¬(D p.block∨R p.block)) (hl:xs.length<1000000)
  (hK:∀h' R' ib bb,Fr R hh h'->(∀b,R' b->R b∨hh.size<=b)->Bd n0 D h' sb R' (xs++[.w ib bb i s bs])->K (.tuple #[]) h'):C.eX (some ⟨sb,0,none⟩) i s.a s.l s.c hh K:=by
 refine eX.ok (az.intro λh2 n2=>az.intro λh3 n3=>os ?_);have F:Fr No hh h3:=n2.fr.new n3;have z2:=n2.size;have z3:=n3.size;have n0s:n0<=hh.size:=by have:=b.ge sb b.rsb;omega
 have b3:=b.no F λx hx=>by have:=hD x hx;omega
 have no:∀x,hh.size<=x->¬(D x∨R x):=λx hx y=>by
  rcases y with y|y
  ·have:=hD x y;omega
  ·have:=b.ge x y;omega
 have ok:(SV.w hh.size h2.size i s bs).Ok h3 (λb=>D b∨R b):=
  ⟨(n3.fr.rd (by omega) λx=>x).trans n2.rd,n3.rd,⟨by omega,no _ nL0⟩,⟨by omega,no _ (by omega)⟩,aw.fr F B λ_ _ x=>x,λp e=>⟨by have:=(hs p e).1;omega,(hs p e).2⟩⟩
 obtain⟨a,c,er,sl⟩:=b3.row;exact⟨a,_,c,cI er rfl,DH (x:=.w hh.size h2.size i s bs) b3 hD ok rfl hl rfl rfl (Nat.le_of_ble_eq_true rfl) (λh6 R' f g b6=>hK h6 R' _ _ ((F.mono λ_ _ x=>x.elim).trans f λ_ _ x=>x) (λy hy=>(g y hy).imp id λq=>by omega) b6) _ _ _ (cI er rfl)⟩
theorem nk{D:NP}{xs:List SV}(b:Bd n0 D hh sb R xs)(hD:∀ b,D b->b<n0)(hl:xs.length<1000000)
  (hK:∀h' R',Fr R hh h'->(∀b,R' b->R b∨hh.size<=b)->Bd n0 D h' sb R' (xs++[.f])->K (.tuple #[]) h'):C.eY (some ⟨sb,0,none⟩) hh K:=by
 obtain⟨a,c,er,sl⟩:=b.row;exact eY.ok (os ⟨a,_,c,cI er rfl,DH (x:=.f) b hD trivial rfl hl rfl rfl (Nat.le_of_ble_eq_true rfl) (λh6 R' f g b6=>hK h6 R' f g b6) _ _ _ (cI er rfl)⟩)
abbrev Rs :=List (Int×Sc×Tm.cL)
def nb(rs:Rs):Nb:=rs.map λr=>(r.1,r.2.2)
def jj(r:Int×Sc×Tm.cL):LV:=[vI r.1,r.2.1.v]
theorem lI(r:Int×Sc×Tm.cL):∀v∈jj r,v.oneCell'=true:=by
 intro v hv
 rcases List.mem_cons.mp hv with rfl|hv
 ·rfl
 ·rw[List.mem_singleton.mp hv];rfl
structure Bl(h:ad)(F:NP)(a:OA)(rs:Rs):Prop where
 cells:ak h a (rs.flatMap jj)
 ab:∀p,a=some p->p.block<h.size/\¬F p.block
 ok:∀r∈rs,aw h r.2.1.a r.2.1.l r.2.2/\∀p,r.2.1.a=some p->p.block<h.size/\¬F p.block
theorem Bl.fr{h h':ad}{F G F':NP}{a:OA}{rs:Rs}(b:Bl h F a rs)(f:Fr G h h')(hG:∀ x,x<h.size->G x->F x)(hF:∀ x,x<h.size->F' x->F x):Bl h' F' a rs:=
 ⟨ak.fr f b.cells λp e x=>(b.ab p e).2 (hG _ (b.ab p e).1 x),λp e=>⟨Nat.lt_of_lt_of_le (b.ab p e).1 f.size,λx=>(b.ab p e).2 (hF _ (b.ab p e).1 x)⟩,
  λr hr=>⟨aw.fr f (b.ok r hr).1 λp e x=>((b.ok r hr).2 p e).2 (hG _ ((b.ok r hr).2 p e).1 x),λp e=>⟨Nat.lt_of_lt_of_le ((b.ok r hr).2 p e).1 f.size,λx=>((b.ok r hr).2 p e).2 (hF _ ((b.ok r hr).2 p e).1 x)⟩⟩⟩
theorem Bl.no{rs:Rs}(b:Bl h F a rs)(f:Fr No h h'):Bl h' F a rs:=b.fr f (λ_ _ x=>x.elim) λ_ _ x=>x
theorem Bl.get{rs:Rs}(b:Bl h F a rs){i:Nat}(hi:i<rs.length):∃p,a=some p/\aj h (p.add (i*2)) (jj rs[i]):=by
 have c:=b.cells;have hw:∀r∈rs,(jj r).length=2:=λ_ _=>rfl;have hl:=fW jj 2 rs hw;have hp:=m6 jj 2 rs hw i hi;have h2:(jj rs[i]).length=2:=rfl
 cases a with
 | none=>
  have c:rs.flatMap jj=[]:=c;rw[c]at hl;exact absurd hl (by simp;omega)
 | some p=>
  refine⟨p,rfl,?_⟩;have:=(aj.take (aj.drop c (i*2)) 2);rw[hp]at this;exact this
theorem Bd.grow{n0:Nat}{D R':NP}{rs:Rs}(B:Bl hh (λb=>D b∨R b) a rs)(f:Fr R hh h')(g:∀ b,R' b->R b∨hh.size<=b):Bl h' (λb=>D b∨R' b) a rs:=
 B.fr f (λ_ _ x=>.inr x) λy hy x=>x.imp id λz=>(g y z).elim id λq=>by omega
theorem N8(l:Nb)(p:Int×LB):ws (l++[p])=ws l++[.w p.1 p.2]:=List.map_append
theorem PF{D:NP}{xs:List SV}{rs:Rs}(b:Bd n0 D hh sb R xs)(hD:∀ b,D b->b<n0)(B:Bl hh (λb=>D b∨R b) a rs)(hl:xs.length+rs.length<100000)
  (hK:∀h' R' ys,Fr R hh h'->(∀b,R' b->R b∨hh.size<=b)->Bd n0 D h' sb R' (xs++ys)->ys.map SV.sF=GC (nb rs)->ys.length=rs.length+3->K (.tuple #[]) h'):C.jJ (some ⟨sb,0,none⟩) a rs.length c hh K:=by
 refine jJ.ok ⟨λn h2=>0<=n/\n<=rs.length/\∃R' ys,Fr R hh h2/\(∀b,R' b->R b∨hh.size<=b)/\Bd n0 D h2 sb R' (xs++ys)/\ys.map SV.sF=ws (nb (rs.take n.toNat))/\ys.length=n.toNat,
  λn _=>((rs.length:Int)-n).toNat,⟨by omega,by omega,R,[],Fr.refl _ _,λb hb=>.inl hb,by rw[List.append_nil];exact b,rfl,rfl⟩,?_⟩
 rintro n h2 ⟨n0',n1,R',ys,f,g,b2,e,el⟩;have z2:=f.size;refine cd (λhn=>?_) λhn=>?_
 ·have nV:n.toNat<rs.length:=by omega
  have B2:=Bd.grow (n0:=n0) B f g;obtain⟨p,rfl,cc⟩:=B2.get nV;refine⟨⟨n0',hn⟩,os ⟨_,rfl,cc,aM.intro rfl (lI _) rfl λh4 n4=>⟨_,bJ n4.rd rfl,rs[n.toNat].2.1.a,rs[n.toNat].2.1.l,rs[n.toNat].2.1.c,bJ n4.rd rfl,?_⟩⟩⟩;have b4:=b2.no n4.fr λx hx=>by have:=hD x hx;have:=b2.ge sb b2.rsb;omega
  have B4:=B2.no n4.fr;have z4:=n4.size;obtain⟨k1,k2⟩:=B4.ok rs[n.toNat] (List.getElem_mem nV);refine ni b4 hD k1 k2 (by rw[lA0];omega) λh5 R5 ib bb f5 g5 b5=>⟨rfl,?_⟩;rw[wrap_i64 (by omega) (by omega)];refine⟨⟨by omega,by omega,R5,ys++[.w ib bb rs[n.toNat].1 rs[n.toNat].2.1 rs[n.toNat].2.2],(f.new n4).trans f5 λx hx y=>(g x y).elim id λq=>by omega,λx hx=>?_,by rw[List.append_assoc]at b5;exact b5,?_,?_⟩,di hn⟩
  ·rcases g5 x hx with q|q
   ·exact g x q
   ·exact .inr (by omega)
  ·rw[show(n+1).toNat=n.toNat+1 by omega,dQ _ _ nV,List.map_append,e];unfold nb;rw[List.map_append];exact(N8 (List.map (λr:Int×Sc×Tm.cL=>(r.1,r.2.2)) (rs.take n.toNat)) (rs[n.toNat].1,rs[n.toNat].2.2)).symm
  ·rw[lA0,el,List.length_singleton];omega
 ·have en:rs.take n.toNat=rs:=List.take_of_length_le (by omega);rw[en]at e;refine nk b2 hD (by rw[lA0];omega) λh6 R6 f6 g6 b6=>⟨rfl,Hd.DG λh7 n7=>⟨_,_,_,rfl,?_⟩⟩;have z6:=f6.size;have z7:=n7.size;have lt6:=b6.own.lt;have b7:=b6.no n7.fr λx hx=>by have:=hD x hx;have:=b6.ge sb b6.rsb;omega
  refine ni (s:=⟨some (bA h6),512,512⟩) (bs:=Hd.aL 512) b7 hD (yo n7.rd (Hd.eM 512)) (λp e=>by
    cases e
    refine⟨by show h6.size<h7.size;omega,λy=>?_⟩
    rcases y with y|y
    ·have:=hD h6.size y;have:=b6.ge sb b6.rsb;omega
    ·have:=b6.ge h6.size y;omega) (by rw[lA0,lA0,List.length_singleton];omega) λh8 R8 ib bb f8 g8 b8=>⟨rfl,?_⟩
  have z8:=f8.size;refine nk b8 hD (by simp only[lA0,List.length_singleton];omega) λh9 R9 f9 g9 b9=>⟨rfl,?_⟩;have G6:∀x,R6 x->R x∨hh.size<=x:=λx hx=>(g6 x hx).elim (g x) λq=>.inr (by omega);have G8:∀x,R8 x->R x∨hh.size<=x:=λx hx=>(g8 x hx).elim (G6 x) λq=>.inr (by omega);have G9:∀x,R9 x->R x∨hh.size<=x:=λx hx=>(g9 x hx).elim (G8 x) λq=>.inr (by omega);have st:∀{T:NP},(∀x,T x->R x∨hh.size<=x)->∀x,x<hh.size->T x->R x:=λG x hx y=>(G x y).elim id λq=>by omega
  refine hK h9 R9 (ys++[.f,.w ib bb 1 ⟨some (bA h6),512,512⟩ (Hd.aL 512),.f]) ((((f.trans f6 (st g)).new n7).trans f8 (st G6)).trans f9 (st G8)) G9 ?_ ?_ ?_
  ·rw[List.append_assoc,List.append_assoc,List.append_assoc]at b9;exact b9
  ·rw[List.map_append,e];rfl
  ·rw[lA0,el];show n.toNat+3=_;omega
theorem tS{rs:Rs}{n:Int}(B:Bl hh F a rs)(hl:rs.length<1000000)
  (hK:∀h',Fr No hh h'->K (.bool (AL (nb rs) n)) h'):C.uG a rs.length c n hh K:=by
 unfold AL at hK
 refine uG.ok ⟨λlast k h2=>0<=k/\k<=rs.length/\Fr No hh h2/\Hd.tm n 97 ((nb rs).map (·.1))=Hd.tm n last ((nb (rs.drop k.toNat)).map (·.1)),
  λ_ k _=>((rs.length:Int)-k).toNat,⟨by omega,by omega,Fr.refl _ _,rfl⟩,?_⟩
 rintro last k h2 ⟨k0,k1,f,e⟩;refine cd (λhk=>?_) λhk=>?_
 ·have yM:k.toNat<rs.length:=by omega
  obtain⟨p,rfl,cc⟩:=(B.no f).get yM;rw[List.drop_eq_getElem_cons yM]at e;have e:Hd.tm n 97 ((nb rs).map (·.1))=(!(decide (rs[k.toNat].1<=last) || decide (rs[k.toNat].1>=n)) && Hd.tm n rs[k.toNat].1 ((nb (rs.drop (k.toNat+1))).map (·.1))):=e;refine⟨⟨k0,hk⟩,os ⟨_,rfl,cc,aM.intro rfl (lI _) rfl λh4 n4=>⟨_,bJ n4.rd rfl,?_⟩⟩⟩;refine cd (λh1=>?_) λh1=>⟨_,bJ n4.rd rfl,?_⟩
  ·rw[e,decide_eq_true h1]at hK;exact hK h4 (f.new n4)
  rw[decide_eq_false h1]at e;refine cd (λh3=>?_) λh3=>⟨_,bJ n4.rd rfl,?_⟩
  ·rw[e,decide_eq_true h3]at hK;exact hK h4 (f.new n4)
  rw[decide_eq_false h3]at e;rw[wrap_i64 (by omega) (by omega)];exact⟨⟨by omega,by omega,f.new n4,by rw[show(k+1).toNat=k.toNat+1 by omega];exact e⟩,di hk⟩
 ·rw[List.drop_of_length_le (by omega)]at e;have e:Hd.tm n 97 ((nb rs).map (·.1))=true:=e;have el:(nb rs).length=rs.length:=List.length_map ..;rw[e,el]at hK;exact hK h2 f
theorem GD{n m:Int}(h:n<=m):∀(l:List Int) (last:Int),Hd.tm n last l=true->Hd.tm m last l=true
 | [],_,_=>rfl
 | a::r,last,e=>by
  have e:(!(decide (a<=last) || decide (a>=n)) && Hd.tm n a r)=true:=e;show(!(decide (a<=last) || decide (a>=m)) && Hd.tm m a r)=true;rw[Bool.and_eq_true]at e;rw[GD h r a e.2];have h1:=e.1
  by_cases x:a<=last
  ·rw[decide_eq_true x]at h1;cases h1
  ·by_cases y:a>=n
   ·rw[decide_eq_true y,Bool.or_true]at h1;cases h1
   ·rw[decide_eq_false x,decide_eq_false (by omega)];rfl
structure Row(n0:Nat)(h:ad)(F:NP)(w:Nat)(a:OA)(l c:Nat)(xs:LV):Prop where
 s:Sl h w a l c xs F
 ge:∀b,F b->n0<=b/\b<h.size
theorem Row.nil(n0:Nat)(h:ad)(w:Nat):Row n0 h No w none 0 0 []:=⟨Sl.nil _ _ _,λ_ x=>x.elim⟩
theorem Row.keep{G:NP}(r:Row n0 h F w a l c xs)(f:Fr G h h')(hG:∀ b,F b->¬ G b):Row n0 h' F w a l c xs:=
 ⟨r.s.fr f λb _ x=>hG b x,λb x=>⟨(r.ge b x).1,Nat.lt_of_lt_of_le (r.ge b x).2 f.size⟩⟩
theorem xe{vs:LV}{elem:TI}{K:OA->Nat->Nat->ad->Prop}(r:Row n0 hh F w a l c xs)(hv:vs.length=w)(one:∀ v ∈ vs,v.oneCell'=true)
  (hz:elem.zero.length=elem.cells) (hc:elem.cells=w) (hby:elem.bytes<=64) (hl:l<1000000) (hn:n0<=hh.size)
  (hK:∀a' c' h' F',Fr F hh h'->(∀b,F' b->F b∨hh.size<=b)->Row n0 h' F' w a' (l+1) c' (xs++vs)->K a' (l+1) c' h') :
  az vs e hh λh4=>∃aG:LV,List.length aG=1*w/\ak h4 (some (bA hh)) aG/\(∀v∈aG,v.oneCell'=true)/\aH elem e a l c 1 aG h4 K:=by
 refine az.intro λh4 n4=>?_;have z4:=n4.size;refine⟨vs,by rw[hv,Nat.one_mul],ah n4.rd,one,?_⟩;have s4:Sl h4 elem.cells a l c xs F:=by rw[hc];exact r.s.fr n4.fr λ_ _ _ x=>x
 refine dh s4 (by rw[hc,hv,Nat.one_mul]) hz (Nat.le_trans (Nat.mul_le_mul (show l+1<=1000000 by omega) hby) (by decide)) (by omega) λa' c' h5 f5 s5=>?_;rw[hc]at s5;have z5:=f5.size;refine hK a' c' h5 (λb=>(F b∨h4.size<=b)/\b<h5.size) ((n4.fr.mono λ_ _ x=>x.elim).trans f5 λb _ x=>x) (λb hb=>hb.1.imp id λq=>by omega) ⟨?_,λb hb=>⟨?_,hb.2⟩⟩
 ·obtain⟨q1,q2⟩:=s5;refine⟨q1,?_⟩
  cases a' with
  | none=>exact q2
  | some p=>obtain⟨a1,a2,a3,a4⟩:=q2;exact⟨a1,⟨a2,a3.lt⟩,a3,a4⟩
 ·rcases hb.1 with q|q
  ·exact(r.ge b q).1
  ·omega
theorem SV.Ok.aac{D E:NP}{x:SV}(a:x.Ok h D)(hE:∀ b,E b->D b):x.Ok h E:=by
 cases x with
 | f=>trivial
 | w ib bb i s b=>
  obtain⟨a1,a2,a3,a4,a5,a6⟩:=a;exact⟨a1,a2,⟨a3.1,λy=>a3.2 (hE _ y)⟩,⟨a4.1,λy=>a4.2 (hE _ y)⟩,a5,λp e=>⟨(a6 p e).1,λy=>(a6 p e).2 (hE _ y)⟩⟩
def Zj(r:Int×Sc×Tm.cL):Hd.Sc:=⟨r.2.1.a,r.2.1.l,r.2.1.c⟩
theorem Ib{D:NP}{S:RD}{xs:List SV}(b:Bd n0 D hh sb R xs)(hD:∀ b,D b->b<n0)(A:cw hh D d S)(hp:S.bz.length+xs.length<1000000000)(ht:S.tape.length+xs.length<1000000000)
  (hK:∀h' D',Fr D hh h'->Gw hh D h' D'->cw h' D' d (oK (xs.map SV.sF) S).1->K (vI (oK (xs.map SV.sF) S).2) h') :
  ∃(Ca:OA) (BA:Nat) (Dq:Nat),cellOf hh ⟨sb,0,none⟩=some (vS Ca BA Dq)/\C.j6 Ca BA Dq d hh λIU nD=>∃(n6:Int),IU = vI n6/\K (vI n6) nD:=by
 obtain⟨a,c,e,s⟩:=b.row;refine⟨a,_,c,cI e rfl,Wh A (λx hx=>(b.ok x hx).aac λ_ y=>.inl y) s.cells (λp e=>?_) hp ht λh' D' f g A'=>⟨_,rfl,hK h' D' f g A'⟩⟩;subst e;obtain⟨_,_,q,o,_⟩:=s;exact⟨o.lt,λy=>by have:=hD _ y;have:=(b.ge _ q.1).1;omega⟩
theorem PG(l:Nb){n:Nat}(h:n<l.length):ws ((Ia l).take (n+1))=ws ((Ia l).take n)++[.w (2+(n:Int)) l[n].2]:=by
 rw[dQ _ _ (by rw[mP];exact h),N8,J2]
theorem Ss(rs:Rs){n:Nat}(h:n<rs.length):(nb rs)[n]'(by unfold nb;rw[lM0];exact h)=(rs[n].1,rs[n].2.2):=List.getElem_map ..
theorem qH{D:NP}{S:RD}{rs:Rs}(G:Re.kJ hh)(A:cw hh D d S)(B:Bl hh D a rs)(hl:rs.length<1000000)(hp:S.bz.length<100000000)(ht:S.tape.length<100000000)
  (hK:∀h' D',Fr D hh h'->Gw hh D h' D'->cw h' D' d (AM S (nb rs)).1->K (vI (AM S (nb rs)).2) h'):C.oA d a rs.length c hh K:=by
 have hDl:∀b,D b->b<hh.size:=λb x=>A.lt x;have same:∀{h'},Fr No hh h'->Fr D hh h'/\Gw hh D h' D/\cw h' D d S:=λf=>⟨f.mono λ_ _ x=>x.elim,Gw.refl f.size hDl,A.no f⟩;have el:(nb rs).length=rs.length:=List.length_map ..;unfold AM at hK;refine oA.ok (ce (λh0=>?_) λh0=>?_)
 ·have e:nb rs=[]:=List.eq_nil_of_length_eq_zero (by rw[el];omega);rw[if_pos e]at hK;obtain⟨x,y,z⟩:=same (Fr.refl No hh);exact hK hh D x y z
 have dp:nb rs≠[]:=λe=>by rw[e]at el;have:(0:Nat)=rs.length:=el;omega
 rw[if_neg dp]at hK;refine cw.blocks A ⟨_,rfl,tS B (by omega) λh3 f3=>⟨_,rfl,jV (cs (λhm=>?_) λhm=>?_)⟩⟩
 rotate_left
 ·rw[if_pos hm]at hK;obtain⟨x,y,z⟩:=same f3;exact hK h3 D x y z
 rw[if_neg (by rw[hm];simp)]at hK;have z3:=f3.size;have toNo:∀{h'},Fr (dG hh.size) hh h'->Fr No hh h':=λf=>f.mono λb hb x=>by have x:hh.size<=b:=x;omega
 refine⟨λna nl nc da dl dc n h=>0<=n/\n<=rs.length/\nl=n.toNat/\dl=n.toNat/\Fr No hh h/\∃F1 F2:NP,Row hh.size h F1 1 na nl nc (Hd.ints ((rs.take n.toNat).map (·.1)))/\Row hh.size h F2 1 da dl dc ((rs.take n.toNat).map λr=>(Zj r).v)/\∀b,F1 b->¬F2 b,
  λ_ _ _ _ _ _ n _=>((rs.length:Int)-n).toNat,⟨by omega,by omega,rfl,rfl,f3,No,No,Row.nil _ _ _,Row.nil _ _ _,λb x=>x.elim⟩,?_⟩
 rintro na nl nc da dl dc n h4 ⟨n0,n1,rfl,rfl,f4,F1,F2,r1,r2,dj⟩;have z4:=f4.size;refine cd (λhn=>?_) λhn=>?_
 ·have nV:n.toNat<rs.length:=by omega
  obtain⟨p,rfl,cc⟩:=(B.no f4).get nV;refine⟨⟨n0,hn⟩,os ⟨_,rfl,cc,aM.intro rfl (lI _) rfl λh6 n6=>⟨_,bJ n6.rd rfl,?_⟩⟩⟩;have z6:=n6.size;have χ:=r1.keep n6.fr λ_ _ x=>x;have r2':=r2.keep n6.fr λ_ _ x=>x;refine xe χ rfl (λv hv=>by rw[List.mem_singleton.mp hv];rfl) rfl rfl (Nat.le_of_ble_eq_true rfl) (by omega) (by omega) λna' nc' h8 F1' f8 g8 adP=>?_;have z8:=f8.size;have r68:rd h8 h4.size=jj rs[n.toNat]:=(f8.rd (by omega) λx=>by have:=r1.ge _ x;omega).trans n6.rd;refine⟨rs[n.toNat].2.1.a,rs[n.toNat].2.1.l,rs[n.toNat].2.1.c,bJ r68 rfl,?_⟩;have r2'':=r2'.keep f8 λb x y=>dj b y x;refine xe r2'' rfl (λv hv=>by rw[List.mem_singleton.mp hv];rfl) rfl rfl (Nat.le_of_ble_eq_true rfl) (by omega) (by omega) λda' dc' cB F2' f10 g10 adQ=>?_;rw[wrap_i64 (by omega) (by omega)];have en:(n+1).toNat=n.toNat+1:=by omega
  refine⟨⟨by omega,by omega,en.symm,en.symm,?_,F1',F2',?_,?_,?_⟩,di hn⟩
  ·have q1:Fr No hh h8:=(f4.new n6).trans f8 λb hb x=>by have:=r1.ge b x;omega
   exact q1.trans f10 λb hb x=>by have:=r2.ge b x;omega
  ·have:=adP.keep f10 λb x y=>by
    rcases g8 b x with q|q
    ·exact dj b q y
    ·have:=(r2.ge b y).2;omega
   rw[en,dQ _ _ nV,List.map_append];unfold Hd.ints at this ⊢;rw[List.map_append];exact this
  ·rw[en,dQ _ _ nV,List.map_append];exact adQ
  ·intro b x y
   rcases g10 b y with q|q
   ·rcases g8 b x with q'|q'
    ·exact dj b q' q
    ·have:=(r2.ge b q).2;omega
   ·have:=(adP.ge b x).2;omega
 have et:rs.take n.toNat=rs:=List.take_of_length_le (by omega);rw[et]at r1 r2;have ln:n.toNat=rs.length:=by omega
 have elm:(rs.map (·.1)).length=n.toNat:=by rw[lM0,ln]
 have Wi:Hd.tm S.aB.length 97 (rs.map (·.1))=true/\rs.length<=96:=by
  unfold AL at hm;rw[Bool.and_eq_true]at hm;have h1:=hm.1;have h2:=of_decide_eq_true hm.2;rw[el]at h2;unfold nb at h1;rw[List.map_map]at h1;exact⟨h1,by omega⟩
 have hmm:Hd.DE (rs.map (·.1)) 16384=true:=by
  unfold Hd.DE;rw[GD (by have:=A.max.1;omega) _ _ Wi.1,decide_eq_true (by rw[elm];omega),decide_eq_true (by rw[elm];omega)];rfl
 have Dt:Hd.Wf h4 da n.toNat (rs.map Zj) (rs.map (·.2.2)):=by
  refine⟨?_,by rw[lM0,ln],by rw[lM0,lM0],λi h1 h2=>?_⟩
  ·rw[List.map_map];exact r2.s.cells
  ·rw[List.getElem_map,List.getElem_map];rw[lM0]at h1;exact aw.fr f4 (B.ok _ (List.getElem_mem h1)).1 λ_ _ x=>x
 have aad:((nb rs).map (·.2)).all (λd=>d.length==512)=Hd.YB (rs.map (·.2.2)) ((rs.map (·.1)).length):=by
  unfold Hd.YB nb;rw[List.map_map,lM0,lM0,beq_self_eq_true,Bool.and_true];rfl
 rw[aad]at hK;refine Hd.PE (G.no f4) r1.s.cells elm (by omega) Dt (by omega) (λx=>absurd (hmm.symm.trans x) (by simp)) (λ_ hb bQ f11=>⟨_,_,_,_,rfl,?_⟩) λ_ hb mi bQ f11 UX Fc=>⟨_,_,_,_,rfl,?_⟩
 ·rw[if_pos hb]at hK;obtain⟨x,y,z⟩:=same (f4.no f11);exact cn (λ_=>hK bQ D x y z) λx=>absurd x (by decide)
 rw[if_neg (by rw[hb];simp)]at hK;have J4:=f4.no f11;have Pz:=f11.size;refine cn (λx=>absurd rfl x) λ_=>cw.down (A.no J4) ⟨_,rfl,cs (λhd=>?_) λhd=>?_⟩
 ·rw[if_pos hd]at hK;obtain⟨x,y,z⟩:=same J4;exact hK bQ D x y z
 rw[if_neg (by rw[hd];simp)]at hK;refine az.intro λcg n13=>?_;have QM:=J4.new n13;have V8:=n13.size
 have b13:Bd bQ.size D cg bQ.size (λb=>b=bQ.size) []:=
  ⟨rfl,λb e=>⟨by omega,by omega⟩,n13.own,⟨none,0,n13.rd,Sl.nil _ _ _⟩,λx hx=>absurd hx List.not_mem_nil⟩
 have hD:∀b,D b->b<bQ.size:=λb x=>by have:=hDl b x;omega
 have ehd:nA (nb rs)=Hd.jT (rs.map (·.1)) (Hd.yx (Hd.jT (rs.map (·.1)) 0) (rs.map (·.2.2))).toNat:=by
  unfold nA nb;rw[List.map_map,List.map_map];rfl
 rw[<-ehd]at Fc;have lhd:(nA (nb rs)).length=512:=by have:=Fc.1;rw[lM0]at this;omega
 have sh:aw cg (some ⟨mi,0,none⟩) 512 (nA (nb rs)):=aw.fr n13.fr Fc.str λ_ _ x=>x;have adR:Bl cg (λb=>D b∨b=bQ.size) a rs:=B.fr QM (λ_ _ x=>x.elim) λx hx y=>y.elim id λe=>by omega
 have sf:mi<bQ.size:=by obtain⟨_,_,_,o,_⟩:=Fc;exact o.lt
 refine⟨λn h=>0<=n/\n<=rs.length/\∃R ys,Fr (λb=>b=bQ.size) cg h/\(∀b,R b->b=bQ.size∨cg.size<=b)/\Bd bQ.size D h bQ.size R ys/\ys.map SV.sF=ws ((Ia (nb rs)).take n.toNat)/\ys.length=n.toNat,
  λn _=>((rs.length:Int)-n).toNat,⟨by omega,by omega,_,[],Fr.refl _ _,λb x=>.inl x,b13,rfl,rfl⟩,?_⟩
 rintro m cM ⟨m0,m1,R,ys,f14,g14,b14,e14,l14⟩;have Sg:=f14.size;have B14:=Bd.grow (n0:=bQ.size) adR f14 g14;refine cd (λhn=>?_) λhn=>?_
 ·have nV:m.toNat<rs.length:=by omega
  obtain⟨p,rfl,cc⟩:=B14.get nV;refine⟨⟨m0,hn⟩,os ⟨_,rfl,cc,aM.intro rfl (lI _) rfl λiY n16=>⟨rs[m.toNat].2.1.a,rs[m.toNat].2.1.l,rs[m.toNat].2.1.c,bJ n16.rd rfl,?_⟩⟩⟩;have z16:=n16.size;have b16:=b14.no n16.fr λx hx=>by have:=hD x hx;omega
  obtain⟨k1,k2⟩:=(B14.no n16.fr).ok rs[m.toNat] (List.getElem_mem nV);rw[wq (2+m)];refine ni b16 hD k1 k2 (by omega) λfw R17 ib bb f17 g17 b17=>⟨rfl,?_⟩;rw[wrap_i64 (by omega) (by omega)];refine⟨⟨by omega,by omega,R17,_,(f14.new n16).trans f17 λx hx y=>(g14 x y).elim id λq=>by omega,λx hx=>?_,b17,?_,?_⟩,di hn⟩
  ·rcases g17 x hx with q|q
   ·exact g14 x q
   ·exact .inr (by omega)
  ·rw[show(m+1).toNat=m.toNat+1 by omega,PG _ (by rw[el];exact nV),List.map_append,e14,Ss _ nV,show((m.toNat:Nat):Int)=m by omega];rfl
  ·rw[lA0,l14,List.length_singleton];omega
 have e14':ys.map SV.sF=ws (Ia (nb rs)):=by rw[e14,List.take_of_length_le (by rw[mP,el];omega)]
 refine nk b14 hD (by omega) λma R18 f18 g18 b18=>⟨rfl,?_⟩;have z18:=f18.size;have G18:∀x,R18 x->x=bQ.size∨cg.size<=x:=λx hx=>(g18 x hx).elim (g14 x) λq=>.inr (by omega);have st:∀{T:NP},(∀x,T x->x=bQ.size∨cg.size<=x)->∀x,x<cg.size->T x->x=bQ.size:=λG x hx y=>(G x y).elim id λq=>by omega
 have F18:Fr (λb=>b=bQ.size) cg ma:=f14.trans f18 (st g14)
 have hr:∀{T:NP},(∀x,T x->x=bQ.size∨cg.size<=x)->¬T mi:=λG x=>by
  rcases G _ x with q|q <;> omega
 refine ni (s:=⟨some ⟨mi,0,none⟩,512,512⟩) (bs:=nA (nb rs)) b18 hD (aw.fr F18 sh λp e=>by cases e;show ¬mi=bQ.size;omega) (λp e=>by
   cases e
   refine⟨by show mi<ma.size;omega,λy=>?_⟩
   rcases y with y|y
   ·have y:D mi:=y;have:=hDl _ y;omega
   ·exact hr G18 y) (by rw[lA0,List.length_singleton];omega) λgm YC ib bb f19 g19 b19=>⟨rfl,?_⟩
 have z19:=f19.size;have G19:∀x,YC x->x=bQ.size∨cg.size<=x:=λx hx=>(g19 x hx).elim (G18 x) λq=>.inr (by omega);have F19:=F18.trans f19 (st G18);refine nk b19 hD (by simp only[lA0,List.length_singleton];omega) λiK R20 f20 g20 b20=>⟨rfl,?_⟩;have z20:=f20.size;have G20:∀x,R20 x->x=bQ.size∨cg.size<=x:=λx hx=>(g20 x hx).elim (G19 x) λq=>.inr (by omega);have YD:=F19.trans f20 (st G19);have B20:=Bd.grow (n0:=bQ.size) adR YD G20;refine PF b20 hD B20 (by simp only[lA0,List.length_singleton];omega) λnR R21 zs f21 g21 b21 ez lz=>⟨rfl,?_⟩;have G21:∀x,R21 x->x=bQ.size∨cg.size<=x:=λx hx=>(g21 x hx).elim (G20 x) λq=>.inr (by omega);have F21:=YD.trans f21 (st G20);have aag:Fr No hh nR:=(QM.mono λ_ _ x=>x.elim).trans F21 λx hx e=>by have e:x=bQ.size:=e;omega
 have est:(ys++[SV.f]++[SV.w ib bb 1 ⟨some ⟨mi,0,none⟩,512,512⟩ (nA (nb rs))]++[SV.f]++zs).map SV.sF=pI (nb rs) (nA (nb rs)):=by
  rw[List.map_append,ez];unfold pI;congr 1;simp only[List.map_append,e14',List.append_assoc];rfl
 have L9:(ys++[SV.f]++[SV.w ib bb 1 ⟨some ⟨mi,0,none⟩,512,512⟩ (nA (nb rs))]++[SV.f]++zs).length<=20010:=by
  simp only[lA0,List.length_singleton,l14,lz];omega
 refine Ib b21 hD (A.no aag) (by omega) (by omega) λh' D' f g A'=>?_;rw[est]at A';rw[est];exact hK h' D' (aag.mono (λ_ _ x=>x.elim) |>.trans f λ_ _ x=>x) ⟨λb hb=>(g.old b (by have:=aag.size;omega)),g.lt⟩ A'
end Wc
namespace Rf
open Hp W Ad
structure FD where
 first:LB
 fy:List (Int×Int×LB)
 keep:List Bool
 left:Int
 out:Bool
 writes:Int
 av:Int
structure yy where
 fa:OA
 fn:Nat
 fc:Nat
 aa:OA
 an:Nat
 ac:Nat
 ka:OA
 kn:Nat
 kc:Nat
 left:Int
 out:Bool
 writes:Int
 av:Int
def yy.cells(r:yy):LV:=
 [vS r.fa r.fn r.fc,vS r.aa r.an r.ac,vS r.ka r.kn r.kc,vI r.left,.bool r.out,vI r.writes,vI r.av]
structure Ref(h:ad)(b:Nat)(S:FD)(ao:Nat->Nat)(m:Nat)(r:yy)(es:List kG):Prop where
 sc:ao b=m
 so:dJ h b
 sr:rd h b=r.cells
 left:r.left=S.left
 out:r.out=S.out
 writes:r.writes=S.writes
 av:r.av=S.av
 f:Sl h 1 r.fa r.fn r.fc (S.first.map bv) (On ao (m+1))
 fn:r.fn=S.first.length
 St:S.first.length<=8388608
 a:Sl h 3 r.aa r.an r.ac (es.flatMap kG.cells) (On ao (m+2))
 an:r.an=es.length
 Sv:es.length<=140737488355328
 ts:nI h ao (m+3) es S.fy
 k:Sl h 1 r.ka r.kn r.kc (S.keep.map .bool) (On ao (m+4))
 kn:r.kn=S.keep.length
def rj(h:ad)(d:OA)(S:FD)(ao:Nat->Nat)(m:Nat):Prop:=∃b r es,d=some ⟨b,0,none⟩/\Ref h b S ao m r es
theorem Ref.pE{S:FD}{r:yy}{es:List kG}(d:Ref h b S ao m r es)(f:Fr F h h')(g:Ag h.size ao ay)
  (hF:∀b,m<=ao b->ao b<=m+5->¬F b):Ref h' b S ay m r es:=by
 have hb:=d.so.lt;have hs:¬F b:=hF b (by have:=d.sc;omega) (by have:=d.sc;omega)
 exact⟨(g _ hb).trans d.sc,f.own hb hs d.so,(f.rd hb hs).trans d.sr,d.left,d.out,d.writes,d.av,d.f.keep f g (λb e=>hF b (by omega) (by omega)),d.fn,d.St,
  d.a.keep f g (λb e=>hF b (by omega) (by omega)),d.an,d.Sv,nI.keep f g (λb e=>hF b (by omega) (by omega)) d.ts,d.k.keep f g (λb e=>hF b (by omega) (by omega)),d.kn⟩
theorem rj.keep{S:FD}(D:rj h d S ao m)(f:Fr F h h')(g:Ag h.size ao ay)
  (hF:∀b,m<=ao b->ao b<=m+5->¬F b):rj h' d S ay m:=by
 obtain⟨b,r,es,e,D⟩:=D;exact⟨b,r,es,e,D.pE f g hF⟩
theorem Ref.field{S:FD}{r:yy}{es:List kG}(d:Ref h b S ao m r es)(k:Nat):cellOf h (Addr.add ⟨b,0,none⟩ k)=r.cells[k]?:=by
 rw[bm,jX,d.sr,Nat.zero_add]
def Mf(bs:LB):FD:=⟨bs,[],[],0,false,0,0⟩
theorem qI(B:aw h a l bs)(hl:l<=140737488355328)
  (hK:∀a' c' h',Fr No h h'->Sl h' 1 a' l c' (bs.map bv) (dG h.size)->K (vS a' l c') h'):C.dz a l c h K:=by
 obtain⟨s1,s2,s3⟩:=aw.src B;refine dz.ok ⟨_,s1,s2,s3,append_nil s1 rfl (by show l*1<=_;omega) hl hK⟩
theorem Cw(ao:Nat->Nat)(m:Nat)(B:aw h a l bs)(hl:l<=140737488355328)
  (h1:l%512≠0∨l=0∨16384<l/512->K (.tuple #[vP none,vI 32]) h)
  (h2:l%512=0->0<l->l/512<=16384->∀q h' ay,Fr No h h'->Ag h.size ao ay->rj h' (some q) (Mf bs) ay m->K (.tuple #[vP (some q),vI 0]) h') :
  C.jZ a l c h K:=by
 have sf:=B.1;have hd:Int.tdiv (l:Int) 512=((l/512:Nat):Int):=by rw[Int.tdiv_eq_ediv_of_nonneg (by omega)];omega
 have hmd:Int.tmod (l:Int) 512=((l%512:Nat):Int):=by rw[Int.tmod_eq_emod_of_nonneg (by omega)];omega
 have hw:wI (Int.tdiv (l:Int) 512)=((l/512:Nat):Int):=by rw[hd];exact wq _
 refine jZ.ok (ce (λx=>h1 (Or.inr (Or.inl (by omega)))) λx=>cn (λy=>h1 (Or.inl (by omega))) λy=>?_);rw[hw];refine cd (λz=>h1 (Or.inr (Or.inr (by omega)))) λz=>qI B hl λa' c' h3 f3 s3=>⟨_,_,_,rfl,az.intro λh4 n4=>?_⟩;refine h2 (by omega) (by omega) (by omega) _ _ (oR (oR ao h.size (m+1)) h3.size m) (f3.new n4) ((pW _ _ _).trans (pW _ _ _) f3.size) ?_;refine⟨_,⟨a',l,c',none,0,0,none,0,0,0,false,0,0⟩,[],rfl,uE nL0,n4.own,n4.rd,rfl,rfl,rfl,rfl,?_,sf.symm,?_,Sl.nil _ _ _,rfl,by simp,trivial,Sl.nil _ _ _,rfl⟩
 ·have s:Sl h3 1 a' l c' (bs.map bv) (On (oR ao h.size (m+1)) (m+1)):=s3.mono λb hb=>uE hb;exact s.keep n4.fr (pW _ _ _) (λ_ _ x=>x)
 ·show bs.length<=8388608;omega
theorem iI{S:FD}(D:rj h d S ao m)
  (hK:K (vI (S.first.length/512:Nat)) h):C.bp d h K:=by
 obtain⟨b,r,es,rfl,D⟩:=D;refine bp.ok ⟨_,_,_,D.field 0,?_⟩;have hm:=D.St;have hd:Int.tdiv (r.fn:Int) 512=((S.first.length/512:Nat):Int):=by rw[D.fn,Int.tdiv_eq_ediv_of_nonneg (by omega)];omega
 have hw:wI (Int.tdiv (r.fn:Int) 512)=((S.first.length/512:Nat):Int):=by rw[hd];exact wq _
 rw[hw];exact hK
end Rf
namespace Ad
open Hp W
theorem Cz(e:kG):∀v∈e.cells,v.oneCell'=true:=by
 intro v hv;simp only[kG.cells,List.mem_cons,List.not_mem_nil,or_false]at hv;rcases hv with rfl|rfl|rfl <;> rfl
theorem nI.at_{h:ad}{ao:Nat->Nat}{k:Nat}:∀{es:List kG} {ts:List (Int×Int×LB)},nI h ao k es ts->∀i (h1:i<es.length) (h2:i<ts.length),
  es[i].kind=ts[i].1/\es[i].at_=ts[i].2.1/\aw h es[i].a es[i].l ts[i].2.2/\(∀p,es[i].a=some p->p.block<h.size/\ao p.block=k):=by
 intro es
 induction es with
 | nil=>intro ts _ i h1;exact absurd h1 (Nat.not_lt_zero _)
 | cons x r ih=>
  intro ts e i h1 h2
  cases ts with
  | nil=>exact e.elim
  | cons t s=>
   cases i with
   | zero=>exact⟨e.1,e.2.1,e.2.2.1,e.2.2.2.1⟩
   | succ i=>exact ih e.2.2.2.2 i (Nat.lt_of_succ_lt_succ h1) (Nat.lt_of_succ_lt_succ h2)
def qk(e:kG)(N:Int):Int:=if e.kind=2 then 0 else if e.kind≠1 then 1 else if e.at_<0 then 31 else if e.at_>=N then 31 else if e.l≠512 then 32 else 0
end Ad
namespace L3
open Hp W Ad
theorem ak.lt(c:ak h (some p) xs)(hx:xs≠[]):p.block<h.size:=by
 cases xs with
 | nil=>exact absurd rfl hx
 | cons x r=>
  have:=(Bz (c 0 x rfl)).2;have hb:(p.add 0).block=p.block:=by rw[Addr.add_zero]
  rw[hb]at this;exact gr this
theorem Mg(ps:List (Int×LB))(x:Int×LB):∀keep:List Bool,iy (ps++[x]) keep=iy ps keep++(if keep[ps.length]?=some true then[x]else[]):=by
 induction ps with
 | nil=>intro keep;cases keep with
  | nil=>simp[iy]
  | cons k r=>cases k <;> simp[iy]
 | cons p r ih=>intro keep;cases keep with
  | nil=>simp[iy]
  | cons k s=>
   have e:=ih s;simp only[iy]at e ⊢
   cases k <;> simp[e]
theorem J5(nb:List LB):nb.flatten.map bv=nb.flatMap Dz:=by
 rw[List.map_flatten];rfl
theorem BJ(ps:List (Int×LB)):∀ls,(∀x∈ls,x.length=512)->(∀x∈ps,x.2.length=512)->∀x∈cy ls ps,x.length=512:=by
 induction ps with
 | nil=>intro ls h _;exact h
 | cons p r ih=>
  intro ls h hp;refine ih _ (λx hx=>?_) (λx hx=>hp x (List.mem_cons_of_mem _ hx))
  rcases List.mem_or_eq_of_mem_set hx with hx|rfl
  ·exact h x hx
  ·exact hp p (List.mem_cons_self ..)
structure Calm(S:RD):Prop where
 down:S.down=false
 left:S.left=0
 lw:∀x∈S.aB,x.length=512
 pw:∀x∈S.bz,x.2.length=512
theorem Calm.fresh{ls:List LB}(h:∀ x ∈ ls,x.length=512):Calm (fresh ls):=⟨rfl,rfl,h,λx hx=>by simp[Ad.fresh]at hx⟩
theorem Calm.flush{S:RD}(c:Calm S):S.flush.1=RD.om { S with av:=wI (S.av+1) }:=by
 rw[RD.flush,if_neg (by rw[c.down];exact Bool.false_ne_true),RD.step,if_neg (by show ¬0<S.left;rw[c.left];omega)]
theorem Calm.pH{S:RD}(c:Calm S)(i:Int){b:LB}(h:b.length=512):Calm (S.pH i b):=
 ⟨c.down,c.left,c.lw,λx hx=>by
  rcases List.mem_append.mp hx with hx|hx
  ·exact c.pw x hx
  ·rw[List.mem_singleton.mp hx];exact h⟩
theorem DJ(keep:List Bool):iy [] keep=[]:=by cases keep <;> rfl
def again(S:RD)(t:Int×Int×LB):RD:=if t.1=2 then S.flush.1 else(S.write t.2.1 t.2.2).1
def replay(S:RD)(ts:List (Int×Int×LB)):RD:=ts.foldl again S
theorem Sw{pa:OA}{xs:List kG}{i:Nat}(P:ak h pa (xs.flatMap kG.cells))(hi:i<xs.length):∃p,pa=some p/\aj h (p.add (i*3)) (kG.cells xs[i]):=by
 cases pa with
 | none=>
  have P:xs.flatMap kG.cells=[]:=P;have:=fW kG.cells 3 xs (λ_ _=>rfl);rw[P]at this;simp at this;omega
 | some p=>
  have:=aj.part P (i*3) 3;rw[m6 kG.cells 3 xs (λ_ _=>rfl) _ hi]at this;exact⟨p,rfl,this⟩
structure YE(h:ad)(a:OA)(l:Nat)(xs:List kG)(ts:List (Int×Int×LB)):Prop where
 cells:ak h a (xs.flatMap kG.cells)
 num:ts.length=l
 len:xs.length=ts.length
 at_:∀i (h1:i<xs.length) (h2:i<ts.length),xs[i].kind=ts[i].1/\xs[i].at_=ts[i].2.1/\aw h xs[i].a xs[i].l ts[i].2.2
abbrev Tt :=Int×Int×LB
def iJ(ts:List Tt):Bool:=ts.any λt=>t.1==2
def ve(ts:List Tt):Nat:=ts.foldl (λn t=>if t.1=1 then n+1 else 0) 0
theorem DK(ts:List Tt)(t:Tt):ve (ts++[t])=if t.1=1 then ve ts+1 else 0:=by rw[ve,List.foldl_append];rfl
def stays(ts:List Tt)(i:Nat)(keep:List Bool):Bool:=iJ (ts.drop (i+1)) || keep.getD (ve (ts.take i)) false
def mq(keep:List Bool):List LB->List Tt->Nat->List LB
 | ls,[],_=>ls
 | ls,t::r,k=>if t.1=1 then mq keep (if iJ r || keep.getD k false then ls.set t.2.1.toNat t.2.2 else ls) r (k+1)else mq keep ls r 0
def Sy(N:Int)(t:Tt):Prop:=t.1=2∨(t.1=1/\0<=t.2.1/\t.2.1<N/\t.2.2.length=512)
theorem zA(ls:List LB)(ps:List (Int×LB))(p:Int×LB):cy ls (ps++[p])=(cy ls ps).set p.1.toNat p.2:=by rw[cy,List.foldl_append];rfl
theorem Mh(keep:List Bool)(N:Nat):∀(ts:List Tt) (S:RD),Calm S->S.aB.length=N->(∀t∈ts,Sy N t)->
  ((replay S ts).cut keep).aB=mq keep (if iJ ts then cy S.aB S.bz else cy S.aB (iy S.bz keep)) ts S.bz.length:=by
 intro ts
 induction ts with
 | nil=>intro S _ _ _;rfl
 | cons t r ih=>
  intro S c hN hm;have hr:∀t∈r,Sy N t:=λt ht=>hm t (List.mem_cons_of_mem _ ht);have qS:replay S (t::r)=replay (again S t) r:=rfl;rw[qS]
  rcases hm t (List.mem_cons_self ..)with h2|⟨h1,e0,e1,e2⟩
  ·have ea:again S t=RD.om { S with av:=wI (S.av+1) }:=by rw[again,if_pos h2,c.flush]
   have cf:Calm (again S t):=by
    rw[ea];exact⟨c.down,c.left,BJ _ _ c.lw c.pw,λx hx=>by simp[RD.om]at hx⟩
   rw[ih _ cf (by rw[ea];exact(dX _ _).trans hN) hr];have hf:iJ (t::r)=true:=(by rw[iJ,List.any_cons,h2];rfl);rw[hf,if_pos rfl,mq,if_neg (show ¬t.1=1 by rw[h2];decide)];have el:(again S t).aB=cy S.aB S.bz:=(by rw[ea];rfl);have ep:(again S t).bz=[]:=(by rw[ea];rfl);rw[el,ep,DJ];show mq keep (if iJ r=true then cy S.aB S.bz else cy S.aB S.bz) r 0=_;rw[ite_self]
  ·have ea:again S t=S.pH t.2.1 t.2.2:=by
    rw[again,if_neg (by rw[h1];decide),RD.write,if_neg (by rw[c.down];exact Bool.false_ne_true),if_neg (λx=>x ⟨e0,by rw[hN];exact e1⟩),if_neg (λx=>x e2),RD.step,if_neg (by show ¬0<S.left;rw[c.left];omega)];rfl
   rw[ea,ih _ (c.pH _ e2) hN hr];have hf:iJ (t::r)=iJ r:=(by rw[iJ,List.any_cons,h1];rfl);rw[hf,mq,if_pos (show t.1=1 from h1)];have el:(S.pH t.2.1 t.2.2).bz=S.bz++[(t.2.1,t.2.2)]:=rfl;have ell:(S.pH t.2.1 t.2.2).aB=S.aB:=rfl;rw[el,ell,lA0,List.length_singleton]
   cases hh:iJ r with
   | true=>simp only[if_true,Bool.true_or,zA]
   | false=>
    simp only[Bool.false_eq_true,if_false,Bool.false_or];rw[Mg,List.getD_eq_getElem?_getD]
    cases hk:keep[S.bz.length]? with
    | none=>simp
    | some b=>cases b <;> simp[zA]
theorem Mi(keep:List Bool){N:Nat}{ls:List LB}(h:∀ x ∈ ls,x.length=512)(hl:ls.length=N)(ts:List Tt)(hm:∀ t ∈ ts,Sy N t):((replay (Ad.fresh ls) ts).cut keep).aB=mq keep ls ts 0:=by
 rw[Mh keep N ts _ (Calm.fresh h) hl hm];show mq keep (if iJ ts=true then ls else cy ls (iy [] keep)) ts 0=_;rw[DJ];show mq keep (if iJ ts=true then ls else ls) ts 0=_;rw[ite_self]
theorem Mj(keep:List Bool)(ls:List LB)(ts:List Tt)(i:Nat)(hi:i<ts.length) :
  mq keep ls (ts.drop i) (ve (ts.take i))=mq keep (if ts[i].1=1/\stays ts i keep=true then ls.set ts[i].2.1.toNat ts[i].2.2 else ls) (ts.drop (i+1)) (ve (ts.take (i+1))):=by
 rw[List.drop_eq_getElem_cons hi,dQ _ _ hi,DK,mq]
 by_cases h:ts[i].1=1
 ·rw[if_pos h,if_pos h]
  cases hs:stays ts i keep with
  | true=>rw[stays]at hs;rw[hs,if_pos rfl,if_pos ⟨h,rfl⟩]
  | false=>rw[stays]at hs;rw[hs,if_neg Bool.false_ne_true,if_neg (λx=>by cases x.2)]
 ·rw[if_neg h,if_neg h,if_neg (λx=>h x.1)]
def Fg(N:Int)(t:Tt):Int:=qk ⟨t.1,t.2.1,none,t.2.2.length,0⟩ N
theorem Sz{N:Int}{t:Tt}(h:Fg N t=0):Sy N t:=by
 unfold Fg qk at h
 split at h
 ·rename_i e;exact Or.inl e
 ·split at h
  ·exact absurd h (by decide)
  ·split at h
   ·exact absurd h (by decide)
   ·split at h
    ·exact absurd h (by decide)
    ·split at h
     ·exact absurd h (by decide)
     ·rename_i e1 e2 e3 e4 e5;have e2:¬t.1≠1:=e2;have e3:¬t.2.1<0:=e3;have e4:¬t.2.1>=N:=e4;have e5:¬t.2.2.length≠512:=e5;exact Or.inr ⟨by omega,by omega,by omega,by omega⟩
theorem YE.fr{h h':ad}{a:OA}{l:Nat}{es:List kG}{ts:List Tt}(r:YE h a l es ts)(f:Fr No h h'):YE h' a l es ts:=
 ⟨ak.fr f r.cells λ_ _ x=>x,r.num,r.len,λi h1 h2=>⟨(r.at_ i h1 h2).1,(r.at_ i h1 h2).2.1,aw.fr f (r.at_ i h1 h2).2.2 λ_ _ x=>x⟩⟩
theorem Mk{e:kG}{N:Int}(hK:∀ h',Fr No h h'->K (vI (qk e N)) h'):C.iQ N e.cells h K:=by
 refine iQ.ok (az.intro λh2 n2=>⟨_,bJ n2.rd rfl,?_⟩);have k:=hK h2 n2.fr;unfold qk at k;refine ce (λa=>by rw[if_pos a]at k;exact k) λa=>ce (λb=>⟨_,bJ n2.rd rfl,?_⟩) λb=>by rw[if_neg a,if_pos b]at k;exact k
 rw[if_neg a,if_neg (λx=>x b)]at k;refine cd (λc=>by rw[if_pos c]at k;exact k) λc=>⟨_,bJ n2.rd rfl,?_⟩;rw[if_neg c]at k;refine cd (λd=>by rw[if_pos d]at k;exact k) λd=>⟨_,_,_,bJ n2.rd rfl,?_⟩;rw[if_neg d]at k;refine cn (λf=>by rw[if_pos (by omega)]at k;exact k) λf=>by rw[if_neg (by omega)]at k;exact k
theorem YE.cell{es:List kG}{ts:List Tt}(R:YE h a l es ts){i:Nat}(hi:i<l) :
  ∃p e,a=some p/\aj h (p.add (i*3)) (kG.cells e)/\e.kind=(ts.getD i (0,0,[])).1/\e.at_=(ts.getD i (0,0,[])).2.1/\aw h e.a e.l (ts.getD i (0,0,[])).2.2/\i<ts.length/\es[i]?=some e:=by
 have h1:=R.num;have h2:=R.len;have h3:i<es.length:=by omega
 have h4:i<ts.length:=by omega
 obtain⟨p,e,c⟩:=Sw R.cells h3;obtain⟨x1,x2,x3⟩:=R.at_ i h3 h4;rw[List.getD_eq_getElem?_getD,List.getElem?_eq_getElem h4];exact⟨p,es[i],e,c,x1,x2,x3,h4,List.getElem?_eq_getElem h3⟩
theorem xP(ts:List Tt)(i:Nat)(h:i<ts.length):iJ (ts.drop i)=(ts[i].1==2 || iJ (ts.drop (i+1))):=by
 rw[List.drop_eq_getElem_cons h];rfl
theorem Ml{es:List kG}{ts:List Tt}{keep:List Bool}
  (R:YE h aa al es ts) (Kp:ak h ka (keep.map .bool)) (EM:keep.length=kl) (h0:0<=i) (hi:i<al) (hal:al<=140737488355328)
  (hK:K (.bool (stays ts i.toNat keep)) h):C.dy aa al ac i ka kl kc h K:=by
 have hn:=R.num;refine dy.ok ?_;unfold dy;rw[wq (i+1),wq (i-1)];refine⟨λj hh=>i+1<=j/\j<=al/\hh=h/\iJ (ts.drop (i+1).toNat)=iJ (ts.drop j.toNat),λj _=>((al:Int)-j).toNat,⟨by omega,by omega,rfl,rfl⟩,?_⟩;rintro j hq ⟨j0,j1,rfl,ej⟩;have ei:(i+1).toNat=i.toNat+1:=by omega
 refine cd (λhj=>?_) λhj=>?_
 ·obtain⟨p,e,rfl,c,x1,_,_,Bo,_⟩:=R.cell (i:=j.toNat) (by omega);have ek:(ts.getD j.toNat (0,0,[]))=ts[j.toNat]:=by rw[List.getD_eq_getElem?_getD,List.getElem?_eq_getElem Bo];rfl
  rw[ek]at x1;refine⟨⟨by omega,hj⟩,os ⟨_,aj.cell c (i:=0) rfl,ce (λh2=>?_) λh2=>?_⟩⟩
  ·have:stays ts i.toNat keep=true:=by
    rw[stays,<-ei,ej,xP ts _ Bo,<-x1,h2];rfl
   rw[this]at hK;exact hK
  ·rw[wrap_i64 (by omega) (by omega)];refine⟨⟨by omega,by omega,rfl,?_⟩,by have:=di (m:=al) hj;exact this⟩;rw[ej,xP ts _ Bo,show(j+1).toNat=j.toNat+1 by omega,<-x1];have:(e.kind==2)=false:=(by rw[beq_eq_false_iff_ne];exact h2);rw[this];rfl
 ·have hfl:iJ (ts.drop (i.toNat+1))=false:=by
   rw[<-ei,ej,List.drop_of_length_le (by omega)];rfl
  have last:∀n:Nat,n=ve (ts.take i.toNat)->dy.k1 ka kl n hq K:=by
   intro n nV;have hs:stays ts i.toNat keep=keep.getD n false:=(by rw[stays,hfl,nV];rfl);rw[hs,List.getD_eq_getElem?_getD]at hK;refine cd (λbK=>?_) λUp=>?_
   ·have EV:n<keep.length:=(by omega);rw[List.getElem?_eq_getElem EV]at hK
    cases ka with
    | none=>have Kp:keep.map Value.bool=[]:=Kp;have:=List.map_eq_nil_iff.mp Kp;rw[this]at EV;exact absurd EV (by simp)
    | some kp=>exact⟨⟨by omega,bK⟩,os ⟨_,by rw[tN0];exact Kp n _ (by rw[List.getElem?_eq_getElem (by rw[lM0];exact EV),List.getElem_map];rfl),hK⟩⟩
   ·rw[List.getElem?_eq_none (by omega)]at hK;exact hK
  refine⟨λnumber j hh=>-1<=j/\j<i/\number=i-1-j/\hh=hq/\(number:Int)+ve (ts.take (j+1).toNat)=ve (ts.take i.toNat),λ_ j _=>(j+1).toNat,⟨by omega,by omega,by omega,rfl,by rw[show(i-1+1).toNat=i.toNat by omega];omega⟩,?_⟩;rintro number j2 _ ⟨k0,k1,k2,rfl,k3⟩;refine cd (λhj2=>?_) λhj2=>?_
  ·obtain⟨p,e,rfl,c,x1,_,_,Bo,_⟩:=R.cell (i:=j2.toNat) (by omega);have ek:(ts.getD j2.toNat (0,0,[]))=ts[j2.toNat]:=(by rw[List.getD_eq_getElem?_getD,List.getElem?_eq_getElem Bo];rfl);rw[ek]at x1;have et:(j2+1).toNat=j2.toNat+1:=(by omega);rw[et,dQ _ _ Bo,DK]at k3;refine⟨⟨by omega,by omega⟩,os ⟨_,aj.cell c (i:=0) rfl,ce (λh2=>?_) λh2=>?_⟩⟩
   ·rw[if_pos (by omega)]at k3;rw[wrap_i64 (by omega) (by omega),wrap_i64 (by omega) (by omega)];exact⟨⟨by omega,by omega,by omega,rfl,by rw[show j2-1+1=j2 by omega];omega⟩,by show(j2-1+1).toNat<(j2+1).toNat;omega⟩
   ·rw[if_neg (by omega)]at k3;have:=last number.toNat (by omega);rw[show((number.toNat:Nat):Int)=number by omega]at this;exact this
  ·have ej2:(j2+1).toNat=0:=(by omega);rw[ej2,List.take_zero]at k3;have k3:number+0=ve (ts.take i.toNat):=k3;have:=last number.toNat (by omega);rw[show((number.toNat:Nat):Int)=number by omega]at this;exact this
theorem zB(ys:LV)(y:Value):∀(X:LV) (o:Nat),put X o (ys++[y])=(put X o ys).set (o+ys.length) y:=by
 induction ys with
 | nil=>intro X o;rfl
 | cons v r ih=>
  intro X o;show put (X.set o v) (o+1) (r++[y])=_;rw[ih,List.length_cons,show o+1+r.length=o+(r.length+1) by omega];rfl
theorem Wk{ls:List LB}(h:∀ x ∈ ls,x.length=512){y:LB}(hy:y.length=512)(i:Nat):∀x∈ls.set i y,x.length=512:=by
 intro x hx
 rcases List.mem_or_eq_of_mem_set hx with hx|rfl
 ·exact h x hx
 ·exact hy
theorem SA{ls:List LB}(h:∀ x ∈ ls,x.length=512){y:LB}(hy:y.length=512){i:Nat}(hi:i<ls.length):put (ls.flatten.map bv) (i*512) (y.map bv)=(ls.set i y).flatten.map bv:=by
 rw[J5,J5];exact JF Dz 512 ls (λx hx=>m9 (h x hx)) i hi y (m9 hy)
theorem xf{ia:OA}{il ic N:Nat}{ibs:LB}{es:List kG}{ts:List Tt}{keep:List Bool}
  (B:aw h ia il ibs) (hN:N<=16384) (hil:il=N*512) (R:YE h aa al es ts) (hal:al<=140737488355328) (hm:∀t∈ts,Sy N t) (Kp:ak h ka (keep.map .bool)) (EM:keep.length=kl)
  (hK:∀a c h',Fr No h h'->Sl h' 1 a il c ((mq keep (chunks ibs) ts 0).flatten.map bv) (dG h.size)->K (vS a il c) h'):C.fN ia il ic aa al ac ka kl kc h K:=by
 have hn:=R.num;have sf:=B.1;refine fN.ok (Rf.qI B (by omega) λa c h2 f2 s2=>⟨_,_,_,rfl,?_⟩);have HA:=f2.size;have Da:(chunks ibs).length=N:=by rw[jD,sf];omega
 refine⟨λi hh=>0<=i/\i<=al/\Fr No h hh/\∃ls,Sl hh 1 a il c (ls.flatten.map bv) (dG h.size)/\ls.length=N/\(∀x∈ls,x.length=512)/\mq keep ls (ts.drop i.toNat) (ve (ts.take i.toNat))=mq keep (chunks ibs) ts 0,λi _=>((al:Int)-i).toNat,
  ⟨by omega,by omega,f2,chunks ibs,by rw[JR (by omega)];exact s2,Da,uL _,rfl⟩,?_⟩
 rintro i h3 ⟨i0,i1,f3,ls,s3,hls,hlw,el⟩;have ND:=f3.size;refine cd (λhi=>?_) λhi=>?_
 rotate_left
 ·rw[List.drop_of_length_le (by omega),mq]at el;rw[el]at s3;exact hK a c h3 f3 s3
 have R3:=R.fr f3;obtain⟨p,e,rfl,cc,x1,x2,x3,hit,QC⟩:=R3.cell (i:=i.toNat) (by omega);have ek:(ts.getD i.toNat (0,0,[]))=ts[i.toNat]:=by rw[List.getD_eq_getElem?_getD,List.getElem?_eq_getElem hit];rfl
 rw[ek]at x1 x2 x3;rw[Mj keep ls ts i.toNat hit]at el;have e1:(i+1).toNat=i.toNat+1:=by omega
 refine⟨⟨i0,hi⟩,Hp.os ⟨_,rfl,cc,aM.intro rfl (Cz _) rfl λh5 n5=>⟨_,bJ n5.rd rfl,?_⟩⟩⟩;have hs5:=n5.size;have lt5:=n5.own.lt;have f5:=f3.new n5;have s5:=s3.fr n5.fr λ_ _ _ x=>x;rw[wq (i+1)];refine cn (λdp=>?_) λheq=>?_
 ·rw[if_neg (λx=>dp (x1.trans x.1))]at el;exact⟨⟨by omega,by omega,f5,ls,s5,hls,hlw,by rw[e1];exact el⟩,di hi⟩
 have UA:ts[i.toNat].1=1:=x1.symm.trans heq
 have Wi:0<=ts[i.toNat].2.1/\ts[i.toNat].2.1<N/\ts[i.toNat].2.2.length=512:=by
  rcases hm _ (List.getElem_mem hit)with h|h
  ·omega
  ·exact h.2
 refine Ml (R.fr f5) (ak.fr f5 Kp λ_ _ x=>x) EM i0 hi hal ⟨_,rfl,?_⟩
 cases qS:stays ts i.toNat keep with
 | false=>
  rw[if_neg (λx=>by rw[qS]at x;cases x.2)]at el;refine⟨λk hh=>k=0/\h5=hh,λ_ _=>0,⟨rfl,rfl⟩,?_⟩;rintro k _ ⟨rfl,rfl⟩
  have fin:(0<=i+1/\i+1<=al/\Fr No h h5/\∃ls,Sl h5 1 a il c (ls.flatten.map bv) (dG h.size)/\ls.length=N/\(∀x∈ls,x.length=512)/\mq keep ls (ts.drop (i+1).toNat) (ve (ts.take (i+1).toNat))=mq keep (chunks ibs) ts 0):=
   ⟨by omega,by omega,f5,ls,s5,hls,hlw,by rw[e1];exact el⟩
  exact ct rfl ⟨fin,di hi⟩
 | true=>
  rw[if_pos ⟨UA,qS⟩]at el;have hj:ts[i.toNat].2.1.toNat<ls.length:=by omega
  obtain⟨pp,rfl,_⟩:=s5.get (by omega);have hp:=s5.mk;obtain⟨ob,oo,osp⟩:=pp;have hp:osp=none:=by simpa using hp
  subst hp;have Sk:h.size<=ob:=s3.2.2.1
  have hob3:ob<h3.size:=by
   have:=s3.2.2.2.1;exact this.lt
  refine⟨λk hh=>0<=k/\k<=512/\Fr No h hh/\rd hh h3.size=e.cells/\h5.size<=hh.size/\Sl hh 1 (some ⟨ob,oo,none⟩) il c (put (ls.flatten.map bv) (ts[i.toNat].2.1.toNat*512) ((ts[i.toNat].2.2.take k.toNat).map bv)) (dG h.size),λk _=>((512:Nat)-k).toNat,
   ⟨by omega,by omega,f5,n5.rd,nL0,s5⟩,?_⟩
  rintro k h7 ⟨k0,k1,f7,r7,hs7,s7⟩;refine cd (λhk=>?_) λhk=>?_
  ·have hk:k<512:=hk;refine ct rfl ⟨_,bJ r7 rfl,_,_,_,bJ r7 rfl,?_⟩;have EM:k.toNat<ts[i.toNat].2.2.length:=(by omega);have el':=x3.1;have x7:=aw.fr f7 ((R.at_ i.toNat (by have:=R.len;omega) hit).2.2) λ_ _ x=>x
   have hee':es[i.toNat]'(by have:=R.len;omega)=e:=by
    rw[List.getElem?_eq_getElem (by have:=R.len;omega)]at QC;exact Option.some.inj QC
   rw[hee']at x7;refine⟨⟨k0,by omega⟩,?_⟩;have YF:=x7.2
   cases hea:e.a with
   | none=>
    rw[hea]at YF;have YF:ts[i.toNat].2.2.map bv=[]:=YF;have:=List.map_eq_nil_iff.mp YF;rw[this]at EM;exact absurd EM (by simp)
   | some ep=>
    rw[hea]at YF;have YF:aj h7 ep (ts[i.toNat].2.2.map bv):=YF;refine Hp.os ⟨_,aj.cell YF (i:=k.toNat) (v:=bv (ts[i.toNat].2.2[k.toNat]'EM)) (by rw[lG0,List.getElem?_eq_getElem EM];rfl),?_⟩;rw[x2,wq (ts[i.toNat].2.1*512),wq (ts[i.toNat].2.1*512+k)];have Pq:(ts[i.toNat].2.1*512+k).toNat=ts[i.toNat].2.1.toNat*512+k.toNat:=(by omega);have hjN:ts[i.toNat].2.1.toNat*512+512<=N*512:=(by omega);rw[Pq];obtain⟨w1,w2⟩:=s7.wr;refine⟨⟨by omega,by omega⟩,Hp.os (aO.add w1 (by omega) λh8 d8=>?_)⟩;have s8:=s7.putAt (j:=ts[i.toNat].2.1.toNat*512+k.toNat) (new:=[bv (ts[i.toNat].2.2[k.toNat]'EM)]) (by rw[List.length_singleton];omega) d8
    have ep:put (put (ls.flatten.map bv) (ts[i.toNat].2.1.toNat*512) ((ts[i.toNat].2.2.take k.toNat).map bv)) (ts[i.toNat].2.1.toNat*512+k.toNat) [bv (ts[i.toNat].2.2[k.toNat]'EM)]=put (ls.flatten.map bv) (ts[i.toNat].2.1.toNat*512) ((ts[i.toNat].2.2.take (k+1).toNat).map bv):=by
     rw[show(k+1).toNat=k.toNat+1 by omega,dQ _ _ EM,List.map_append,List.map_singleton,zB,lM0,lT0,Nat.min_eq_left (by omega)];rfl
    rw[ep]at s8;rw[wrap_i64 (by omega) (by omega)];refine⟨⟨by omega,by omega,f7.did d8 (λx=>by omega),?_,?_,s8⟩,di (m:=512) hk⟩
    ·rw[d8.at_];exact r7
    ·have:=d8.fr.size;omega
  ·have adV:k.toNat=512:=(by have hk:¬k<512:=hk;omega);rw[adV,List.take_of_length_le (by omega),SA hlw Wi.2.2 hj]at s7;exact⟨⟨by omega,by omega,f7,_,s7,by rw[List.length_set];exact hls,Wk hlw Wi.2.2 _,by rw[e1];exact el⟩,di hi⟩
end L3
namespace Rf
open Hp W Ad L3
def FD.goes(S:FD):FD×Bool:=if S.left=0 then(S,false)else({ S with left:=S.left-1,out:=S.left-1==0 },S.left-1==0)
def FD.N(S:FD):Nat:=S.first.length/512
def FD.pH(S:FD)(i:Int)(bs:LB):FD:={ S with writes:=wI (S.writes+1),fy:=S.fy++[(1,i,bs)] }
def FD.write(S:FD)(i:Int)(bs:LB):FD×Int:=
 if S.out=true then(S,30)else if Fg (S.N:Nat) (1,i,bs)≠0 then(S,Fg (S.N:Nat) (1,i,bs))else((S.pH i bs).goes.1,if(S.pH i bs).goes.2=true then 30 else 0)
def FD.flush(S:FD):FD×Int:=
 if S.out=true then(S,30)else if(FD.goes { S with av:=wI (S.av+1) }).2=true then((FD.goes { S with av:=wI (S.av+1) }).1,30)
 else({ (FD.goes { S with av:=wI (S.av+1) }).1 with fy:=(FD.goes { S with av:=wI (S.av+1) }).1.fy++[(2,0,[])] },0)
def FD.rq(S:FD)(keep:List Bool):FD:=if S.out=true then S else { S with out:=true,keep:=keep }
section
variable{h h' : ad}{b : Nat}{S : FD}{ao ay : Nat -> Nat}{m : Nat}{r : yy}{es : List kG}
theorem Ref.re(D:Ref h b S ao m r es){l w f:Int}{o:Bool}(d:rW b h h' ({ r with left:=l,out:=o,writes:=w,av:=f }:yy).cells):Ref h' b { S with left:=l,out:=o,writes:=w,av:=f } ao m { r with left:=l,out:=o,writes:=w,av:=f } es:=by
 have ne:∀k,1<=k->∀x,ao x=m+k->¬(λx=>x=b) x:=λk hk x hx (y:x=b)=>by rw[y,D.sc]at hx;omega
 exact⟨D.sc,d.own,d.rd,rfl,rfl,rfl,rfl,D.f.keep d.fr (Ag.refl _ _) (ne 1 (by decide)),D.fn,D.St,D.a.keep d.fr (Ag.refl _ _) (ne 2 (by decide)),D.an,D.Sv,nI.keep d.fr (Ag.refl _ _) (ne 3 (by decide)) D.ts,D.k.keep d.fr (Ag.refl _ _) (ne 4 (by decide)),D.kn⟩
theorem Ref.dk(D:Ref h b S ao m r es):Dk ao m b:=⟨by rw[D.sc];omega,by rw[D.sc];omega⟩
theorem Ref.len(D:Ref h b S ao m r es):(rd h b).length=7:=by rw[D.sr];rfl
theorem GF(D:Ref h b S ao m r es)(hl:0<=S.left/\S.left<=9223372036854775807)
  (hK:∀h' r',Fr (Dk ao m) h h'->Ref h' b S.goes.1 ao m r' es->K (.bool S.goes.2) h'):C.eA (some ⟨b,0,none⟩) h K:=by
 refine eA.ok (os ⟨_,D.field 3,?_⟩);rw[D.left];refine ce (λh0=>?_) λh0=>?_
 ·have e1:S.goes=(S,false):=by unfold FD.goes;rw[if_pos h0]
  rw[e1]at hK;exact hK h r (Fr.refl _ _) D
 have e1:S.goes=({ S with left:=S.left-1,out:=S.left-1==0 },S.left-1==0):=by unfold FD.goes;rw[if_neg h0]
 rw[e1]at hK;refine os ⟨_,D.field 3,os ?_⟩;rw[D.left,wrap_i64 (by omega) (by omega)];refine aO.add D.so (by rw[D.len];decide) λh2 d2=>?_;rw[D.sr]at d2;have d2':rW b h h2 ({ r with left:=S.left-1,out:=r.out,writes:=r.writes,av:=r.av }:yy).cells:=d2;have D2:=D.re d2';refine os ⟨_,D2.field 3,os (aO.add D2.so (by rw[D2.len];decide) λh3 d3=>?_)⟩;rw[D2.sr]at d3;have d3':rW b h2 h3 ({ r with left:=S.left-1,out:=S.left-1==0,writes:=r.writes,av:=r.av }:yy).cells:=d3;have D3:=D2.re d3';refine os ⟨_,D3.field 4,?_⟩
 have D3':Ref h3 b { S with left:=S.left-1,out:=S.left-1==0 } ao m { r with left:=S.left-1,out:=S.left-1==0,writes:=r.writes,av:=r.av } es:=by
  have:=D3;rw[D.writes,D.av]at this ⊢;exact this
 exact hK h3 _ (((Fr.refl _ _).did d2 λ_=>D.dk).did d3 λ_=>D.dk) D3'
theorem J6{e:kG}{t:Int×Int×LB}{X:HP}(D:Ref h b S ao m r es)(hk:e.kind=t.1)(ha:e.at_=t.2.1)(B:aw h e.a e.l t.2.2)(hc:∀ p,e.a=some p->p.block<h.size/\ao p.block=m+3)(hn:es.length<1000000000)
  (hX:∀h' ay r',Fr (Dk ao m) h h'->Ag h.size ao ay->Ref h' b { S with fy:=S.fy++[t] } ay m r' (es++[e])->X h') :
  aH vb 122 r.aa r.an r.ac 1 e.cells h λsA sL sC h9=>ae (some (⟨b,0,none⟩:Addr)) λp5=>aO (Addr.add p5 1) (vS sA sL sC) h9 λcB=>X cB:=by
 have han:=D.an;refine rV D.a rfl rfl (by show(r.an+1)*40<=_;omega) (by omega) λa8 c8 h8 f8 s8=>?_;have g8:Ag h.size ao (oR ao h.size (m+2)):=pW _ _ _;have dp:∀k,k≠m+2->∀x,ao x=k->¬On ao (m+2) x:=λk hk x hx y=>hk (hx.symm.trans y);have sb:=D.so.lt;have nsb:¬On ao (m+2) b:=dp m (by omega) b D.sc;have r8:=(f8.rd sb nsb).trans D.sr;refine os (aO.add (f8.own sb nsb D.so) (by rw[r8];exact(by decide:0+1<7)) λh9 d9=>?_);rw[r8]at d9;have d9':rW b h8 h9 ({ r with aa:=a8,an:=r.an+1,ac:=c8 }:yy).cells:=d9;have z8:=f8.size;have Ω:oR ao h.size (m+2) b=m:=(g8 b sb).trans D.sc;have ne:∀k,1<=k->∀x,oR ao h.size (m+2) x=m+k->¬(λx=>x=b) x:=λk hk x hx (y:x=b)=>by rw[y,Ω]at hx;omega
 have F9:Fr (Dk ao m) h h9:=((f8.mono λx _ hx=>by have hx:ao x=m+2:=hx;exact⟨by omega,by omega⟩).did d9 λ_=>D.dk);refine hX h9 (oR ao h.size (m+2)) { r with aa:=a8,an:=r.an+1,ac:=c8 } F9 g8 ⟨Ω,d9.own,d9.rd,D.left,D.out,D.writes,D.av,(D.f.keep f8 g8 (dp _ (by omega))).keep d9.fr (Ag.refl _ _) (ne 1 (by decide)),D.fn,D.St,?_,by show r.an+1=(es++[e]).length;rw[lA0,han];rfl,by rw[lA0];show es.length+1<=_;omega,?_,(D.k.keep f8 g8 (dp _ (by omega))).keep d9.fr (Ag.refl _ _) (ne 4 (by decide)),D.kn⟩
 ·have:(es++[e]).flatMap kG.cells=es.flatMap kG.cells++e.cells:=by rw[List.flatMap_append,List.flatMap_singleton]
  rw[this];exact s8.keep d9.fr (Ag.refl _ _) (ne 2 (by decide))
 ·refine nI.keep d9.fr (Ag.refl _ _) (ne 3 (by decide)) (nI.keep f8 g8 (dp _ (by omega)) (nI.snoc hk ha B hc D.ts))
end
section
variable{h : ad}{d : OA}{S : FD}{ao : Nat -> Nat}{m : Nat}
theorem eF(D:rj h d S ao m)(B:aw h a l bs)(hlm:l<=140737488355328)(hl:0<=S.left/\S.left<=9223372036854775807)(hn:S.fy.length<1000000000)
  (hK:∀h' ay,Fr (Dk ao m) h h'->Ag h.size ao ay->rj h' d (S.write i bs).1 ay m->K (vI (S.write i bs).2) h'):C.cW d i a l c h K:=by
 obtain⟨b,r,es,rfl,D⟩:=D;refine cW.ok (os ⟨_,D.field 4,?_⟩);rw[D.out];refine cs (λho=>?_) λho=>?_
 ·have e1:S.write i bs=(S,30):=by unfold FD.write;rw[if_pos ho]
  rw[e1]at hK;exact hK h ao (Fr.refl _ _) (Ag.refl _ _) ⟨b,r,es,rfl,D⟩
 refine qI B hlm λa2 c2 h2 f2 s2=>⟨_,_,_,rfl,aM.intro rfl (Cz ⟨1,i,a2,l,c2⟩) rfl λh4 n4=>⟨_,rfl,ah n4.rd,?_⟩⟩;have z2:=f2.size;have z4:=n4.size;have g4:Ag h.size ao (oR ao h.size (m+3)):=pW _ _ _;have F4:Fr No h h4:=f2.new n4;have D4:=D.pE F4 g4 λ_ _ _ y=>y;refine iI ⟨b,r,es,rfl,D4⟩ ⟨_,rfl,⟨rfl,ah n4.rd⟩,Mk (e:=⟨1,i,a2,l,c2⟩) λh6 f6=>⟨_,rfl,?_⟩⟩;have sf:=B.1;have er:qk ⟨1,i,a2,l,c2⟩ ((S.first.length/512:Nat):Int)=Fg (S.N:Nat) (1,i,bs):=by unfold Fg qk;rw[show((1:Int),i,bs).2.2.length=l from sf];rfl
 rw[er];have D6:=D4.pE f6 (Ag.refl _ _) λ_ _ _ y=>y;have F6:Fr No h h6:=F4.no f6;have z6:=f6.size;refine cn (λdp=>?_) λhe=>?_
 ·have e1:S.write i bs=(S,Fg (S.N:Nat) (1,i,bs)):=by unfold FD.write;rw[if_neg (by rw[ho];simp),if_pos dp]
  rw[e1]at hK;exact hK h6 _ (F6.mono λ_ _ y=>y.elim) g4 ⟨b,r,es,rfl,D6⟩
 have e1:S.write i bs=((S.pH i bs).goes.1,if(S.pH i bs).goes.2=true then 30 else 0):=by unfold FD.write;rw[if_neg (by rw[ho];simp),if_neg (λy=>y he)]
 rw[e1]at hK;refine os ⟨_,D6.field 5,os (aO.add D6.so (by rw[D6.len];decide) λh7 d7=>?_)⟩;rw[D6.sr,D6.writes]at d7;have d7':rW b h6 h7 ({ r with left:=r.left,out:=r.out,writes:=wI (S.writes+1),av:=r.av }:yy).cells:=d7;have D7:=D6.re d7';have z7:=d7.size;have ra:rd h7 h2.size=kG.cells ⟨1,i,a2,l,c2⟩:=(d7.at_ (by omega) λy=>by have:=D.so.lt;omega).trans ((f6.r0).trans n4.rd);refine os ⟨_,_,_,D7.field 1,_,rfl,ah ra,rfl,az.intro λh8 n8=>?_⟩;have D8:=D7.pE n8.fr (Ag.refl _ _) λ_ _ _ y=>y;refine⟨D8.field 1,_,rfl,ah n8.rd,Cz _,?_⟩;have z8:=n8.size;have s8:=(((s2.fr n4.fr λ_ _ _ y=>y).fr f6 λ_ _ _ y=>y).fr d7.fr λx _ y e=>by have y:h.size<=x:=y;have e:x=b:=e;have:=D.so.lt;omega).fr n8.fr λ_ _ _ y=>y;have ZE:=nI.length D.ts;refine J6 D8 (e:=⟨1,i,a2,l,c2⟩) (t:=(1,i,bs)) rfl rfl s8.str (λp ep=>?_) (by omega) λcB J7 IU f10 g10 D10=>?_
 ·have ep:a2=some p:=ep;subst ep;exact⟨s8.lt,uE s8.2.2.1⟩
 have eS:({ S with left:=r.left,out:=r.out,writes:=wI (S.writes+1),av:=r.av,fy:=S.fy++[(1,i,bs)] }:FD)=S.pH i bs:=by
  rw[D.left,D.out,D.av];rfl
 have D10':Ref cB b (S.pH i bs) J7 m IU (es++[⟨1,i,a2,l,c2⟩]):=by rw[<-eS];exact D10
 have dk:∀x,x<h.size->Dk (oR ao h.size (m+3)) m x->Dk ao m x:=λx hx y=>by unfold Dk at y ⊢;rw[g4 x hx]at y;exact y
 have F8:Fr (Dk ao m) h h8:=((F6.mono λ_ _ y=>y.elim).did d7 λ_=>D.dk).new n8;have JX:Fr (Dk ao m) h cB:=F8.trans f10 dk;have G10:Ag h.size ao J7:=g4.trans g10 F8.size;have dk2:∀x,x<h.size->Dk J7 m x->Dk ao m x:=λx hx y=>by unfold Dk at y ⊢;rw[G10 x hx]at y;exact y
 refine GF D10' hl λbQ Yo f11 D11=>⟨_,rfl,cs (λhg=>?_) λhg=>?_⟩
 ·rw[hg,if_pos rfl]at hK;exact hK bQ J7 (JX.trans f11 dk2) G10 ⟨b,Yo,_,rfl,D11⟩
 ·rw[hg,if_neg (by simp)]at hK;exact hK bQ J7 (JX.trans f11 dk2) G10 ⟨b,Yo,_,rfl,D11⟩
end
end Rf
end Go.Proofs.YtjdcbblgaoogmaaGreatDoor
