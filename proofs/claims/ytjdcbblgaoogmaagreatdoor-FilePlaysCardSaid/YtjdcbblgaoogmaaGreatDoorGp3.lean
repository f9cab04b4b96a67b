/- filePlays_card -/
import Derived.Test.YtjdcbblgaoogmaaGreatDoorGp2
namespace Go.Proofs.YtjdcbblgaoogmaaGreatDoor
open Go Go.Proofs Wx
variable{t1 bj cU kF:OA}{K:HP}{h:ad}
namespace W
def lW.k1(n1 dI gY:Int)(h1 h2 h3 h4 cB:ad)(K:KT):=
 ∃q1,cellOf cB ⟨h1.size,0,none⟩=some (vP q1)/\
 ∃aW,List.length aW=5/\aj cB ⟨h2.size,0,none⟩ aW/\
 C.nW q1 aW n1 cB λr1 bQ=>
 ∃cH n2,r1 = .tuple #[.agg ⟨cH⟩,vI n2]/\
 aM gv 155 cH 15 bQ λcg=>
 bif(n2 != 0)then(
 aO ⟨h3.size,0,none⟩ (.string (mkStr [])) cg λcM=>
 aO ⟨h4.size,0,none⟩ (vI n2) cM λfg=>
 ∃lF,cellOf fg ⟨h3.size,0,none⟩=some (.string lF)/\
 ∃qY,cellOf fg ⟨h4.size,0,none⟩=some (vI qY)/\
 K (.tuple #[.string lF,vI qY]) fg)else(
 ∃n3,cellOf cg (Addr.add ⟨bQ.size,0,none⟩ 2)=some (vI n3)/\
 bif(decide (dI>=n3))then(
 aO ⟨h3.size,0,none⟩ (.string (mkStr [])) cg λiY=>
 aO ⟨h4.size,0,none⟩ (vI 0) iY λfw=>
 ∃th,cellOf fw ⟨h3.size,0,none⟩=some (.string th)/\
 ∃Cb,cellOf fw ⟨h4.size,0,none⟩=some (vI Cb)/\
 K (.tuple #[.string th,vI Cb]) fw)else(
 az z213 213 cg λma=>
 ∃n4,cellOf ma (Addr.add ⟨bQ.size,0,none⟩ 2)=some (vI n4)/\
 C.mJ dI (if(wI (n4-dI))<gY then(wI (n4-dI))else gY) ma λr2 gm=>
 ∃v1,r2=v1/\
 ∀(R1:Loop),
 (∀(fV:LV),∀(iK:ad) (k1:KT),bX iK (gm.size+1) R1 .ready none->
 (
 aM z218 218 fV 4 iK λnD=>
 bX nD (gm.size+1) R1 .ready none/\
 yn nD (gm.size+1) R1 .busy none λjR=>
 ∃q2,cellOf jR ⟨h1.size,0,none⟩=some (vP q2)/\
 ∃kR,List.length kR=5/\aj jR ⟨h2.size,0,none⟩ kR/\
 ∃rh,List.length rh=15/\aj jR ⟨bQ.size,0,none⟩ rh/\
 ∃n5,cellOf jR (Addr.add ⟨iK.size,0,none⟩ 0)=some (vI n5)/\
 C.oH q2 kR rh n5 jR λr3 mu=>
 ∃aI aF aT n6,r3 = .tuple #[vS aI aF aT,vI n6]/\
 bif(n6 != 0)then(
 aO ⟨h3.size,0,none⟩ (.string (mkStr [])) mu λuH=>
 aO ⟨h4.size,0,none⟩ (vI n6) uH λqu=>
 bX qu (gm.size+1) R1 .busy none/\
 k1 (.bool false) (dr qu (gm.size+1) R1 .done (some .ret)))else(
 ∃n7,cellOf mu (Addr.add ⟨iK.size,0,none⟩ 1)=some (vI n7)/\
 ∃n8,cellOf mu (Addr.add ⟨iK.size,0,none⟩ 2)=some (vI n8)/\
 (0<=n7/\n7<=n8/\n8<=(aT:Int))/\
 C.eE (some ⟨cg.size,0,none⟩) (if aT=(Int.toNat n7)then aI else Option.map (Addr.add · (Int.toNat n7)) aI) ((Int.toNat n8)-(Int.toNat n7)) (aT-(Int.toNat n7)) mu λr4 tx=>
 ∃n9 v2,r4 = .tuple #[vI n9,v2]/\
 bX tx (gm.size+1) R1 .busy none/\
 k1 (.bool true) (dr tx (gm.size+1) R1 .ready none)))->
 qU Tryz.prog (gm.size+1) [.agg ⟨fV⟩] iK k1)->
 yP Tryz.prog v1 [.func (.yield (gm.size+1)) #[] #[]] (cE gm R1) λ_ Ac=>
 ∃(RW:LoopState) (pB:Option Code),bX Ac (gm.size+1) R1 RW pB/\RW≠.busy/\
 CH pB (
 yn Ac (gm.size+1) R1 .exhausted pB λIV=>
 C.px (some ⟨cg.size,0,none⟩) IV λr5 EK=>
 ∃s1,r5 = .string s1/\
 aO ⟨h3.size,0,none⟩ (.string s1) EK λwQ=>
 aO ⟨h4.size,0,none⟩ (vI 0) wQ λDr=>
 zd gm.size Dr λIW=>
 ∃xF,cellOf IW ⟨h3.size,0,none⟩=some (.string xF)/\
 ∃BE,cellOf IW ⟨h4.size,0,none⟩=some (vI BE)/\
 K (.tuple #[.string xF,vI BE]) IW) (
 yn Ac (gm.size+1) R1 .exhausted pB λE7=>
 zd gm.size E7 λBD=>
 ∃Gn,cellOf BD ⟨h3.size,0,none⟩=some (.string Gn)/\
 ∃JK,cellOf BD ⟨h4.size,0,none⟩=some (vI JK)/\
 K (.tuple #[.string Gn,vI JK]) BD) (λ_=>False)))
def lW(t1:OA)(g1:LV)(n1 dI gY:Int)(K:KT)(h1:ad):=
 az [vP t1] 57 h1 λh2=>
 az g1 80 h2 λh3=>
 az z9 9 h3 λh4=>
 az z26 26 h4 λh5=>
 bif(decide (dI<0))then(
 aO ⟨h3.size,0,none⟩ (.string (mkStr [])) h5 λh6=>
 aO ⟨h4.size,0,none⟩ (vI 1) h6 λh7=>
 ∃bL,cellOf h7 ⟨h3.size,0,none⟩=some (.string bL)/\
 ∃dY,cellOf h7 ⟨h4.size,0,none⟩=some (vI dY)/\
 K (.tuple #[.string bL,vI dY]) h7)else(
 bif(decide (gY<0))then(
 aO ⟨h3.size,0,none⟩ (.string (mkStr [])) h5 λh8=>
 aO ⟨h4.size,0,none⟩ (vI 1) h8 λh9=>
 ∃fv,cellOf h9 ⟨h3.size,0,none⟩=some (.string fv)/\
 ∃kE,cellOf h9 ⟨h4.size,0,none⟩=some (vI kE)/\
 K (.tuple #[.string fv,vI kE]) h9)else(
 lW.k1 n1 dI gY h1 h2 h3 h4 h5 K))
theorem lW.ok{t1 g1 n1 dI gY K h}(x:lW t1 g1 n1 dI gY K h):C.lW t1 g1 n1 dI gY h K:=fk (fun|1000010=>([],[(46,.agg)])|_=>([],[])) o0 Tryz.func97 x
def bh.k3(dI:Int)(tN:OA)(tO vY:Nat)(aR:OA)(aX bf:Nat)(i1:Int)(h6:ad)(I1:OA->Nat->Nat->OA->Nat->Nat->Int->ad->Prop)(M1:OA->Nat->Nat->OA->Nat->Nat->Int->ad->Nat)(VV:OA)(VW κ:Nat)(cB:ad)(K:KT):=
 (0<=(Int.tmod (wI (dI+i1)) 512)/\(Int.tmod (wI (dI+i1)) 512)<(VW:Int))/\
 ae VV λp1=>
 ∃n7,cellOf cB (p1.add (Int.toNat (Int.tmod (wI (dI+i1)) 512)))=some (.int .u8 n7)/\
 az [.int .u8 n7] 5 cB λbQ=>
 ∃aG,List.length aG=1*1/\ak bQ (some (bA cB)) aG/\(∀v∈aG,v.oneCell'=true)/\
 aH tf 5 tN tO vY 1 aG bQ λdP dB ff cG=>
 I1 dP dB ff VV VW κ (wI (i1+1)) cG/\M1 dP dB ff VV VW κ (wI (i1+1)) cG<M1 tN tO vY aR aX bf i1 h6
def bh.k2(t1:OA)(dI:Int)(h1 h3:ad)(tN:OA)(tO vY:Nat)(aR:OA)(aX bf:Nat)(i1:Int)(h6:ad)(I1:OA->Nat->Nat->OA->Nat->Nat->Int->ad->Prop)(M1:OA->Nat->Nat->OA->Nat->Nat->Int->ad->Nat)(K:KT):=
 bif(i1==0)then(
 ∃fV,List.length fV=5/\aj h6 (bA h1) fV/\
 ∃kR,List.length kR=15/\aj h6 (bA h3) kR/\
 C.cO t1 fV kR (wI (Int.tdiv (wI (dI+i1)) 512)) h6 λr2 h7=>
 ∃n4 n5,r2 = .tuple #[vI n4,vI n5]/\
 bif(n5 != 0)then(
 K (.tuple #[.string (mkStr []),vI n5]) h7)else(
 (0<=(512:Int)/\(512:Int)<=512/\(1:Int)*512<=281474976710656/\(512:Int)<=281474976710656)/\
 az (aN z5 (Int.toNat 512)) 5 h7 λh8=>
 bif(n4 != 0)then(
 C.aD t1 n4 h8 λr3 h9=>
 ∃aI aF aT n6,r3 = .tuple #[vS aI aF aT,vI n6]/\
 bif(n6 != 0)then(
 K (.tuple #[.string (mkStr []),vI n6]) h9)else(
 bh.k3 dI tN tO vY aR aX bf i1 h6 I1 M1 aI aF aT h9 K))else(
 bh.k3 dI tN tO vY aR aX bf i1 h6 I1 M1 (some (bA h7)) (Int.toNat 512) (Int.toNat 512) h8 K)))else(
 bif((Int.tmod (wI (dI+i1)) 512)==0)then(
 ∃rh,List.length rh=5/\aj h6 (bA h1) rh/\
 ∃tg,List.length tg=15/\aj h6 (bA h3) tg/\
 C.cO t1 rh tg (wI (Int.tdiv (wI (dI+i1)) 512)) h6 λr4 cg=>
 ∃n8 n9,r4 = .tuple #[vI n8,vI n9]/\
 bif(n9 != 0)then(
 K (.tuple #[.string (mkStr []),vI n9]) cg)else(
 (0<=(512:Int)/\(512:Int)<=512/\(1:Int)*512<=281474976710656/\(512:Int)<=281474976710656)/\
 az (aN z5 (Int.toNat 512)) 5 cg λcM=>
 bif(n8 != 0)then(
 C.aD t1 n8 cM λr5 fg=>
 ∃kD j9 lD n10,r5 = .tuple #[vS kD j9 lD,vI n10]/\
 bif(n10 != 0)then(
 K (.tuple #[.string (mkStr []),vI n10]) fg)else(
 bh.k3 dI tN tO vY aR aX bf i1 h6 I1 M1 kD j9 lD fg K))else(
 bh.k3 dI tN tO vY aR aX bf i1 h6 I1 M1 (some (bA cg)) (Int.toNat 512) (Int.toNat 512) cM K)))else(
 bh.k3 dI tN tO vY aR aX bf i1 h6 I1 M1 aR aX bf h6 K))
def bh.k1(t1:OA)(n1 dI many1:Int)(h1 h2:ad)(K:KT):=
 ∃aW,List.length aW=5/\aj h2 (bA h1) aW/\
 C.gA t1 aW n1 h2 λr1 h3=>
 ∃cH n2,r1 = .tuple #[.agg ⟨cH⟩,vI n2]/\
 aM gv 155 cH 15 h3 λh5=>
 bif(n2 != 0)then(
 K (.tuple #[.string (mkStr []),vI n2]) h5)else(
 ∃(I1:OA->Nat->Nat->OA->Nat->Nat->Int->ad->Prop) (M1:OA->Nat->Nat->OA->Nat->Nat->Int->ad->Nat),I1 none 0 0 none 0 0 0 h5/\
 ∀(tN:OA) (tO:Nat) (vY:Nat) (aR:OA) (aX:Nat) (bf:Nat) (i1:Int),∀h6:ad,I1 tN tO vY aR aX bf i1 h6->
 bif(decide (i1<many1))then(
 ∃n3,cellOf h6 (aS h3 2)=some (vI n3)/\
 bif(decide (dI<(wI (n3-i1))))then(
 bh.k2 t1 dI h1 h3 tN tO vY aR aX bf i1 h6 I1 M1 K)else(
 ∃HV,aw h6 tN tO HV/\
 K (.tuple #[.string (mkStr HV),vI 0]) h6))else(
 ∃RU,aw h6 tN tO RU/\
 K (.tuple #[.string (mkStr RU),vI 0]) h6))
def bh(t1:OA)(g1:LV)(n1 dI many1:Int)(K:KT)(h1:ad):=
 az g1 80 h1 λh2=>
 bif(decide (dI<0))then(
 K (.tuple #[.string (mkStr []),vI 1]) h2)else(
 bif(decide (many1<0))then(
 K (.tuple #[.string (mkStr []),vI 1]) h2)else(
 bh.k1 t1 n1 dI many1 h1 h2 K))
theorem bh.ok{t1 g1 n1 dI many1 K h}(x:bh t1 g1 n1 dI many1 K h):C.bh t1 g1 n1 dI many1 h K:=fk (fun|9=>([0,3,4,6,12],[(14,.slice),(15,.slice),(16,.int .i64)])|_=>([],[])) o0 Tryz.func98 x
def oD(t1:OA)(g1:LV)(n1 dI:Int)(s1:ByteArray)(K:KT)(h1:ad):=
 az [vP t1] 57 h1 λh2=>
 az g1 80 h2 λh3=>
 az [.string s1] 9 h3 λh4=>
 az z26 26 h4 λh5=>
 bif(decide (dI<0))then(
 aO ⟨h4.size,0,none⟩ (vI 1) h5 λh6=>
 ∃bL,cellOf h6 ⟨h4.size,0,none⟩=some (vI bL)/\
 K (vI bL) h6)else(
 ∃q1,cellOf h5 ⟨h1.size,0,none⟩=some (vP q1)/\
 ∃aW,List.length aW=5/\aj h5 ⟨h2.size,0,none⟩ aW/\
 C.nW q1 aW n1 h5 λr1 h7=>
 ∃cH n2,r1 = .tuple #[.agg ⟨cH⟩,vI n2]/\
 aM gv 155 cH 15 h7 λh9=>
 aO ⟨h4.size,0,none⟩ (vI n2) h9 λcB=>
 ∃n3,cellOf cB ⟨h4.size,0,none⟩=some (vI n3)/\
 bif(n3 != 0)then(
 ∃n4,cellOf cB ⟨h4.size,0,none⟩=some (vI n4)/\
 aO ⟨h4.size,0,none⟩ (vI n4) cB λbQ=>
 ∃dY,cellOf bQ ⟨h4.size,0,none⟩=some (vI dY)/\
 K (vI dY) bQ)else(
 ∃s2,cellOf cB ⟨h3.size,0,none⟩=some (.string s2)/\
 bif(decide ((s2.size:Int)>(wI (8459264-dI))))then(
 aO ⟨h4.size,0,none⟩ (vI 120) cB λcG=>
 ∃fv,cellOf cG ⟨h4.size,0,none⟩=some (vI fv)/\
 K (vI fv) cG)else(
 ∃s3,cellOf cB ⟨h3.size,0,none⟩=some (.string s3)/\
 bif(s3.toList==(mkStr []).toList)then(
 aO ⟨h4.size,0,none⟩ (vI 0) cB λcg=>
 ∃kE,cellOf cg ⟨h4.size,0,none⟩=some (vI kE)/\
 K (vI kE) cg)else(
 ∃q2,cellOf cB ⟨h1.size,0,none⟩=some (vP q2)/\
 C.oV q2 (some ⟨h4.size,0,none⟩) cB λr2 cM=>
 ∃g2 JL fV,r2 = .func (.func g2) ⟨JL⟩ ⟨fV⟩/\
 ∃s4,cellOf cM ⟨h3.size,0,none⟩=some (.string s4)/\
 C.mJ dI (s4.size:Int) cM λr3 fg=>
 ∃v1,r3=v1/\
 ∀(R1:Loop),
 (∀(kR:LV),∀(iY:ad) (k1:KT),bX iY (fg.size+1) R1 .ready none->
 (
 aM z218 218 kR 4 iY λma=>
 bX ma (fg.size+1) R1 .ready none/\
 yn ma (fg.size+1) R1 .busy none λgm=>
 ∃q3,cellOf gm ⟨h1.size,0,none⟩=some (vP q3)/\
 ∃rh,List.length rh=5/\aj gm ⟨h2.size,0,none⟩ rh/\
 ∃tg,List.length tg=15/\aj gm ⟨h7.size,0,none⟩ tg/\
 ∃n5,cellOf gm (Addr.add ⟨iY.size,0,none⟩ 0)=some (vI n5)/\
 C.mK q3 rh tg n5 gm λr4 iK=>
 ∃vo n6 n7,r4 = .tuple #[.agg ⟨vo⟩,vI n6,vI n7]/\
 aM gv 155 vo 15 iK λnD=>
 bif(n7 != 0)then(
 aO ⟨h4.size,0,none⟩ (vI n7) nD λjR=>
 bX jR (fg.size+1) R1 .busy none/\
 k1 (.bool false) (dr jR (fg.size+1) R1 .done (some .ret)))else(
 ∃q4,cellOf nD ⟨h1.size,0,none⟩=some (vP q4)/\
 C.cF q4 n6 nD λr5 mu=>
 ∃aI aF aT n8,r5 = .tuple #[vS aI aF aT,vI n8]/\
 bif(n8 != 0)then(
 aO ⟨h4.size,0,none⟩ (vI n8) mu λuH=>
 bX uH (fg.size+1) R1 .busy none/\
 k1 (.bool false) (dr uH (fg.size+1) R1 .done (some .ret)))else(
 ∃n9,cellOf mu (Addr.add ⟨iY.size,0,none⟩ 1)=some (vI n9)/\
 ∃n10,cellOf mu (Addr.add ⟨iY.size,0,none⟩ 2)=some (vI n10)/\
 (0<=n9/\n9<=n10/\n10<=(aT:Int))/\
 ∃s5,cellOf mu ⟨h3.size,0,none⟩=some (.string s5)/\
 ∃n11,cellOf mu (Addr.add ⟨iY.size,0,none⟩ 3)=some (vI n11)/\
 (0<=n11/\n11<=(s5.size:Int))/\
 rP tf (if aT=(Int.toNat n9)then aI else Option.map (Addr.add · (Int.toNat n9)) aI) ((Int.toNat n10)-(Int.toNat n9)) (.string (ByteArray.extract s5 (Int.toNat n11) s5.size)) mu λn12 qu=>
 ∃q5,cellOf qu ⟨h1.size,0,none⟩=some (vP q5)/\
 C.aY q5 n6 aI aF aT qu λr6 tx=>
 ∃n13,r6 = vI n13/\
 bif(n13 != 0)then(
 aO ⟨h4.size,0,none⟩ (vI n13) tx λAc=>
 bX Ac (fg.size+1) R1 .busy none/\
 k1 (.bool false) (dr Ac (fg.size+1) R1 .done (some .ret)))else(
 ∃vX,List.length vX=15/\aj tx ⟨iK.size,0,none⟩ vX/\
 ax ⟨h7.size,0,none⟩ vX 15 tx λIV=>
 bX IV (fg.size+1) R1 .busy none/\
 k1 (.bool true) (dr IV (fg.size+1) R1 .ready none)))))->
 qU Tryz.prog (fg.size+1) [.agg ⟨kR⟩] iY k1)->
 yP Tryz.prog v1 [.func (.yield (fg.size+1)) #[] #[]] (cE fg R1) λ_ EK=>
 ∃(RW:LoopState) (pB:Option Code),bX EK (fg.size+1) R1 RW pB/\RW≠.busy/\
 CH pB (
 yn EK (fg.size+1) R1 .exhausted pB λwQ=>
 ∃n14,cellOf wQ (Addr.add ⟨h7.size,0,none⟩ 2)=some (vI n14)/\
 ∃s6,cellOf wQ ⟨h3.size,0,none⟩=some (.string s6)/\
 aO (Addr.add ⟨h7.size,0,none⟩ 2) (vI (if(wI (dI+(s6.size:Int)))>n14 then(wI (dI+(s6.size:Int)))else n14)) wQ λDr=>
 ∃q6,cellOf Dr ⟨h1.size,0,none⟩=some (vP q6)/\
 ∃HW,List.length HW=5/\aj Dr ⟨h2.size,0,none⟩ HW/\
 ∃uI,List.length uI=15/\aj Dr ⟨h7.size,0,none⟩ uI/\
 C.oW q6 HW n1 uI Dr λr7 IW=>
 ∃n15,r7 = vI n15/\
 aO ⟨h4.size,0,none⟩ (vI n15) IW λE7=>
 zd fg.size E7 λBD=>
 og Tryz.prog (.func (.func g2) ⟨JL⟩ ⟨fV⟩) [] BD λLR=>
 ∃lF,cellOf LR ⟨h4.size,0,none⟩=some (vI lF)/\
 K (vI lF) LR) (
 yn EK (fg.size+1) R1 .exhausted pB λRV=>
 zd fg.size RV λh38=>
 og Tryz.prog (.func (.func g2) ⟨JL⟩ ⟨fV⟩) [] h38 λh39=>
 ∃qY,cellOf h39 ⟨h4.size,0,none⟩=some (vI qY)/\
 K (vI qY) h39) (λ_=>False)))))
set_option maxRecDepth 1000000 in
set_option maxRecDepth 1000000 in
theorem oD.ok{t1 g1 n1 dI s1 K h}(x:oD t1 g1 n1 dI s1 K h):C.oD t1 g1 n1 dI s1 h K:=fk (fun|1000012=>([],[(43,.agg)])|_=>([],[])) (fun|19=>(oS 0 10 (.op 10 [] .nil))|_=>.nil) Tryz.func99 x
def eW.k1(t1:OA)(n1 dI:Int)(s1:ByteArray)(h1 h3 h5:ad)(K:KT):=
 bif(s1.toList==(mkStr []).toList)then(
 K (vI 0) h5)else(
 C.ca t1 h5 λr2 h6=>
 ∃n3 n4,r2 = .tuple #[vI n3,vI n4]/\
 ∃fV,List.length fV=5/\aj h6 (bA h1) fV/\
 ∃kR,List.length kR=15/\aj h6 (bA h3) kR/\
 C.iS t1 fV n1 kR dI s1 h6 λr3 h7=>
 ∃n5,r3 = vI n5/\
 bif(n5 != 0)then(
 C.bu t1 n3 h7 λr4 h8=>
 ∃n6,r4 = vI n6/\
 K (vI n5) h8)else(
 K (vI n5) h7))
def eW(t1:OA)(g1:LV)(n1 dI:Int)(s1:ByteArray)(K:KT)(h1:ad):=
 az g1 80 h1 λh2=>
 bif(decide (dI<0))then(
 K (vI 1) h2)else(
 ∃aW,List.length aW=5/\aj h2 (bA h1) aW/\
 C.gA t1 aW n1 h2 λr1 h3=>
 ∃cH n2,r1 = .tuple #[.agg ⟨cH⟩,vI n2]/\
 aM gv 155 cH 15 h3 λh5=>
 bif(n2 != 0)then(
 K (vI n2) h5)else(
 bif(decide (dI>8459264))then(
 K (vI 120) h5)else(
 bif(decide ((s1.size:Int)>(wI (8459264-dI))))then(
 K (vI 120) h5)else(
 eW.k1 t1 n1 dI s1 h1 h3 h5 K))))
set_option maxRecDepth 1000000 in
set_option maxRecDepth 1000000 in
theorem eW.ok{t1 g1 n1 dI s1 K h}(x:eW t1 g1 n1 dI s1 K h):C.eW t1 g1 n1 dI s1 h K:=fz Tryz.func100 x
def lN.k1(t1:OA)(n1 gY:Int)(h1 h2 h5:ad)(g2:Nat)(JL fV:LV)(nD:ad)(K:KT):=
 aO (Addr.add ⟨h5.size,0,none⟩ 2) (vI gY) nD λjR=>
 ∃HW,List.length HW=5/\aj jR ⟨h1.size,0,none⟩ HW/\
 ∃uI,List.length uI=15/\aj jR ⟨h5.size,0,none⟩ uI/\
 C.oW t1 HW n1 uI jR λr5 mu=>
 ∃n13,r5 = vI n13/\
 aO ⟨h2.size,0,none⟩ (vI n13) mu λuH=>
 og Tryz.prog (.func (.func g2) ⟨JL⟩ ⟨fV⟩) [] uH λqu=>
 ∃th,cellOf qu ⟨h2.size,0,none⟩=some (vI th)/\
 K (vI th) qu
def lN(t1:OA)(g1:LV)(n1 gY:Int)(K:KT)(h1:ad):=
 az g1 80 h1 λh2=>
 az z26 26 h2 λh3=>
 bif(decide (gY<0))then(
 aO ⟨h2.size,0,none⟩ (vI 1) h3 λh4=>
 ∃bL,cellOf h4 ⟨h2.size,0,none⟩=some (vI bL)/\
 K (vI bL) h4)else(
 ∃aW,List.length aW=5/\aj h3 ⟨h1.size,0,none⟩ aW/\
 C.nW t1 aW n1 h3 λr1 h5=>
 ∃cH n2,r1 = .tuple #[.agg ⟨cH⟩,vI n2]/\
 aM gv 155 cH 15 h5 λh7=>
 aO ⟨h2.size,0,none⟩ (vI n2) h7 λh8=>
 ∃n3,cellOf h8 ⟨h2.size,0,none⟩=some (vI n3)/\
 bif(n3 != 0)then(
 ∃n4,cellOf h8 ⟨h2.size,0,none⟩=some (vI n4)/\
 aO ⟨h2.size,0,none⟩ (vI n4) h8 λh9=>
 ∃dY,cellOf h9 ⟨h2.size,0,none⟩=some (vI dY)/\
 K (vI dY) h9)else(
 bif(decide (gY>8459264))then(
 aO ⟨h2.size,0,none⟩ (vI 120) h8 λcB=>
 ∃fv,cellOf cB ⟨h2.size,0,none⟩=some (vI fv)/\
 K (vI fv) cB)else(
 ∃n5,cellOf h8 (Addr.add ⟨h5.size,0,none⟩ 2)=some (vI n5)/\
 bif(gY==n5)then(
 aO ⟨h2.size,0,none⟩ (vI 0) h8 λbQ=>
 ∃kE,cellOf bQ ⟨h2.size,0,none⟩=some (vI kE)/\
 K (vI kE) bQ)else(
 C.oV t1 (some ⟨h2.size,0,none⟩) h8 λr2 cG=>
 ∃g2 JL fV,r2 = .func (.func g2) ⟨JL⟩ ⟨fV⟩/\
 ∃n6,cellOf cG (Addr.add ⟨h5.size,0,none⟩ 2)=some (vI n6)/\
 bif(decide (gY<n6))then(
 ∃kR,List.length kR=5/\aj cG ⟨h1.size,0,none⟩ kR/\
 ∃rh,List.length rh=15/\aj cG ⟨h5.size,0,none⟩ rh/\
 C.gZ t1 kR rh (wI (Int.tdiv (wI ((wI (gY+512))-1)) 512)) cG λr3 cg=>
 ∃tg n7,r3 = .tuple #[.agg ⟨tg⟩,vI n7]/\
 ax ⟨h5.size,0,none⟩ tg 15 cg λcM=>
 aO ⟨h2.size,0,none⟩ (vI n7) cM λfg=>
 ∃n8,cellOf fg ⟨h2.size,0,none⟩=some (vI n8)/\
 bif(n8 != 0)then(
 ∃n9,cellOf fg ⟨h2.size,0,none⟩=some (vI n9)/\
 aO ⟨h2.size,0,none⟩ (vI n9) fg λiY=>
 og Tryz.prog (.func (.func g2) ⟨JL⟩ ⟨fV⟩) [] iY λfw=>
 ∃lF,cellOf fw ⟨h2.size,0,none⟩=some (vI lF)/\
 K (vI lF) fw)else(
 ∃vo,List.length vo=5/\aj fg ⟨h1.size,0,none⟩ vo/\
 ∃vX,List.length vX=15/\aj fg ⟨h5.size,0,none⟩ vX/\
 C.lY t1 vo vX gY fg λr4 ma=>
 ∃n10,r4 = vI n10/\
 aO ⟨h2.size,0,none⟩ (vI n10) ma λgm=>
 ∃n11,cellOf gm ⟨h2.size,0,none⟩=some (vI n11)/\
 bif(n11 != 0)then(
 ∃n12,cellOf gm ⟨h2.size,0,none⟩=some (vI n12)/\
 aO ⟨h2.size,0,none⟩ (vI n12) gm λiK=>
 og Tryz.prog (.func (.func g2) ⟨JL⟩ ⟨fV⟩) [] iK λnR=>
 ∃qY,cellOf nR ⟨h2.size,0,none⟩=some (vI qY)/\
 K (vI qY) nR)else(
 lN.k1 t1 n1 gY h1 h2 h5 g2 JL fV gm K)))else(
 lN.k1 t1 n1 gY h1 h2 h5 g2 JL fV cG K)))))
set_option maxRecDepth 1000000 in
set_option maxRecDepth 1000000 in
theorem lN.ok{t1 g1 n1 gY K h}(x:lN t1 g1 n1 gY K h):C.lN t1 g1 n1 gY h K:=fz Tryz.func101 x
def ku(t1:OA)(g1:LV)(n1 many1:Int)(K:KT)(h1:ad):=
 az g1 80 h1 λh2=>
 bif(decide (many1<0))then(
 K (vI 1) h2)else(
 ∃aW,List.length aW=5/\aj h2 (bA h1) aW/\
 C.gA t1 aW n1 h2 λr1 h3=>
 ∃cH n2,r1 = .tuple #[.agg ⟨cH⟩,vI n2]/\
 aM gv 155 cH 15 h3 λh5=>
 bif(n2 != 0)then(
 K (vI n2) h5)else(
 bif(decide (many1>8459264))then(
 K (vI 120) h5)else(
 ∃n3,cellOf h5 (aS h3 2)=some (vI n3)/\
 bif(many1==n3)then(
 K (vI 0) h5)else(
 C.ca t1 h5 λr2 h6=>
 ∃n4 n5,r2 = .tuple #[vI n4,vI n5]/\
 ∃fV,List.length fV=5/\aj h6 (bA h1) fV/\
 ∃kR,List.length kR=15/\aj h6 (bA h3) kR/\
 C.bZ t1 fV n1 kR many1 h6 λr3 h7=>
 ∃n6,r3 = vI n6/\
 bif(n6 != 0)then(
 C.bu t1 n4 h7 λr4 h8=>
 ∃n7,r4 = vI n7/\
 K (vI n6) h8)else(
 K (vI n6) h7)))))
set_option maxRecDepth 1000000 in
set_option maxRecDepth 1000000 in
theorem ku.ok{t1 g1 n1 many1 K h}(x:ku t1 g1 n1 many1 K h):C.ku t1 g1 n1 many1 h K:=fz Tryz.func102 x
def mF(t1:OA)(g1:LV)(n1:Int)(K:KT)(h1:ad):=
 az g1 80 h1 λh2=>
 ∃aW,List.length aW=5/\aj h2 ⟨h1.size,0,none⟩ aW/\
 C.nW t1 aW n1 h2 λr1 h3=>
 ∃cH n2,r1 = .tuple #[.agg ⟨cH⟩,vI n2]/\
 aM gv 155 cH 15 h3 λh5=>
 bif(n2 != 0)then(
 K (.tuple #[vI 0,vI n2]) h5)else(
 ∃fV,List.length fV=5/\aj h5 ⟨h1.size,0,none⟩ fV/\
 ∃kR,List.length kR=15/\aj h5 ⟨h3.size,0,none⟩ kR/\
 C.dW t1 fV kR h5 λr2 h6=>
 ∃aI aF aT dP dB ff n3,r2 = .tuple #[vS aI aF aT,vS dP dB ff,vI n3]/\
 bif(n3 != 0)then(
 K (.tuple #[vI 0,vI n3]) h6)else(
 K (.tuple #[vI (wI ((aF:Int)+(dB:Int))),vI 0]) h6))
theorem mF.ok{t1 g1 n1 K h}(x:mF t1 g1 n1 K h):C.mF t1 g1 n1 h K:=fz Tryz.func103 x
def ik(t1:OA)(g1:LV)(n1:Int)(K:KT)(h1:ad):=
 az g1 80 h1 λh2=>
 ∃aW,List.length aW=5/\aj h2 (bA h1) aW/\
 C.gA t1 aW n1 h2 λr1 h3=>
 ∃cH n2,r1 = .tuple #[.agg ⟨cH⟩,vI n2]/\
 aM gv 155 cH 15 h3 λh5=>
 bif(n2 != 0)then(
 K (.tuple #[vI 0,vI n2]) h5)else(
 ∃fV,List.length fV=5/\aj h5 (bA h1) fV/\
 ∃kR,List.length kR=15/\aj h5 (bA h3) kR/\
 C.aJ t1 fV kR h5 λr2 h6=>
 ∃aI aF aT dP dB ff n3,r2 = .tuple #[vS aI aF aT,vS dP dB ff,vI n3]/\
 bif(n3 != 0)then(
 K (.tuple #[vI 0,vI n3]) h6)else(
 K (.tuple #[vI (wI ((aF:Int)+(dB:Int))),vI 0]) h6))
theorem ik.ok{t1 g1 n1 K h}(x:ik t1 g1 n1 K h):C.ik t1 g1 n1 h K:=fz Tryz.func104 x
def gP(x1:Int)(K:KT)(h1:ad):=
 (0<=(512:Int)/\(512:Int)<=512/\(1:Int)*512<=281474976710656/\(512:Int)<=281474976710656)/\
 az (aN z5 (Int.toNat 512)) 5 h1 λh2=>
 ∃(I1:Int->ad->Prop) (M1:Int->ad->Nat),I1 0 h2/\
 ∀(n1:Int),∀h3:ad,I1 n1 h3->
 bif(decide (n1<((Int.toNat 512):Int)))then(
 (0<=n1/\n1<((Int.toNat 512):Int))/\
 aO (Addr.add (bA h1) (Int.toNat n1)) (.int .u8 x1) h3 λh4=>
 I1 (wI (n1+1)) h4/\M1 (wI (n1+1)) h4<M1 n1 h3)else(
 K (vS (some (bA h1)) (Int.toNat 512) (Int.toNat 512)) h3)
theorem gP.ok{x1 K h}(x:gP x1 K h):C.gP x1 h K:=fk (fun|3=>([0,3,7],[(8,.int .i64)])|_=>([],[])) o0 Tryz.func105 x
def fT(aA1:OA)(Yk aC1:Nat)(aR:OA)(aX bf:Nat)(K:KT)(h1:ad):=
 bif((Yk:Int) != (aX:Int))then(
 K (.bool false) h1)else(
 ∃(I1:Int->ad->Prop) (M1:Int->ad->Nat),I1 0 h1/\
 ∀(n1:Int),∀h2:ad,I1 n1 h2->
 bif(decide (n1<(Yk:Int)))then(
 (0<=n1/\n1<(Yk:Int))/\
 ae aA1 λp1=>
 ∃n2,cellOf h2 (p1.add (Int.toNat n1))=some (vI n2)/\
 (0<=n1/\n1<(aX:Int))/\
 ae aR λp2=>
 ∃n3,cellOf h2 (p2.add (Int.toNat n1))=some (vI n3)/\
 bif(n2 != n3)then(
 K (.bool false) h2)else(
 I1 (wI (n1+1)) h2/\M1 (wI (n1+1)) h2<M1 n1 h2))else(
 K (.bool true) h2))
theorem fT.ok{aA1 Yk aC1 aR aX bf K h}(x:fT aA1 Yk aC1 aR aX bf K h):C.fT aA1 Yk aC1 aR aX bf h K:=fk (fun|4=>([0,1,12],[(13,.int .i64)])|_=>([],[])) (fun|6=>(oS 0 8 (.op 8 [] .nil))|_=>.nil) Tryz.func106 x
def uG(ju:OA)(hQ kC:Nat)(n1:Int)(K:KT)(h1:ad):=
 ∃(I1:Int->Int->ad->Prop) (M1:Int->Int->ad->Nat),I1 97 0 h1/\
 ∀(RX:Int) (n2:Int),∀h2:ad,I1 RX n2 h2->
 bif(decide (n2<(hQ:Int)))then(
 (0<=n2/\n2<(hQ:Int))/\
 ae ju λp1=>
 ∃aW,List.length aW=2/\aj h2 (p1.add ((Int.toNat n2)*2)) aW/\
 aM JI 103 aW 2 h2 λh4=>
 ∃n3,cellOf h4 (aS h2 0)=some (vI n3)/\
 bif(decide (n3<=RX))then(
 K (.bool false) h4)else(
 ∃n4,cellOf h4 (aS h2 0)=some (vI n4)/\
 bif(decide (n4>=n1))then(
 K (.bool false) h4)else(
 ∃n5,cellOf h4 (aS h2 0)=some (vI n5)/\
 I1 n5 (wI (n2+1)) h4/\M1 n5 (wI (n2+1)) h4<M1 RX n2 h2)))else(
 K (.bool (decide ((hQ:Int)<=96))) h2)
theorem uG.ok{ju hQ kC n1 K h}(x:uG ju hQ kC n1 K h):C.uG ju hQ kC n1 h K:=fk (fun|3=>([0,1,8,9],[(5,.int .i64),(10,.int .i64)])|_=>([],[])) o0 Tryz.func107 x
def dD(d1:OA)(K:KT)(h1:ad):=
 ae d1 λp1=>
 ∃aI aF aT,cellOf h1 (p1.add 0)=some (vS aI aF aT)/\
 K (vI (aF:Int)) h1
theorem dD.ok{d1 K h}(x:dD d1 K h):C.dD d1 h K:=fz Tryz.func108 x
def qc(lu:OA)(iP mG:Nat)(jg:OA)(im jW:Nat)(K:KT)(h1:ad):=
 C.rY lu iP mG 16384 h1 λr1 h2=>
 ∃b1,r1 = .bool b1/\
 bif(!b1)then(
 K (.tuple #[vS none 0 0,vI 40]) h2)else(
 C.jL jg im jW (iP:Int) h2 λr2 h3=>
 ∃b2,r2 = .bool b2/\
 bif(!b2)then(
 K (.tuple #[vS none 0 0,vI 32]) h3)else(
 C.mH  h3 λr3 h4=>
 ∃aI aF aT,r3 = vS aI aF aT/\
 C.mL aI aF aT 0 8 (mkStr [66,79,76,69,76,79,71,49]) h4 λr4 h5=>
 ∃n1,r4 = vI n1/\
 C.jQ aI aF aT 8 2 (IntKind.wrap .u64 ((iP:Int))) h5 λr5 h6=>
 ∃n2,r5 = vI n2/\
 ∃(I1:Int->ad->Prop) (M1:Int->ad->Nat),I1 0 h6/\
 ∀(n3:Int),∀h7:ad,I1 n3 h7->
 bif(decide (n3<(iP:Int)))then(
 (0<=n3/\n3<(iP:Int))/\
 ae lu λp1=>
 ∃n4,cellOf h7 (p1.add (Int.toNat n3))=some (vI n4)/\
 C.jQ aI aF aT (wI (16+(wI (4*n3)))) 4 (IntKind.wrap .u64 (n4)) h7 λr6 h8=>
 ∃n5,r6 = vI n5/\
 I1 (wI (n3+1)) h8/\M1 (wI (n3+1)) h8<M1 n3 h7)else(
 C.oI aI aF aT jg im jW h7 λr7 h9=>
 ∃n6,r7 = .int .u32 n6/\
 C.jQ aI aF aT 12 4 (IntKind.wrap .u64 (n6)) h9 λr8 cB=>
 ∃n7,r8 = vI n7/\
 K (.tuple #[vS aI aF aT,vI 0]) cB)))
set_option maxRecDepth 1000000 in
set_option maxRecDepth 1000000 in
theorem qc.ok{lu iP mG jg im jW K h}(x:qc lu iP mG jg im jW K h):C.qc lu iP mG jg im jW h K:=fk (fun|9=>([1,6,27,28],[(29,.int .i64)])|_=>([],[])) o0 Tryz.func109 x
def eX(s1:OA)(i1:Int)(aR:OA)(aX bf:Nat)(K:KT)(h1:ad):=
 az [vI i1] 3 h1 λh2=>
 az [vS aR aX bf] 37 h2 λh3=>
 ae s1 λp1=>
 ∃aI aF aT,cellOf h3 p1=some (vS aI aF aT)/\
 az [.func (.func 181) #[] ⟨[vP (some (bA h1)),vP (some (bA h2))]⟩] 172 h3 λh4=>
 ∃aG,List.length aG=1*1/\ak h4 (some (bA h3)) aG/\(∀v∈aG,v.oneCell'=true)/\
 aH NX 172 aI aF aT 1 aG h4 λdP dB ff h5=>
 ae s1 λp2=>
 aO p2 (vS dP dB ff) h5 λh6=>
 K (.tuple #[]) h6
theorem eX.ok{s1 i1 aR aX bf K h}(x:eX s1 i1 aR aX bf K h):C.eX s1 i1 aR aX bf h K:=fz Tryz.func110 x
def eY(s1:OA)(K:KT)(h1:ad):=
 ae s1 λp1=>
 ∃aI aF aT,cellOf h1 p1=some (vS aI aF aT)/\
 az [.func (.func 182) #[] ⟨[]⟩] 172 h1 λh2=>
 ∃aG,List.length aG=1*1/\ak h2 (some (bA h1)) aG/\(∀v∈aG,v.oneCell'=true)/\
 aH NX 172 aI aF aT 1 aG h2 λdP dB ff h3=>
 ae s1 λp2=>
 aO p2 (vS dP dB ff) h3 λh4=>
 K (.tuple #[]) h4
theorem eY.ok{s1 K h}(x:eY s1 K h):C.eY s1 h K:=fz Tryz.func111 x
def jJ(s1 ju:OA)(hQ kC:Nat)(K:KT)(h1:ad):=
 ∃(I1:Int->ad->Prop) (M1:Int->ad->Nat),I1 0 h1/\
 ∀(n1:Int),∀h2:ad,I1 n1 h2->
 bif(decide (n1<(hQ:Int)))then(
 (0<=n1/\n1<(hQ:Int))/\
 ae ju λp1=>
 ∃aW,List.length aW=2/\aj h2 (p1.add ((Int.toNat n1)*2)) aW/\
 aM JI 103 aW 2 h2 λh4=>
 ∃n2,cellOf h4 (aS h2 0)=some (vI n2)/\
 ∃aI aF aT,cellOf h4 (aS h2 1)=some (vS aI aF aT)/\
 C.eX s1 n2 aI aF aT h4 λr1 h5=>
 r1 = .tuple #[]/\
 I1 (wI (n1+1)) h5/\M1 (wI (n1+1)) h5<M1 n1 h2)else(
 C.eY s1 h2 λr2 h6=>
 r2 = .tuple #[]/\
 C.mH  h6 λr3 h7=>
 ∃dP dB ff,r3 = vS dP dB ff/\
 C.eX s1 1 dP dB ff h7 λr4 h8=>
 r4 = .tuple #[]/\
 C.eY s1 h8 λr5 h9=>
 r5 = .tuple #[]/\
 K (.tuple #[]) h9)
theorem jJ.ok{s1 ju hQ kC K h}(x:jJ s1 ju hQ kC K h):C.jJ s1 ju hQ kC h K:=fk (fun|1=>([0,6,7],[(8,.int .i64)])|_=>([],[])) o0 Tryz.func112 x
def j6(aI:OA)(aF aT:Nat)(d1:OA)(K:KT)(h1:ad):=
 ∃(I1:Int->ad->Prop) (M1:Int->ad->Nat),I1 0 h1/\
 ∀(n1:Int),∀h2:ad,I1 n1 h2->
 bif(decide (n1<(aF:Int)))then(
 (0<=n1/\n1<(aF:Int))/\
 ae aI λp1=>
 ∃v1,cellOf h2 (p1.add (Int.toNat n1))=some (v1)/\
 cT Tryz.prog v1 [vP d1] h2 λr1 h3=>
 ∃n2,r1 = vI n2/\
 bif(n2 != 0)then(
 K (vI n2) h3)else(
 I1 (wI (n1+1)) h3/\M1 (wI (n1+1)) h3<M1 n1 h2))else(
 K (vI 0) h2)
theorem j6.ok{aI aF aT d1 K h}(x:j6 aI aF aT d1 K h):C.j6 aI aF aT d1 h K:=fk (fun|2=>([1,8,9],[(10,.int .i64)])|_=>([],[])) o0 Tryz.func113 x
def iD(d1:OA)(i1:Int)(K:KT)(h1:ad):=
 bif(decide (i1>=0))then(
 ae d1 λp1=>
 ∃aI aF aT,cellOf h1 (p1.add 0)=some (vS aI aF aT)/\
 K (.bool (decide (i1<(aF:Int)))) h1)else(
 K (.bool false) h1)
theorem iD.ok{d1 i1 K h}(x:iD d1 i1 K h):C.iD d1 i1 h K:=fz Tryz.func114 x
def mH (K:KT)(h1:ad):Prop:=
 (0<=(512:Int)/\(512:Int)<=512/\(1:Int)*512<=281474976710656/\(512:Int)<=281474976710656)/\
 az (aN z5 (Int.toNat 512)) 5 h1 λh2=>
 K (vS (some (bA h1)) (Int.toNat 512) (Int.toNat 512)) h2
theorem mH.ok{K h}(x:mH  K h):C.mH  h K:=fz Tryz.func120 x
def bp(d1:OA)(K:KT)(h1:ad):=
 ae d1 λp1=>
 ∃aI aF aT,cellOf h1 (p1.add 0)=some (vS aI aF aT)/\
 K (vI (wI (Int.tdiv (aF:Int) 512))) h1
theorem bp.ok{d1 K h}(x:bp d1 K h):C.bp d1 h K:=fz Tryz.func121 x
def iQ(blocks1:Int)(a1:LV)(K:KT)(h1:ad):=
 az a1 122 h1 λh2=>
 ∃n1,cellOf h2 (aS h1 0)=some (vI n1)/\
 bif(n1==2)then(
 K (vI 0) h2)else(
 bif(n1==1)then(
 ∃n2,cellOf h2 (aS h1 1)=some (vI n2)/\
 bif(decide (n2<0))then(
 K (vI 31) h2)else(
 ∃n3,cellOf h2 (aS h1 1)=some (vI n3)/\
 bif(decide (n3>=blocks1))then(
 K (vI 31) h2)else(
 ∃aI aF aT,cellOf h2 (aS h1 2)=some (vS aI aF aT)/\
 bif((aF:Int) != 512)then(
 K (vI 32) h2)else(
 K (vI 0) h2))))else(
 K (vI 1) h2))
theorem iQ.ok{blocks1 a1 K h}(x:iQ blocks1 a1 K h):C.iQ blocks1 a1 h K:=fz Tryz.func128 x
def eA(d1:OA)(K:KT)(h1:ad):=
 ae d1 λp1=>
 ∃n1,cellOf h1 (p1.add 3)=some (vI n1)/\
 bif(n1==0)then(
 K (.bool false) h1)else(
 ae d1 λp2=>
 ∃n2,cellOf h1 (p2.add 3)=some (vI n2)/\
 ae d1 λp3=>
 aO (p3.add 3) (vI (wI (n2-1))) h1 λh2=>
 ae d1 λp4=>
 ∃n3,cellOf h2 (p4.add 3)=some (vI n3)/\
 ae d1 λp5=>
 aO (p5.add 4) (.bool (n3==0)) h2 λh3=>
 ae d1 λp6=>
 ∃b1,cellOf h3 (p6.add 4)=some (.bool b1)/\
 K (.bool b1) h3)
theorem eA.ok{d1 K h}(x:eA d1 K h):C.eA d1 h K:=fz Tryz.func129 x
def gQ(d1:OA)(vU:Value)(K:KT)(h1:ad):=
 ae d1 λp1=>
 ∃n1,cellOf h1 (p1.add 2)=some (vI n1)/\
 bif(decide (n1>0))then(
 ae d1 λp2=>
 ∃n2,cellOf h1 (p2.add 2)=some (vI n2)/\
 ae d1 λp3=>
 aO (p3.add 2) (vI (wI (n2-1))) h1 λh2=>
 ae d1 λp4=>
 ∃n3,cellOf h2 (p4.add 2)=some (vI n3)/\
 bif(n3==0)then(
 ae d1 λp5=>
 ∃aI aF aT,cellOf h2 (p5.add 3)=some (vS aI aF aT)/\
 C.iE d1 aI aF aT h2 λr1 h3=>
 r1 = .tuple #[]/\
 K (vI 30) h3)else(
 Fz vU=true/\
 bif(!(wF vU))then(
 cT Tryz.prog vU [] h2 λr2 h4=>
 r2 = .tuple #[]/\
 K (vI 0) h4)else(
 K (vI 0) h2)))else(
 Fz vU=true/\
 bif(!(wF vU))then(
 cT Tryz.prog vU [] h1 λr3 h5=>
 r3 = .tuple #[]/\
 K (vI 0) h5)else(
 K (vI 0) h1))
theorem gQ.ok{d1 vU K h}(x:gQ d1 vU K h):C.gQ d1 vU h K:=fz Tryz.func130 x
def gK(bj:OA)(K:KT)(h1:ad):=
 ae bj λp1=>
 ∃q1,cellOf h1 p1=some (vP q1)/\
 ae q1 λp2=>
 ∃aI aF aT,cellOf h1 (p2.add 1)=some (vS aI aF aT)/\
 ∃(I1:Int->ad->Prop) (M1:Int->ad->Nat),I1 0 h1/\
 ∀(n1:Int),∀h2:ad,I1 n1 h2->
 bif(decide (n1<(aF:Int)))then(
 (0<=n1/\n1<(aF:Int))/\
 ae aI λp3=>
 ∃aW,List.length aW=513/\aj h2 (p3.add ((Int.toNat n1)*513)) aW/\
 aM Vf 174 aW 513 h2 λh4=>
 ae bj λp4=>
 ∃q2,cellOf h4 p4=some (vP q2)/\
 ae q2 λp5=>
 ∃dP dB ff,cellOf h4 (p5.add 0)=some (vS dP dB ff)/\
 ∃n2,cellOf h4 (aS h2 0)=some (vI n2)/\
 ∃cH,List.length cH=512/\aj h4 (aS h2 1) cH/\
 (0<=n2/\n2<(dB:Int))/\
 ae dP λp6=>
 ax (p6.add ((Int.toNat n2)*512)) cH 512 h4 λh5=>
 I1 (wI (n1+1)) h5/\M1 (wI (n1+1)) h5<M1 n1 h2)else(
 ae bj λp7=>
 ∃q3,cellOf h2 p7=some (vP q3)/\
 ae q3 λp8=>
 aO (p8.add 1) (vS none 0 0) h2 λh6=>
 ae bj λp9=>
 ∃q4,cellOf h6 p9=some (vP q4)/\
 ae bj λVT=>
 ∃q5,cellOf h6 VT=some (vP q5)/\
 ae q5 λUv=>
 ∃kD j9 lD,cellOf h6 (Uv.add 7)=some (vS kD j9 lD)/\
 List.length ([vI 2,vI 0,vS none 0 0]:LV)=3/\
 az [vI 2,vI 0,vS none 0 0] 122 h6 λh7=>
 (ae bj λp12=>cellOf h7 p12=some (vP q4))/\
 (ae bj λp13=>cellOf h7 p13=some (vP q5))/\
 (cellOf h7 (Uv.add 7)=some (vS kD j9 lD))/\
 ∃aG,List.length aG=1*3/\ak h7 (some (bA h6)) aG/\(∀v∈aG,v.oneCell'=true)/\
 aH vb 122 kD j9 lD 1 aG h7 λuo uq vn h8=>
 (ae bj λp14=>cellOf h8 p14=some (vP q4))/\
 ae q4 λp15=>
 aO (p15.add 7) (vS uo uq vn) h8 λh9=>
 K (.tuple #[]) h9)
theorem gK.ok{bj K h}(x:gK bj K h):C.gK bj h K:=fk (fun|1=>([0,6,7],[(8,.int .i64)])|_=>([],[])) (fun|3=>(oS 0 9 (.op 9 [] .nil))|6=>(oS 0 6 (.op 6 [0,1,4] (.op 7 [0] (.op 8 [] (.op 9 [] (.op 10 [] .nil))))))|_=>.nil) Tryz.func131 x
def iR(ju:OA)(hQ kC:Nat)(K:KT)(h1:ad):=
 ∃aG,List.length aG=hQ*1/\ak h1 ju aG/\(∀v∈aG,v.oneCell'=true)/\
 aH ti4 4 none 0 0 hQ aG h1 λaI aF aT h2=>
 K (vS aI aF aT) h2
theorem iR.ok{ju hQ kC K h}(x:iR ju hQ kC K h):C.iR ju hQ kC h K:=fz Tryz.func132 x
def iE(d1 eC:OA)(dH fM:Nat)(K:KT)(h1:ad):=
 ae d1 λp1=>
 ∃aI aF aT,cellOf h1 (p1.add 1)=some (vS aI aF aT)/\
 ∃(I1:Int->ad->Prop) (M1:Int->ad->Nat),I1 0 h1/\
 ∀(n1:Int),∀h2:ad,I1 n1 h2->
 bif(decide (n1<(if(aF:Int)<(dH:Int)then(aF:Int)else(dH:Int))))then(
 ae d1 λp2=>
 ∃dP dB ff,cellOf h2 (p2.add 1)=some (vS dP dB ff)/\
 (0<=n1/\n1<(dB:Int))/\
 ae dP λp3=>
 ∃aW,List.length aW=513/\aj h2 (p3.add ((Int.toNat n1)*513)) aW/\
 aM Vf 174 aW 513 h2 λh4=>
 (0<=n1/\n1<(dH:Int))/\
 ae eC λp4=>
 ∃b1,cellOf h4 (p4.add (Int.toNat n1))=some (.bool b1)/\
 bif b1 then(
 ae d1 λp5=>
 ∃kD j9 lD,cellOf h4 (p5.add 0)=some (vS kD j9 lD)/\
 ∃n2,cellOf h4 (aS h2 0)=some (vI n2)/\
 ∃cH,List.length cH=512/\aj h4 (aS h2 1) cH/\
 (0<=n2/\n2<(j9:Int))/\
 ae kD λp6=>
 ax (p6.add ((Int.toNat n2)*512)) cH 512 h4 λh5=>
 I1 (wI (n1+1)) h5/\M1 (wI (n1+1)) h5<M1 n1 h2)else(
 I1 (wI (n1+1)) h4/\M1 (wI (n1+1)) h4<M1 n1 h2))else(
 ae d1 λp7=>
 aO (p7.add 1) (vS none 0 0) h2 λh6=>
 ae d1 λp8=>
 aO (p8.add 3) (vS none 0 0) h6 λh7=>
 ae d1 λp9=>
 aO (p9.add 2) (vI 0) h7 λh8=>
 ae d1 λVT=>
 aO (VT.add 4) (.bool true) h8 λh9=>
 K (.tuple #[]) h9)
theorem iE.ok{d1 eC dH fM K h}(x:iE d1 eC dH fM K h):C.iE d1 eC dH fM h K:=fk (fun|1=>([0,1,13],[(14,.int .i64)])|_=>([],[])) (fun|5=>(oS 0 9 (.op 9 [] .nil))|_=>.nil) Tryz.func134 x
def dy.k1(eC:OA)(dH:Nat)(Co:Int)(h4:ad)(K:KT):=
 bif(decide (Co<(dH:Int)))then(
 (0<=Co/\Co<(dH:Int))/\
 ae eC λp3=>
 ∃b1,cellOf h4 (p3.add (Int.toNat Co))=some (.bool b1)/\
 K (.bool b1) h4)else(
 K (.bool false) h4)
def dy(oB:OA)(mD qX:Nat)(i1:Int)(eC:OA)(dH fM:Nat)(K:KT)(h1:ad):=
 ∃(I1:Int->ad->Prop) (M1:Int->ad->Nat),I1 (wI (i1+1)) h1/\
 ∀(j1:Int),∀h2:ad,I1 j1 h2->
 bif(decide (j1<(mD:Int)))then(
 (0<=j1/\j1<(mD:Int))/\
 ae oB λp1=>
 ∃n1,cellOf h2 (Addr.add (p1.add ((Int.toNat j1)*3)) 0)=some (vI n1)/\
 bif(n1==2)then(
 K (.bool true) h2)else(
 I1 (wI (j1+1)) h2/\M1 (wI (j1+1)) h2<M1 j1 h2))else(
 ∃(I2:Int->Int->ad->Prop) (M2:Int->Int->ad->Nat),I2 0 (wI (i1-1)) h2/\
 ∀(wR:Int) (j2:Int),∀h3:ad,I2 wR j2 h3->
 bif(decide (j2>=0))then(
 (0<=j2/\j2<(mD:Int))/\
 ae oB λp2=>
 ∃n2,cellOf h3 (Addr.add (p2.add ((Int.toNat j2)*3)) 0)=some (vI n2)/\
 bif(n2==1)then(
 I2 (wI (wR+1)) (wI (j2-1)) h3/\M2 (wI (wR+1)) (wI (j2-1)) h3<M2 wR j2 h3)else(
 dy.k1 eC dH wR h3 K))else(
 dy.k1 eC dH wR h3 K))
theorem dy.ok{oB mD qX i1 eC dH fM K h}(x:dy oB mD qX i1 eC dH fM K h):C.dy oB mD qX i1 eC dH fM h K:=fk (fun|2=>([0,1,2],[(7,.int .i64)])|8=>([0,2],[(8,.int .i64),(9,.int .i64)])|_=>([],[])) o0 Tryz.func135 x
def aZ(t1:OA)(K:KT)(h1:ad):=
 ae t1 λp1=>
 aO (p1.add 1) (.map none) h1 λh2=>
 ae t1 λp2=>
 aO (p2.add 2) (vS none 0 0) h2 λh3=>
 ae t1 λp3=>
 aO (p3.add 3) (.bool true) h3 λh4=>
 K (.tuple #[]) h4
def aZ.lo : Nat->List Nat×List (Nat×Ty):=λn=>match n with|_=>([],[])
def aZ.od : Nat->Od:=λn=>match n with|_=>.nil
theorem aZ.eq(t1:OA)(K:KT)(h:ad):UO (cx aZ.lo aZ.od) Tryz.f137 (Tryz.f137.body.getD .skip) [vP t1] K h=aZ t1 K h:=by kernel_rfl
theorem aZ.chk : LM (cx aZ.lo aZ.od) Tryz.f137 (Tryz.f137.body.getD .skip) 1=true:=by kernel_rfl
theorem aZ.ok{K:KT}(hx:aZ t1 K h):C.aZ t1 h K:=
 RJ (JJ _ _) Tryz.func137 (by kernel_rfl) aZ.chk (by rw[aZ.eq];exact hx)
theorem aZ.LS : FZ (cx aZ.lo aZ.od) Tryz.f137 (Tryz.f137.body.getD .skip) 1=true:=by kernel_rfl
theorem aZ.CN(hx:aZ t1 (λ_ h'=>K h') h):D.aZ t1 h K:=
 Dg (JJ _ _) Tryz.func137 (by kernel_rfl) aZ.LS (by rw[aZ.eq];exact hx)
def dE(t1:OA)(i1:Int)(K:KT)(h1:ad):=
 ∃(I1:Int->Int->ad->Prop) (M1:Int->Int->ad->Nat),I1 (-1) 0 h1/\
 ∀(fU:Int) (k1:Int),∀h2:ad,I1 fU k1 h2->
 ae t1 λp1=>
 ∃aI aF aT,cellOf h2 (p1.add 1)=some (vS aI aF aT)/\
 bif(decide (k1<(aF:Int)))then(
 ae t1 λp2=>
 ∃dP dB ff,cellOf h2 (p2.add 1)=some (vS dP dB ff)/\
 (0<=k1/\k1<(dB:Int))/\
 ae dP λp3=>
 ∃n1,cellOf h2 (Addr.add (p3.add ((Int.toNat k1)*2)) 0)=some (vI n1)/\
 bif(n1==i1)then(
 I1 k1 (wI (k1+1)) h2/\M1 k1 (wI (k1+1)) h2<M1 fU k1 h2)else(
 I1 fU (wI (k1+1)) h2/\M1 fU (wI (k1+1)) h2<M1 fU k1 h2))else(
 K (vI fU) h2)
theorem dE.ok{t1 i1 K h}(x:dE t1 i1 K h):C.dE t1 i1 h K:=fk (fun|3=>([0,1],[(5,.int .i64),(6,.int .i64)])|_=>([],[])) o0 Tryz.func138 x
def iq(d1 ju:OA)(hQ kC:Nat)(K:KT)(h1:ad):=
 bif((hQ:Int)==0)then(
 K (vI 0) h1)else(
 aM Pe 122 [vI 2,vI 0,vS none 0 0] 3 h1 λh3=>
 ∃(I1:OA->Nat->Nat->Int->ad->Prop) (M1:OA->Nat->Nat->Int->ad->Nat),I1 none 0 0 0 h3/\
 ∀(Cp:OA) (Cq:Nat) (Cs:Nat) (n1:Int),∀h4:ad,I1 Cp Cq Cs n1 h4->
 bif(decide (n1<(hQ:Int)))then(
 (0<=n1/\n1<(hQ:Int))/\
 ae ju λp1=>
 ∃aW,List.length aW=2/\aj h4 (p1.add ((Int.toNat n1)*2)) aW/\
 aM JI 103 aW 2 h4 λh6=>
 ∃aI aF aT,cellOf h6 (aS h4 1)=some (vS aI aF aT)/\
 List.length ([vI 1,vI (wI (2+n1)),vS aI aF aT]:LV)=3/\
 az [vI 1,vI (wI (2+n1)),vS aI aF aT] 122 h6 λh7=>
 ∃aG,List.length aG=1*3/\ak h7 (some (bA h6)) aG/\(∀v∈aG,v.oneCell'=true)/\
 aH vb 122 Cp Cq Cs 1 aG h7 λdP dB ff h8=>
 I1 dP dB ff (wI (n1+1)) h8/\M1 dP dB ff (wI (n1+1)) h8<M1 Cp Cq Cs n1 h4)else(
 ∃cH,List.length cH=3/\aj h4 (bA h1) cH/\
 ∃fV,List.length fV=3/\aj h4 (bA h1) fV/\
 C.iw ju hQ kC h4 λr1 h9=>
 ∃kD j9 lD,r1 = vS kD j9 lD/\
 (List.length (cH:LV)=3/\aj h9 (bA h1) cH)/\
 (List.length (fV:LV)=3/\aj h9 (bA h1) fV)/\
 List.length (cH:LV)=3/\
 List.length ([vI 1,vI 1,vS kD j9 lD]:LV)=3/\
 List.length (fV:LV)=3/\
 az (cH++([vI 1,vI 1,vS kD j9 lD]++fV)) 122 h9 λcB=>
 ∃pA,List.length pA=3*3/\ak cB (some (bA h9)) pA/\(∀v∈pA,v.oneCell'=true)/\
 aH vb 122 Cp Cq Cs 3 pA cB λuo uq vn bQ=>
 ∃(I2:OA->Nat->Nat->Int->ad->Prop) (M2:OA->Nat->Nat->Int->ad->Nat),I2 uo uq vn 0 bQ/\
 ∀(Ct:OA) (Cu:Nat) (Cv:Nat) (n2:Int),∀cG:ad,I2 Ct Cu Cv n2 cG->
 bif(decide (n2<(hQ:Int)))then(
 (0<=n2/\n2<(hQ:Int))/\
 ae ju λp2=>
 ∃kR,List.length kR=2/\aj cG (p2.add ((Int.toNat n2)*2)) kR/\
 aM JI 103 kR 2 cG λcM=>
 ∃n3,cellOf cM (aS cG 0)=some (vI n3)/\
 ∃AB Ab B',cellOf cM (aS cG 1)=some (vS AB Ab B')/\
 List.length ([vI 1,vI n3,vS AB Ab B']:LV)=3/\
 az [vI 1,vI n3,vS AB Ab B'] 122 cM λfg=>
 ∃ze,List.length ze=1*3/\ak fg (some (bA cM)) ze/\(∀v∈ze,v.oneCell'=true)/\
 aH vb 122 Ct Cu Cv 1 ze fg λCa BA Dq iY=>
 I2 Ca BA Dq (wI (n2+1)) iY/\M2 Ca BA Dq (wI (n2+1)) iY<M2 Ct Cu Cv n2 cG)else(
 ∃rh,List.length rh=3/\aj cG (bA h1) rh/\
 ∃tg,List.length tg=3/\aj cG (bA h1) tg/\
 (0<=(512:Int)/\(512:Int)<=512/\(1:Int)*512<=281474976710656/\(512:Int)<=281474976710656)/\
 az (aN z5 (Int.toNat 512)) 5 cG λfw=>
 (List.length (rh:LV)=3/\aj fw (bA h1) rh)/\
 (List.length (tg:LV)=3/\aj fw (bA h1) tg)/\
 List.length (rh:LV)=3/\
 List.length ([vI 1,vI 1,vS (some (bA cG)) (Int.toNat 512) (Int.toNat 512)]:LV)=3/\
 List.length (tg:LV)=3/\
 az (rh++([vI 1,vI 1,vS (some (bA cG)) (Int.toNat 512) (Int.toNat 512)]++tg)) 122 fw λma=>
 ∃zg,List.length zg=3*3/\ak ma (some (bA fw)) zg/\(∀v∈zg,v.oneCell'=true)/\
 aH vb 122 Ct Cu Cv 3 zg ma λGg Gi IP gm=>
 ∃(I3:Int->ad->Prop) (M3:Int->ad->Nat),I3 0 gm/\
 ∀(n4:Int),∀iK:ad,I3 n4 iK->
 bif(decide (n4<(Gi:Int)))then(
 (0<=n4/\n4<(Gi:Int))/\
 ae Gg λp3=>
 ∃vo,List.length vo=3/\aj iK (p3.add ((Int.toNat n4)*3)) vo/\
 aM Pe 122 vo 3 iK λnD=>
 ∃n5,cellOf nD (aS iK 0)=some (vI n5)/\
 bif(n5==1)then(
 ∃n6,cellOf nD (aS iK 1)=some (vI n6)/\
 ∃Gj Gk IQ,cellOf nD (aS iK 2)=some (vS Gj Gk IQ)/\
 C.cW d1 n6 Gj Gk IQ nD λr2 jR=>
 ∃n7,r2 = vI n7/\
 bif(n7 != 0)then(
 K (vI n7) jR)else(
 I3 (wI (n4+1)) jR/\M3 (wI (n4+1)) jR<M3 n4 iK))else(
 C.cX d1 nD λr3 mu=>
 ∃n8,r3 = vI n8/\
 bif(n8 != 0)then(
 K (vI n8) mu)else(
 I3 (wI (n4+1)) mu/\M3 (wI (n4+1)) mu<M3 n4 iK)))else(
 K (vI 0) iK))))
theorem iq.ok{d1 ju hQ kC K h}(x:iq d1 ju hQ kC K h):C.iq d1 ju hQ kC h K:=fk (fun|6=>([0,1,6,18,19],[(5,.slice),(20,.int .i64)])|12=>([0,6,42,43],[(5,.slice),(44,.int .i64)])|18=>([0,64,65],[(66,.int .i64)])|_=>([],[])) (fun|10=>(.op 0 [] (.op 1 [] (.op 2 [] (.op 5 [] (.op 3 [1,5] (.op 4 [] (.op 6 [] (.op 7 [] (.op 8 [] .nil)))))))))|16=>(.op 0 [] (.op 1 [] (.op 4 [] (.op 2 [1,4] (.op 3 [] (.op 5 [] (.op 6 [] (.op 7 [] .nil))))))))|_=>.nil) Tryz.func139 x
def bR.k1(d1:OA)(i1:Int)(h3:ad)(K:KT):=
 ae d1 λp2=>
 ∃aI aF aT,cellOf h3 (p2.add 1)=some (vS aI aF aT)/\
 ∃(I1:Int->ad->Prop) (M1:Int->ad->Nat),I1 (wI ((aF:Int)-1)) h3/\
 ∀(j1:Int),∀h4:ad,I1 j1 h4->
 bif(decide (j1>=0))then(
 ae d1 λp3=>
 ∃dP dB ff,cellOf h4 (p3.add 1)=some (vS dP dB ff)/\
 (0<=j1/\j1<(dB:Int))/\
 ae dP λp4=>
 ∃n2,cellOf h4 (Addr.add (p4.add ((Int.toNat j1)*3)) 0)=some (vI n2)/\
 bif(n2==1)then(
 ae d1 λp5=>
 ∃kD j9 lD,cellOf h4 (p5.add 1)=some (vS kD j9 lD)/\
 (0<=j1/\j1<(j9:Int))/\
 ae kD λp6=>
 ∃n3,cellOf h4 (Addr.add (p6.add ((Int.toNat j1)*3)) 1)=some (vI n3)/\
 bif(n3==i1)then(
 ae d1 λp7=>
 ∃uo uq vn,cellOf h4 (p7.add 1)=some (vS uo uq vn)/\
 (0<=j1/\j1<(uq:Int))/\
 ae uo λp8=>
 ∃AB Ab B',cellOf h4 (Addr.add (p8.add ((Int.toNat j1)*3)) 2)=some (vS AB Ab B')/\
 C.dz AB Ab B' h4 λr2 h5=>
 ∃Ca BA Dq,r2 = vS Ca BA Dq/\
 K (.tuple #[vS Ca BA Dq,vI 0]) h5)else(
 I1 (wI (j1-1)) h4/\M1 (wI (j1-1)) h4<M1 j1 h4))else(
 I1 (wI (j1-1)) h4/\M1 (wI (j1-1)) h4<M1 j1 h4))else(
 ae d1 λp9=>
 ∃Gg Gi IP,cellOf h4 (p9.add 0)=some (vS Gg Gi IP)/\
 (0<=(wI (i1*512))/\(wI (i1*512))<=(wI ((wI (i1*512))+512))/\(wI ((wI (i1*512))+512))<=(IP:Int))/\
 C.dz (if IP=(Int.toNat (wI (i1*512)))then Gg else Option.map (Addr.add · (Int.toNat (wI (i1*512)))) Gg) ((Int.toNat (wI ((wI (i1*512))+512)))-(Int.toNat (wI (i1*512)))) (IP-(Int.toNat (wI (i1*512)))) h4 λr3 h6=>
 ∃Gj Gk IQ,r3 = vS Gj Gk IQ/\
 K (.tuple #[vS Gj Gk IQ,vI 0]) h6)
def bR(d1:OA)(i1:Int)(K:KT)(h1:ad):=
 ae d1 λp1=>
 ∃b1,cellOf h1 (p1.add 4)=some (.bool b1)/\
 bif b1 then(
 K (.tuple #[vS none 0 0,vI 30]) h1)else(
 bif(decide (i1<0))then(
 K (.tuple #[vS none 0 0,vI 31]) h1)else(
 C.bp d1 h1 λr1 h2=>
 ∃n1,r1 = vI n1/\
 bif(decide (i1>=n1))then(
 K (.tuple #[vS none 0 0,vI 31]) h2)else(
 bR.k1 d1 i1 h2 K)))
theorem bR.ok{d1 i1 K h}(x:bR d1 i1 K h):C.bR d1 i1 h K:=fk (fun|6=>([0,1],[(6,.int .i64)])|_=>([],[])) o0 Tryz.func141 x
def cC(m1:Option Nat)(K:KT)(h1:ad):=
 az [.map m1] 132 h1 λh2=>
 K (.func (.func 198) #[] ⟨[vP (some ⟨h1.size,0,none⟩)]⟩) h2
theorem cC.ok{m1 K h}(x:cC m1 K h):C.cC m1 h K:=fz Tryz.func143 x
def oE(t1:OA)(g1:LV)(vm:Value)(K:KT)(h1:ad):=
 az g1 80 h1 λh2=>
 ∃n1,cellOf h2 (Addr.add ⟨h1.size,0,none⟩ 1)=some (vI n1)/\
 ∃(I1:Int->ad->Prop) (M1:Int->ad->Nat),I1 n1 h2/\
 ∀(k1:Int),∀h3:ad,I1 k1 h3->
 ∃n2,cellOf h3 (Addr.add ⟨h1.size,0,none⟩ 2)=some (vI n2)/\
 bif(decide (k1<n2))then(
 C.cF t1 k1 h3 λr1 h4=>
 ∃aI aF aT n3,r1 = .tuple #[vS aI aF aT,vI n3]/\
 bif(n3 != 0)then(
 K (vI n3) h4)else(
 ∃n4,cellOf h4 (Addr.add ⟨h1.size,0,none⟩ 1)=some (vI n4)/\
 cT Tryz.prog vm [vI (wI (4096*(wI (k1-n4)))),vS aI aF aT] h4 λr2 h5=>
 ∃b1,r2 = .bool b1/\
 bif(!b1)then(
 K (vI 0) h5)else(
 I1 (wI (k1+1)) h5/\M1 (wI (k1+1)) h5<M1 k1 h3)))else(
 K (vI 0) h3)
theorem oE.ok{t1 g1 vm K h}(x:oE t1 g1 vm K h):C.oE t1 g1 vm h K:=fk (fun|2=>([0,2,4],[(7,.int .i64)])|_=>([],[])) o0 Tryz.func144 x
def lX(qd:Int)(aR:OA)(aX bf:Nat)(bj cU:OA)(K:KT)(h1:ad):=
 ae bj λp1=>
 ∃aW,List.length aW=5/\aj h1 p1 aW/\
 C.oF aW qd aR aX bf (Value.func (.func 147) #[] ⟨[vP cU]⟩) h1 λr1 h2=>
 r1 = .tuple #[]/\
 ae cU λp2=>
 ∃n1,cellOf h2 p2=some (vI n1)/\
 K (.bool (n1==0)) h2
theorem lX.ok{qd aR aX bf bj cU K h}(x:lX qd aR aX bf bj cU K h):C.lX qd aR aX bf bj cU h K:=fz Tryz.func145 x
def oF(g1:LV)(qd:Int)(aR:OA)(aX bf:Nat)(vm:Value)(K:KT)(h1:ad):=
 az g1 80 h1 λh2=>
 az [vI qd] 3 h2 λh3=>
 az (kK vm) 199 h3 λh4=>
 C.qe aR aX bf h4 λr1 h5=>
 ∃v1,r1=v1/\
 ∀(R1:Loop),
 (∀(n1:Int) (n2:Int),∀(h6:ad) (k1:KT),bX h6 (h5.size+1) R1 .ready none->
 (
 bX h6 (h5.size+1) R1 .ready none/\
 yn h6 (h5.size+1) R1 .busy none λh7=>
 ∃n3,cellOf h7 ⟨h2.size,0,none⟩=some (vI n3)/\
 ∃n4,cellOf h7 (Addr.add ⟨h1.size,0,none⟩ 3)=some (vI n4)/\
 ∃n5,cellOf h7 ⟨h2.size,0,none⟩=some (vI n5)/\
 ∃n6,cellOf h7 (Addr.add ⟨h1.size,0,none⟩ 0)=some (vI n6)/\
 bif(decide ((if n4>(wI (n3+n1))then n4 else(wI (n3+n1)))<(if n6<(wI ((wI (n5+n1))+n2))then n6 else(wI ((wI (n5+n1))+n2)))))then(
 ∃v2,cellOf h7 ⟨h3.size,0,none⟩=some (v2)/\
 cT Tryz.prog v2 [vI (if n4>(wI (n3+n1))then n4 else(wI (n3+n1))),vI (if n6<(wI ((wI (n5+n1))+n2))then n6 else(wI ((wI (n5+n1))+n2)))] h7 λr2 h8=>
 ∃b1,r2 = .bool b1/\
 bif(!b1)then(
 bX h8 (h5.size+1) R1 .busy none/\
 k1 (.bool false) (dr h8 (h5.size+1) R1 .done (some .ret)))else(
 bX h8 (h5.size+1) R1 .busy none/\
 k1 (.bool true) (dr h8 (h5.size+1) R1 .ready none)))else(
 bX h7 (h5.size+1) R1 .busy none/\
 k1 (.bool true) (dr h7 (h5.size+1) R1 .ready none)))->
 qU Tryz.prog (h5.size+1) [vI n1,vI n2] h6 k1)->
 yP Tryz.prog v1 [.func (.yield (h5.size+1)) #[] #[]] (cE h5 R1) λ_ h9=>
 ∃(RW:LoopState) (pB:Option Code),bX h9 (h5.size+1) R1 RW pB/\RW≠.busy/\
 CH pB (
 yn h9 (h5.size+1) R1 .exhausted pB λcB=>
 zd h5.size cB λbQ=>
 K (.tuple #[]) bQ) (
 yn h9 (h5.size+1) R1 .exhausted pB λcG=>
 zd h5.size cG λcg=>
 K (.tuple #[]) cg) (λ_=>False)
theorem oF.ok{g1 qd aR aX bf vm K h}(x:oF g1 qd aR aX bf vm K h):C.oF g1 qd aR aX bf vm h K:=fk (fun|1000002=>([],[(14,.int .i64),(15,.int .i64)])|_=>([],[])) (fun|4=>(oS 0 15 (.op 15 [] .nil))|_=>.nil) Tryz.func146 x
def jH(kB x1:Int)(bj:OA)(K:KT)(h1:ad):=
 ae bj λp1=>
 aO p1 (vI kB) h1 λh2=>
 K (.bool false) h2
theorem jH.ok{kB x1 bj K h}(x:jH kB x1 bj K h):C.jH kB x1 bj h K:=fz Tryz.func147 x
def bC(bj cU kF:OA)(K:KT)(h1:ad):=
 ae bj λp1=>
 ∃q1,cellOf h1 p1=some (vP q1)/\
 ae cU λp2=>
 ∃n1,cellOf h1 p2=some (vI n1)/\
 C.oG q1 n1 kF h1 λr1 h2=>
 r1 = .tuple #[]/\
 K (.tuple #[]) h2
def bC.lo : Nat->List Nat×List (Nat×Ty):=λn=>match n with|_=>([],[])
def bC.od : Nat->Od:=λn=>match n with|_=>.nil
theorem bC.eq(bj:OA)(cU:OA)(kF:OA)(K:KT)(h:ad):UO (cx bC.lo bC.od) Tryz.f148 (Tryz.f148.body.getD .skip) [vP bj,vP cU,vP kF] K h=bC bj cU kF K h:=by kernel_rfl
theorem bC.LS : FZ (cx bC.lo bC.od) Tryz.f148 (Tryz.f148.body.getD .skip) 3=true:=by kernel_rfl
theorem bC.CN(hx:bC bj cU kF (λ_ h'=>K h') h):D.bC bj cU kF h K:=
 Dg (JJ _ _) Tryz.func148 (by kernel_rfl) bC.LS (by rw[bC.eq];exact hx)
def oG(t1:OA)(iL:Int)(e1:OA)(K:KT)(h1:ad):=
 ae e1 λp1=>
 ∃n1,cellOf h1 p1=some (vI n1)/\
 bif(n1 != 0)then(
 C.ft t1 iL h1 λr1 h2=>
 ∃n2,r1 = vI n2/\
 K (.tuple #[]) h2)else(
 K (.tuple #[]) h1)
theorem oG.ok{t1 iL e1 K h}(x:oG t1 iL e1 K h):C.oG t1 iL e1 h K:=fz Tryz.func149 x
def oT(t1:OA)(g1:LV)(i1:Int)(on1:Bool)(K:KT)(h1:ad):=
 az g1 80 h1 λh2=>
 ∃aW,List.length aW=5/\aj h2 ⟨h1.size,0,none⟩ aW/\
 C.oU t1 aW i1 h2 λr1 h3=>
 ∃n1 aI aF aT n2 n3,r1 = .tuple #[vI n1,vS aI aF aT,vI n2,vI n3]/\
 bif(n3 != 0)then(
 K (vI n3) h3)else(
 C.aab aI aF aT n2 on1 h3 λr2 h4=>
 ∃n4,r2 = vI n4/\
 bif(n4 != 0)then(
 K (vI n4) h4)else(
 C.aY t1 n1 aI aF aT h4 λr3 h5=>
 ∃n5,r3 = vI n5/\
 K (vI n5) h5))
theorem oT.ok{t1 g1 i1 on1 K h}(x:oT t1 g1 i1 on1 K h):C.oT t1 g1 i1 on1 h K:=fz Tryz.func150 x
def jv(t1:OA)(g1:LV)(i1:Int)(K:KT)(h1:ad):=
 az g1 80 h1 λh2=>
 ∃n1,cellOf h2 (aS h1 1)=some (vI n1)/\
 C.aD t1 (wI (n1+(wI (Int.tdiv i1 4096)))) h2 λr1 h3=>
 ∃aI aF aT n2,r1 = .tuple #[vS aI aF aT,vI n2]/\
 bif(n2 != 0)then(
 K (.tuple #[.bool false,vI n2]) h3)else(
 (0<=(wI (Int.tdiv (Int.tmod i1 4096) 8))/\(wI (Int.tdiv (Int.tmod i1 4096) 8))<(aF:Int))/\
 ae aI λp1=>
 ∃n3,cellOf h3 (p1.add (Int.toNat (wI (Int.tdiv (Int.tmod i1 4096) 8))))=some (.int .u8 n3)/\
 ∃(I1:Int->Int->ad->Prop) (M1:Int->Int->ad->Nat),I1 (wI (n3)) 0 h3/\
 ∀(v1:Int) (k1:Int),∀h4:ad,I1 v1 k1 h4->
 bif(decide (k1<(Int.tmod i1 8)))then(
 I1 (wI (Int.tdiv v1 2)) (wI (k1+1)) h4/\M1 (wI (Int.tdiv v1 2)) (wI (k1+1)) h4<M1 v1 k1 h4)else(
 K (.tuple #[.bool ((Int.tmod v1 2)==1),vI 0]) h4))
theorem jv.ok{t1 g1 i1 K h}(x:jv t1 g1 i1 K h):C.jv t1 g1 i1 h K:=fk (fun|6=>([2],[(10,.int .i64),(11,.int .i64)])|_=>([],[])) o0 Tryz.func151 x
def jx(t1:OA)(g1:LV)(i1:Int)(K:KT)(h1:ad):=
 az g1 80 h1 λh2=>
 ∃n1,cellOf h2 (aS h1 1)=some (vI n1)/\
 C.aD t1 (wI (n1+(wI (Int.tdiv i1 4096)))) h2 λr1 h3=>
 ∃aI aF aT n2,r1 = .tuple #[vS aI aF aT,vI n2]/\
 bif(n2 != 0)then(
 K (vI n2) h3)else(
 ∃(I1:Int->Int->ad->Prop) (M1:Int->Int->ad->Nat),I1 1 0 h3/\
 ∀(v1:Int) (k1:Int),∀h4:ad,I1 v1 k1 h4->
 bif(decide (k1<(Int.tmod i1 8)))then(
 I1 (IntKind.wrap .u8 (v1*2)) (wI (k1+1)) h4/\M1 (IntKind.wrap .u8 (v1*2)) (wI (k1+1)) h4<M1 v1 k1 h4)else(
 (0<=(wI (Int.tdiv (Int.tmod i1 4096) 8))/\(wI (Int.tdiv (Int.tmod i1 4096) 8))<(aF:Int))/\
 ae aI λp1=>
 ∃n3,cellOf h4 (p1.add (Int.toNat (wI (Int.tdiv (Int.tmod i1 4096) 8))))=some (.int .u8 n3)/\
 (0<=(wI (Int.tdiv (Int.tmod i1 4096) 8))/\(wI (Int.tdiv (Int.tmod i1 4096) 8))<(aF:Int))/\
 ae aI λp2=>
 aO (p2.add (Int.toNat (wI (Int.tdiv (Int.tmod i1 4096) 8)))) (.int .u8 (bw .xor .u8 n3 v1)) h4 λh5=>
 ∃n4,cellOf h5 (aS h1 1)=some (vI n4)/\
 C.aC t1 (wI (n4+(wI (Int.tdiv i1 4096)))) aI aF aT h5 λr2 h6=>
 ∃n5,r2 = vI n5/\
 K (vI n5) h6))
theorem jx.ok{t1 g1 i1 K h}(x:jx t1 g1 i1 K h):C.jx t1 g1 i1 h K:=fk (fun|6=>([0,2,4,7],[(9,.int .u8),(10,.int .i64)])|_=>([],[])) o0 Tryz.func152 x
def oU(t1:OA)(g1:LV)(i1:Int)(K:KT)(h1:ad):=
 az g1 80 h1 λh2=>
 ∃aW,List.length aW=5/\aj h2 ⟨h1.size,0,none⟩ aW/\
 C.rD aW i1 h2 λr1 h3=>
 ∃n1 n2 n3,r1 = .tuple #[vI n1,vI n2,vI n3]/\
 bif(n3 != 0)then(
 K (.tuple #[vI 0,vS none 0 0,vI 0,vI n3]) h3)else(
 C.cF t1 n1 h3 λr2 h4=>
 ∃aI aF aT n4,r2 = .tuple #[vS aI aF aT,vI n4]/\
 K (.tuple #[vI n1,vS aI aF aT,vI n2,vI n4]) h4)
theorem oU.ok{t1 g1 i1 K h}(x:oU t1 g1 i1 K h):C.oU t1 g1 i1 h K:=fz Tryz.func153 x
def rX(aR:OA)(aX bf:Nat)(i1:Int)(K:KT)(h1:ad):=
 C.nX aR aX bf i1 h1 λr1 h2=>
 ∃b1,r1 = .bool b1/\
 bif(!b1)then(
 K (.tuple #[.bool false,vI 80]) h2)else(
 C.qq aR aX bf i1 h2 λr2 h3=>
 ∃b2,r2 = .bool b2/\
 K (.tuple #[.bool b2,vI 0]) h3)
theorem rX.ok{aR aX bf i1 K h}(x:rX aR aX bf i1 K h):C.rX aR aX bf i1 h K:=fz Tryz.func154 x
def jI(bj cU kF AD:OA)(K:KT)(h1:ad):=
 ae bj λp1=>
 ∃b1,cellOf h1 p1=some (.bool b1)/\
 bif b1 then(
 ae kF λp2=>
 ∃q1,cellOf h1 p2=some (vP q1)/\
 ae q1 λp3=>
 ∃m1,cellOf h1 (p3.add 1)=some (.map m1)/\
 ae AD λp4=>
 ∃n1,cellOf h1 p4=some (vI n1)/\
 ae cU λp5=>
 ∃aI aF aT,cellOf h1 p5=some (vS aI aF aT)/\
 ae m1 λr1=>
 CJ (.int .i64) r1 (.i n1) (vS aI aF aT) h1 λh2=>
 K (.tuple #[]) h2)else(
 ae kF λp6=>
 ∃q2,cellOf h1 p6=some (vP q2)/\
 ae q2 λp7=>
 ∃m2,cellOf h1 (p7.add 1)=some (.map m2)/\
 ae AD λp8=>
 ∃n2,cellOf h1 p8=some (vI n2)/\
 QV (.int .i64) m2 (.i n2) h1 λh3=>
 K (.tuple #[]) h3)
theorem jI.ok{bj cU kF AD K h}(x:jI bj cU kF AD K h):C.jI bj cU kF AD h K:=fk l0 (fun|1=>(oS 0 6 (.op 6 [] .nil))|2=>(oS 0 5 (.op 5 [] .nil))|_=>.nil) Tryz.func157 x
def gz.k1(h1 h7:ad)(K:KT):=
 ∃n4,cellOf h7 (aS h1 0)=some (vI n4)/\
 bif(n4==0)then(
 ∃aW,List.length aW=15/\aj h7 (bA h1) aW/\
 du [(.int .i64),(.int .i64),(.int .i64),(.int .i64),(.int .i64),(.int .i64),(.int .i64),(.int .i64),(.int .i64),(.int .i64),(.int .i64),(.int .i64),(.int .i64),(.int .i64),(.int .i64)] aW gv=true/\
 K (.bool (dw aW gv)) h7)else(
 bif(n4==1)then(
 ∃n5,cellOf h7 (aS h1 1)=some (vI n5)/\
 C.bP n5 0 1000 h7 λr4 h8=>
 ∃b4,r4 = .bool b4/\
 bif b4 then(
 ∃n6,cellOf h8 (aS h1 2)=some (vI n6)/\
 C.bP n6 0 8459264 h8 λr5 h9=>
 ∃b5,r5 = .bool b5/\
 K (.bool b5) h9)else(
 K (.bool false) h8))else(
 bif(n4==2)then(
 ∃n7,cellOf h7 (aS h1 1)=some (vI n7)/\
 C.bP n7 2 65535 h7 λr6 cB=>
 ∃b6,r6 = .bool b6/\
 bif b6 then(
 ∃n8,cellOf cB (aS h1 2)=some (vI n8)/\
 C.bP n8 0 8459264 cB λr7 bQ=>
 ∃b7,r7 = .bool b7/\
 bif b7 then(
 ∃n9,cellOf bQ (aS h1 2)=some (vI n9)/\
 K (.bool ((Int.tmod n9 512)==0)) bQ)else(
 K (.bool false) bQ))else(
 K (.bool false) cB))else(
 bif(n4==3)then(
 ∃n10,cellOf h7 (aS h1 1)=some (vI n10)/\
 C.bP n10 1 1000 h7 λr8 cG=>
 ∃b8,r8 = .bool b8/\
 bif b8 then(
 ∃n11,cellOf cG (aS h1 2)=some (vI n11)/\
 C.bP n11 1 1024 cG λr9 cg=>
 ∃b9,r9 = .bool b9/\
 K (.bool b9) cg)else(
 K (.bool false) cG))else(
 K (.bool false) h7))))
def gz(x1:LV)(K:KT)(h1:ad):=
 az x1 155 h1 λh2=>
 ∃(I1:Int->ad->Prop) (M1:Int->ad->Nat),I1 0 h2/\
 ∀(i1:Int),∀h3:ad,I1 i1 h3->
 bif(decide (i1<10))then(
 (0<=i1/\i1<(10:Int))/\
 ∃n1,cellOf h3 (Addr.add (Addr.add (bA h1) 3) (Int.toNat i1))=some (vI n1)/\
 C.bP n1 0 4294967295 h3 λr1 h4=>
 ∃b1,r1 = .bool b1/\
 bif(!b1)then(
 K (.bool false) h4)else(
 I1 (wI (i1+1)) h4/\M1 (wI (i1+1)) h4<M1 i1 h3))else(
 ∃n2,cellOf h3 (aS h1 13)=some (vI n2)/\
 C.bP n2 0 4294967295 h3 λr2 h5=>
 ∃b2,r2 = .bool b2/\
 bif(!b2)then(
 K (.bool false) h5)else(
 ∃n3,cellOf h5 (aS h1 14)=some (vI n3)/\
 C.bP n3 0 4294967295 h5 λr3 h6=>
 ∃b3,r3 = .bool b3/\
 bif(!b3)then(
 K (.bool false) h6)else(
 gz.k1 h1 h6 K)))
theorem gz.ok{x1 K h}(x:gz x1 K h):C.gz x1 h K:=fk (fun|2=>([1],[(3,.int .i64)])|_=>([],[])) o0 Tryz.func158 x
def jK(x1:LV)(K:KT)(h1:ad):=
 az x1 155 h1 λh2=>
 ∃n1,cellOf h2 (aS h1 0)=some (vI n1)/\
 az [.int .u8 (IntKind.wrap .u8 (n1)),.int .u8 0] 5 h2 λh3=>
 ∃n2,cellOf h3 (aS h1 1)=some (vI n2)/\
 C.eZ n2 2 h3 λr1 h4=>
 ∃aI aF aT,r1 = vS aI aF aT/\
 ∃aG,List.length aG=aF*1/\ak h4 aI aG/\(∀v∈aG,v.oneCell'=true)/\
 aH tf 5 (some (bA h2)) 2 2 aF aG h4 λdP dB ff h5=>
 ∃n3,cellOf h5 (aS h1 2)=some (vI n3)/\
 C.eZ n3 4 h5 λr2 h6=>
 ∃kD j9 lD,r2 = vS kD j9 lD/\
 ∃pA,List.length pA=j9*1/\ak h6 kD pA/\(∀v∈pA,v.oneCell'=true)/\
 aH tf 5 dP dB ff j9 pA h6 λuo uq vn h7=>
 ∃(I1:OA->Nat->Nat->Int->ad->Prop) (M1:OA->Nat->Nat->Int->ad->Nat),I1 uo uq vn 0 h7/\
 ∀(aR:OA) (aX:Nat) (bf:Nat) (i1:Int),∀h8:ad,I1 aR aX bf i1 h8->
 bif(decide (i1<10))then(
 (0<=i1/\i1<(10:Int))/\
 ∃n4,cellOf h8 (Addr.add (Addr.add (bA h1) 3) (Int.toNat i1))=some (vI n4)/\
 C.eZ n4 4 h8 λr3 h9=>
 ∃AB Ab B',r3 = vS AB Ab B'/\
 ∃ze,List.length ze=Ab*1/\ak h9 AB ze/\(∀v∈ze,v.oneCell'=true)/\
 aH tf 5 aR aX bf Ab ze h9 λCa BA Dq cB=>
 I1 Ca BA Dq (wI (i1+1)) cB/\M1 Ca BA Dq (wI (i1+1)) cB<M1 aR aX bf i1 h8)else(
 ∃n5,cellOf h8 (aS h1 13)=some (vI n5)/\
 C.eZ n5 4 h8 λr4 bQ=>
 ∃Gg Gi IP,r4 = vS Gg Gi IP/\
 ∃zg,List.length zg=Gi*1/\ak bQ Gg zg/\(∀v∈zg,v.oneCell'=true)/\
 aH tf 5 aR aX bf Gi zg bQ λGj Gk IQ cG=>
 ∃n6,cellOf cG (aS h1 14)=some (vI n6)/\
 C.eZ n6 4 cG λr5 cg=>
 ∃Ut RT Ym,r5 = vS Ut RT Ym/\
 ∃HX,List.length HX=RT*1/\ak cg Ut HX/\(∀v∈HX,v.oneCell'=true)/\
 aH tf 5 Gj Gk IQ RT HX cg λPj Pk Pl cM=>
 az [.int .u8 0,.int .u8 0,.int .u8 0,.int .u8 0,.int .u8 0,.int .u8 0,.int .u8 0,.int .u8 0] 5 cM λfg=>
 ∃HY,List.length HY=8*1/\ak fg (some (bA cM)) HY/\(∀v∈HY,v.oneCell'=true)/\
 aH tf 5 Pj Pk Pl 8 HY fg λPm Po Pp iY=>
 K (vS Pm Po Pp) iY)
theorem jK.ok{x1 K h}(x:jK x1 K h):C.jK x1 h K:=fk (fun|5=>([1],[(3,.slice),(4,.int .i64)])|_=>([],[])) o0 Tryz.func159 x
def nW(t1:OA)(g1:LV)(n1:Int)(K:KT)(h1:ad):=
 az g1 80 h1 λh2=>
 az gv 155 h2 λh3=>
 ∃aW,List.length aW=5/\aj h3 ⟨h1.size,0,none⟩ aW/\
 C.qg t1 aW n1 h3 λr1 h4=>
 ∃cH n2,r1 = .tuple #[.agg ⟨cH⟩,vI n2]/\
 aM gv 155 cH 15 h4 λh6=>
 bif(n2==0)then(
 ∃n3,cellOf h6 (Addr.add ⟨h4.size,0,none⟩ 0)=some (vI n3)/\
 bif(n3==0)then(
 ∃fV,List.length fV=15/\aj h6 ⟨h4.size,0,none⟩ fV/\
 ax ⟨h2.size,0,none⟩ fV 15 h6 λh7=>
 ∃bL,List.length bL=15/\aj h7 ⟨h2.size,0,none⟩ bL/\
 K (.tuple #[.agg ⟨bL⟩,vI 110]) h7)else(
 ∃kR,List.length kR=15/\aj h6 ⟨h4.size,0,none⟩ kR/\
 ax ⟨h2.size,0,none⟩ kR 15 h6 λh8=>
 ∃dY,List.length dY=15/\aj h8 ⟨h2.size,0,none⟩ dY/\
 K (.tuple #[.agg ⟨dY⟩,vI n2]) h8))else(
 ∃rh,List.length rh=15/\aj h6 ⟨h4.size,0,none⟩ rh/\
 ax ⟨h2.size,0,none⟩ rh 15 h6 λh9=>
 ∃fv,List.length fv=15/\aj h9 ⟨h2.size,0,none⟩ fv/\
 K (.tuple #[.agg ⟨fv⟩,vI n2]) h9)
theorem nW.ok{t1 g1 n1 K h}(x:nW t1 g1 n1 K h):C.nW t1 g1 n1 h K:=fz Tryz.func160 x
def mJ(dI n1:Int)(K:KT)(h1:ad):=
 az [vI dI] 3 h1 λh2=>
 az [vI n1] 3 h2 λh3=>
 K (.func (.func 207) #[] ⟨[vP (some ⟨h2.size,0,none⟩),vP (some ⟨h1.size,0,none⟩)]⟩) h3
theorem mJ.ok{dI n1 K h}(x:mJ dI n1 K h):C.mJ dI n1 h K:=fz Tryz.func161 x
def oH(t1:OA)(g1 x1:LV)(k1:Int)(K:KT)(h1:ad):=
 az g1 80 h1 λh2=>
 az x1 155 h2 λh3=>
 ∃aW,List.length aW=5/\aj h3 ⟨h1.size,0,none⟩ aW/\
 ∃cH,List.length cH=15/\aj h3 ⟨h2.size,0,none⟩ cH/\
 C.kO t1 aW cH k1 h3 λr1 h4=>
 ∃n1 n2,r1 = .tuple #[vI n1,vI n2]/\
 bif(n2 != 0)then(
 K (.tuple #[vS none 0 0,vI n2]) h4)else(
 bif(n1==0)then(
 (0<=(512:Int)/\(512:Int)<=512/\(1:Int)*512<=281474976710656/\(512:Int)<=281474976710656)/\
 az (aN z5 (Int.toNat 512)) 5 h4 λh5=>
 K (.tuple #[vS (some ⟨h4.size,0,none⟩) (Int.toNat 512) (Int.toNat 512),vI 0]) h5)else(
 C.cF t1 n1 h4 λr2 h6=>
 ∃aI aF aT n3,r2 = .tuple #[vS aI aF aT,vI n3]/\
 K (.tuple #[vS aI aF aT,vI n3]) h6))
theorem oH.ok{t1 g1 x1 k1 K h}(x:oH t1 g1 x1 k1 K h):C.oH t1 g1 x1 k1 h K:=fz Tryz.func162 x
def eE(b1 pA1:OA)(Yl pC1:Nat)(K:KT)(h1:ad):=
 C.nw b1 h1 λr1 h2=>
 r1 = .tuple #[]/\
 ae b1 λp1=>
 ∃aI aF aT,cellOf h2 (p1.add 1)=some (vS aI aF aT)/\
 ∃aG,List.length aG=Yl*1/\ak h2 pA1 aG/\(∀v∈aG,v.oneCell'=true)/\
 aH tf 5 aI aF aT Yl aG h2 λdP dB ff h3=>
 ae b1 λp2=>
 aO (p2.add 1) (vS dP dB ff) h3 λh4=>
 K (.tuple #[vI (Yl:Int),.nilIface]) h4
theorem eE.ok{b1 pA1 Yl pC1 K h}(x:eE b1 pA1 Yl pC1 K h):C.eE b1 pA1 Yl pC1 h K:=fz Tryz.func163 x
def gA(t1:OA)(g1:LV)(n1:Int)(K:KT)(h1:ad):=
 az g1 80 h1 λh2=>
 az gv 155 h2 λh3=>
 ∃aW,List.length aW=5/\aj h3 (bA h1) aW/\
 C.kv t1 aW n1 h3 λr1 h4=>
 ∃cH n2,r1 = .tuple #[.agg ⟨cH⟩,vI n2]/\
 aM gv 155 cH 15 h4 λh6=>
 bif(n2 != 0)then(
 ax (bA h2) gv 15 h6 λh7=>
 ∃bL,List.length bL=15/\aj h7 (bA h2) bL/\
 K (.tuple #[.agg ⟨bL⟩,vI n2]) h7)else(
 ∃n3,cellOf h6 (aS h4 0)=some (vI n3)/\
 bif(n3==0)then(
 ax (bA h2) gv 15 h6 λh8=>
 ∃dY,List.length dY=15/\aj h8 (bA h2) dY/\
 K (.tuple #[.agg ⟨dY⟩,vI 110]) h8)else(
 ∃fV,List.length fV=15/\aj h6 (bA h4) fV/\
 ax (bA h2) fV 15 h6 λh9=>
 ∃fv,List.length fv=15/\aj h9 (bA h2) fv/\
 K (.tuple #[.agg ⟨fv⟩,vI 0]) h9))
theorem gA.ok{t1 g1 n1 K h}(x:gA t1 g1 n1 K h):C.gA t1 g1 n1 h K:=fz Tryz.func165 x
def cO.k2(t1 aI:OA)(aF:Nat)(n3 i1:Int)(h6:ad)(I1:Int->Int->ad->Prop)(M1:Int->Int->ad->Nat)(h7:ad)(K:KT):=
 bif(i1==(aF:Int))then(
 K (.tuple #[vI n3,vI 0]) h7)else(
 C.eT t1 n3 h7 λr4 h8=>
 ∃dP dB ff n5,r4 = .tuple #[vS dP dB ff,vI n5]/\
 bif(n5 != 0)then(
 K (.tuple #[vI 0,vI n5]) h8)else(
 (0<=i1/\i1<(aF:Int))/\
 ae aI λp1=>
 ∃n6,cellOf h8 (p1.add (Int.toNat i1))=some (vI n6)/\
 (0<=n6/\n6<(dB:Int))/\
 ae dP λp2=>
 ∃n7,cellOf h8 (p2.add (Int.toNat n6))=some (vI n7)/\
 I1 n7 (wI (i1+1)) h8/\M1 n7 (wI (i1+1)) h8<M1 n3 i1 h6))
def cO.k1(t1:OA)(k1:Int)(h1 h2 h3:ad)(K:KT):=
 C.gf k1 h3 λr1 h4=>
 ∃n1 aI aF aT,r1 = .tuple #[vI n1,vS aI aF aT]/\
 ∃aW,List.length aW=15/\aj h4 ⟨h2.size,0,none⟩ aW/\
 C.gh aW n1 h4 λr2 h5=>
 ∃n2,r2 = vI n2/\
 ∃(I1:Int->Int->ad->Prop) (M1:Int->Int->ad->Nat),I1 n2 0 h5/\
 ∀(n3:Int) (i1:Int),∀h6:ad,I1 n3 i1 h6->
 ∃cH,List.length cH=5/\aj h6 ⟨h1.size,0,none⟩ cH/\
 C.cZ cH n3 h6 λr3 h7=>
 ∃n4,r3 = vI n4/\
 bif(n4 != 0)then(
 K (.tuple #[vI 0,vI n4]) h7)else(
 bif(n3==0)then(
 K (.tuple #[vI 0,vI n4]) h7)else(
 cO.k2 t1 aI aF n3 i1 h6 I1 M1 h7 K))
def cO(t1:OA)(g1 x1:LV)(k1:Int)(K:KT)(h1:ad):=
 az g1 80 h1 λh2=>
 az x1 155 h2 λh3=>
 bif(decide (k1<0))then(
 K (.tuple #[vI 0,vI 101]) h3)else(
 bif(decide (k1>=16522))then(
 K (.tuple #[vI 0,vI 101]) h3)else(
 cO.k1 t1 k1 h1 h2 h3 K))
set_option maxRecDepth 1000000 in
set_option maxRecDepth 1000000 in
theorem cO.ok{t1 g1 x1 k1 K h}(x:cO t1 g1 x1 k1 K h):C.cO t1 g1 x1 k1 h K:=fk (fun|7=>([0,5,11],[(12,.int .i64),(13,.int .i64)])|_=>([],[])) o0 Tryz.func166 x
def oV(t1 e1:OA)(K:KT)(h1:ad):=
 az [vP t1] 57 h1 λh2=>
 az [vP e1] 202 h2 λh3=>
 ∃q1,cellOf h3 ⟨h1.size,0,none⟩=some (vP q1)/\
 C.iC q1 h3 λr1 h4=>
 ∃n1 n2,r1 = .tuple #[vI n1,vI n2]/\
 az z3 3 h4 λh5=>
 aO ⟨h4.size,0,none⟩ (vI n1) h5 λh6=>
 K (.func (.func 215) #[] ⟨[vP (some ⟨h2.size,0,none⟩),vP (some ⟨h1.size,0,none⟩),vP (some ⟨h4.size,0,none⟩)]⟩) h6
theorem oV.ok{t1 e1 K h}(x:oV t1 e1 K h):C.oV t1 e1 h K:=fz Tryz.func167 x
def mK.k1(k1:Int)(h1 h2 h3 h4 h5 h6 cM:ad)(K:KT):=
 ∃q1,cellOf cM ⟨h1.size,0,none⟩=some (vP q1)/\
 C.mM q1 cM λr1 fg=>
 ∃g2 JL aW,r1 = .func (.func g2) ⟨JL⟩ ⟨aW⟩/\
 az ZF 275 fg λiY=>
 aO ⟨fg.size,0,none⟩ (.func (.func g2) ⟨JL⟩ ⟨aW⟩) iY λfw=>
 ∃q2,cellOf fw ⟨h1.size,0,none⟩=some (vP q2)/\
 ∃cH,List.length cH=5/\aj fw ⟨h2.size,0,none⟩ cH/\
 ∃fV,List.length fV=15/\aj fw ⟨h3.size,0,none⟩ fV/\
 List.length (cH:LV)=5/\
 List.length (fV:LV)=15/\
 az ([vP q2]++(cH++fV)) 279 fw λma=>
 az Vg 277 ma λgm=>
 aO ⟨ma.size,0,none⟩ (vP (some ⟨fw.size,0,none⟩)) gm λiK=>
 ∃q3,cellOf iK ⟨ma.size,0,none⟩=some (vP q3)/\
 C.bG q3 k1 (Value.func (.func 219) #[] ⟨[vP (some ⟨h1.size,0,none⟩),vP (some ⟨h2.size,0,none⟩),vP (some ⟨ma.size,0,none⟩)]⟩) iK λr2 nR=>
 ∃n1 n2,r2 = .tuple #[vI n1,vI n2]/\
 aO ⟨h5.size,0,none⟩ (vI n1) nR λnD=>
 aO ⟨h6.size,0,none⟩ (vI n2) nD λjR=>
 ∃q4,cellOf jR ⟨ma.size,0,none⟩=some (vP q4)/\
 ae q4 λp1=>
 ∃kR,List.length kR=15/\aj jR (p1.add 6) kR/\
 ∃n3,cellOf jR ⟨h5.size,0,none⟩=some (vI n3)/\
 ∃n4,cellOf jR ⟨h6.size,0,none⟩=some (vI n4)/\
 ax ⟨h4.size,0,none⟩ kR 15 jR λmu=>
 (cellOf mu ⟨h5.size,0,none⟩=some (vI n3))/\
 (cellOf mu ⟨h6.size,0,none⟩=some (vI n4))/\
 aO ⟨h5.size,0,none⟩ (vI n3) mu λuH=>
 (cellOf uH ⟨h6.size,0,none⟩=some (vI n4))/\
 aO ⟨h6.size,0,none⟩ (vI n4) uH λqu=>
 D.dN (some ⟨fg.size,0,none⟩) (some ⟨h6.size,0,none⟩) (some ⟨h4.size,0,none⟩) (some ⟨h5.size,0,none⟩) qu λtx=>
 ∃th,List.length th=15/\aj tx ⟨h4.size,0,none⟩ th/\
 ∃Cb,cellOf tx ⟨h5.size,0,none⟩=some (vI Cb)/\
 ∃xF,cellOf tx ⟨h6.size,0,none⟩=some (vI xF)/\
 K (.tuple #[.agg ⟨th⟩,vI Cb,vI xF]) tx
def mK(t1:OA)(g1 x1:LV)(k1:Int)(K:KT)(h1:ad):=
 az [vP t1] 57 h1 λh2=>
 az g1 80 h2 λh3=>
 az x1 155 h3 λh4=>
 az gv 155 h4 λh5=>
 az z3 3 h5 λh6=>
 az z26 26 h6 λh7=>
 bif(decide (k1<0))then(
 ax ⟨h4.size,0,none⟩ gv 15 h7 λh8=>
 aO ⟨h5.size,0,none⟩ (vI 0) h8 λh9=>
 aO ⟨h6.size,0,none⟩ (vI 101) h9 λcB=>
 ∃bL,List.length bL=15/\aj cB ⟨h4.size,0,none⟩ bL/\
 ∃dY,cellOf cB ⟨h5.size,0,none⟩=some (vI dY)/\
 ∃fv,cellOf cB ⟨h6.size,0,none⟩=some (vI fv)/\
 K (.tuple #[.agg ⟨bL⟩,vI dY,vI fv]) cB)else(
 bif(decide (k1>=16522))then(
 ax ⟨h4.size,0,none⟩ gv 15 h7 λbQ=>
 aO ⟨h5.size,0,none⟩ (vI 0) bQ λcG=>
 aO ⟨h6.size,0,none⟩ (vI 101) cG λcg=>
 ∃kE,List.length kE=15/\aj cg ⟨h4.size,0,none⟩ kE/\
 ∃lF,cellOf cg ⟨h5.size,0,none⟩=some (vI lF)/\
 ∃qY,cellOf cg ⟨h6.size,0,none⟩=some (vI qY)/\
 K (.tuple #[.agg ⟨kE⟩,vI lF,vI qY]) cg)else(
 mK.k1 k1 h1 h2 h3 h4 h5 h6 h7 K))
set_option maxRecDepth 1000000 in
set_option maxRecDepth 1000000 in
theorem mK.ok{t1 g1 x1 k1 K h}(x:mK t1 g1 x1 k1 K h):C.mK t1 g1 x1 k1 h K:=fk l0 (fun|7=>(oS 0 6 (.op 6 [4,5] (.op 7 [5] (.op 8 [] .nil))))|_=>.nil) Tryz.func168 x
def oW(t1:OA)(g1:LV)(n1:Int)(x1:LV)(K:KT)(h1:ad):=
 az g1 80 h1 λh2=>
 az x1 155 h2 λh3=>
 ∃aW,List.length aW=5/\aj h3 ⟨h1.size,0,none⟩ aW/\
 C.jz aW n1 h3 λr1 h4=>
 ∃b1,r1 = .bool b1/\
 bif(!b1)then(
 K (vI 110) h4)else(
 ∃cH,List.length cH=15/\aj h4 ⟨h2.size,0,none⟩ cH/\
 C.ly cH h4 λr2 h5=>
 ∃aI aF aT n2,r2 = .tuple #[vS aI aF aT,vI n2]/\
 bif(n2 != 0)then(
 K (vI n2) h5)else(
 ∃fV,List.length fV=5/\aj h5 ⟨h1.size,0,none⟩ fV/\
 C.kX t1 fV n1 h5 λr3 h6=>
 ∃n3 dP dB ff n4 n5,r3 = .tuple #[vI n3,vS dP dB ff,vI n4,vI n5]/\
 bif(n5 != 0)then(
 K (vI n5) h6)else(
 (0<=n4/\n4<=(dB:Int))/\
 rP tf (if ff=(Int.toNat n4)then dP else Option.map (Addr.add · (Int.toNat n4)) dP) (dB-(Int.toNat n4)) (vS aI aF aT) h6 λn6 h7=>
 C.aY t1 n3 dP dB ff h7 λr4 h8=>
 ∃n7,r4 = vI n7/\
 K (vI n7) h8)))
theorem oW.ok{t1 g1 n1 x1 K h}(x:oW t1 g1 n1 x1 K h):C.oW t1 g1 n1 x1 h K:=fz Tryz.func169 x
def iS(t1:OA)(g1:LV)(n1:Int)(x1:LV)(dI:Int)(s1:ByteArray)(K:KT)(h1:ad):=
 az g1 80 h1 λh2=>
 az x1 155 h2 λh3=>
 ∃(I1:Int->ad->Prop) (M1:Int->ad->Nat),I1 (wI (Int.tdiv dI 512)) h3/\
 ∀(k1:Int),∀h4:ad,I1 k1 h4->
 bif(decide (k1<=(wI (Int.tdiv (wI ((wI (dI+(s1.size:Int)))-1)) 512))))then(
 ∃aW,List.length aW=5/\aj h4 (bA h1) aW/\
 ∃cH,List.length cH=15/\aj h4 (bA h2) cH/\
 C.gB t1 aW cH k1 h4 λr1 h5=>
 ∃fV n2 n3,r1 = .tuple #[.agg ⟨fV⟩,vI n2,vI n3]/\
 aM gv 155 fV 15 h5 λh7=>
 bif(n3 != 0)then(
 K (vI n3) h7)else(
 ∃kR,List.length kR=15/\aj h7 (bA h5) kR/\
 ax (bA h2) kR 15 h7 λh8=>
 C.aD t1 n2 h8 λr2 h9=>
 ∃aI aF aT n4,r2 = .tuple #[vS aI aF aT,vI n4]/\
 bif(n4 != 0)then(
 K (vI n4) h9)else(
 ∃(I2:Int->ad->Prop) (M2:Int->ad->Nat),I2 0 h9/\
 ∀(i1:Int),∀cB:ad,I2 i1 cB->
 bif(decide (i1<512))then(
 bif(decide ((wI ((wI (k1*512))+i1))>=dI))then(
 bif(decide ((wI ((wI (k1*512))+i1))<(wI (dI+(s1.size:Int)))))then(
 (0<=(wI ((wI ((wI (k1*512))+i1))-dI))/\(wI ((wI ((wI (k1*512))+i1))-dI))<(s1.size:Int))/\
 ∃b1:UInt8,s1.toList[Int.toNat (wI ((wI ((wI (k1*512))+i1))-dI))]?=some b1/\
 (0<=i1/\i1<(aF:Int))/\
 ae aI λp1=>
 aO (p1.add (Int.toNat i1)) (.int .u8 ((UInt8.toNat b1:Nat):Int)) cB λbQ=>
 I2 (wI (i1+1)) bQ/\M2 (wI (i1+1)) bQ<M2 i1 cB)else(
 I2 (wI (i1+1)) cB/\M2 (wI (i1+1)) cB<M2 i1 cB))else(
 I2 (wI (i1+1)) cB/\M2 (wI (i1+1)) cB<M2 i1 cB))else(
 C.aC t1 n2 aI aF aT cB λr3 cG=>
 ∃n5,r3 = vI n5/\
 bif(n5 != 0)then(
 K (vI n5) cG)else(
 I1 (wI (k1+1)) cG/\M1 (wI (k1+1)) cG<M1 k1 h4)))))else(
 ∃n6,cellOf h4 (aS h2 2)=some (vI n6)/\
 bif(decide ((wI (dI+(s1.size:Int)))>n6))then(
 aO (aS h2 2) (vI (wI (dI+(s1.size:Int)))) h4 λcg=>
 ∃rh,List.length rh=5/\aj cg (bA h1) rh/\
 ∃tg,List.length tg=15/\aj cg (bA h2) tg/\
 C.gC t1 rh n1 tg cg λr4 cM=>
 ∃n7,r4 = vI n7/\
 K (vI n7) cM)else(
 ∃vo,List.length vo=5/\aj h4 (bA h1) vo/\
 ∃vX,List.length vX=15/\aj h4 (bA h2) vX/\
 C.gC t1 vo n1 vX h4 λr5 fg=>
 ∃n8,r5 = vI n8/\
 K (vI n8) fg))
theorem iS.ok{t1 g1 n1 x1 dI s1 K h}(x:iS t1 g1 n1 x1 dI s1 K h):C.iS t1 g1 n1 x1 dI s1 h K:=fk (fun|2=>([0,2,4,5,7,9],[(13,.int .i64)])|12=>([0,2,4,5,7,9,13,15,17],[(18,.int .i64)])|_=>([],[])) o0 Tryz.func170 x
def gZ.k2(k1:Int)(h3 h4 bQ cM Ac:ad)(K:KT):=
 bif(decide (k1<16522))then(
 ∃Gm,cellOf Ac ⟨cM.size,0,none⟩=some (vP Gm)/\
 ae Gm λp7=>
 ∃n7,cellOf Ac (Addr.add (p7.add 6) 14)=some (vI n7)/\
 bif(n7 != 0)then(
 az z3 3 Ac λIV=>
 aO ⟨Ac.size,0,none⟩ (vI (if(wI (k1-138))>0 then(wI (k1-138))else 0)) IV λEK=>
 ∃VU,cellOf EK ⟨cM.size,0,none⟩=some (vP VU)/\
 ∃Ph,cellOf EK ⟨cM.size,0,none⟩=some (vP Ph)/\
 ae Ph λp8=>
 ∃n8,cellOf EK (Addr.add (p8.add 6) 14)=some (vI n8)/\
 ∃n9,cellOf EK ⟨Ac.size,0,none⟩=some (vI n9)/\
 C.dF VU n8 (wI (Int.tdiv n9 128)) (Value.func (.func 230) #[] ⟨[vP (some ⟨cM.size,0,none⟩),vP (some ⟨Ac.size,0,none⟩)]⟩) EK λr4 wQ=>
 ∃b2 n10,r4 = .tuple #[.bool b2,vI n10]/\
 bif(n10 != 0)then(
 ∃tg,List.length tg=15/\aj wQ ⟨h3.size,0,none⟩ tg/\
 ax ⟨h3.size,0,none⟩ tg 15 wQ λDr=>
 aO ⟨h4.size,0,none⟩ (vI n10) Dr λIW=>
 D.bN (some ⟨bQ.size,0,none⟩) (some ⟨h4.size,0,none⟩) (some ⟨h3.size,0,none⟩) IW λE7=>
 ∃xF,List.length xF=15/\aj E7 ⟨h3.size,0,none⟩ xF/\
 ∃BE,cellOf E7 ⟨h4.size,0,none⟩=some (vI BE)/\
 K (.tuple #[.agg ⟨xF⟩,vI BE]) E7)else(
 bif(!b2)then(
 ∃BB,cellOf wQ ⟨cM.size,0,none⟩=some (vP BB)/\
 ae BB λp9=>
 aO (Addr.add (p9.add 6) 14) (vI 0) wQ λBD=>
 ∃Uu,cellOf BD ⟨cM.size,0,none⟩=some (vP Uu)/\
 ae Uu λVT=>
 ∃vo,List.length vo=15/\aj BD (VT.add 6) vo/\
 ax ⟨h3.size,0,none⟩ vo 15 BD λLR=>
 aO ⟨h4.size,0,none⟩ (vI 0) LR λRV=>
 D.bN (some ⟨bQ.size,0,none⟩) (some ⟨h4.size,0,none⟩) (some ⟨h3.size,0,none⟩) RV λh38=>
 ∃Gn,List.length Gn=15/\aj h38 ⟨h3.size,0,none⟩ Gn/\
 ∃JK,cellOf h38 ⟨h4.size,0,none⟩=some (vI JK)/\
 K (.tuple #[.agg ⟨Gn⟩,vI JK]) h38)else(
 ∃q15,cellOf wQ ⟨cM.size,0,none⟩=some (vP q15)/\
 ae q15 λUv=>
 ∃vX,List.length vX=15/\aj wQ (Uv.add 6) vX/\
 ax ⟨h3.size,0,none⟩ vX 15 wQ λh39=>
 aO ⟨h4.size,0,none⟩ (vI 0) h39 λh40=>
 D.bN (some ⟨bQ.size,0,none⟩) (some ⟨h4.size,0,none⟩) (some ⟨h3.size,0,none⟩) h40 λh41=>
 ∃RY,List.length RY=15/\aj h41 ⟨h3.size,0,none⟩ RY/\
 ∃Yr,cellOf h41 ⟨h4.size,0,none⟩=some (vI Yr)/\
 K (.tuple #[.agg ⟨RY⟩,vI Yr]) h41)))else(
 ∃Lj,cellOf Ac ⟨cM.size,0,none⟩=some (vP Lj)/\
 ae Lj λp12=>
 ∃HW,List.length HW=15/\aj Ac (p12.add 6) HW/\
 ax ⟨h3.size,0,none⟩ HW 15 Ac λh42=>
 aO ⟨h4.size,0,none⟩ (vI 0) h42 λh43=>
 D.bN (some ⟨bQ.size,0,none⟩) (some ⟨h4.size,0,none⟩) (some ⟨h3.size,0,none⟩) h43 λh44=>
 ∃RZ,List.length RZ=15/\aj h44 ⟨h3.size,0,none⟩ RZ/\
 ∃Ys,cellOf h44 ⟨h4.size,0,none⟩=some (vI Ys)/\
 K (.tuple #[.agg ⟨RZ⟩,vI Ys]) h44))else(
 ∃BC,cellOf Ac ⟨cM.size,0,none⟩=some (vP BC)/\
 ae BC λp13=>
 ∃uI,List.length uI=15/\aj Ac (p13.add 6) uI/\
 ax ⟨h3.size,0,none⟩ uI 15 Ac λh45=>
 aO ⟨h4.size,0,none⟩ (vI 0) h45 λh46=>
 D.bN (some ⟨bQ.size,0,none⟩) (some ⟨h4.size,0,none⟩) (some ⟨h3.size,0,none⟩) h46 λh47=>
 ∃Sa,List.length Sa=15/\aj h47 ⟨h3.size,0,none⟩ Sa/\
 ∃Yt,cellOf h47 ⟨h4.size,0,none⟩=some (vI Yt)/\
 K (.tuple #[.agg ⟨Sa⟩,vI Yt]) h47)
def gZ.k1(t1:OA)(k1:Int)(h1 h2 h3 h4 cB:ad)(K:KT):=
 C.mM t1 cB λr1 bQ=>
 ∃g2 JL aW,r1 = .func (.func g2) ⟨JL⟩ ⟨aW⟩/\
 az ZF 275 bQ λcG=>
 aO ⟨bQ.size,0,none⟩ (.func (.func g2) ⟨JL⟩ ⟨aW⟩) cG λcg=>
 ∃cH,List.length cH=5/\aj cg ⟨h1.size,0,none⟩ cH/\
 ∃fV,List.length fV=15/\aj cg ⟨h2.size,0,none⟩ fV/\
 List.length (cH:LV)=5/\
 List.length (fV:LV)=15/\
 az ([vP t1]++(cH++fV)) 279 cg λcM=>
 az Vg 277 cM λfg=>
 aO ⟨cM.size,0,none⟩ (vP (some ⟨cg.size,0,none⟩)) fg λiY=>
 ∃(I1:Int->ad->Prop) (M1:Int->ad->Nat),I1 k1 iY/\
 ∀(i1:Int),∀fw:ad,I1 i1 fw->
 bif(decide (i1<10))then(
 ∃q1,cellOf fw ⟨cM.size,0,none⟩=some (vP q1)/\
 ae q1 λp1=>
 (0<=i1/\i1<(10:Int))/\
 ∃n1,cellOf fw (Addr.add (Addr.add (p1.add 6) 3) (Int.toNat i1))=some (vI n1)/\
 bif(n1 != 0)then(
 ∃q2,cellOf fw ⟨cM.size,0,none⟩=some (vP q2)/\
 ∃q3,cellOf fw ⟨cM.size,0,none⟩=some (vP q3)/\
 ae q3 λp2=>
 (0<=i1/\i1<(10:Int))/\
 ∃n2,cellOf fw (Addr.add (Addr.add (p2.add 6) 3) (Int.toNat i1))=some (vI n2)/\
 C.iF q2 n2 fw λr2 ma=>
 ∃n3,r2 = vI n3/\
 bif(n3 != 0)then(
 ∃kR,List.length kR=15/\aj ma ⟨h3.size,0,none⟩ kR/\
 ax ⟨h3.size,0,none⟩ kR 15 ma λgm=>
 aO ⟨h4.size,0,none⟩ (vI n3) gm λiK=>
 D.bN (some ⟨bQ.size,0,none⟩) (some ⟨h4.size,0,none⟩) (some ⟨h3.size,0,none⟩) iK λnR=>
 ∃lF,List.length lF=15/\aj nR ⟨h3.size,0,none⟩ lF/\
 ∃qY,cellOf nR ⟨h4.size,0,none⟩=some (vI qY)/\
 K (.tuple #[.agg ⟨lF⟩,vI qY]) nR)else(
 ∃q4,cellOf ma ⟨cM.size,0,none⟩=some (vP q4)/\
 ae q4 λp3=>
 (0<=i1/\i1<(10:Int))/\
 aO (Addr.add (Addr.add (p3.add 6) 3) (Int.toNat i1)) (vI 0) ma λnD=>
 I1 (wI (i1+1)) nD/\M1 (wI (i1+1)) nD<M1 i1 fw))else(
 I1 (wI (i1+1)) fw/\M1 (wI (i1+1)) fw<M1 i1 fw))else(
 bif(decide (k1<138))then(
 ∃q5,cellOf fw ⟨cM.size,0,none⟩=some (vP q5)/\
 ae q5 λp4=>
 ∃n4,cellOf fw (Addr.add (p4.add 6) 13)=some (vI n4)/\
 bif(n4 != 0)then(
 ∃q6,cellOf fw ⟨cM.size,0,none⟩=some (vP q6)/\
 ∃q7,cellOf fw ⟨cM.size,0,none⟩=some (vP q7)/\
 ae q7 λp5=>
 ∃n5,cellOf fw (Addr.add (p5.add 6) 13)=some (vI n5)/\
 ∃q8,cellOf fw ⟨cM.size,0,none⟩=some (vP q8)/\
 C.dF q6 n5 (wI (k1-10)) (Value.func (.func 229) ⟨[vP q8]⟩ ⟨[]⟩) fw λr3 jR=>
 ∃b1 n6,r3 = .tuple #[.bool b1,vI n6]/\
 bif(n6 != 0)then(
 ∃rh,List.length rh=15/\aj jR ⟨h3.size,0,none⟩ rh/\
 ax ⟨h3.size,0,none⟩ rh 15 jR λmu=>
 aO ⟨h4.size,0,none⟩ (vI n6) mu λuH=>
 D.bN (some ⟨bQ.size,0,none⟩) (some ⟨h4.size,0,none⟩) (some ⟨h3.size,0,none⟩) uH λqu=>
 ∃th,List.length th=15/\aj qu ⟨h3.size,0,none⟩ th/\
 ∃Cb,cellOf qu ⟨h4.size,0,none⟩=some (vI Cb)/\
 K (.tuple #[.agg ⟨th⟩,vI Cb]) qu)else(
 bif(!b1)then(
 ∃q9,cellOf jR ⟨cM.size,0,none⟩=some (vP q9)/\
 ae q9 λp6=>
 aO (Addr.add (p6.add 6) 13) (vI 0) jR λtx=>
 gZ.k2 k1 h3 h4 bQ cM tx K)else(
 gZ.k2 k1 h3 h4 bQ cM jR K)))else(
 gZ.k2 k1 h3 h4 bQ cM fw K))else(
 gZ.k2 k1 h3 h4 bQ cM fw K))
def gZ(t1:OA)(g1 x1:LV)(k1:Int)(K:KT)(h1:ad):=
 az g1 80 h1 λh2=>
 az x1 155 h2 λh3=>
 az gv 155 h3 λh4=>
 az z26 26 h4 λh5=>
 bif(decide (k1<0))then(
 ax ⟨h3.size,0,none⟩ gv 15 h5 λh6=>
 aO ⟨h4.size,0,none⟩ (vI 101) h6 λh7=>
 ∃bL,List.length bL=15/\aj h7 ⟨h3.size,0,none⟩ bL/\
 ∃dY,cellOf h7 ⟨h4.size,0,none⟩=some (vI dY)/\
 K (.tuple #[.agg ⟨bL⟩,vI dY]) h7)else(
 bif(decide (k1>16522))then(
 ax ⟨h3.size,0,none⟩ gv 15 h5 λh8=>
 aO ⟨h4.size,0,none⟩ (vI 101) h8 λh9=>
 ∃fv,List.length fv=15/\aj h9 ⟨h3.size,0,none⟩ fv/\
 ∃kE,cellOf h9 ⟨h4.size,0,none⟩=some (vI kE)/\
 K (.tuple #[.agg ⟨fv⟩,vI kE]) h9)else(
 gZ.k1 t1 k1 h1 h2 h3 h4 h5 K))
set_option maxRecDepth 1000000 in
set_option maxRecDepth 1000000 in
theorem gZ.ok{t1 g1 x1 k1 K h}(x:gZ t1 g1 x1 k1 K h):C.gZ t1 g1 x1 k1 h K:=fk (fun|7=>([3,8,9,11],[(12,.int .i64)])|_=>([],[])) (fun|10=>(oS 0 9 (.op 9 [] .nil))|15=>(oS 0 15 (.op 15 [] .nil))|22=>(oS 0 14 (.op 14 [] .nil))|_=>.nil) Tryz.func171 x
def lY.k1(t1:OA)(gY:Int)(h4:ad)(n1:Int)(K:KT):=
 C.cF t1 n1 h4 λr2 h5=>
 ∃aI aF aT n3,r2 = .tuple #[vS aI aF aT,vI n3]/\
 bif(n3 != 0)then(
 K (vI n3) h5)else(
 ∃(I1:Int->ad->Prop) (M1:Int->ad->Nat),I1 (Int.tmod gY 512) h5/\
 ∀(k1:Int),∀h6:ad,I1 k1 h6->
 bif(decide (k1<512))then(
 (0<=k1/\k1<(aF:Int))/\
 ae aI λp1=>
 aO (p1.add (Int.toNat k1)) (.int .u8 0) h6 λh7=>
 I1 (wI (k1+1)) h7/\M1 (wI (k1+1)) h7<M1 k1 h6)else(
 C.aY t1 n1 aI aF aT h6 λr3 h8=>
 ∃n4,r3 = vI n4/\
 K (vI n4) h8))
def lY(t1:OA)(g1 x1:LV)(gY:Int)(K:KT)(h1:ad):=
 az g1 80 h1 λh2=>
 az x1 155 h2 λh3=>
 bif((Int.tmod gY 512)==0)then(
 K (vI 0) h3)else(
 ∃aW,List.length aW=5/\aj h3 ⟨h1.size,0,none⟩ aW/\
 ∃cH,List.length cH=15/\aj h3 ⟨h2.size,0,none⟩ cH/\
 C.kO t1 aW cH (wI (Int.tdiv gY 512)) h3 λr1 h4=>
 ∃n1 n2,r1 = .tuple #[vI n1,vI n2]/\
 bif(n2 != 0)then(
 K (vI n2) h4)else(
 bif(n1==0)then(
 K (vI n2) h4)else(
 lY.k1 t1 gY h4 n1 K)))
theorem lY.ok{t1 g1 x1 gY K h}(x:lY t1 g1 x1 gY K h):C.lY t1 g1 x1 gY h K:=fk (fun|10=>([0,9,11],[(12,.int .i64)])|_=>([],[])) o0 Tryz.func172 x
def bZ.k2(t1:OA)(n1 many1:Int)(h1 h2 cM:ad)(K:KT):=
 aO (aS h2 2) (vI many1) cM λfg=>
 ∃vo,List.length vo=5/\aj fg (bA h1) vo/\
 ∃vX,List.length vX=15/\aj fg (bA h2) vX/\
 C.gC t1 vo n1 vX fg λr5 iY=>
 ∃n8,r5 = vI n8/\
 K (vI n8) iY
def bZ.k1(t1:OA)(n1 many1:Int)(h1 h2:ad)(k1:Int)(h9:ad)(K:KT):=
 bif(k1 != 0)then(
 C.aD t1 k1 h9 λr3 cB=>
 ∃aI aF aT n6,r3 = .tuple #[vS aI aF aT,vI n6]/\
 bif(n6 != 0)then(
 K (vI n6) cB)else(
 ∃(I1:Int->ad->Prop) (M1:Int->ad->Nat),I1 (Int.tmod many1 512) cB/\
 ∀(i1:Int),∀bQ:ad,I1 i1 bQ->
 bif(decide (i1<512))then(
 (0<=i1/\i1<(aF:Int))/\
 ae aI λp1=>
 aO (p1.add (Int.toNat i1)) (.int .u8 0) bQ λcG=>
 I1 (wI (i1+1)) cG/\M1 (wI (i1+1)) cG<M1 i1 bQ)else(
 C.aC t1 k1 aI aF aT bQ λr4 cg=>
 ∃n7,r4 = vI n7/\
 bif(n7 != 0)then(
 K (vI n7) cg)else(
 bZ.k2 t1 n1 many1 h1 h2 cg K))))else(
 bZ.k2 t1 n1 many1 h1 h2 h9 K)
def bZ(t1:OA)(g1:LV)(n1:Int)(x1:LV)(many1:Int)(K:KT)(h1:ad):=
 az g1 80 h1 λh2=>
 az x1 155 h2 λh3=>
 ∃n2,cellOf h3 (aS h2 2)=some (vI n2)/\
 bif(decide (many1<n2))then(
 ∃aW,List.length aW=5/\aj h3 (bA h1) aW/\
 ∃cH,List.length cH=15/\aj h3 (bA h2) cH/\
 C.gD t1 aW cH (wI (Int.tdiv (wI ((wI (many1+512))-1)) 512)) h3 λr1 h4=>
 ∃fV n3,r1 = .tuple #[.agg ⟨fV⟩,vI n3]/\
 aM gv 155 fV 15 h4 λh6=>
 bif(n3 != 0)then(
 K (vI n3) h6)else(
 ∃kR,List.length kR=15/\aj h6 (bA h4) kR/\
 ax (bA h2) kR 15 h6 λh7=>
 bif((Int.tmod many1 512) != 0)then(
 ∃rh,List.length rh=5/\aj h7 (bA h1) rh/\
 ∃tg,List.length tg=15/\aj h7 (bA h2) tg/\
 C.cO t1 rh tg (wI (Int.tdiv many1 512)) h7 λr2 h8=>
 ∃n4 n5,r2 = .tuple #[vI n4,vI n5]/\
 bif(n5 != 0)then(
 K (vI n5) h8)else(
 bZ.k1 t1 n1 many1 h1 h2 n4 h8 K))else(
 bZ.k1 t1 n1 many1 h1 h2 0 h7 K)))else(
 bZ.k2 t1 n1 many1 h1 h2 h3 K)
theorem bZ.ok{t1 g1 n1 x1 many1 K h}(x:bZ t1 g1 n1 x1 many1 K h):C.bZ t1 g1 n1 x1 many1 h K:=fk (fun|16=>([0,2,4,6,8,13,14],[(16,.int .i64)])|_=>([],[])) o0 Tryz.func173 x
def dW.k1(h2 h8:ad)(e1 k1:Int)(cg:ad)(I1:Int->Int->ad->Prop)(M1:Int->Int->ad->Nat)(K:KT):=
 ∃v1,cellOf cg ⟨h8.size,0,none⟩=some (v1)/\
 (0<=k1/\k1<(10:Int))/\
 ∃n1,cellOf cg (Addr.add (Addr.add ⟨h2.size,0,none⟩ 3) (Int.toNat k1))=some (vI n1)/\
 cT Tryz.prog v1 [vI k1,vI n1] cg λr1 cM=>
 ∃n2,r1 = vI n2/\
 I1 n2 (wI (k1+1)) cM/\M1 n2 (wI (k1+1)) cM<M1 e1 k1 cg
def dW.k4(h6 h7:ad)(e4:Int)(gm:ad)(K:KT):=
 bif(e4 != 0)then(
 K (.tuple #[vS none 0 0,vS none 0 0,vI e4]) gm)else(
 ∃aI aF aT,cellOf gm ⟨h6.size,0,none⟩=some (vS aI aF aT)/\
 ∃dP dB ff,cellOf gm ⟨h7.size,0,none⟩=some (vS dP dB ff)/\
 K (.tuple #[vS aI aF aT,vS dP dB ff,vI 0]) gm)
def dW.k3(h2 h6 h7 h8 cB:ad)(e3:Int)(fw:ad)(K:KT):=
 bif(e3==0)then(
 ∃v3,cellOf fw ⟨cB.size,0,none⟩=some (v3)/\
 ∃n5,cellOf fw (Addr.add ⟨h2.size,0,none⟩ 14)=some (vI n5)/\
 cT Tryz.prog v3 [vI n5,.func (.func 237) #[] ⟨[vP (some ⟨cB.size,0,none⟩),vP (some ⟨h8.size,0,none⟩)]⟩] fw λr3 ma=>
 ∃n6,r3 = vI n6/\
 dW.k4 h6 h7 n6 ma K)else(
 dW.k4 h6 h7 e3 fw K)
def dW.k2(h2 h6 h7 h8 cB:ad)(e2:Int)(fg:ad)(K:KT):=
 bif(e2==0)then(
 ∃v2,cellOf fg ⟨cB.size,0,none⟩=some (v2)/\
 ∃n3,cellOf fg (Addr.add ⟨h2.size,0,none⟩ 13)=some (vI n3)/\
 cT Tryz.prog v2 [vI n3,.func (.func 236) #[] ⟨[vP (some ⟨h8.size,0,none⟩)]⟩] fg λr2 iY=>
 ∃n4,r2 = vI n4/\
 dW.k3 h2 h6 h7 h8 cB n4 iY K)else(
 dW.k3 h2 h6 h7 h8 cB e2 fg K)
def dW(t1:OA)(g1 x1:LV)(K:KT)(h1:ad):=
 az g1 80 h1 λh2=>
 az x1 155 h2 λh3=>
 ∃aW,List.length aW=5/\aj h3 ⟨h1.size,0,none⟩ aW/\
 ∃cH,List.length cH=15/\aj h3 ⟨h2.size,0,none⟩ cH/\
 List.length (aW:LV)=5/\
 List.length (cH:LV)=15/\
 az ([vP t1]++(aW++cH)) 279 h3 λh4=>
 az Vg 277 h4 λh5=>
 aO ⟨h4.size,0,none⟩ (vP (some ⟨h3.size,0,none⟩)) h5 λh6=>
 az adf 235 h6 λh7=>
 az adb 137 h7 λh8=>
 az adh 292 h8 λh9=>
 aO ⟨h8.size,0,none⟩ (.func (.func 232) #[] ⟨[vP (some ⟨h6.size,0,none⟩),vP (some ⟨h4.size,0,none⟩)]⟩) h9 λcB=>
 az adi 295 cB λbQ=>
 aO ⟨cB.size,0,none⟩ (.func (.func 234) #[] ⟨[vP (some ⟨h4.size,0,none⟩),vP (some ⟨h7.size,0,none⟩)]⟩) bQ λcG=>
 ∃(I1:Int->Int->ad->Prop) (M1:Int->Int->ad->Nat),I1 0 0 cG/\
 ∀(e1:Int) (k1:Int),∀cg:ad,I1 e1 k1 cg->
 bif(decide (k1<10))then(
 bif(e1==0)then(
 dW.k1 h2 h8 e1 k1 cg I1 M1 K)else(
 dW.k2 h2 h6 h7 h8 cB e1 cg K))else(
 dW.k2 h2 h6 h7 h8 cB e1 cg K)
theorem dW.ok{t1 g1 x1 K h}(x:dW t1 g1 x1 K h):C.dW t1 g1 x1 h K:=fk (fun|8=>([5,10,11,12,13],[(14,.int .i64),(15,.int .i64)])|_=>([],[])) (fun|10=>(oS 0 7 (.op 7 [] .nil))|17=>(oS 0 4 (.op 4 [] .nil))|_=>.nil) Tryz.func174 x
def aJ.k1(h2 h3:ad)(i1:Int)(h5:ad)(I1:Int->ad->Prop)(M1:Int->ad->Nat)(K:KT):=
 (0<=i1/\i1<(10:Int))/\
 ∃n2,cellOf h5 (Addr.add (Addr.add ⟨h2.size,0,none⟩ 3) (Int.toNat i1))=some (vI n2)/\
 C.bH (some ⟨h3.size,0,none⟩) n2 h5 λr1 h6=>
 r1 = .tuple #[]/\
 I1 (wI (i1+1)) h6/\M1 (wI (i1+1)) h6<M1 i1 h5
def aJ.k4(h3:ad)(aI:OA)(aF:Nat)(k1:Int)(bQ:ad)(I2:Int->ad->Prop)(M2:Int->ad->Nat)(K:KT):=
 (0<=k1/\k1<(aF:Int))/\
 ae aI λp1=>
 ∃n8,cellOf bQ (p1.add (Int.toNat k1))=some (vI n8)/\
 C.cP (some ⟨h3.size,0,none⟩) n8 (wI (138+(wI (k1*128)))) bQ λr4 cG=>
 r4 = .tuple #[]/\
 I2 (wI (k1+1)) cG/\M2 (wI (k1+1)) cG<M2 k1 bQ
def aJ.k5(h3 cg:ad)(K:KT):=
 ∃n9,cellOf cg (Addr.add ⟨h3.size,0,none⟩ 9)=some (vI n9)/\
 bif(n9 != 0)then(
 ∃n10,cellOf cg (Addr.add ⟨h3.size,0,none⟩ 9)=some (vI n10)/\
 K (.tuple #[vS none 0 0,vS none 0 0,vI n10]) cg)else(
 ∃dP dB ff,cellOf cg (Addr.add ⟨h3.size,0,none⟩ 6)=some (vS dP dB ff)/\
 ∃kD j9 lD,cellOf cg (Addr.add ⟨h3.size,0,none⟩ 7)=some (vS kD j9 lD)/\
 K (.tuple #[vS dP dB ff,vS kD j9 lD,vI 0]) cg)
def aJ.k3(h2 h3 h9:ad)(K:KT):=
 ∃n5,cellOf h9 (Addr.add ⟨h3.size,0,none⟩ 9)=some (vI n5)/\
 bif(n5==0)then(
 ∃n6,cellOf h9 (Addr.add ⟨h2.size,0,none⟩ 14)=some (vI n6)/\
 C.bV (some ⟨h3.size,0,none⟩) n6 h9 λr3 cB=>
 ∃aI aF aT,r3 = vS aI aF aT/\
 ∃(I2:Int->ad->Prop) (M2:Int->ad->Nat),I2 0 cB/\
 ∀(k1:Int),∀bQ:ad,I2 k1 bQ->
 bif(decide (k1<128))then(
 ∃n7,cellOf bQ (Addr.add ⟨h3.size,0,none⟩ 9)=some (vI n7)/\
 bif(n7==0)then(
 aJ.k4 h3 aI aF k1 bQ I2 M2 K)else(
 aJ.k5 h3 bQ K))else(
 aJ.k5 h3 bQ K))else(
 aJ.k5 h3 h9 K)
def aJ.k2(h2 h3 h7:ad)(K:KT):=
 ∃n3,cellOf h7 (Addr.add ⟨h3.size,0,none⟩ 9)=some (vI n3)/\
 bif(n3==0)then(
 ∃n4,cellOf h7 (Addr.add ⟨h2.size,0,none⟩ 13)=some (vI n4)/\
 C.cP (some ⟨h3.size,0,none⟩) n4 10 h7 λr2 h8=>
 r2 = .tuple #[]/\
 aJ.k3 h2 h3 h8 K)else(
 aJ.k3 h2 h3 h7 K)
def aJ(t1:OA)(g1 x1:LV)(K:KT)(h1:ad):=
 az g1 80 h1 λh2=>
 az x1 155 h2 λh3=>
 ∃aW,List.length aW=5/\aj h3 ⟨h1.size,0,none⟩ aW/\
 List.length (aW:LV)=5/\
 az ([vP t1]++(aW++[vS none 0 0,vS none 0 0,vI 0,vI 0])) 298 h3 λh4=>
 ∃(I1:Int->ad->Prop) (M1:Int->ad->Nat),I1 0 h4/\
 ∀(i1:Int),∀h5:ad,I1 i1 h5->
 bif(decide (i1<10))then(
 ∃n1,cellOf h5 (Addr.add ⟨h3.size,0,none⟩ 9)=some (vI n1)/\
 bif(n1==0)then(
 aJ.k1 h2 h3 i1 h5 I1 M1 K)else(
 aJ.k2 h2 h3 h5 K))else(
 aJ.k2 h2 h3 h5 K)
theorem aJ.ok{t1 g1 x1 K h}(x:aJ t1 g1 x1 K h):C.aJ t1 g1 x1 h K:=fk (fun|3=>([5,9],[(10,.int .i64)])|11=>([9,11],[(12,.int .i64)])|_=>([],[])) (fun|15=>(oS 0 6 (.op 6 [] .nil))|16=>(oS 0 10 (.op 10 [] .nil))|_=>.nil) Tryz.func175 x
def rY(lu:OA)(iP mG:Nat)(n1:Int)(K:KT)(h1:ad):=
 az [vI n1] 3 h1 λh2=>
 az z3 3 h2 λh3=>
 aO (bA h2) (vI 97) h3 λh4=>
 ∃(I1:Int->ad->Prop) (M1:Int->ad->Nat),I1 0 h4/\
 ∀(n2:Int),∀h5:ad,I1 n2 h5->
 bif(decide (n2<(iP:Int)))then(
 (0<=n2/\n2<(iP:Int))/\
 ae lu λp1=>
 ∃n3,cellOf h5 (p1.add (Int.toNat n2))=some (vI n3)/\
 C.mN n3 (some (bA h2)) (some (bA h1)) h5 λr1 h6=>
 ∃b1,r1 = .bool b1/\
 bif b1 then(
 K (.bool false) h6)else(
 I1 (wI (n2+1)) h6/\M1 (wI (n2+1)) h6<M1 n2 h5))else(
 bif(decide ((iP:Int)>=1))then(
 K (.bool (decide ((iP:Int)<=96))) h5)else(
 K (.bool false) h5))
theorem rY.ok{lu iP mG n1 K h}(x:rY lu iP mG n1 K h):C.rY lu iP mG n1 h K:=fk (fun|4=>([0,6,10,11],[(12,.int .i64)])|_=>([],[])) o0 Tryz.func176 x
def jL(jg:OA)(im jW:Nat)(n1:Int)(K:KT)(h1:ad):=
 ∃(I1:Int->ad->Prop) (M1:Int->ad->Nat),I1 0 h1/\
 ∀(n2:Int),∀h2:ad,I1 n2 h2->
 bif(decide (n2<(im:Int)))then(
 (0<=n2/\n2<(im:Int))/\
 ae jg λp1=>
 ∃aI aF aT,cellOf h2 (p1.add (Int.toNat n2))=some (vS aI aF aT)/\
 bif((aF:Int) != 512)then(
 K (.bool false) h2)else(
 I1 (wI (n2+1)) h2/\M1 (wI (n2+1)) h2<M1 n2 h2))else(
 K (.bool ((im:Int)==n1)) h2)
theorem jL.ok{jg im jW n1 K h}(x:jL jg im jW n1 K h):C.jL jg im jW n1 h K:=fk (fun|2=>([0,1,7,8],[(9,.int .i64)])|_=>([],[])) o0 Tryz.func177 x
def mL(aR:OA)(aX bf:Nat)(fU n1:Int)(s1:ByteArray)(K:KT)(h1:ad):=
 bif(decide (n1<0))then(
 K (vI 1) h1)else(
 bif(decide ((s1.size:Int)>n1))then(
 K (vI 1) h1)else(
 Va s1 5 h1 λbj h2=>
 C.qh (some (bA h1)) s1.size bj h2 λr1 h3=>
 ∃n2,r1 = vI n2/\
 bif(decide (n2<(s1.size:Int)))then(
 K (vI 1) h3)else(
 C.py aR aX bf fU n1 h3 λr2 h4=>
 ∃b1,r2 = .bool b1/\
 bif(!b1)then(
 K (vI 20) h4)else(
 (0<=fU/\fU<=(wI (fU+n1))/\(wI (fU+n1))<=(bf:Int))/\
 rP tf (if bf=(Int.toNat fU)then aR else Option.map (Addr.add · (Int.toNat fU)) aR) ((Int.toNat (wI (fU+n1)))-(Int.toNat fU)) (.string s1) h4 λn3 h5=>
 (0<=(wI (fU+(n3:Int)))/\(wI (fU+(n3:Int)))<=(wI (fU+n1))/\(wI (fU+n1))<=(bf:Int))/\
 Lq tf (if bf=(Int.toNat (wI (fU+(n3:Int))))then aR else Option.map (Addr.add · (Int.toNat (wI (fU+(n3:Int))))) aR) ((Int.toNat (wI (fU+n1)))-(Int.toNat (wI (fU+(n3:Int))))) h5 λh6=>
 K (vI 0) h6))))
theorem mL.ok{aR aX bf fU n1 s1 K h}(x:mL aR aX bf fU n1 s1 K h):C.mL aR aX bf fU n1 s1 h K:=fz Tryz.func178 x
def jQ(aR:OA)(aX bf:Nat)(fU n1 v1:Int)(K:KT)(h1:ad):=
 C.jA n1 h1 λr1 h2=>
 ∃b1,r1 = .bool b1/\
 bif(!b1)then(
 K (vI 1) h2)else(
 bif(decide (n1<8))then(
 if(wI (8*n1))<0 then False else
 bif((Int.fdiv v1 (2 ^ min (Int.toNat (wI (8*n1))) 64)) != 0)then(
 K (vI 1) h2)else(
 C.py aR aX bf fU n1 h2 λr2 h3=>
 ∃b2,r2 = .bool b2/\
 bif(!b2)then(
 K (vI 20) h3)else(
 ∃(I1:Int->ad->Prop) (M1:Int->ad->Nat),I1 0 h3/\
 ∀(n2:Int),∀h4:ad,I1 n2 h4->
 bif(decide (n2<n1))then(
 if(wI (8*n2))<0 then False else
 (0<=(wI (fU+n2))/\(wI (fU+n2))<(aX:Int))/\
 ae aR λp1=>
 aO (p1.add (Int.toNat (wI (fU+n2)))) (.int .u8 (IntKind.wrap .u8 ((Int.fdiv v1 (2 ^ min (Int.toNat (wI (8*n2))) 64))))) h4 λh5=>
 I1 (wI (n2+1)) h5/\M1 (wI (n2+1)) h5<M1 n2 h4)else(
 K (vI 0) h4))))else(
 C.py aR aX bf fU n1 h2 λr3 h6=>
 ∃b3,r3 = .bool b3/\
 bif(!b3)then(
 K (vI 20) h6)else(
 ∃(I2:Int->ad->Prop) (M2:Int->ad->Nat),I2 0 h6/\
 ∀(n3:Int),∀h7:ad,I2 n3 h7->
 bif(decide (n3<n1))then(
 if(wI (8*n3))<0 then False else
 (0<=(wI (fU+n3))/\(wI (fU+n3))<(aX:Int))/\
 ae aR λp2=>
 aO (p2.add (Int.toNat (wI (fU+n3)))) (.int .u8 (IntKind.wrap .u8 ((Int.fdiv v1 (2 ^ min (Int.toNat (wI (8*n3))) 64))))) h7 λh8=>
 I2 (wI (n3+1)) h8/\M2 (wI (n3+1)) h8<M2 n3 h7)else(
 K (vI 0) h7))))
theorem jQ.ok{aR aX bf fU n1 v1 K h}(x:jQ aR aX bf fU n1 v1 K h):C.jQ aR aX bf fU n1 v1 h K:=fk (fun|6=>([0,1,3,31],[(32,.int .i64)])|_=>([],[])) o0 Tryz.func179 x
def oI(Ax:OA)(Ay Az:Nat)(tL:OA)(rZ vV:Nat)(K:KT)(h1:ad):=
 C.mO Ax Ay Az h1 λr1 h2=>
 ∃aI aF aT,r1 = vS aI aF aT/\
 C.jQ aI aF aT 12 4 0 h2 λr2 h3=>
 ∃n1,r2 = vI n1/\
 C.vW aI aF aT h3 λr3 h4=>
 ∃n2,r3 = .int .u32 n2/\
 ∃(I1:Int->Int->ad->Prop) (M1:Int->Int->ad->Nat),I1 n2 0 h4/\
 ∀(s1:Int) (n3:Int),∀h5:ad,I1 s1 n3 h5->
 bif(decide (n3<(rZ:Int)))then(
 (0<=n3/\n3<(rZ:Int))/\
 ae tL λp1=>
 ∃dP dB ff,cellOf h5 (p1.add (Int.toNat n3))=some (vS dP dB ff)/\
 C.vW dP dB ff h5 λr4 h6=>
 ∃n4,r4 = .int .u32 n4/\
 C.pz s1 n4 (dB:Int) h6 λr5 h7=>
 ∃n5 n6,r5 = .tuple #[.int .u32 n5,vI n6]/\
 I1 n5 (wI (n3+1)) h7/\M1 n5 (wI (n3+1)) h7<M1 s1 n3 h5)else(
 K (.int .u32 s1) h5)
theorem oI.ok{Ax Ay Az tL rZ vV K h}(x:oI Ax Ay Az tL rZ vV K h):C.oI Ax Ay Az tL rZ vV h K:=fk (fun|5=>([15,16],[(6,.int .u32),(17,.int .i64)])|_=>([],[])) o0 Tryz.func180 x
def ir(d1 bj cU:OA)(K:KT)(h1:ad):=
 ae bj λp1=>
 ∃n1,cellOf h1 p1=some (vI n1)/\
 ae cU λp2=>
 ∃aI aF aT,cellOf h1 p2=some (vS aI aF aT)/\
 C.fY d1 n1 aI aF aT h1 λr1 h2=>
 ∃n2,r1 = vI n2/\
 K (vI n2) h2
theorem ir.ok{d1 bj cU K h}(x:ir d1 bj cU K h):C.ir d1 bj cU h K:=fz Tryz.func181 x
def iu(d1:OA)(K:KT)(h1:ad):=
 C.fZ d1 h1 λr1 h2=>
 ∃n1,r1 = vI n1/\
 K (vI n1) h2
theorem iu.ok{d1 K h}(x:iu d1 K h):C.iu d1 h K:=fz Tryz.func182 x
def iw(ju:OA)(hQ kC:Nat)(K:KT)(h1:ad):=
 az [.int .u8 66,.int .u8 79,.int .u8 76,.int .u8 69,.int .u8 76,.int .u8 79,.int .u8 71,.int .u8 49] 5 h1 λh2=>
 HU (bA h1) h2 λh3=>
 C.gE (hQ:Int) 2 h3 λr1 h4=>
 ∃aI aF aT,r1 = vS aI aF aT/\
 ∃aG,List.length aG=aF*1/\ak h4 aI aG/\(∀v∈aG,v.oneCell'=true)/\
 aH tf 5 (some (bA h1)) 8 8 aF aG h4 λdP dB ff h5=>
 az [.int .u8 0,.int .u8 0] 5 h5 λh6=>
 ∃pA,List.length pA=2*1/\ak h6 (some (bA h5)) pA/\(∀v∈pA,v.oneCell'=true)/\
 aH tf 5 dP dB ff 2 pA h6 λkD j9 lD h7=>
 ∃(I1:OA->Nat->Nat->OA->Nat->Nat->Int->ad->Prop) (M1:OA->Nat->Nat->OA->Nat->Nat->Int->ad->Nat),I1 none 0 0 none 0 0 0 h7/\
 ∀(HZ:OA) (H0:Nat) (H2:Nat) (jg:OA) (im:Nat) (jW:Nat) (n1:Int),∀h8:ad,I1 HZ H0 H2 jg im jW n1 h8->
 bif(decide (n1<(hQ:Int)))then(
 (0<=n1/\n1<(hQ:Int))/\
 ae ju λp1=>
 ∃aW,List.length aW=2/\aj h8 (p1.add ((Int.toNat n1)*2)) aW/\
 aM JI 103 aW 2 h8 λcB=>
 ∃n2,cellOf cB (aS h8 0)=some (vI n2)/\
 C.gE n2 4 cB λr2 bQ=>
 ∃uo uq vn,r2 = vS uo uq vn/\
 ∃ze,List.length ze=uq*1/\ak bQ uo ze/\(∀v∈ze,v.oneCell'=true)/\
 aH tf 5 HZ H0 H2 uq ze bQ λAB Ab B' cG=>
 ∃Ca BA Dq,cellOf cG (aS h8 1)=some (vS Ca BA Dq)/\
 ∃zg,List.length zg=BA*1/\ak cG Ca zg/\(∀v∈zg,v.oneCell'=true)/\
 aH tf 5 jg im jW BA zg cG λGg Gi IP cg=>
 I1 AB Ab B' Gg Gi IP (wI (n1+1)) cg/\M1 AB Ab B' Gg Gi IP (wI (n1+1)) cg<M1 HZ H0 H2 jg im jW n1 h8)else(
 ∃(I2:OA->Nat->Nat->ad->Prop) (M2:OA->Nat->Nat->ad->Nat),I2 HZ H0 H2 h8/\
 ∀(Ds:OA) (vZ:Nat) (LU:Nat),∀cM:ad,I2 Ds vZ LU cM->
 bif(decide ((wI ((wI ((j9:Int)+4))+(vZ:Int)))<512))then(
 az [.int .u8 0] 5 cM λfg=>
 ∃HX,List.length HX=1*1/\ak fg (some (bA cM)) HX/\(∀v∈HX,v.oneCell'=true)/\
 aH tf 5 Ds vZ LU 1 HX fg λGj Gk IQ iY=>
 I2 Gj Gk IQ iY/\M2 Gj Gk IQ iY<M2 Ds vZ LU cM)else(
 ∃HY,List.length HY=j9*1/\ak cM kD HY/\(∀v∈HY,v.oneCell'=true)/\
 aH tf 5 none 0 0 j9 HY cM λUt RT Ym fw=>
 az [.int .u8 0,.int .u8 0,.int .u8 0,.int .u8 0] 5 fw λma=>
 ∃VX,List.length VX=4*1/\ak ma (some (bA fw)) VX/\(∀v∈VX,v.oneCell'=true)/\
 aH tf 5 Ut RT Ym 4 VX ma λPj Pk Pl gm=>
 ∃VY,List.length VY=vZ*1/\ak gm Ds VY/\(∀v∈VY,v.oneCell'=true)/\
 aH tf 5 Pj Pk Pl vZ VY gm λPm Po Pp iK=>
 ∃VZ,List.length VZ=im*1/\ak iK jg VZ/\(∀v∈VZ,v.oneCell'=true)/\
 aH tf 5 Pm Po Pp im VZ iK λsA12 sL12 sC12 nR=>
 C.ky sA12 sL12 sC12 nR λr3 nD=>
 ∃n3,r3 = .int .u32 n3/\
 C.gE (wI (n3)) 4 nD λr4 jR=>
 ∃adz ξ sC13,r4 = vS adz ξ sC13/\
 ∃N0,List.length N0=ξ*1/\ak jR adz N0/\(∀v∈N0,v.oneCell'=true)/\
 aH tf 5 kD j9 lD ξ N0 jR λsA14 sL14 sC14 mu=>
 ∃N1,List.length N1=vZ*1/\ak mu Ds N1/\(∀v∈N1,v.oneCell'=true)/\
 aH tf 5 sA14 sL14 sC14 vZ N1 mu λsA15 sL15 sC15 uH=>
 K (vS sA15 sL15 sC15) uH))
theorem iw.ok{ju hQ kC K h}(x:iw ju hQ kC K h):C.iw ju hQ kC h K:=fk (fun|6=>([3,19,20],[(4,.slice),(5,.slice),(21,.int .i64)])|11=>([3,5],[(4,.slice)])|_=>([],[])) o0 Tryz.func194 x
def qe(aR:OA)(aX bf:Nat)(K:KT)(h1:ad):=
 az [] 5 h1 λh2=>
 ∃aG,List.length aG=aX*1/\ak h2 aR aG/\(∀v∈aG,v.oneCell'=true)/\
 aH tf 5 (some ⟨h1.size,0,none⟩) 0 0 aX aG h2 λaI aF aT h3=>
 az z37 37 h3 λh4=>
 aO ⟨h3.size,0,none⟩ (vS aI aF aT) h4 λh5=>
 K (.func (.func 261) #[] ⟨[vP (some ⟨h3.size,0,none⟩)]⟩) h5
theorem qe.ok{aR aX bf K h}(x:qe aR aX bf K h):C.qe aR aX bf h K:=fz Tryz.func199 x
def aab(aR:OA)(aX bf:Nat)(i1:Int)(is1:Bool)(K:KT)(h1:ad):=
 C.nX aR aX bf i1 h1 λr1 h2=>
 ∃b1,r1 = .bool b1/\
 bif(!b1)then(
 K (vI 80) h2)else(
 bif is1 then(
 (0<=(wI (Int.tdiv i1 8))/\(wI (Int.tdiv i1 8))<(aX:Int))/\
 ae aR λp1=>
 ∃n1,cellOf h2 (p1.add (Int.toNat (wI (Int.tdiv i1 8))))=some (.int .u8 n1)/\
 if(Int.tmod i1 8)<0 then False else
 (0<=(wI (Int.tdiv i1 8))/\(wI (Int.tdiv i1 8))<(aX:Int))/\
 ae aR λp2=>
 aO (p2.add (Int.toNat (wI (Int.tdiv i1 8)))) (.int .u8 (bw .or .u8 n1 (IntKind.wrap .u8 ((1*2 ^ min (Int.toNat (Int.tmod i1 8)) 8))))) h2 λh3=>
 K (vI 0) h3)else(
 (0<=(wI (Int.tdiv i1 8))/\(wI (Int.tdiv i1 8))<(aX:Int))/\
 ae aR λp3=>
 ∃n2,cellOf h2 (p3.add (Int.toNat (wI (Int.tdiv i1 8))))=some (.int .u8 n2)/\
 if(Int.tmod i1 8)<0 then False else
 (0<=(wI (Int.tdiv i1 8))/\(wI (Int.tdiv i1 8))<(aX:Int))/\
 ae aR λp4=>
 aO (p4.add (Int.toNat (wI (Int.tdiv i1 8)))) (.int .u8 (bw .andNot .u8 n2 (IntKind.wrap .u8 ((1*2 ^ min (Int.toNat (Int.tmod i1 8)) 8))))) h2 λh4=>
 K (vI 0) h4))
theorem aab.ok{aR aX bf i1 is1 K h}(x:aab aR aX bf i1 is1 K h):C.aab aR aX bf i1 is1 h K:=fk l0 (fun|4=>(oS 0 10 (.op 10 [] .nil))|5=>(oS 0 10 (.op 10 [] .nil))|_=>.nil) Tryz.func200 x
def rD.k1(i1:Int)(h1 h2:ad)(K:KT):=
 ∃n2,cellOf h2 (Addr.add ⟨h1.size,0,none⟩ 1)=some (vI n2)/\
 K (.tuple #[vI (wI (n2+(wI (Int.tdiv i1 4096)))),vI (Int.tmod i1 4096),vI 0]) h2
def rD(g1:LV)(i1:Int)(K:KT)(h1:ad):=
 az g1 80 h1 λh2=>
 bif(decide (i1<0))then(
 K (.tuple #[vI 0,vI 0,vI 31]) h2)else(
 ∃n1,cellOf h2 (Addr.add ⟨h1.size,0,none⟩ 0)=some (vI n1)/\
 bif(decide (i1>=n1))then(
 K (.tuple #[vI 0,vI 0,vI 31]) h2)else(
 rD.k1 i1 h1 h2 K))
theorem rD.ok{g1 i1 K h}(x:rD g1 i1 K h):C.rD g1 i1 h K:=fz Tryz.func201 x
def nX(aR:OA)(aX bf:Nat)(i1:Int)(K:KT)(h1:ad):=
 bif(decide (i1>=0))then(
 K (.bool (decide (i1<(wI (8*(aX:Int)))))) h1)else(
 K (.bool false) h1)
theorem nX.ok{aR aX bf i1 K h}(x:nX aR aX bf i1 K h):C.nX aR aX bf i1 h K:=fz Tryz.func202 x
def qq(aR:OA)(aX bf:Nat)(i1:Int)(K:KT)(h1:ad):=
 (0<=(wI (Int.tdiv i1 8))/\(wI (Int.tdiv i1 8))<(aX:Int))/\
 ae aR λp1=>
 ∃n1,cellOf h1 (p1.add (Int.toNat (wI (Int.tdiv i1 8))))=some (.int .u8 n1)/\
 if(Int.tmod i1 8)<0 then False else
 K (.bool ((bw .and .u8 (Int.fdiv n1 (2 ^ min (Int.toNat (Int.tmod i1 8)) 8)) 1)==1)) h1
theorem qq.ok{aR aX bf i1 K h}(x:qq aR aX bf i1 K h):C.qq aR aX bf i1 h K:=fz Tryz.func203 x
def bP(n1 AA tM:Int)(K:KT)(h1:ad):=
 bif(decide (n1>=AA))then(
 K (.bool (decide (n1<=tM))) h1)else(
 K (.bool false) h1)
theorem bP.ok{n1 AA tM K h}(x:bP n1 AA tM K h):C.bP n1 AA tM h K:=fz Tryz.func204 x
def eZ(n1 qf:Int)(K:KT)(h1:ad):=
 ∃(I1:Int->OA->Nat->Nat->Int->ad->Prop) (M1:Int->OA->Nat->Nat->Int->ad->Nat),I1 n1 none 0 0 0 h1/\
 ∀(n2:Int) (aR:OA) (aX:Nat) (bf:Nat) (i1:Int),∀h2:ad,I1 n2 aR aX bf i1 h2->
 bif(decide (i1<qf))then(
 az [.int .u8 (IntKind.wrap .u8 ((Int.tmod n2 256)))] 5 h2 λh3=>
 ∃aG,List.length aG=1*1/\ak h3 (some (bA h2)) aG/\(∀v∈aG,v.oneCell'=true)/\
 aH tf 5 aR aX bf 1 aG h3 λaI aF aT h4=>
 I1 (wI (Int.tdiv n2 256)) aI aF aT (wI (i1+1)) h4/\M1 (wI (Int.tdiv n2 256)) aI aF aT (wI (i1+1)) h4<M1 n2 aR aX bf i1 h2)else(
 K (vS aR aX bf) h2)
theorem eZ.ok{n1 qf K h}(x:eZ n1 qf K h):C.eZ n1 qf h K:=fk (fun|3=>([1],[(0,.int .i64),(5,.slice),(6,.int .i64)])|_=>([],[])) o0 Tryz.func205 x
def qg(t1:OA)(g1:LV)(n1:Int)(K:KT)(h1:ad):=
 az g1 80 h1 λh2=>
 az gv 155 h2 λh3=>
 ∃aW,List.length aW=5/\aj h3 ⟨h1.size,0,none⟩ aW/\
 C.jz aW n1 h3 λr1 h4=>
 ∃b1,r1 = .bool b1/\
 bif(!b1)then(
 ax ⟨h2.size,0,none⟩ gv 15 h4 λh5=>
 ∃bL,List.length bL=15/\aj h5 ⟨h2.size,0,none⟩ bL/\
 K (.tuple #[.agg ⟨bL⟩,vI 110]) h5)else(
 ∃cH,List.length cH=5/\aj h4 ⟨h1.size,0,none⟩ cH/\
 C.kX t1 cH n1 h4 λr2 h6=>
 ∃n2 aI aF aT n3 n4,r2 = .tuple #[vI n2,vS aI aF aT,vI n3,vI n4]/\
 bif(n4 != 0)then(
 ax ⟨h2.size,0,none⟩ gv 15 h6 λh7=>
 ∃dY,List.length dY=15/\aj h7 ⟨h2.size,0,none⟩ dY/\
 K (.tuple #[.agg ⟨dY⟩,vI n4]) h7)else(
 (0<=n3/\n3<=(wI (n3+64))/\(wI (n3+64))<=(aT:Int))/\
 C.lA (if aT=(Int.toNat n3)then aI else Option.map (Addr.add · (Int.toNat n3)) aI) ((Int.toNat (wI (n3+64)))-(Int.toNat n3)) (aT-(Int.toNat n3)) h6 λr3 h8=>
 ∃fV n5,r3 = .tuple #[.agg ⟨fV⟩,vI n5]/\
 ax ⟨h2.size,0,none⟩ fV 15 h8 λh9=>
 ∃fv,List.length fv=15/\aj h9 ⟨h2.size,0,none⟩ fv/\
 K (.tuple #[.agg ⟨fv⟩,vI n5]) h9))
theorem qg.ok{t1 g1 n1 K h}(x:qg t1 g1 n1 K h):C.qg t1 g1 n1 h K:=fz Tryz.func206 x
def jy(lv:Value)(bj cU:OA)(K:KT)(h1:ad):=
 ∃(I1:Int->ad->Prop) (M1:Int->ad->Nat),I1 0 h1/\
 ∀(fU:Int),∀h2:ad,I1 fU h2->
 ae bj λp1=>
 ∃n1,cellOf h2 p1=some (vI n1)/\
 bif(decide (fU<n1))then(
 ae cU λp2=>
 ∃n2,cellOf h2 p2=some (vI n2)/\
 ae cU λp3=>
 ∃n3,cellOf h2 p3=some (vI n3)/\
 aM z218 218 [vI (wI (Int.tdiv (wI (n2+fU)) 512)),vI (Int.tmod (wI (n3+fU)) 512),vI 0,vI fU] 4 h2 λh4=>
 ∃n4,cellOf h4 (Addr.add ⟨h2.size,0,none⟩ 1)=some (vI n4)/\
 ae bj λp4=>
 ∃n5,cellOf h4 p4=some (vI n5)/\
 aO (Addr.add ⟨h2.size,0,none⟩ 2) (vI (if(wI ((wI (n4+n5))-fU))<512 then(wI ((wI (n4+n5))-fU))else 512)) h4 λh5=>
 ∃aW,List.length aW=4/\aj h5 ⟨h2.size,0,none⟩ aW/\
 cT Tryz.prog lv [.agg ⟨aW⟩] h5 λr1 h6=>
 ∃b1,r1 = .bool b1/\
 bif(!b1)then(
 K (.tuple #[]) h6)else(
 ∃n6,cellOf h6 (Addr.add ⟨h2.size,0,none⟩ 2)=some (vI n6)/\
 ∃n7,cellOf h6 (Addr.add ⟨h2.size,0,none⟩ 1)=some (vI n7)/\
 I1 (wI (fU+(wI (n6-n7)))) h6/\M1 (wI (fU+(wI (n6-n7)))) h6<M1 fU h2))else(
 K (.tuple #[]) h2)
theorem jy.ok{lv bj cU K h}(x:jy lv bj cU K h):C.jy lv bj cU h K:=fk (fun|1=>([0,1,2],[(4,.int .i64)])|_=>([],[])) o0 Tryz.func207 x
def kO.k1(t1:OA)(k1:Int)(h1 h2 h3:ad)(K:KT):=
 ∃aW,List.length aW=5/\aj h3 ⟨h1.size,0,none⟩ aW/\
 ∃cH,List.length cH=15/\aj h3 ⟨h2.size,0,none⟩ cH/\
 List.length (aW:LV)=5/\
 List.length (cH:LV)=15/\
 az ([vP t1]++(aW++cH)) 279 h3 λh4=>
 C.bG (some ⟨h3.size,0,none⟩) k1 (Value.func (.func 263) #[] ⟨[]⟩) h4 λr1 h5=>
 ∃n1 n2,r1 = .tuple #[vI n1,vI n2]/\
 K (.tuple #[vI n1,vI n2]) h5
def kO(t1:OA)(g1 x1:LV)(k1:Int)(K:KT)(h1:ad):=
 az g1 80 h1 λh2=>
 az x1 155 h2 λh3=>
 bif(decide (k1<0))then(
 K (.tuple #[vI 0,vI 101]) h3)else(
 bif(decide (k1>=16522))then(
 K (.tuple #[vI 0,vI 101]) h3)else(
 kO.k1 t1 k1 h1 h2 h3 K))
set_option maxRecDepth 1000000 in
set_option maxRecDepth 1000000 in
theorem kO.ok{t1 g1 x1 k1 K h}(x:kO t1 g1 x1 k1 K h):C.kO t1 g1 x1 k1 h K:=fz Tryz.func208 x
def kv(t1:OA)(g1:LV)(n1:Int)(K:KT)(h1:ad):=
 az g1 80 h1 λh2=>
 az gv 155 h2 λh3=>
 ∃aW,List.length aW=5/\aj h3 (bA h1) aW/\
 C.dA aW n1 h3 λr1 h4=>
 ∃n2 n3 n4,r1 = .tuple #[vI n2,vI n3,vI n4]/\
 bif(n4 != 0)then(
 ax (bA h2) gv 15 h4 λh5=>
 ∃bL,List.length bL=15/\aj h5 (bA h2) bL/\
 K (.tuple #[.agg ⟨bL⟩,vI n4]) h5)else(
 C.aD t1 n2 h4 λr2 h6=>
 ∃aI aF aT n5,r2 = .tuple #[vS aI aF aT,vI n5]/\
 bif(n5 != 0)then(
 ax (bA h2) gv 15 h6 λh7=>
 ∃dY,List.length dY=15/\aj h7 (bA h2) dY/\
 K (.tuple #[.agg ⟨dY⟩,vI n5]) h7)else(
 (0<=n3/\n3<=(wI (n3+64))/\(wI (n3+64))<=(aT:Int))/\
 C.cJ (if aT=(Int.toNat n3)then aI else Option.map (Addr.add · (Int.toNat n3)) aI) ((Int.toNat (wI (n3+64)))-(Int.toNat n3)) (aT-(Int.toNat n3)) h6 λr3 h8=>
 ∃cH n6,r3 = .tuple #[.agg ⟨cH⟩,vI n6]/\
 ax (bA h2) cH 15 h8 λh9=>
 ∃fv,List.length fv=15/\aj h9 (bA h2) fv/\
 K (.tuple #[.agg ⟨fv⟩,vI n6]) h9))
theorem kv.ok{t1 g1 n1 K h}(x:kv t1 g1 n1 K h):C.kv t1 g1 n1 h K:=fz Tryz.func210 x
def gf(k1:Int)(K:KT)(h1:ad):=
 bif(decide (k1<10))then(
 K (.tuple #[vI k1,vS none 0 0]) h1)else(
 bif(decide (k1<138))then(
 az [vI (wI (k1-10))] 3 h1 λh2=>
 K (.tuple #[vI 10,vS (some ⟨h1.size,0,none⟩) 1 1]) h2)else(
 az [vI (wI (Int.tdiv (wI ((wI (k1-10))-128)) 128)),vI (Int.tmod (wI ((wI (k1-10))-128)) 128)] 3 h1 λh3=>
 K (.tuple #[vI 11,vS (some ⟨h1.size,0,none⟩) 2 2]) h3))
theorem gf.ok{k1 K h}(x:gf k1 K h):C.gf k1 h K:=fz Tryz.func211 x
def gh(x1:LV)(i1:Int)(K:KT)(h1:ad):=
 az x1 155 h1 λh2=>
 bif(i1==10)then(
 ∃n1,cellOf h2 (Addr.add ⟨h1.size,0,none⟩ 13)=some (vI n1)/\
 K (vI n1) h2)else(
 bif(i1==11)then(
 ∃n2,cellOf h2 (Addr.add ⟨h1.size,0,none⟩ 14)=some (vI n2)/\
 K (vI n2) h2)else(
 (0<=i1/\i1<(10:Int))/\
 ∃n3,cellOf h2 (Addr.add (Addr.add ⟨h1.size,0,none⟩ 3) (Int.toNat i1))=some (vI n3)/\
 K (vI n3) h2))
theorem gh.ok{x1 i1 K h}(x:gh x1 i1 K h):C.gh x1 i1 h K:=fz Tryz.func212 x
def cZ(g1:LV)(n1:Int)(K:KT)(h1:ad):=
 az g1 80 h1 λh2=>
 bif(n1 != 0)then(
 ∃n2,cellOf h2 (Addr.add ⟨h1.size,0,none⟩ 3)=some (vI n2)/\
 bif(decide (n1<n2))then(
 K (vI 100) h2)else(
 ∃n3,cellOf h2 (Addr.add ⟨h1.size,0,none⟩ 0)=some (vI n3)/\
 bif(decide (n1>=n3))then(
 K (vI 100) h2)else(
 K (vI 0) h2)))else(
 K (vI 0) h2)
theorem cZ.ok{g1 n1 K h}(x:cZ g1 n1 K h):C.cZ g1 n1 h K:=fz Tryz.func213 x
def eT(t1:OA)(n1:Int)(K:KT)(h1:ad):=
 C.aD t1 n1 h1 λr1 h2=>
 ∃aI aF aT n2,r1 = .tuple #[vS aI aF aT,vI n2]/\
 bif(n2 != 0)then(
 K (.tuple #[vS none 0 0,vI n2]) h2)else(
 C.iT aI aF aT h2 λr2 h3=>
 ∃dP dB ff,r2 = vS dP dB ff/\
 K (.tuple #[vS dP dB ff,vI 0]) h3)
theorem eT.ok{t1 n1 K h}(x:eT t1 n1 K h):C.eT t1 n1 h K:=fz Tryz.func214 x
def jh(bj cU kF:OA)(K:KT)(h1:ad):=
 ae bj λp1=>
 ∃q1,cellOf h1 p1=some (vP q1)/\
 ae q1 λp2=>
 ∃n1,cellOf h1 p2=some (vI n1)/\
 bif(n1 != 0)then(
 ae cU λp3=>
 ∃q2,cellOf h1 p3=some (vP q2)/\
 ae kF λp4=>
 ∃n2,cellOf h1 p4=some (vI n2)/\
 C.ft q2 n2 h1 λr1 h2=>
 ∃n3,r1 = vI n3/\
 K (.tuple #[]) h2)else(
 K (.tuple #[]) h1)
def jh.lo : Nat->List Nat×List (Nat×Ty):=λn=>match n with|_=>([],[])
def jh.od : Nat->Od:=λn=>match n with|_=>.nil
theorem jh.eq(bj:OA)(cU:OA)(kF:OA)(K:KT)(h:ad):UO (cx jh.lo jh.od) Tryz.f215 (Tryz.f215.body.getD .skip) [vP bj,vP cU,vP kF] K h=jh bj cU kF K h:=by kernel_rfl
def mM(t1:OA)(K:KT)(h1:ad):=
 az [vP t1] 57 h1 λh2=>
 ∃q1,cellOf h2 ⟨h1.size,0,none⟩=some (vP q1)/\
 C.iC q1 h2 λr1 h3=>
 ∃n1 n2,r1 = .tuple #[vI n1,vI n2]/\
 az z3 3 h3 λh4=>
 az z26 26 h4 λh5=>
 aO ⟨h3.size,0,none⟩ (vI n1) h5 λh6=>
 aO ⟨h4.size,0,none⟩ (vI n2) h6 λh7=>
 K (.func (.func 268) #[] ⟨[vP (some ⟨h4.size,0,none⟩),vP (some ⟨h1.size,0,none⟩),vP (some ⟨h3.size,0,none⟩)]⟩) h7
theorem mM.ok{t1 K h}(x:mM t1 K h):C.mM t1 h K:=fz Tryz.func216 x
def dN(bj cU kF AD:OA)(K:KT)(h1:ad):=
 ae bj λp1=>
 ∃v1,cellOf h1 p1=some (v1)/\
 ae cU λp2=>
 ∃n1,cellOf h1 p2=some (vI n1)/\
 cT Tryz.prog v1 [vI n1] h1 λr1 h2=>
 r1 = .tuple #[]/\
 ae cU λp3=>
 ∃n2,cellOf h2 p3=some (vI n2)/\
 bif(n2 != 0)then(
 ae kF λp4=>
 ax p4 gv 15 h2 λh3=>
 ae AD λp5=>
 aO p5 (vI 0) h3 λh4=>
 K (.tuple #[]) h4)else(
 K (.tuple #[]) h2)
def dN.lo : Nat->List Nat×List (Nat×Ty):=λn=>match n with|_=>([],[])
def dN.od : Nat->Od:=λn=>match n with|_=>.nil
theorem dN.eq(bj:OA)(cU:OA)(kF:OA)(AD:OA)(K:KT)(h:ad):UO (cx dN.lo dN.od) Tryz.f217 (Tryz.f217.body.getD .skip) [vP bj,vP cU,vP kF,vP AD] K h=dN bj cU kF AD K h:=by kernel_rfl
theorem dN.LS : FZ (cx dN.lo dN.od) Tryz.f217 (Tryz.f217.body.getD .skip) 4=true:=by kernel_rfl
theorem dN.CN{AD:OA}(hx:dN bj cU kF AD (λ_ h'=>K h') h):D.dN bj cU kF AD h K:=
 Dg (JJ _ _) Tryz.func217 (by kernel_rfl) dN.LS (by rw[dN.eq];exact hx)
def bG.k1(f1:OA)(fU n1:Int)(h3:ad)(I1:Int->Int->ad->Prop)(M1:Int->Int->ad->Nat)(fK e1:Int)(h8:ad)(K:KT):=
 bif(e1 != 0)then(
 K (.tuple #[vI 0,vI e1]) h8)else(
 bif(fK==0)then(
 K (.tuple #[vI 0,vI 0]) h8)else(
 C.fP f1 fK h8 λr4 h9=>
 ∃n6,r4 = vI n6/\
 bif(n6 != 0)then(
 K (.tuple #[vI 0,vI n6]) h9)else(
 I1 fK (wI (n1+1)) h9/\M1 fK (wI (n1+1)) h9<M1 fU n1 h3)))
def bG(f1:OA)(k1:Int)(Ge:Value)(K:KT)(h1:ad):=
 C.sd k1 h1 λr1 h2=>
 ∃aI aF aT,r1 = vS aI aF aT/\
 ∃(I1:Int->Int->ad->Prop) (M1:Int->Int->ad->Nat),I1 0 0 h2/\
 ∀(fU:Int) (n1:Int),∀h3:ad,I1 fU n1 h3->
 bif(decide (n1<(aF:Int)))then(
 (0<=n1/\n1<(aF:Int))/\
 ae aI λp1=>
 ∃aW,List.length aW=2/\aj h3 (p1.add ((Int.toNat n1)*2)) aW/\
 aM adg 282 aW 2 h3 λh5=>
 ∃cH,List.length cH=2/\aj h5 ⟨h3.size,0,none⟩ cH/\
 C.ix f1 cH fU h5 λr2 h6=>
 ∃n2 dP dB ff n3,r2 = .tuple #[vI n2,vS dP dB ff,vI n3]/\
 bif(n3==0)then(
 bif(n2==0)then(
 ∃fV,List.length fV=2/\aj h6 ⟨h3.size,0,none⟩ fV/\
 cT Tryz.prog Ge [.agg ⟨fV⟩,vI fU,vS dP dB ff] h6 λr3 h7=>
 ∃n4 n5,r3 = .tuple #[vI n4,vI n5]/\
 bG.k1 f1 fU n1 h3 I1 M1 n4 n5 h7 K)else(
 bG.k1 f1 fU n1 h3 I1 M1 n2 n3 h6 K))else(
 bG.k1 f1 fU n1 h3 I1 M1 n2 n3 h6 K))else(
 K (.tuple #[vI fU,vI 0]) h3)
theorem bG.ok{f1 k1 Ge K h}(x:bG f1 k1 Ge K h):C.bG f1 k1 Ge h K:=fk (fun|3=>([0,2,16,17],[(8,.int .i64),(18,.int .i64)])|_=>([],[])) o0 Tryz.func218 x
def oX(s1:LV)(fU:Int)(aR:OA)(aX bf:Nat)(bj cU kF:OA)(K:KT)(h1:ad):=
 az s1 282 h1 λh2=>
 ae bj λp1=>
 ∃q1,cellOf h2 p1=some (vP q1)/\
 ae cU λp2=>
 ∃aW,List.length aW=5/\aj h2 p2 aW/\
 C.mE q1 aW h2 λr1 h3=>
 ∃n1 n2,r1 = .tuple #[vI n1,vI n2]/\
 bif(n2 != 0)then(
 K (.tuple #[vI 0,vI n2]) h3)else(
 ae kF λp3=>
 ∃q2,cellOf h3 p3=some (vP q2)/\
 ∃cH,List.length cH=2/\aj h3 ⟨h1.size,0,none⟩ cH/\
 C.kx q2 cH fU aR aX bf n1 h3 λr2 h4=>
 ∃n3,r2 = vI n3/\
 K (.tuple #[vI n1,vI n3]) h4)
theorem oX.ok{s1 fU aR aX bf bj cU kF K h}(x:oX s1 fU aR aX bf bj cU kF K h):C.oX s1 fU aR aX bf bj cU kF h K:=fz Tryz.func219 x
def kx(f1:OA)(s1:LV)(fU:Int)(aR:OA)(aX bf:Nat)(fK:Int)(K:KT)(h1:ad):=
 az s1 282 h1 λh2=>
 ∃n1,cellOf h2 (Addr.add ⟨h1.size,0,none⟩ 0)=some (vI n1)/\
 bif(n1 != 3)then(
 ∃aW,List.length aW=2/\aj h2 ⟨h1.size,0,none⟩ aW/\
 C.jB f1 aW h2 λr1 h3=>
 ∃q1,r1 = vP q1/\
 ae q1 λp1=>
 aO p1 (vI fK) h3 λh4=>
 K (vI 0) h4)else(
 ∃n2,cellOf h2 (Addr.add ⟨h1.size,0,none⟩ 1)=some (vI n2)/\
 C.jQ aR aX bf (wI (4*n2)) 4 (IntKind.wrap .u64 (fK)) h2 λr2 h5=>
 ∃n3,r2 = vI n3/\
 ae f1 λp2=>
 ∃q2,cellOf h5 (p2.add 0)=some (vP q2)/\
 C.aY q2 fU aR aX bf h5 λr3 h6=>
 ∃n4,r3 = vI n4/\
 K (vI n4) h6)
theorem kx.ok{f1 s1 fU aR aX bf fK K h}(x:kx f1 s1 fU aR aX bf fK K h):C.kx f1 s1 fU aR aX bf fK h K:=fz Tryz.func220 x
def jz(g1:LV)(n1:Int)(K:KT)(h1:ad):=
 az g1 80 h1 λh2=>
 ∃n2,cellOf h2 (Addr.add ⟨h1.size,0,none⟩ 4)=some (vI n2)/\
 C.eJ n1 1 (wI (n2-1)) h2 λr1 h3=>
 ∃b1,r1 = .bool b1/\
 K (.bool b1) h3
theorem jz.ok{g1 n1 K h}(x:jz g1 n1 K h):C.jz g1 n1 h K:=fz Tryz.func221 x
def ly(x1:LV)(K:KT)(h1:ad):=
 az x1 155 h1 λh2=>
 ∃aW,List.length aW=15/\aj h2 ⟨h1.size,0,none⟩ aW/\
 C.pf aW h2 λr1 h3=>
 ∃b1,r1 = .bool b1/\
 bif(!b1)then(
 K (.tuple #[vS none 0 0,vI 111]) h3)else(
 (0<=(64:Int)/\(64:Int)<=64/\(1:Int)*64<=281474976710656/\(64:Int)<=281474976710656)/\
 az (aN z5 (Int.toNat 64)) 5 h3 λh4=>
 ∃n1,cellOf h4 (Addr.add ⟨h1.size,0,none⟩ 0)=some (vI n1)/\
 C.jQ (some ⟨h3.size,0,none⟩) (Int.toNat 64) (Int.toNat 64) 0 1 (IntKind.wrap .u64 (n1)) h4 λr2 h5=>
 ∃n2,r2 = vI n2/\
 ∃n3,cellOf h5 (Addr.add ⟨h1.size,0,none⟩ 1)=some (vI n3)/\
 C.jQ (some ⟨h3.size,0,none⟩) (Int.toNat 64) (Int.toNat 64) 2 2 (IntKind.wrap .u64 (n3)) h5 λr3 h6=>
 ∃n4,r3 = vI n4/\
 ∃n5,cellOf h6 (Addr.add ⟨h1.size,0,none⟩ 2)=some (vI n5)/\
 C.jQ (some ⟨h3.size,0,none⟩) (Int.toNat 64) (Int.toNat 64) 4 4 (IntKind.wrap .u64 (n5)) h6 λr4 h7=>
 ∃n6,r4 = vI n6/\
 ∃cH,List.length cH=15/\aj h7 ⟨h1.size,0,none⟩ cH/\
 C.jC cH h7 λr5 h8=>
 ∃fV,r5 = .agg ⟨fV⟩/\
 ∃(I1:Int->ad->Prop) (M1:Int->ad->Nat),I1 0 h8/\
 ∀(n7:Int),∀h9:ad,I1 n7 h9->
 bif(decide (n7<12))then(
 (0<=n7/\n7<(12:Int))/\
 ∃n8,fV[(Int.toNat n7)]?=some (vI n8)/\
 C.jQ (some ⟨h3.size,0,none⟩) (Int.toNat 64) (Int.toNat 64) (wI (8+(wI (4*n7)))) 4 (IntKind.wrap .u64 (n8)) h9 λr6 cB=>
 ∃n9,r6 = vI n9/\
 I1 (wI (n7+1)) cB/\M1 (wI (n7+1)) cB<M1 n7 h9)else(
 K (.tuple #[vS (some ⟨h3.size,0,none⟩) (Int.toNat 64) (Int.toNat 64),vI 0]) h9))
theorem ly.ok{x1 K h}(x:ly x1 K h):C.ly x1 h K:=fk (fun|8=>([4,27],[(28,.int .i64)])|_=>([],[])) o0 Tryz.func222 x
def kX(t1:OA)(g1:LV)(n1:Int)(K:KT)(h1:ad):=
 az g1 80 h1 λh2=>
 ∃aW,List.length aW=5/\aj h2 ⟨h1.size,0,none⟩ aW/\
 C.lB aW n1 h2 λr1 h3=>
 ∃n2 n3 n4,r1 = .tuple #[vI n2,vI n3,vI n4]/\
 bif(n4 != 0)then(
 K (.tuple #[vI 0,vS none 0 0,vI 0,vI n4]) h3)else(
 C.cF t1 n2 h3 λr2 h4=>
 ∃aI aF aT n5,r2 = .tuple #[vS aI aF aT,vI n5]/\
 K (.tuple #[vI n2,vS aI aF aT,vI n3,vI n5]) h4)
theorem kX.ok{t1 g1 n1 K h}(x:kX t1 g1 n1 K h):C.kX t1 g1 n1 h K:=fz Tryz.func223 x
def gB.k1(t1:OA)(k1:Int)(h1 h2 h3 h7:ad)(K:KT):=
 C.ca t1 h7 λr1 h8=>
 ∃n1 n2,r1 = .tuple #[vI n1,vI n2]/\
 ∃aW,List.length aW=5/\aj h8 ⟨h1.size,0,none⟩ aW/\
 ∃cH,List.length cH=15/\aj h8 ⟨h2.size,0,none⟩ cH/\
 C.fe t1 aW cH k1 h8 λr2 h9=>
 ∃fV n3 n4,r2 = .tuple #[.agg ⟨fV⟩,vI n3,vI n4]/\
 aM gv 155 fV 15 h9 λbQ=>
 bif(n4 != 0)then(
 C.bu t1 n1 bQ λr3 cG=>
 ∃n5,r3 = vI n5/\
 ax ⟨h3.size,0,none⟩ gv 15 cG λcg=>
 ∃fv,List.length fv=15/\aj cg ⟨h3.size,0,none⟩ fv/\
 K (.tuple #[.agg ⟨fv⟩,vI 0,vI n4]) cg)else(
 ∃kR,List.length kR=15/\aj bQ ⟨h9.size,0,none⟩ kR/\
 ax ⟨h3.size,0,none⟩ kR 15 bQ λcM=>
 ∃kE,List.length kE=15/\aj cM ⟨h3.size,0,none⟩ kE/\
 K (.tuple #[.agg ⟨kE⟩,vI n3,vI 0]) cM)
def gB(t1:OA)(g1 x1:LV)(k1:Int)(K:KT)(h1:ad):=
 az g1 80 h1 λh2=>
 az x1 155 h2 λh3=>
 az gv 155 h3 λh4=>
 bif(decide (k1<0))then(
 ax ⟨h3.size,0,none⟩ gv 15 h4 λh5=>
 ∃bL,List.length bL=15/\aj h5 ⟨h3.size,0,none⟩ bL/\
 K (.tuple #[.agg ⟨bL⟩,vI 0,vI 101]) h5)else(
 bif(decide (k1>=16522))then(
 ax ⟨h3.size,0,none⟩ gv 15 h4 λh6=>
 ∃dY,List.length dY=15/\aj h6 ⟨h3.size,0,none⟩ dY/\
 K (.tuple #[.agg ⟨dY⟩,vI 0,vI 101]) h6)else(
 gB.k1 t1 k1 h1 h2 h3 h4 K))
set_option maxRecDepth 1000000 in
set_option maxRecDepth 1000000 in
theorem gB.ok{t1 g1 x1 k1 K h}(x:gB t1 g1 x1 k1 K h):C.gB t1 g1 x1 k1 h K:=fz Tryz.func224 x
def gC(t1:OA)(g1:LV)(n1:Int)(x1:LV)(K:KT)(h1:ad):=
 az g1 80 h1 λh2=>
 az x1 155 h2 λh3=>
 ∃aW,List.length aW=5/\aj h3 (bA h1) aW/\
 C.dA aW n1 h3 λr1 h4=>
 ∃n2 n3 n4,r1 = .tuple #[vI n2,vI n3,vI n4]/\
 bif(n4 != 0)then(
 K (vI n4) h4)else(
 ∃cH,List.length cH=15/\aj h4 (bA h2) cH/\
 C.fu cH h4 λr2 h5=>
 ∃aI aF aT n5,r2 = .tuple #[vS aI aF aT,vI n5]/\
 bif(n5 != 0)then(
 K (vI n5) h5)else(
 C.aD t1 n2 h5 λr3 h6=>
 ∃dP dB ff n6,r3 = .tuple #[vS dP dB ff,vI n6]/\
 bif(n6 != 0)then(
 K (vI n6) h6)else(
 ∃(I1:Int->ad->Prop) (M1:Int->ad->Nat),I1 0 h6/\
 ∀(i1:Int),∀h7:ad,I1 i1 h7->
 bif(decide (i1<64))then(
 (0<=i1/\i1<(aF:Int))/\
 ae aI λp1=>
 ∃n7,cellOf h7 (p1.add (Int.toNat i1))=some (.int .u8 n7)/\
 (0<=(wI (n3+i1))/\(wI (n3+i1))<(dB:Int))/\
 ae dP λp2=>
 aO (p2.add (Int.toNat (wI (n3+i1)))) (.int .u8 n7) h7 λh8=>
 I1 (wI (i1+1)) h8/\M1 (wI (i1+1)) h8<M1 i1 h7)else(
 C.aC t1 n2 dP dB ff h7 λr4 h9=>
 ∃n8,r4 = vI n8/\
 K (vI n8) h9))))
theorem gC.ok{t1 g1 n1 x1 K h}(x:gC t1 g1 n1 x1 K h):C.gC t1 g1 n1 x1 h K:=fk (fun|11=>([0,9,10,12,14],[(16,.int .i64)])|_=>([],[])) o0 Tryz.func225 x
def bN(bj cU kF:OA)(K:KT)(h1:ad):=
 ae bj λp1=>
 ∃v1,cellOf h1 p1=some (v1)/\
 ae cU λp2=>
 ∃n1,cellOf h1 p2=some (vI n1)/\
 cT Tryz.prog v1 [vI n1] h1 λr1 h2=>
 r1 = .tuple #[]/\
 ae cU λp3=>
 ∃n2,cellOf h2 p3=some (vI n2)/\
 bif(n2 != 0)then(
 ae kF λp4=>
 ax p4 gv 15 h2 λh3=>
 K (.tuple #[]) h3)else(
 K (.tuple #[]) h2)
def bN.lo : Nat->List Nat×List (Nat×Ty):=λn=>match n with|_=>([],[])
def bN.od : Nat->Od:=λn=>match n with|_=>.nil
theorem bN.eq(bj:OA)(cU:OA)(kF:OA)(K:KT)(h:ad):UO (cx bN.lo bN.od) Tryz.f226 (Tryz.f226.body.getD .skip) [vP bj,vP cU,vP kF] K h=bN bj cU kF K h:=by kernel_rfl
theorem bN.LS : FZ (cx bN.lo bN.od) Tryz.f226 (Tryz.f226.body.getD .skip) 3=true:=by kernel_rfl
theorem bN.CN(hx:bN bj cU kF (λ_ h'=>K h') h):D.bN bj cU kF h K:=
 Dg (JJ _ _) Tryz.func226 (by kernel_rfl) bN.LS (by rw[bN.eq];exact hx)
def iF(f1:OA)(fK:Int)(K:KT)(h1:ad):=
 C.fP f1 fK h1 λr1 h2=>
 ∃n1,r1 = vI n1/\
 bif(n1 != 0)then(
 K (vI n1) h2)else(
 ae f1 λp1=>
 ∃q1,cellOf h2 (p1.add 0)=some (vP q1)/\
 ae f1 λp2=>
 ∃aW,List.length aW=5/\aj h2 (p2.add 1) aW/\
 C.kr q1 aW fK h2 λr2 h3=>
 ∃n2,r2 = vI n2/\
 K (vI n2) h3)
theorem iF.ok{f1 fK K h}(x:iF f1 fK K h):C.iF f1 fK h K:=fk l0 (fun|4=>(oS 0 10 (.op 10 [] .nil))|_=>.nil) Tryz.func227 x
def dF.k1(sO ke:Bool)(n2:Int)(h3:ad)(I1:Bool->Bool->Int->ad->Prop)(M1:Bool->Bool->Int->ad->Nat)(b1:Bool)(h6:ad)(K:KT):=
 bif sO then(
 bif ke then(
 I1 true true (wI (n2+1)) h6/\M1 true true (wI (n2+1)) h6<M1 sO ke n2 h3)else(
 I1 true b1 (wI (n2+1)) h6/\M1 true b1 (wI (n2+1)) h6<M1 sO ke n2 h3))else(
 bif ke then(
 I1 (!b1) true (wI (n2+1)) h6/\M1 (!b1) true (wI (n2+1)) h6<M1 sO ke n2 h3)else(
 I1 (!b1) b1 (wI (n2+1)) h6/\M1 (!b1) b1 (wI (n2+1)) h6<M1 sO ke n2 h3))
def dF(f1:OA)(fO kB:Int)(Gf:Value)(K:KT)(h1:ad):=
 C.fE f1 fO h1 λr1 h2=>
 ∃aI aF aT dP dB ff n1,r1 = .tuple #[vS aI aF aT,vS dP dB ff,vI n1]/\
 bif(n1 != 0)then(
 K (.tuple #[.bool false,vI n1]) h2)else(
 ∃(I1:Bool->Bool->Int->ad->Prop) (M1:Bool->Bool->Int->ad->Nat),I1 false false 0 h2/\
 ∀(sO:Bool) (ke:Bool) (n2:Int),∀h3:ad,I1 sO ke n2 h3->
 bif(decide (n2<(dB:Int)))then(
 (0<=n2/\n2<(dB:Int))/\
 ae dP λp1=>
 ∃n3,cellOf h3 (p1.add (Int.toNat n2))=some (vI n3)/\
 bif(n3==0)then(
 I1 sO ke (wI (n2+1)) h3/\M1 sO ke (wI (n2+1)) h3<M1 sO ke n2 h3)else(
 bif(decide (n2<kB))then(
 I1 true ke (wI (n2+1)) h3/\M1 true ke (wI (n2+1)) h3<M1 sO ke n2 h3)else(
 cT Tryz.prog Gf [vI n2,vI n3] h3 λr2 h4=>
 ∃b1 n4,r2 = .tuple #[.bool b1,vI n4]/\
 bif(n4 != 0)then(
 K (.tuple #[.bool false,vI n4]) h4)else(
 bif b1 then(
 C.jQ aI aF aT (wI (4*n2)) 4 0 h4 λr3 h5=>
 ∃n5,r3 = vI n5/\
 dF.k1 sO ke n2 h3 I1 M1 b1 h5 K)else(
 dF.k1 sO ke n2 h3 I1 M1 b1 h4 K)))))else(
 bif(!sO)then(
 ae f1 λp2=>
 ∃q1,cellOf h3 (p2.add 0)=some (vP q1)/\
 ae f1 λp3=>
 ∃aW,List.length aW=5/\aj h3 (p3.add 1) aW/\
 C.kr q1 aW fO h3 λr4 h7=>
 ∃n6,r4 = vI n6/\
 K (.tuple #[.bool false,vI n6]) h7)else(
 bif ke then(
 ae f1 λp4=>
 ∃q2,cellOf h3 (p4.add 0)=some (vP q2)/\
 C.aY q2 fO aI aF aT h3 λr5 h8=>
 ∃n7,r5 = vI n7/\
 K (.tuple #[.bool true,vI n7]) h8)else(
 K (.tuple #[.bool true,vI 0]) h3))))
theorem dF.ok{f1 fO kB Gf K h}(x:dF f1 fO kB Gf K h):C.dF f1 fO kB Gf h K:=fk (fun|6=>([0,1,2,3,10,29,30],[(13,.bool),(14,.bool),(31,.int .i64)])|_=>([],[])) (fun|19=>(oS 0 11 (.op 11 [] .nil))|_=>.nil) Tryz.func228 x
def kP(f1:OA)(x1 fK:Int)(K:KT)(h1:ad):=
 C.iF f1 fK h1 λr1 h2=>
 ∃n1,r1 = vI n1/\
 K (.tuple #[.bool true,vI n1]) h2
theorem kP.ok{f1 x1 fK K h}(x:kP f1 x1 fK K h):C.kP f1 x1 fK h K:=fz Tryz.func229 x
def oY(i1 fK:Int)(bj cU:OA)(K:KT)(h1:ad):=
 ae bj λp1=>
 ∃q1,cellOf h1 p1=some (vP q1)/\
 ae cU λp2=>
 ∃n1,cellOf h1 p2=some (vI n1)/\
 ae bj λp3=>
 ∃q2,cellOf h1 p3=some (vP q2)/\
 C.dF q1 fK (wI (n1-(wI (i1*128)))) (Value.func (.func 229) ⟨[vP q2]⟩ ⟨[]⟩) h1 λr1 h2=>
 ∃b1 n2,r1 = .tuple #[.bool b1,vI n2]/\
 K (.tuple #[.bool (!b1),vI n2]) h2
theorem oY.ok{i1 fK bj cU K h}(x:oY i1 fK bj cU K h):C.oY i1 fK bj cU h K:=fz Tryz.func230 x
def gD.k1(t1:OA)(k1:Int)(h1 h2 h3 h7:ad)(K:KT):=
 C.ca t1 h7 λr1 h8=>
 ∃n1 n2,r1 = .tuple #[vI n1,vI n2]/\
 ∃aW,List.length aW=5/\aj h8 ⟨h1.size,0,none⟩ aW/\
 ∃cH,List.length cH=15/\aj h8 ⟨h2.size,0,none⟩ cH/\
 C.bS t1 aW cH k1 h8 λr2 h9=>
 ∃fV n3,r2 = .tuple #[.agg ⟨fV⟩,vI n3]/\
 aM gv 155 fV 15 h9 λbQ=>
 bif(n3 != 0)then(
 C.bu t1 n1 bQ λr3 cG=>
 ∃n4,r3 = vI n4/\
 ax ⟨h3.size,0,none⟩ gv 15 cG λcg=>
 ∃fv,List.length fv=15/\aj cg ⟨h3.size,0,none⟩ fv/\
 K (.tuple #[.agg ⟨fv⟩,vI n3]) cg)else(
 ∃kR,List.length kR=15/\aj bQ ⟨h9.size,0,none⟩ kR/\
 ax ⟨h3.size,0,none⟩ kR 15 bQ λcM=>
 ∃kE,List.length kE=15/\aj cM ⟨h3.size,0,none⟩ kE/\
 K (.tuple #[.agg ⟨kE⟩,vI 0]) cM)
def gD(t1:OA)(g1 x1:LV)(k1:Int)(K:KT)(h1:ad):=
 az g1 80 h1 λh2=>
 az x1 155 h2 λh3=>
 az gv 155 h3 λh4=>
 bif(decide (k1<0))then(
 ax ⟨h3.size,0,none⟩ gv 15 h4 λh5=>
 ∃bL,List.length bL=15/\aj h5 ⟨h3.size,0,none⟩ bL/\
 K (.tuple #[.agg ⟨bL⟩,vI 101]) h5)else(
 bif(decide (k1>16522))then(
 ax ⟨h3.size,0,none⟩ gv 15 h4 λh6=>
 ∃dY,List.length dY=15/\aj h6 ⟨h3.size,0,none⟩ dY/\
 K (.tuple #[.agg ⟨dY⟩,vI 101]) h6)else(
 gD.k1 t1 k1 h1 h2 h3 h4 K))
set_option maxRecDepth 1000000 in
set_option maxRecDepth 1000000 in
theorem gD.ok{t1 g1 x1 k1 K h}(x:gD t1 g1 x1 k1 K h):C.gD t1 g1 x1 k1 h K:=fz Tryz.func231 x
def oZ(k1 fK:Int)(bj cU:OA)(K:KT)(h1:ad):=
 bif(fK==0)then(
 K (vI 0) h1)else(
 ae bj λp1=>
 ∃aI aF aT,cellOf h1 p1=some (vS aI aF aT)/\
 List.length ([vI k1,vI fK]:LV)=2/\
 az [vI k1,vI fK] 291 h1 λh2=>
 ∃aG,List.length aG=1*2/\ak h2 (some ⟨h1.size,0,none⟩) aG/\(∀v∈aG,v.oneCell'=true)/\
 aH Dn 291 aI aF aT 1 aG h2 λdP dB ff h3=>
 ae bj λp2=>
 aO p2 (vS dP dB ff) h3 λh4=>
 ae cU λp3=>
 ∃q1,cellOf h4 p3=some (vP q1)/\
 C.fP q1 fK h4 λr1 h5=>
 ∃n1,r1 = vI n1/\
 K (vI n1) h5)
theorem oZ.ok{k1 fK bj cU K h}(x:oZ k1 fK bj cU K h):C.oZ k1 fK bj cU h K:=fz Tryz.func232 x
def fP(f1:OA)(fK:Int)(K:KT)(h1:ad):=
 ae f1 λp1=>
 ∃n1,cellOf h1 (Addr.add (p1.add 1) 3)=some (vI n1)/\
 bif(decide (fK<n1))then(
 K (vI 100) h1)else(
 ae f1 λp2=>
 ∃n2,cellOf h1 (Addr.add (p2.add 1) 0)=some (vI n2)/\
 bif(decide (fK>=n2))then(
 K (vI 100) h1)else(
 K (vI 0) h1))
theorem fP.ok{f1 fK K h}(x:fP f1 fK K h):C.fP f1 fK h K:=fz Tryz.func233 x
def j8.k1(vm:Value)(dP:OA)(dB:Nat)(e1 i1:Int)(h6:ad)(I1:Int->Int->ad->Prop)(M1:Int->Int->ad->Nat)(K:KT):=
 (0<=i1/\i1<(dB:Int))/\
 ae dP λp4=>
 ∃n2,cellOf h6 (p4.add (Int.toNat i1))=some (vI n2)/\
 cT Tryz.prog vm [vI i1,vI n2] h6 λr2 h7=>
 ∃n3,r2 = vI n3/\
 I1 n3 (wI (i1+1)) h7/\M1 n3 (wI (i1+1)) h7<M1 e1 i1 h6
def j8(fO:Int)(vm:Value)(bj cU:OA)(K:KT)(h1:ad):=
 bif(fO==0)then(
 K (vI 0) h1)else(
 ae bj λp1=>
 ∃q1,cellOf h1 p1=some (vP q1)/\
 C.fE q1 fO h1 λr1 h2=>
 ∃aI aF aT dP dB ff n1,r1 = .tuple #[vS aI aF aT,vS dP dB ff,vI n1]/\
 ae cU λp2=>
 ∃kD j9 lD,cellOf h2 p2=some (vS kD j9 lD)/\
 az [vI fO] 3 h2 λh3=>
 ∃aG,List.length aG=1*1/\ak h3 (some ⟨h2.size,0,none⟩) aG/\(∀v∈aG,v.oneCell'=true)/\
 aH QH 3 kD j9 lD 1 aG h3 λuo uq vn h4=>
 ae cU λp3=>
 aO p3 (vS uo uq vn) h4 λh5=>
 ∃(I1:Int->Int->ad->Prop) (M1:Int->Int->ad->Nat),I1 n1 0 h5/\
 ∀(e1:Int) (i1:Int),∀h6:ad,I1 e1 i1 h6->
 bif(decide (i1<(dB:Int)))then(
 bif(e1==0)then(
 j8.k1 vm dP dB e1 i1 h6 I1 M1 K)else(
 K (vI e1) h6))else(
 K (vI e1) h6))
theorem j8.ok{fO vm bj cU K h}(x:j8 fO vm bj cU K h):C.j8 fO vm bj cU h K:=fk (fun|6=>([1,8],[(9,.int .i64),(10,.int .i64)])|_=>([],[])) o0 Tryz.func234 x
def fE(f1:OA)(fO:Int)(K:KT)(h1:ad):=
 C.fP f1 fO h1 λr1 h2=>
 ∃n1,r1 = vI n1/\
 bif(n1 != 0)then(
 K (.tuple #[vS none 0 0,vS none 0 0,vI n1]) h2)else(
 ae f1 λp1=>
 ∃q1,cellOf h2 (p1.add 0)=some (vP q1)/\
 C.cF q1 fO h2 λr2 h3=>
 ∃aI aF aT n2,r2 = .tuple #[vS aI aF aT,vI n2]/\
 bif(n2 != 0)then(
 K (.tuple #[vS none 0 0,vS none 0 0,vI n2]) h3)else(
 (0<=(128:Int)/\(128:Int)<=128/\(8:Int)*128<=281474976710656/\(128:Int)<=281474976710656)/\
 az (aN z3 (Int.toNat 128)) 3 h3 λh4=>
 ∃(I1:Int->ad->Prop) (M1:Int->ad->Nat),I1 0 h4/\
 ∀(n3:Int),∀h5:ad,I1 n3 h5->
 bif(decide (n3<((Int.toNat 128):Int)))then(
 C.rE aI aF aT (wI (4*n3)) 4 h5 λr3 h6=>
 ∃n4 n5,r3 = .tuple #[.int .u64 n4,vI n5]/\
 (0<=n3/\n3<((Int.toNat 128):Int))/\
 aO (Addr.add ⟨h3.size,0,none⟩ (Int.toNat n3)) (vI (wI (n4))) h6 λh7=>
 I1 (wI (n3+1)) h7/\M1 (wI (n3+1)) h7<M1 n3 h5)else(
 K (.tuple #[vS aI aF aT,vS (some ⟨h3.size,0,none⟩) (Int.toNat 128) (Int.toNat 128),vI 0]) h5)))
theorem fE.ok{f1 fO K h}(x:fE f1 fO K h):C.fE f1 fO h K:=fk (fun|9=>([8,10,34],[(35,.int .i64)])|_=>([],[])) o0 Tryz.func235 x
def o9(i1 fK:Int)(bj:OA)(K:KT)(h1:ad):=
 ae bj λp1=>
 ∃v1,cellOf h1 p1=some (v1)/\
 cT Tryz.prog v1 [vI (wI (10+i1)),vI fK] h1 λr1 h2=>
 ∃n1,r1 = vI n1/\
 K (vI n1) h2
theorem o9.ok{i1 fK bj K h}(x:o9 i1 fK bj K h):C.o9 i1 fK bj h K:=fz Tryz.func236 x
def pd(i1 fO:Int)(bj cU:OA)(K:KT)(h1:ad):=
 az [vI i1] 3 h1 λh2=>
 ae bj λp1=>
 ∃v1,cellOf h2 p1=some (v1)/\
 cT Tryz.prog v1 [vI fO,.func (.func 238) #[] ⟨[vP cU,vP (some ⟨h1.size,0,none⟩)]⟩] h2 λr1 h3=>
 ∃n1,r1 = vI n1/\
 K (vI n1) h3
theorem pd.ok{i1 fO bj cU K h}(x:pd i1 fO bj cU K h):C.pd i1 fO bj cU h K:=fz Tryz.func237 x
def kQ(j1 fK:Int)(bj cU:OA)(K:KT)(h1:ad):=
 ae bj λp1=>
 ∃v1,cellOf h1 p1=some (v1)/\
 ae cU λp2=>
 ∃n1,cellOf h1 p2=some (vI n1)/\
 cT Tryz.prog v1 [vI (wI ((wI (138+(wI (n1*128))))+j1)),vI fK] h1 λr1 h2=>
 ∃n2,r1 = vI n2/\
 K (vI n2) h2
theorem kQ.ok{j1 fK bj cU K h}(x:kQ j1 fK bj cU K h):C.kQ j1 fK bj cU h K:=fz Tryz.func238 x
def bH.k1(a1:OA)(h7:ad)(K:KT):=
 ae a1 λp7=>
 ∃n5,cellOf h7 (p7.add 8)=some (vI n5)/\
 ae a1 λp8=>
 aO (p8.add 8) (vI (wI (n5+1))) h7 λh8=>
 K (.tuple #[]) h8
def bH(a1:OA)(n1:Int)(K:KT)(h1:ad):=
 ae a1 λp1=>
 ∃aW,List.length aW=5/\aj h1 (p1.add 1) aW/\
 C.cZ aW n1 h1 λr1 h2=>
 ∃n2,r1 = vI n2/\
 ae a1 λp2=>
 aO (p2.add 9) (vI n2) h2 λh3=>
 ae a1 λp3=>
 ∃n3,cellOf h3 (p3.add 9)=some (vI n3)/\
 bif(n3==0)then(
 bif(n1 != 0)then(
 ae a1 λp4=>
 ∃aI aF aT,cellOf h3 (p4.add 6)=some (vS aI aF aT)/\
 ae a1 λp5=>
 ∃n4,cellOf h3 (p5.add 8)=some (vI n4)/\
 List.length ([vI n4,vI n1]:LV)=2/\
 az [vI n4,vI n1] 291 h3 λh4=>
 (cellOf h4 (p4.add 6)=some (vS aI aF aT))/\
 ∃aG,List.length aG=1*2/\ak h4 (some ⟨h3.size,0,none⟩) aG/\(∀v∈aG,v.oneCell'=true)/\
 aH Dn 291 aI aF aT 1 aG h4 λdP dB ff h5=>
 ae a1 λp6=>
 aO (p6.add 6) (vS dP dB ff) h5 λh6=>
 bH.k1 a1 h6 K)else(
 bH.k1 a1 h3 K))else(
 bH.k1 a1 h3 K)
theorem bH.ok{a1 n1 K h}(x:bH a1 n1 K h):C.bH a1 n1 h K:=fk l0 (fun|2=>(oS 0 11 (.op 11 [4] (.op 12 [] (.op 13 [] (.op 14 [] (.op 15 [] .nil))))))|_=>.nil) Tryz.func239 x
def cP.k1(a1 aI:OA)(aF:Nat)(i1:Int)(h4:ad)(I1:Int->ad->Prop)(M1:Int->ad->Nat)(K:KT):=
 (0<=i1/\i1<(aF:Int))/\
 ae aI λp3=>
 ∃n3,cellOf h4 (p3.add (Int.toNat i1))=some (vI n3)/\
 C.bH a1 n3 h4 λr2 h5=>
 r2 = .tuple #[]/\
 I1 (wI (i1+1)) h5/\M1 (wI (i1+1)) h5<M1 i1 h4
def cP(a1:OA)(n1 kB:Int)(K:KT)(h1:ad):=
 ae a1 λp1=>
 aO (p1.add 8) (vI kB) h1 λh2=>
 C.bV a1 n1 h2 λr1 h3=>
 ∃aI aF aT,r1 = vS aI aF aT/\
 ∃(I1:Int->ad->Prop) (M1:Int->ad->Nat),I1 0 h3/\
 ∀(i1:Int),∀h4:ad,I1 i1 h4->
 bif(decide (i1<128))then(
 ae a1 λp2=>
 ∃n2,cellOf h4 (p2.add 9)=some (vI n2)/\
 bif(n2==0)then(
 cP.k1 a1 aI aF i1 h4 I1 M1 K)else(
 K (.tuple #[]) h4))else(
 K (.tuple #[]) h4)
theorem cP.ok{a1 n1 kB K h}(x:cP a1 n1 kB K h):C.cP a1 n1 kB h K:=fk (fun|3=>([0,6],[(7,.int .i64)])|_=>([],[])) o0 Tryz.func240 x
def bV.k1(a1:OA)(n1:Int)(h1 h4:ad)(K:KT):=
 ae a1 λp4=>
 ∃aI aF aT,cellOf h4 (p4.add 7)=some (vS aI aF aT)/\
 az [vI n1] 3 h4 λh5=>
 ∃aG,List.length aG=1*1/\ak h5 (some ⟨h4.size,0,none⟩) aG/\(∀v∈aG,v.oneCell'=true)/\
 aH QH 3 aI aF aT 1 aG h5 λdP dB ff h6=>
 ae a1 λp5=>
 aO (p5.add 7) (vS dP dB ff) h6 λh7=>
 ae a1 λp6=>
 ∃q1,cellOf h7 (p6.add 0)=some (vP q1)/\
 C.eT q1 n1 h7 λr2 h8=>
 ∃kD j9 lD n4,r2 = .tuple #[vS kD j9 lD,vI n4]/\
 ae a1 λp7=>
 aO (p7.add 9) (vI n4) h8 λh9=>
 bif(n4 != 0)then(
 K (vS (some ⟨h1.size,0,none⟩) (Int.toNat 128) (Int.toNat 128)) h9)else(
 K (vS kD j9 lD) h9)
def bV(a1:OA)(n1:Int)(K:KT)(h1:ad):=
 (0<=(128:Int)/\(128:Int)<=128/\(8:Int)*128<=281474976710656/\(128:Int)<=281474976710656)/\
 az (aN z3 (Int.toNat 128)) 3 h1 λh2=>
 ae a1 λp1=>
 ∃aW,List.length aW=5/\aj h2 (p1.add 1) aW/\
 C.cZ aW n1 h2 λr1 h3=>
 ∃n2,r1 = vI n2/\
 ae a1 λp2=>
 aO (p2.add 9) (vI n2) h3 λh4=>
 ae a1 λp3=>
 ∃n3,cellOf h4 (p3.add 9)=some (vI n3)/\
 bif(n3 != 0)then(
 K (vS (some ⟨h1.size,0,none⟩) (Int.toNat 128) (Int.toNat 128)) h4)else(
 bif(n1==0)then(
 K (vS (some ⟨h1.size,0,none⟩) (Int.toNat 128) (Int.toNat 128)) h4)else(
 bV.k1 a1 n1 h1 h4 K))
theorem bV.ok{a1 n1 K h}(x:bV a1 n1 K h):C.bV a1 n1 h K:=fz Tryz.func241 x
def mN(i1:Int)(bj cU:OA)(K:KT)(h1:ad):=
 ae bj λp1=>
 ∃n1,cellOf h1 p1=some (vI n1)/\
 ae bj λp2=>
 aO p2 (vI i1) h1 λh2=>
 bif(decide (i1<=n1))then(
 K (.bool true) h2)else(
 ae cU λp3=>
 ∃n2,cellOf h2 p3=some (vI n2)/\
 K (.bool (decide (i1>=n2))) h2)
theorem mN.ok{i1 bj cU K h}(x:mN i1 bj cU K h):C.mN i1 bj cU h K:=fz Tryz.func242 x
def qh(aR:OA)(aX bf:Nat)(K:KT)(h1:ad):=
 ∃(I1:Int->ad->Prop) (M1:Int->ad->Nat),I1 0 h1/\
 ∀(n1:Int),∀h2:ad,I1 n1 h2->
 bif(decide (n1<(aX:Int)))then(
 (0<=n1/\n1<(aX:Int))/\
 ae aR λp1=>
 ∃n2,cellOf h2 (p1.add (Int.toNat n1))=some (.int .u8 n2)/\
 bif(n2==0)then(
 K (vI n1) h2)else(
 I1 (wI (n1+1)) h2/\M1 (wI (n1+1)) h2<M1 n1 h2))else(
 K (vI (aX:Int)) h2)
theorem qh.ok{aR aX bf K h}(x:qh aR aX bf K h):C.qh aR aX bf h K:=fk (fun|2=>([0,5,6],[(7,.int .i64)])|_=>([],[])) o0 Tryz.func243 x
def py(aR:OA)(aX bf:Nat)(fU n1:Int)(K:KT)(h1:ad):=
 bif(decide (fU>=0))then(
 bif(decide (n1>=0))then(
 bif(decide (fU<=(aX:Int)))then(
 K (.bool (decide (n1<=(wI ((aX:Int)-fU))))) h1)else(
 K (.bool false) h1))else(
 K (.bool false) h1))else(
 K (.bool false) h1)
theorem py.ok{aR aX bf fU n1 K h}(x:py aR aX bf fU n1 K h):C.py aR aX bf fU n1 h K:=fz Tryz.func244 x
def jA(n1:Int)(K:KT)(h1:ad):=
 bif(decide (n1>=0))then(
 bif(decide (n1<9))then(
 (0<=n1/\n1<(9:Int))/\
 ∃b1,cellOf h1 (Addr.add ⟨0,0,none⟩ (Int.toNat n1))=some (.bool b1)/\
 K (.bool b1) h1)else(
 K (.bool false) h1))else(
 K (.bool false) h1)
theorem jA.ok{n1 K h}(x:jA n1 K h):C.jA n1 h K:=fz Tryz.func245 x
def mO(aR:OA)(aX bf:Nat)(K:KT)(h1:ad):=
 bif(Option.isNone aR)then(
 K (vS none 0 0) h1)else(
 az [] 5 h1 λh2=>
 ∃aG,List.length aG=aX*1/\ak h2 aR aG/\(∀v∈aG,v.oneCell'=true)/\
 aH tf 5 (some (bA h1)) 0 0 aX aG h2 λaI aF aT h3=>
 K (vS aI aF aT) h3)
theorem mO.ok{aR aX bf K h}(x:mO aR aX bf K h):C.mO aR aX bf h K:=fz Tryz.func246 x
def vW(aR:OA)(aX bf:Nat)(K:KT)(h1:ad):=
 ∃(I1:Int->Int->ad->Prop) (M1:Int->Int->ad->Nat),I1 4294967295 0 h1/\
 ∀(v1:Int) (n1:Int),∀h2:ad,I1 v1 n1 h2->
 bif(decide (n1<(aX:Int)))then(
 (0<=n1/\n1<(aX:Int))/\
 ae aR λp1=>
 ∃n2,cellOf h2 (p1.add (Int.toNat n1))=some (.int .u8 n2)/\
 C.qC v1 n2 h2 λr1 h3=>
 ∃n3,r1 = .int .u32 n3/\
 I1 n3 (wI (n1+1)) h3/\M1 n3 (wI (n1+1)) h3<M1 v1 n1 h2)else(
 K (.int .u32 (bw .xor .u32 (IntKind.max .u32) v1)) h2)
theorem vW.ok{aR aX bf K h}(x:vW aR aX bf K h):C.vW aR aX bf h K:=fk (fun|3=>([6,7],[(3,.int .u32),(8,.int .i64)])|_=>([],[])) o0 Tryz.func247 x
def pz.k1(a1 b1 n1:Int)(h1:ad)(K:KT):=
 C.oJ a1 n1 h1 λr1 h2=>
 ∃n2,r1 = .int .u32 n2/\
 K (.tuple #[.int .u32 (bw .xor .u32 n2 b1),vI 0]) h2
def pz(a1 b1 n1:Int)(K:KT)(h1:ad):=
 bif(decide (n1<0))then(
 K (.tuple #[.int .u32 0,vI 1]) h1)else(
 bif(decide (n1>1099511627776))then(
 K (.tuple #[.int .u32 0,vI 1]) h1)else(
 pz.k1 a1 b1 n1 h1 K))
theorem pz.ok{a1 b1 n1 K h}(x:pz a1 b1 n1 K h):C.pz a1 b1 n1 h K:=fz Tryz.func248 x
def qB(aR:OA)(aX bf:Nat)(fU n1:Int)(K:KT)(h1:ad):=
 bif(decide (n1<0))then(
 K (.tuple #[.bool false,vI 1]) h1)else(
 C.py aR aX bf fU n1 h1 λr1 h2=>
 ∃b1,r1 = .bool b1/\
 bif(!b1)then(
 K (.tuple #[.bool false,vI 20]) h2)else(
 (0<=fU/\fU<=(wI (fU+n1))/\(wI (fU+n1))<=(bf:Int))/\
 C.qi (if bf=(Int.toNat fU)then aR else Option.map (Addr.add · (Int.toNat fU)) aR) ((Int.toNat (wI (fU+n1)))-(Int.toNat fU)) (bf-(Int.toNat fU)) h2 λr2 h3=>
 ∃b2,r2 = .bool b2/\
 K (.tuple #[.bool b2,vI 0]) h3))
theorem qB.ok{aR aX bf fU n1 K h}(x:qB aR aX bf fU n1 K h):C.qB aR aX bf fU n1 h K:=fz Tryz.func249 x
def rE(aR:OA)(aX bf:Nat)(fU n1:Int)(K:KT)(h1:ad):=
 C.jA n1 h1 λr1 h2=>
 ∃b1,r1 = .bool b1/\
 bif(!b1)then(
 K (.tuple #[.int .u64 0,vI 1]) h2)else(
 C.py aR aX bf fU n1 h2 λr2 h3=>
 ∃b2,r2 = .bool b2/\
 bif(!b2)then(
 K (.tuple #[.int .u64 0,vI 20]) h3)else(
 ∃(I1:Int->Int->ad->Prop) (M1:Int->Int->ad->Nat),I1 0 0 h3/\
 ∀(v1:Int) (n2:Int),∀h4:ad,I1 v1 n2 h4->
 bif(decide (n2<n1))then(
 (0<=(wI (fU+n2))/\(wI (fU+n2))<(aX:Int))/\
 ae aR λp1=>
 ∃n3,cellOf h4 (p1.add (Int.toNat (wI (fU+n2))))=some (.int .u8 n3)/\
 if(wI (8*n2))<0 then False else
 I1 (bw .or .u64 v1 (IntKind.wrap .u64 (((IntKind.wrap .u64 (n3))*2 ^ min (Int.toNat (wI (8*n2))) 64)))) (wI (n2+1)) h4/\M1 (bw .or .u64 v1 (IntKind.wrap .u64 (((IntKind.wrap .u64 (n3))*2 ^ min (Int.toNat (wI (8*n2))) 64)))) (wI (n2+1)) h4<M1 v1 n2 h4)else(
 K (.tuple #[.int .u64 v1,vI 0]) h4)))
theorem rE.ok{aR aX bf fU n1 K h}(x:rE aR aX bf fU n1 K h):C.rE aR aX bf fU n1 h K:=fk (fun|7=>([0,1,20],[(8,.int .u64),(21,.int .i64)])|_=>([],[])) o0 Tryz.func250 x
def gE(n1 qf:Int)(K:KT)(h1:ad):=
 ∃(I1:Int->OA->Nat->Nat->Int->ad->Prop) (M1:Int->OA->Nat->Nat->Int->ad->Nat),I1 n1 none 0 0 0 h1/\
 ∀(n2:Int) (aR:OA) (aX:Nat) (bf:Nat) (i1:Int),∀h2:ad,I1 n2 aR aX bf i1 h2->
 bif(decide (i1<qf))then(
 az [.int .u8 (IntKind.wrap .u8 ((Int.tmod n2 256)))] 5 h2 λh3=>
 ∃aG,List.length aG=1*1/\ak h3 (some (bA h2)) aG/\(∀v∈aG,v.oneCell'=true)/\
 aH tf 5 aR aX bf 1 aG h3 λaI aF aT h4=>
 I1 (wI (Int.tdiv n2 256)) aI aF aT (wI (i1+1)) h4/\M1 (wI (Int.tdiv n2 256)) aI aF aT (wI (i1+1)) h4<M1 n2 aR aX bf i1 h2)else(
 K (vS aR aX bf) h2)
theorem gE.ok{n1 qf K h}(x:gE n1 qf K h):C.gE n1 qf h K:=fk (fun|3=>([1],[(0,.int .i64),(5,.slice),(6,.int .i64)])|_=>([],[])) o0 Tryz.func256 x
def ky(aR:OA)(aX bf:Nat)(K:KT)(h1:ad):=
 ∃(I1:Int->Int->ad->Prop) (M1:Int->Int->ad->Nat),I1 4294967295 0 h1/\
 ∀(c1:Int) (i1:Int),∀h2:ad,I1 c1 i1 h2->
 bif(decide (i1<(aX:Int)))then(
 (0<=i1/\i1<(aX:Int))/\
 ae aR λp1=>
 ∃n1,cellOf h2 (p1.add (Int.toNat i1))=some (.int .u8 n1)/\
 ∃(I2:Int->Int->ad->Prop) (M2:Int->Int->ad->Nat),I2 (bw .xor .u32 c1 (IntKind.wrap .u32 (n1))) 0 h2/\
 ∀(c2:Int) (k1:Int),∀h3:ad,I2 c2 k1 h3->
 bif(decide (k1<8))then(
 bif((Int.tmod c2 2)==1)then(
 I2 (bw .xor .u32 (IntKind.wrap .u32 (Int.tdiv c2 2)) 3988292384) (wI (k1+1)) h3/\M2 (bw .xor .u32 (IntKind.wrap .u32 (Int.tdiv c2 2)) 3988292384) (wI (k1+1)) h3<M2 c2 k1 h3)else(
 I2 (IntKind.wrap .u32 (Int.tdiv c2 2)) (wI (k1+1)) h3/\M2 (IntKind.wrap .u32 (Int.tdiv c2 2)) (wI (k1+1)) h3<M2 c2 k1 h3))else(
 I1 c2 (wI (i1+1)) h3/\M1 c2 (wI (i1+1)) h3<M1 c1 i1 h2))else(
 K (.int .u32 (bw .xor .u32 (IntKind.max .u32) c1)) h2)
theorem ky.ok{aR aX bf K h}(x:ky aR aX bf K h):C.ky aR aX bf h K:=fk (fun|3=>([0],[(3,.int .u32),(4,.int .i64)])|7=>([0,4],[(3,.int .u32),(5,.int .i64)])|_=>([],[])) o0 Tryz.func257 x
def dS.k2(lv:Value)(i1:Int)(h2:ad)(I1:Int->ad->Prop)(M1:Int->ad->Nat)(i3 i5:Int)(cB:ad)(K:KT):=
 bif(i5==i3)then(
 K (.tuple #[]) cB)else(
 cT Tryz.prog lv [vI i3,vI (wI (i5-i3))] cB λr5 bQ=>
 ∃b5,r5 = .bool b5/\
 bif(!b5)then(
 K (.tuple #[]) bQ)else(
 I1 i5 bQ/\M1 i5 bQ<M1 i1 h2))
def dS.k1(lv:Value)(bj:OA)(i1:Int)(h2:ad)(I1:Int->ad->Prop)(M1:Int->ad->Nat)(i3:Int)(h6:ad)(K:KT):=
 ∃(I3:Int->ad->Prop) (M3:Int->ad->Nat),I3 i3 h6/\
 ∀(i4:Int),∀h7:ad,I3 i4 h7->
 ae bj λp3=>
 ∃kD j9 lD,cellOf h7 p3=some (vS kD j9 lD)/\
 C.nX kD j9 lD i4 h7 λr3 h8=>
 ∃b3,r3 = .bool b3/\
 bif b3 then(
 ae bj λp4=>
 ∃uo uq vn,cellOf h8 p4=some (vS uo uq vn)/\
 C.qq uo uq vn i4 h8 λr4 h9=>
 ∃b4,r4 = .bool b4/\
 bif(!b4)then(
 I3 (wI (i4+1)) h9/\M3 (wI (i4+1)) h9<M3 i4 h7)else(
 dS.k2 lv i1 h2 I1 M1 i3 i4 h9 K))else(
 dS.k2 lv i1 h2 I1 M1 i3 i4 h8 K)
def dS(lv:Value)(bj:OA)(K:KT)(h1:ad):=
 ∃(I1:Int->ad->Prop) (M1:Int->ad->Nat),I1 0 h1/\
 ∀(i1:Int),∀h2:ad,I1 i1 h2->
 ∃(I2:Int->ad->Prop) (M2:Int->ad->Nat),I2 i1 h2/\
 ∀(i2:Int),∀h3:ad,I2 i2 h3->
 ae bj λp1=>
 ∃aI aF aT,cellOf h3 p1=some (vS aI aF aT)/\
 C.nX aI aF aT i2 h3 λr1 h4=>
 ∃b1,r1 = .bool b1/\
 bif b1 then(
 ae bj λp2=>
 ∃dP dB ff,cellOf h4 p2=some (vS dP dB ff)/\
 C.qq dP dB ff i2 h4 λr2 h5=>
 ∃b2,r2 = .bool b2/\
 bif b2 then(
 I2 (wI (i2+1)) h5/\M2 (wI (i2+1)) h5<M2 i2 h3)else(
 dS.k1 lv bj i1 h2 I1 M1 i2 h5 K))else(
 dS.k1 lv bj i1 h2 I1 M1 i2 h4 K)
theorem dS.ok{lv bj K h}(x:dS lv bj K h):C.dS lv bj h K:=fk (fun|1=>([0,1],[(3,.int .i64)])|4=>([0,1,4],[(3,.int .i64)])|_=>([],[])) o0 Tryz.func261 x
def lA(aR:OA)(aX bf:Nat)(K:KT)(h1:ad):=
 az [vS aR aX bf] 37 h1 λh2=>
 az gv 155 h2 λh3=>
 ∃aI aF aT,cellOf h3 ⟨h1.size,0,none⟩=some (vS aI aF aT)/\
 bif((aF:Int) != 64)then(
 ax ⟨h2.size,0,none⟩ gv 15 h3 λh4=>
 ∃bL,List.length bL=15/\aj h4 ⟨h2.size,0,none⟩ bL/\
 K (.tuple #[.agg ⟨bL⟩,vI 32]) h4)else(
 C.cK 0 1 (some ⟨h1.size,0,none⟩) h3 λr1 h5=>
 ∃n1,r1 = vI n1/\
 C.cK 2 2 (some ⟨h1.size,0,none⟩) h5 λr2 h6=>
 ∃n2,r2 = vI n2/\
 C.cK 4 4 (some ⟨h1.size,0,none⟩) h6 λr3 h7=>
 ∃n3,r3 = vI n3/\
 C.cK 48 4 (some ⟨h1.size,0,none⟩) h7 λr4 h8=>
 ∃n4,r4 = vI n4/\
 C.cK 52 4 (some ⟨h1.size,0,none⟩) h8 λr5 h9=>
 ∃n5,r5 = vI n5/\
 aM gv 155 [vI n1,vI n2,vI n3,vI 0,vI 0,vI 0,vI 0,vI 0,vI 0,vI 0,vI 0,vI 0,vI 0,vI n4,vI n5] 15 h9 λbQ=>
 ∃(I1:Int->ad->Prop) (M1:Int->ad->Nat),I1 0 bQ/\
 ∀(n6:Int),∀cG:ad,I1 n6 cG->
 bif(decide (n6<10))then(
 C.cK (wI (8+(wI (4*n6)))) 4 (some ⟨h1.size,0,none⟩) cG λr6 cg=>
 ∃n7,r6 = vI n7/\
 (0<=n6/\n6<(10:Int))/\
 aO (Addr.add (Addr.add ⟨h9.size,0,none⟩ 3) (Int.toNat n6)) (vI n7) cg λcM=>
 I1 (wI (n6+1)) cM/\M1 (wI (n6+1)) cM<M1 n6 cG)else(
 ∃dP dB ff,cellOf cG ⟨h1.size,0,none⟩=some (vS dP dB ff)/\
 C.qB dP dB ff 1 1 cG λr7 fg=>
 ∃b1 n8,r7 = .tuple #[.bool b1,vI n8]/\
 ∃kD j9 lD,cellOf fg ⟨h1.size,0,none⟩=some (vS kD j9 lD)/\
 C.qB kD j9 lD 56 8 fg λr8 iY=>
 ∃b2 n9,r8 = .tuple #[.bool b2,vI n9]/\
 bif(!b1)then(
 ax ⟨h2.size,0,none⟩ gv 15 iY λfw=>
 ∃dY,List.length dY=15/\aj fw ⟨h2.size,0,none⟩ dY/\
 K (.tuple #[.agg ⟨dY⟩,vI 111]) fw)else(
 bif(!b2)then(
 ax ⟨h2.size,0,none⟩ gv 15 iY λma=>
 ∃fv,List.length fv=15/\aj ma ⟨h2.size,0,none⟩ fv/\
 K (.tuple #[.agg ⟨fv⟩,vI 111]) ma)else(
 ∃aW,List.length aW=15/\aj iY ⟨h9.size,0,none⟩ aW/\
 C.pf aW iY λr9 gm=>
 ∃b3,r9 = .bool b3/\
 bif(!b3)then(
 ax ⟨h2.size,0,none⟩ gv 15 gm λiK=>
 ∃kE,List.length kE=15/\aj iK ⟨h2.size,0,none⟩ kE/\
 K (.tuple #[.agg ⟨kE⟩,vI 111]) iK)else(
 ∃cH,List.length cH=15/\aj gm ⟨h9.size,0,none⟩ cH/\
 ax ⟨h2.size,0,none⟩ cH 15 gm λnR=>
 ∃lF,List.length lF=15/\aj nR ⟨h2.size,0,none⟩ lF/\
 K (.tuple #[.agg ⟨lF⟩,vI 0]) nR)))))
theorem lA.ok{aR aX bf K h}(x:lA aR aX bf K h):C.lA aR aX bf h K:=fk (fun|6=>([1,2,4,5],[(27,.int .i64)])|_=>([],[])) o0 Tryz.func262 x
def m7(x1:LV)(x2:Int)(xA1:OA)(xL1 xC1:Nat)(K:KT)(h1:ad):=
 az x1 282 h1 λh2=>
 K (.tuple #[vI 0,vI 0]) h2
theorem m7.ok{x1 x2 xA1 xL1 xC1 K h}(x:m7 x1 x2 xA1 xL1 xC1 K h):C.m7 x1 x2 xA1 xL1 xC1 h K:=fz Tryz.func263 x
def dA.k1(n1:Int)(h1 h2:ad)(K:KT):=
 ∃n3,cellOf h2 (aS h1 2)=some (vI n3)/\
 K (.tuple #[vI (wI (n3+(wI (Int.tdiv n1 8)))),vI (wI ((Int.tmod n1 8)*64)),vI 0]) h2
def dA(g1:LV)(n1:Int)(K:KT)(h1:ad):=
 az g1 80 h1 λh2=>
 bif(decide (n1<1))then(
 K (.tuple #[vI 0,vI 0,vI 110]) h2)else(
 ∃n2,cellOf h2 (aS h1 4)=some (vI n2)/\
 bif(decide (n1>=n2))then(
 K (.tuple #[vI 0,vI 0,vI 110]) h2)else(
 dA.k1 n1 h1 h2 K))
theorem dA.ok{g1 n1 K h}(x:dA g1 n1 K h):C.dA g1 n1 h K:=fz Tryz.func265 x
def cJ.k1(aR:OA)(aX bf:Nat)(h1:ad)(x1:OA)(h9:ad)(K:KT):=
 ∃(I1:Int->ad->Prop) (M1:Int->ad->Nat),I1 0 h9/\
 ∀(i1:Int),∀cB:ad,I1 i1 cB->
 bif(decide (i1<10))then(
 (0<=(wI (8+(wI (4*i1))))/\(wI (8+(wI (4*i1))))<=(wI (12+(wI (4*i1))))/\(wI (12+(wI (4*i1))))<=(bf:Int))/\
 C.aU (if bf=(Int.toNat (wI (8+(wI (4*i1)))))then aR else Option.map (Addr.add · (Int.toNat (wI (8+(wI (4*i1)))))) aR) ((Int.toNat (wI (12+(wI (4*i1)))))-(Int.toNat (wI (8+(wI (4*i1)))))) (bf-(Int.toNat (wI (8+(wI (4*i1)))))) cB λr4 bQ=>
 ∃n4,r4 = vI n4/\
 ae x1 λp1=>
 (0<=i1/\i1<(10:Int))/\
 aO (Addr.add (p1.add 3) (Int.toNat i1)) (vI n4) bQ λcG=>
 I1 (wI (i1+1)) cG/\M1 (wI (i1+1)) cG<M1 i1 cB)else(
 (0<=(48:Int)/\(48:Int)<=(52:Int)/\(52:Int)<=(bf:Int))/\
 C.aU (if bf=(Int.toNat 48)then aR else Option.map (Addr.add · (Int.toNat 48)) aR) ((Int.toNat 52)-(Int.toNat 48)) (bf-(Int.toNat 48)) cB λr5 cg=>
 ∃n5,r5 = vI n5/\
 ae x1 λp2=>
 aO (p2.add 13) (vI n5) cg λcM=>
 (0<=(52:Int)/\(52:Int)<=(56:Int)/\(56:Int)<=(bf:Int))/\
 C.aU (if bf=(Int.toNat 52)then aR else Option.map (Addr.add · (Int.toNat 52)) aR) ((Int.toNat 56)-(Int.toNat 52)) (bf-(Int.toNat 52)) cM λr6 fg=>
 ∃n6,r6 = vI n6/\
 ae x1 λp3=>
 aO (p3.add 14) (vI n6) fg λiY=>
 ae x1 λp4=>
 ∃aW,List.length aW=15/\aj iY p4 aW/\
 C.fu aW iY λr7 fw=>
 ∃aI aF aT n7,r7 = .tuple #[vS aI aF aT,vI n7]/\
 bif(n7 != 0)then(
 ax (bA h1) gv 15 fw λma=>
 ∃dY,List.length dY=15/\aj ma (bA h1) dY/\
 K (.tuple #[.agg ⟨dY⟩,vI 111]) ma)else(
 ∃HV,aw fw aI aF HV/\
 ∃RU,aw fw aR aX RU/\
 bif(!((mkStr HV).toList==(mkStr RU).toList))then(
 ax (bA h1) gv 15 fw λgm=>
 ∃fv,List.length fv=15/\aj gm (bA h1) fv/\
 K (.tuple #[.agg ⟨fv⟩,vI 111]) gm)else(
 ae x1 λp5=>
 ∃cH,List.length cH=15/\aj fw p5 cH/\
 ax (bA h1) cH 15 fw λiK=>
 ∃kE,List.length kE=15/\aj iK (bA h1) kE/\
 K (.tuple #[.agg ⟨kE⟩,vI 0]) iK)))
def cJ(aR:OA)(aX bf:Nat)(K:KT)(h1:ad):=
 az gv 155 h1 λh2=>
 bif((aX:Int) != 64)then(
 ax (bA h1) gv 15 h2 λh3=>
 ∃bL,List.length bL=15/\aj h3 (bA h1) bL/\
 K (.tuple #[.agg ⟨bL⟩,vI 32]) h3)else(
 (0<=(0:Int)/\(0:Int)<=(1:Int)/\(1:Int)<=(bf:Int))/\
 (0<=(2:Int)/\(2:Int)<=(4:Int)/\(4:Int)<=(bf:Int))/\
 (0<=(4:Int)/\(4:Int)<=(8:Int)/\(8:Int)<=(bf:Int))/\
 (
 C.aU (if bf=(Int.toNat 0)then aR else Option.map (Addr.add · (Int.toNat 0)) aR) ((Int.toNat 1)-(Int.toNat 0)) (bf-(Int.toNat 0)) h2 λr1 h4=>
 ∃n1,r1 = vI n1/\
 (
 C.aU (if bf=(Int.toNat 2)then aR else Option.map (Addr.add · (Int.toNat 2)) aR) ((Int.toNat 4)-(Int.toNat 2)) (bf-(Int.toNat 2)) h4 λr2 h5=>
 ∃n2,r2 = vI n2/\
 (
 C.aU (if bf=(Int.toNat 4)then aR else Option.map (Addr.add · (Int.toNat 4)) aR) ((Int.toNat 8)-(Int.toNat 4)) (bf-(Int.toNat 4)) h5 λr3 h6=>
 ∃n3,r3 = vI n3/\
 aM gv 155 [vI n1,vI n2,vI n3,vI 0,vI 0,vI 0,vI 0,vI 0,vI 0,vI 0,vI 0,vI 0,vI 0,vI 0,vI 0] 15 h6 λh8=>
 cJ.k1 aR aX bf h1 (some (bA h6)) h8 K)/\
 az gv 155 h5 λnR=>
 C.aU (if bf=(Int.toNat 4)then aR else Option.map (Addr.add · (Int.toNat 4)) aR) ((Int.toNat 8)-(Int.toNat 4)) (bf-(Int.toNat 4)) nR λr8 nD=>
 ∃n8,r8 = vI n8/\
 ax (bA h5) [vI n1,vI n2,vI n8,vI 0,vI 0,vI 0,vI 0,vI 0,vI 0,vI 0,vI 0,vI 0,vI 0,vI 0,vI 0] 15 nD λjR=>
 cJ.k1 aR aX bf h1 (some (bA h5)) jR K)/\
 az gv 155 h4 λmu=>
 C.aU (if bf=(Int.toNat 2)then aR else Option.map (Addr.add · (Int.toNat 2)) aR) ((Int.toNat 4)-(Int.toNat 2)) (bf-(Int.toNat 2)) mu λr9 uH=>
 ∃n9,r9 = vI n9/\
 C.aU (if bf=(Int.toNat 4)then aR else Option.map (Addr.add · (Int.toNat 4)) aR) ((Int.toNat 8)-(Int.toNat 4)) (bf-(Int.toNat 4)) uH λIU qu=>
 ∃n10,IU = vI n10/\
 ax (bA h4) [vI n1,vI n9,vI n10,vI 0,vI 0,vI 0,vI 0,vI 0,vI 0,vI 0,vI 0,vI 0,vI 0,vI 0,vI 0] 15 qu λtx=>
 cJ.k1 aR aX bf h1 (some (bA h4)) tx K)/\
 az gv 155 h2 λAc=>
 C.aU (if bf=(Int.toNat 0)then aR else Option.map (Addr.add · (Int.toNat 0)) aR) ((Int.toNat 1)-(Int.toNat 0)) (bf-(Int.toNat 0)) Ac λYo IV=>
 ∃n11,Yo = vI n11/\
 C.aU (if bf=(Int.toNat 2)then aR else Option.map (Addr.add · (Int.toNat 2)) aR) ((Int.toNat 4)-(Int.toNat 2)) (bf-(Int.toNat 2)) IV λPg EK=>
 ∃n12,Pg = vI n12/\
 C.aU (if bf=(Int.toNat 4)then aR else Option.map (Addr.add · (Int.toNat 4)) aR) ((Int.toNat 8)-(Int.toNat 4)) (bf-(Int.toNat 4)) EK λr13 wQ=>
 ∃n13,r13 = vI n13/\
 ax (bA h2) [vI n11,vI n12,vI n13,vI 0,vI 0,vI 0,vI 0,vI 0,vI 0,vI 0,vI 0,vI 0,vI 0,vI 0,vI 0] 15 wQ λDr=>
 cJ.k1 aR aX bf h1 (some (bA h2)) Dr K)
theorem cJ.ok{aR aX bf K h}(x:cJ aR aX bf K h):C.cJ aR aX bf h K:=fk (fun|5=>([0,2,4],[(5,.int .i64)])|_=>([],[])) (fun|3=>(.op 0 [] (.op 1 [] (.op 3 [] (.op 4 [] (.op 6 [] (.op 7 [] (.alt 2 [] (.alt 5 [] (.alt 8 [] (.op 9 [] (.op 10 [] (.op 11 [] .nil))) (.op 10 [] (.op 8 [] (.op 9 [] (.op 11 [] .nil))))) (.op 10 [] (.op 5 [] (.op 8 [] (.op 9 [] (.op 11 [] .nil)))))) (.op 10 [] (.op 2 [] (.op 5 [] (.op 8 [] (.op 9 [] (.op 11 [] .nil)))))))))))))|_=>.nil) Tryz.func266 x
def iT(aR:OA)(aX bf:Nat)(K:KT)(h1:ad):=
 ∃(I1:OA->Nat->Nat->Int->ad->Prop) (M1:OA->Nat->Nat->Int->ad->Nat),I1 none 0 0 0 h1/\
 ∀(ju:OA) (hQ:Nat) (kC:Nat) (i1:Int),∀h2:ad,I1 ju hQ kC i1 h2->
 bif(decide (i1<128))then(
 (0<=(wI (4*i1))/\(wI (4*i1))<(aX:Int))/\
 ae aR λp1=>
 ∃n1,cellOf h2 (p1.add (Int.toNat (wI (4*i1))))=some (.int .u8 n1)/\
 (0<=(wI ((wI (4*i1))+1))/\(wI ((wI (4*i1))+1))<(aX:Int))/\
 ae aR λp2=>
 ∃n2,cellOf h2 (p2.add (Int.toNat (wI ((wI (4*i1))+1))))=some (.int .u8 n2)/\
 (0<=(wI ((wI (4*i1))+2))/\(wI ((wI (4*i1))+2))<(aX:Int))/\
 ae aR λp3=>
 ∃n3,cellOf h2 (p3.add (Int.toNat (wI ((wI (4*i1))+2))))=some (.int .u8 n3)/\
 (0<=(wI ((wI (4*i1))+3))/\(wI ((wI (4*i1))+3))<(aX:Int))/\
 ae aR λp4=>
 ∃n4,cellOf h2 (p4.add (Int.toNat (wI ((wI (4*i1))+3))))=some (.int .u8 n4)/\
 az [vI (wI ((wI ((wI ((wI (n1))+(wI ((wI (n2))*256))))+(wI ((wI (n3))*65536))))+(wI ((wI (n4))*16777216))))] 3 h2 λh3=>
 ∃aG,List.length aG=1*1/\ak h3 (some ⟨h2.size,0,none⟩) aG/\(∀v∈aG,v.oneCell'=true)/\
 aH QH 3 ju hQ kC 1 aG h3 λaI aF aT h4=>
 I1 aI aF aT (wI (i1+1)) h4/\M1 aI aF aT (wI (i1+1)) h4<M1 ju hQ kC i1 h2)else(
 K (vS ju hQ kC) h2)
set_option maxRecDepth 1000000 in
set_option maxRecDepth 1000000 in
theorem iT.ok{aR aX bf K h}(x:iT aR aX bf K h):C.iT aR aX bf h K:=fk (fun|3=>([0],[(3,.slice),(4,.int .i64)])|_=>([],[])) (fun|5=>(oS 0 36 (.op 36 [] .nil))|_=>.nil) Tryz.func267 x
def lZ(e1:Int)(bj cU kF:OA)(K:KT)(h1:ad):=
 bif(e1 != 0)then(
 ae bj λp1=>
 ∃n1,cellOf h1 p1=some (vI n1)/\
 bif(n1==0)then(
 ae cU λp2=>
 ∃q1,cellOf h1 p2=some (vP q1)/\
 ae kF λp3=>
 ∃n2,cellOf h1 p3=some (vI n2)/\
 C.ft q1 n2 h1 λr1 h2=>
 ∃n3,r1 = vI n3/\
 K (.tuple #[]) h2)else(
 K (.tuple #[]) h1))else(
 K (.tuple #[]) h1)
theorem lZ.ok{e1 bj cU kF K h}(x:lZ e1 bj cU kF K h):C.lZ e1 bj cU kF h K:=fz Tryz.func268 x
def sd(k1:Int)(K:KT)(h1:ad):=
 bif(decide (k1<10))then(
 List.length ([vI 0,vI k1]:LV)=2/\
 az [vI 0,vI k1] 282 h1 λh2=>
 K (vS (some ⟨h1.size,0,none⟩) 1 1) h2)else(
 bif(decide (k1<138))then(
 List.length ([vI 1,vI 0]:LV)=2/\
 List.length ([vI 3,vI (wI (k1-10))]:LV)=2/\
 az [vI 1,vI 0,vI 3,vI (wI (k1-10))] 282 h1 λh3=>
 K (vS (some ⟨h1.size,0,none⟩) 2 2) h3)else(
 List.length ([vI 2,vI 0]:LV)=2/\
 List.length ([vI 3,vI (wI (Int.tdiv (wI (k1-138)) 128))]:LV)=2/\
 List.length ([vI 3,vI (Int.tmod (wI (k1-138)) 128)]:LV)=2/\
 az [vI 2,vI 0,vI 3,vI (wI (Int.tdiv (wI (k1-138)) 128)),vI 3,vI (Int.tmod (wI (k1-138)) 128)] 282 h1 λh4=>
 K (vS (some ⟨h1.size,0,none⟩) 3 3) h4))
theorem sd.ok{k1 K h}(x:sd k1 K h):C.sd k1 h K:=fz Tryz.func269 x
def ix(f1:OA)(s1:LV)(fU:Int)(K:KT)(h1:ad):=
 az s1 282 h1 λh2=>
 ∃n1,cellOf h2 (Addr.add ⟨h1.size,0,none⟩ 0)=some (vI n1)/\
 bif(n1 != 3)then(
 ∃aW,List.length aW=2/\aj h2 ⟨h1.size,0,none⟩ aW/\
 C.jB f1 aW h2 λr1 h3=>
 ∃q1,r1 = vP q1/\
 ae q1 λp1=>
 ∃n2,cellOf h3 p1=some (vI n2)/\
 K (.tuple #[vI n2,vS none 0 0,vI 0]) h3)else(
 ae f1 λp2=>
 ∃q2,cellOf h2 (p2.add 0)=some (vP q2)/\
 C.cF q2 fU h2 λr2 h4=>
 ∃aI aF aT n3,r2 = .tuple #[vS aI aF aT,vI n3]/\
 bif(n3 != 0)then(
 K (.tuple #[vI 0,vS none 0 0,vI n3]) h4)else(
 ∃n4,cellOf h4 (Addr.add ⟨h1.size,0,none⟩ 1)=some (vI n4)/\
 C.rE aI aF aT (wI (4*n4)) 4 h4 λr3 h5=>
 ∃n5 n6,r3 = .tuple #[.int .u64 n5,vI n6]/\
 K (.tuple #[vI (wI (n5)),vS aI aF aT,vI 0]) h5))
theorem ix.ok{f1 s1 fU K h}(x:ix f1 s1 fU K h):C.ix f1 s1 fU h K:=fz Tryz.func270 x
def jB(f1:OA)(s1:LV)(K:KT)(h1:ad):=
 az s1 282 h1 λh2=>
 ∃n1,cellOf h2 (Addr.add ⟨h1.size,0,none⟩ 0)=some (vI n1)/\
 bif(n1==0)then(
 ∃n2,cellOf h2 (Addr.add ⟨h1.size,0,none⟩ 1)=some (vI n2)/\
 ae f1 λp1=>
 (0<=n2/\n2<(10:Int))/\
 K (vP (some (Addr.add (Addr.add (p1.add 6) 3) (Int.toNat n2)))) h2)else(
 bif(n1==1)then(
 ae f1 λp2=>
 K (vP (some (Addr.add (p2.add 6) 13))) h2)else(
 ae f1 λp3=>
 K (vP (some (Addr.add (p3.add 6) 14))) h2))
theorem jB.ok{f1 s1 K h}(x:jB f1 s1 K h):C.jB f1 s1 h K:=fk l0 (fun|3=>(oS 0 7 (.op 7 [] .nil))|_=>.nil) Tryz.func271 x
def eJ(v1 AA tM:Int)(K:KT)(h1:ad):=
 bif(decide (v1>=AA))then(
 K (.bool (decide (v1<=tM))) h1)else(
 K (.bool false) h1)
theorem eJ.ok{v1 AA tM K h}(x:eJ v1 AA tM K h):C.eJ v1 AA tM h K:=fz Tryz.func272 x
def pf(x1:LV)(K:KT)(h1:ad):=
 az x1 155 h1 λh2=>
 ∃aW,List.length aW=15/\aj h2 ⟨h1.size,0,none⟩ aW/\
 C.jC aW h2 λr1 h3=>
 ∃cH,r1 = .agg ⟨cH⟩/\
 ∃(I1:Int->ad->Prop) (M1:Int->ad->Nat),I1 0 h3/\
 ∀(n1:Int),∀h4:ad,I1 n1 h4->
 bif(decide (n1<12))then(
 (0<=n1/\n1<(12:Int))/\
 ∃n2,cH[(Int.toNat n1)]?=some (vI n2)/\
 C.eJ n2 0 4294967295 h4 λr2 h5=>
 ∃b1,r2 = .bool b1/\
 bif(!b1)then(
 K (.bool false) h5)else(
 I1 (wI (n1+1)) h5/\M1 (wI (n1+1)) h5<M1 n1 h4))else(
 ∃n3,cellOf h4 (Addr.add ⟨h1.size,0,none⟩ 0)=some (vI n3)/\
 bif(n3==0)then(
 ∃fV,List.length fV=15/\aj h4 ⟨h1.size,0,none⟩ fV/\
 du [(.int .i64),(.int .i64),(.int .i64),(.int .i64),(.int .i64),(.int .i64),(.int .i64),(.int .i64),(.int .i64),(.int .i64),(.int .i64),(.int .i64),(.int .i64),(.int .i64),(.int .i64)] fV gv=true/\
 K (.bool (dw fV gv)) h4)else(
 bif(n3==1)then(
 ∃n4,cellOf h4 (Addr.add ⟨h1.size,0,none⟩ 1)=some (vI n4)/\
 C.eJ n4 0 1000 h4 λr3 h6=>
 ∃b2,r3 = .bool b2/\
 bif b2 then(
 ∃n5,cellOf h6 (Addr.add ⟨h1.size,0,none⟩ 2)=some (vI n5)/\
 C.eJ n5 0 8459264 h6 λr4 h7=>
 ∃b3,r4 = .bool b3/\
 K (.bool b3) h7)else(
 K (.bool false) h6))else(
 bif(n3==2)then(
 ∃n6,cellOf h4 (Addr.add ⟨h1.size,0,none⟩ 1)=some (vI n6)/\
 C.eJ n6 2 65535 h4 λr5 h8=>
 ∃b4,r5 = .bool b4/\
 bif b4 then(
 ∃n7,cellOf h8 (Addr.add ⟨h1.size,0,none⟩ 2)=some (vI n7)/\
 C.eJ n7 0 8459264 h8 λr6 h9=>
 ∃b5,r6 = .bool b5/\
 bif b5 then(
 ∃n8,cellOf h9 (Addr.add ⟨h1.size,0,none⟩ 2)=some (vI n8)/\
 K (.bool ((Int.tmod n8 512)==0)) h9)else(
 K (.bool false) h9))else(
 K (.bool false) h8))else(
 bif(n3==3)then(
 ∃n9,cellOf h4 (Addr.add ⟨h1.size,0,none⟩ 1)=some (vI n9)/\
 C.eJ n9 1 1000 h4 λr7 cB=>
 ∃b6,r7 = .bool b6/\
 bif b6 then(
 ∃n10,cellOf cB (Addr.add ⟨h1.size,0,none⟩ 2)=some (vI n10)/\
 C.eJ n10 1 1024 cB λr8 bQ=>
 ∃b7,r8 = .bool b7/\
 K (.bool b7) bQ)else(
 K (.bool false) cB))else(
 K (.bool false) h4)))))
set_option maxRecDepth 1000000 in
set_option maxRecDepth 1000000 in
theorem pf.ok{x1 K h}(x:pf x1 K h):C.pf x1 h K:=fk (fun|2=>([1,6],[(7,.int .i64)])|_=>([],[])) o0 Tryz.func273 x
def jC(x1:LV)(K:KT)(h1:ad):=
 az x1 155 h1 λh2=>
 az ZG 326 h2 λh3=>
 az ZG 326 h3 λh4=>
 rP QH (some ⟨h3.size,0,none⟩) 12 (vS (some (Addr.add ⟨h1.size,0,none⟩ 3)) 10 10) h4 λn1 h5=>
 ∃n2,cellOf h5 (Addr.add ⟨h1.size,0,none⟩ 13)=some (vI n2)/\
 ∃n3,cellOf h5 (Addr.add ⟨h1.size,0,none⟩ 14)=some (vI n3)/\
 (0<=(10:Int)/\10<(12:Int))/\
 aO (Addr.add ⟨h3.size,0,none⟩ (Int.toNat 10)) (vI n2) h5 λh6=>
 (0<=(11:Int)/\11<(12:Int))/\
 aO (Addr.add ⟨h3.size,0,none⟩ (Int.toNat 11)) (vI n3) h6 λh7=>
 ∃aW,List.length aW=12/\aj h7 ⟨h3.size,0,none⟩ aW/\
 ax ⟨h2.size,0,none⟩ aW 12 h7 λh8=>
 ∃bL,List.length bL=12/\aj h8 ⟨h2.size,0,none⟩ bL/\
 K (.agg ⟨bL⟩) h8
theorem jC.ok{x1 K h}(x:jC x1 K h):C.jC x1 h K:=fk l0 (fun|2=>(.op 0 [] (.op 1 [] (.op 2 [] (.op 3 [] .nil))))|_=>.nil) Tryz.func274 x
def lB.k1(n1:Int)(h1 h2:ad)(K:KT):=
 ∃n3,cellOf h2 (Addr.add ⟨h1.size,0,none⟩ 2)=some (vI n3)/\
 K (.tuple #[vI (wI (n3+(wI (Int.tdiv n1 8)))),vI (wI ((Int.tmod n1 8)*64)),vI 0]) h2
def lB(g1:LV)(n1:Int)(K:KT)(h1:ad):=
 az g1 80 h1 λh2=>
 bif(decide (n1<1))then(
 K (.tuple #[vI 0,vI 0,vI 110]) h2)else(
 ∃n2,cellOf h2 (Addr.add ⟨h1.size,0,none⟩ 4)=some (vI n2)/\
 bif(decide (n1>=n2))then(
 K (.tuple #[vI 0,vI 0,vI 110]) h2)else(
 lB.k1 n1 h1 h2 K))
theorem lB.ok{g1 n1 K h}(x:lB g1 n1 K h):C.lB g1 n1 h K:=fz Tryz.func275 x
def fe.k1(t1:OA)(h1 h2 h3:ad)(aI:OA)(aF:Nat)(n6:Int)(cg:ad)(K:KT):=
 ∃(I1:Int->Int->ad->Prop) (M1:Int->Int->ad->Nat),I1 n6 0 cg/\
 ∀(n7:Int) (i1:Int),∀cM:ad,I1 n7 i1 cM->
 bif(decide (i1<(aF:Int)))then(
 C.eT t1 n7 cM λr6 fg=>
 ∃dP dB ff n8,r6 = .tuple #[vS dP dB ff,vI n8]/\
 bif(n8 != 0)then(
 ∃vX,List.length vX=15/\aj fg ⟨h2.size,0,none⟩ vX/\
 ax ⟨h3.size,0,none⟩ vX 15 fg λiY=>
 ∃fv,List.length fv=15/\aj iY ⟨h3.size,0,none⟩ fv/\
 K (.tuple #[.agg ⟨fv⟩,vI 0,vI n8]) iY)else(
 (0<=i1/\i1<(aF:Int))/\
 ae aI λp1=>
 ∃n9,cellOf fg (p1.add (Int.toNat i1))=some (vI n9)/\
 (0<=n9/\n9<(dB:Int))/\
 ae dP λp2=>
 ∃n10,cellOf fg (p2.add (Int.toNat n9))=some (vI n10)/\
 ∃HW,List.length HW=5/\aj fg ⟨h1.size,0,none⟩ HW/\
 C.cZ HW n10 fg λr7 fw=>
 ∃n11,r7 = vI n11/\
 bif(n11 != 0)then(
 ∃uI,List.length uI=15/\aj fw ⟨h2.size,0,none⟩ uI/\
 ax ⟨h3.size,0,none⟩ uI 15 fw λma=>
 ∃kE,List.length kE=15/\aj ma ⟨h3.size,0,none⟩ kE/\
 K (.tuple #[.agg ⟨kE⟩,vI 0,vI n11]) ma)else(
 bif(n10==0)then(
 ∃LW,List.length LW=5/\aj fw ⟨h1.size,0,none⟩ LW/\
 C.bE t1 LW fw λr8 gm=>
 ∃n12 n13,r8 = .tuple #[vI n12,vI n13]/\
 bif(n13 != 0)then(
 ∃LX,List.length LX=15/\aj gm ⟨h2.size,0,none⟩ LX/\
 ax ⟨h3.size,0,none⟩ LX 15 gm λiK=>
 ∃lF,List.length lF=15/\aj iK ⟨h3.size,0,none⟩ lF/\
 K (.tuple #[.agg ⟨lF⟩,vI 0,vI n13]) iK)else(
 (0<=i1/\i1<(aF:Int))/\
 ae aI λp3=>
 ∃n14,cellOf gm (p3.add (Int.toNat i1))=some (vI n14)/\
 (0<=n14/\n14<(dB:Int))/\
 ae dP λp4=>
 aO (p4.add (Int.toNat n14)) (vI n12) gm λnR=>
 C.gR dP dB ff nR λr9 nD=>
 ∃kD j9 lD,r9 = vS kD j9 lD/\
 C.aC t1 n7 kD j9 lD nD λIU jR=>
 ∃n15,IU = vI n15/\
 bif(n15 != 0)then(
 ∃LY,List.length LY=15/\aj jR ⟨h2.size,0,none⟩ LY/\
 ax ⟨h3.size,0,none⟩ LY 15 jR λmu=>
 ∃qY,List.length qY=15/\aj mu ⟨h3.size,0,none⟩ qY/\
 K (.tuple #[.agg ⟨qY⟩,vI 0,vI n15]) mu)else(
 I1 n12 (wI (i1+1)) jR/\M1 n12 (wI (i1+1)) jR<M1 n7 i1 cM)))else(
 I1 n10 (wI (i1+1)) fw/\M1 n10 (wI (i1+1)) fw<M1 n7 i1 cM))))else(
 ∃LZ,List.length LZ=15/\aj cM ⟨h2.size,0,none⟩ LZ/\
 ax ⟨h3.size,0,none⟩ LZ 15 cM λuH=>
 ∃th,List.length th=15/\aj uH ⟨h3.size,0,none⟩ th/\
 K (.tuple #[.agg ⟨th⟩,vI n7,vI 0]) uH)
def fe(t1:OA)(g1 x1:LV)(k1:Int)(K:KT)(h1:ad):=
 az g1 80 h1 λh2=>
 az x1 155 h2 λh3=>
 az gv 155 h3 λh4=>
 C.gf k1 h4 λr1 h5=>
 ∃n1 aI aF aT,r1 = .tuple #[vI n1,vS aI aF aT]/\
 ∃aW,List.length aW=15/\aj h5 ⟨h2.size,0,none⟩ aW/\
 C.gh aW n1 h5 λr2 h6=>
 ∃n2,r2 = vI n2/\
 ∃cH,List.length cH=5/\aj h6 ⟨h1.size,0,none⟩ cH/\
 C.cZ cH n2 h6 λr3 h7=>
 ∃n3,r3 = vI n3/\
 bif(n3 != 0)then(
 ∃fV,List.length fV=15/\aj h7 ⟨h2.size,0,none⟩ fV/\
 ax ⟨h3.size,0,none⟩ fV 15 h7 λh8=>
 ∃bL,List.length bL=15/\aj h8 ⟨h3.size,0,none⟩ bL/\
 K (.tuple #[.agg ⟨bL⟩,vI 0,vI n3]) h8)else(
 bif(n2==0)then(
 ∃kR,List.length kR=5/\aj h7 ⟨h1.size,0,none⟩ kR/\
 C.bE t1 kR h7 λr4 h9=>
 ∃n4 n5,r4 = .tuple #[vI n4,vI n5]/\
 bif(n5 != 0)then(
 ∃rh,List.length rh=15/\aj h9 ⟨h2.size,0,none⟩ rh/\
 ax ⟨h3.size,0,none⟩ rh 15 h9 λcB=>
 ∃dY,List.length dY=15/\aj cB ⟨h3.size,0,none⟩ dY/\
 K (.tuple #[.agg ⟨dY⟩,vI 0,vI n5]) cB)else(
 ∃tg,List.length tg=15/\aj h9 ⟨h2.size,0,none⟩ tg/\
 C.jM tg n1 n4 h9 λr5 bQ=>
 ∃vo,r5 = .agg ⟨vo⟩/\
 ax ⟨h2.size,0,none⟩ vo 15 bQ λcG=>
 fe.k1 t1 h1 h2 h3 aI aF n4 cG K))else(
 fe.k1 t1 h1 h2 h3 aI aF n2 h7 K))
theorem fe.ok{t1 g1 x1 k1 K h}(x:fe t1 g1 x1 k1 K h):C.fe t1 g1 x1 k1 h K:=fk (fun|12=>([0,5,6,8,12],[(13,.int .i64),(15,.int .i64)])|_=>([],[])) o0 Tryz.func276 x
end W
end Go.Proofs.YtjdcbblgaoogmaaGreatDoor
