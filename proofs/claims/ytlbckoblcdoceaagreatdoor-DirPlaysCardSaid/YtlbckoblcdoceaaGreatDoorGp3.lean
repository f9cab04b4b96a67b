/- dirPlays_card -/
import Derived.Test.YtlbckoblcdoceaaGreatDoorGp2
namespace Go.Proofs.YtlbckoblcdoceaaGreatDoor
open Go Go.Proofs Wx
variable{t1 cw jb mY:OA}{K:HP}{h:ad}
namespace W
def gp(t1:OA)(K:KT)(h1:ad):=
 ae t1 λp1=>
 ∃b1,cellOf h1 (p1.add 3)=some (.bool b1)/\
 bif b1 then(
 K (vS none 0 0) h1)else(
 ae t1 λp2=>
 ∃m1,cellOf h1 (p2.add 1)=some (.map m1)/\
 C.cV m1 h1 λr1 h2=>
 ∃v1,r1=v1/\
 C.vd v1 h2 λr2 h3=>
 ∃aU aI bw,r2 = vS aU aI bw/\
 K (vS aU aI bw) h3)
theorem gp.ok{t1 K h}(x:gp t1 K h):C.gp t1 h K:=fz Tryz.func38 x
def dF.k1(t1:OA)(i1:Int)(h3:ad)(K:KT):=
 ae t1 λp3=>
 ∃m1,cellOf h3 (p3.add 1)=some (.map m1)/\
 u7 (.int .i64) m1 h3 λWv=>
 ∃(aU:OA) (aI:Nat) (bw:Nat),Option.getD (nD Wv (.i i1)) (zeroV EK) = vS aU aI bw/\
 bif(Option.isSome (nD Wv (.i i1)))then(
 C.bX aU aI bw h3 λr2 h4=>
 ∃eC dT fD,r2 = vS eC dT fD/\
 K (.tuple #[vS eC dT fD,vI 0]) h4)else(
 ae t1 λp4=>
 ∃q2,cP h3 (p4.add 0) q2/\
 C.iC q2 i1 h3 λr3 h5=>
 ∃kS kA lW n2,r3 = .tuple #[vS kS kA lW,vI n2]/\
 K (.tuple #[vS kS kA lW,vI n2]) h5)
def dF(t1:OA)(i1:Int)(K:KT)(h1:ad):=
 ae t1 λp1=>
 ∃b1,cellOf h1 (p1.add 3)=some (.bool b1)/\
 bif b1 then(
 K (.tuple #[vS none 0 0,vI 61]) h1)else(
 bif(decide (i1<0))then(
 K (.tuple #[vS none 0 0,vI 31]) h1)else(
 ae t1 λp2=>
 ∃q1,cP h1 (p2.add 0) q1/\
 C.dV q1 h1 λr1 h2=>
 ∃n1,r1 = vI n1/\
 bif(decide (i1>=n1))then(
 K (.tuple #[vS none 0 0,vI 31]) h2)else(
 dF.k1 t1 i1 h2 K)))
theorem dF.ok{t1 i1 K h}(x:dF t1 i1 K h):C.dF t1 i1 h K:=fz Tryz.func39 x
def aT.k1(t1:OA)(i1:Int)(h3:ad)(K:KT):=
 C.dW t1 i1 h3 λr2 h4=>
 ∃n2,r2 = vI n2/\
 bif(decide (n2>=0))then(
 ae t1 λp3=>
 ∃aU aI bw,cS h4 (p3.add 1) aU aI bw/\
 (0<=n2/\n2<(aI:Int))/\
 ae aU λp4=>
 ∃s1,cellOf h4 (Addr.add (p4.add ((Int.toNat n2)*2)) 1)=some (.string s1)/\
 Zu s1 5 h4 λcw h5=>
 K (.tuple #[vS (some (bA h4)) s1.size cw,vI 0]) h5)else(
 ae t1 λp5=>
 ∃q2,cP h4 (p5.add 0) q2/\
 C.cK q2 i1 h4 λr3 h6=>
 ∃eC dT fD n3,r3 = .tuple #[vS eC dT fD,vI n3]/\
 K (.tuple #[vS eC dT fD,vI n3]) h6)
def aT(t1:OA)(i1:Int)(K:KT)(h1:ad):=
 ae t1 λp1=>
 ∃b1,cellOf h1 (p1.add 2)=some (.bool b1)/\
 bif b1 then(
 K (.tuple #[vS none 0 0,vI 61]) h1)else(
 bif(decide (i1<0))then(
 K (.tuple #[vS none 0 0,vI 31]) h1)else(
 ae t1 λp2=>
 ∃q1,cP h1 (p2.add 0) q1/\
 C.bL q1 h1 λr1 h2=>
 ∃n1,r1 = vI n1/\
 bif(decide (i1>=n1))then(
 K (.tuple #[vS none 0 0,vI 31]) h2)else(
 aT.k1 t1 i1 h2 K)))
theorem aT.ok{t1 i1 K h}(x:aT t1 i1 K h):C.aT t1 i1 h K:=fz Tryz.func40 x
def gj.k1(aU:OA)(aI:Nat)(h3:ad)(k1:Int)(h7:ad)(I2:IP)(M2:IM)(K:KT):=
 ∃n2,cI h7 (aS h3 1) n2/\
 ∃eC dT fD,cS h7 (aS h3 2) eC dT fD/\
 (0<=k1/\k1<(dT:Int))/\
 ae eC λp2=>
 ∃n3,cellOf h7 (p2.add (Int.toNat k1))=some (.int .u8 n3)/\
 (0<=(wI ((wI (n2*512))+k1))/\(wI ((wI (n2*512))+k1))<(aI:Int))/\
 ae aU λp3=>
 bD (p3.add (Int.toNat (wI ((wI (n2*512))+k1)))) (.int .u8 n3) h7 λh8=>
 I2 (wI (k1+1)) h8/\M2 (wI (k1+1)) h8<M2 k1 h7
def gj(fZ:OA)(eJ ga:Nat)(pZ:OA)(nY tE:Nat)(kD:OA)(jd nH:Nat)(K:KT)(h1:ad):=
 C.dR fZ eJ ga h1 λr1 h2=>
 ∃aU aI bw,r1 = vS aU aI bw/\
 ∃(I1:IP) (M1:IM),I1 0 h2/\
 ∀(i1:Int),∀h3:ad,I1 i1 h3->
 bif(decide (i1<(nY:Int)))then(
 (0<=i1/\i1<(nY:Int))/\
 ae pZ λp1=>
 ∃br,List.length br=3/\ai h3 (p1.add ((Int.toNat i1)*3)) br/\
 aF z146 146 br 3 h3 λh5=>
 ∃n1,cI h5 (aS h3 0) n1/\
 bif(n1 != 1)then(
 I1 (wI (i1+1)) h5/\M1 (wI (i1+1)) h5<M1 i1 h3)else(
 C.dP pZ nY tE i1 kD jd nH h5 λr2 h6=>
 ∃b1,r2 = .bool b1/\
 ∃(I2:IP) (M2:IM),I2 0 h6/\
 ∀(k1:Int),∀h7:ad,I2 k1 h7->
 bif(decide (k1<512))then(
 bif b1 then(
 gj.k1 aU aI h3 k1 h7 I2 M2 K)else(
 I1 (wI (i1+1)) h7/\M1 (wI (i1+1)) h7<M1 i1 h3))else(
 I1 (wI (i1+1)) h7/\M1 (wI (i1+1)) h7<M1 i1 h3)))else(
 K (vS aU aI bw) h3)
theorem gj.ok{fZ eJ ga pZ nY tE kD jd nH K h}(x:gj fZ eJ ga pZ nY tE kD jd nH K h):C.gj fZ eJ ga pZ nY tE kD jd nH h K:=fk (fun|3=>([1,2,7],[(8,.int .i64)])|9=>([1,2,7,8,9,10],[(11,.int .i64)])|_=>([],[])) (fun|11=>(oS 0 12 (.op 12 [] .nil))|_=>.nil) Tryz.func41 x
def gR.k1(h1 h7:ad)(K:KT):=
 ∃n4,cI h7 (aS h1 0) n4/\
 bif(n4==0)then(
 ∃br,List.length br=15/\ai h7 (bA h1) br/\
 dr [(.int .i64),(.int .i64),(.int .i64),(.int .i64),(.int .i64),(.int .i64),(.int .i64),(.int .i64),(.int .i64),(.int .i64),(.int .i64),(.int .i64),(.int .i64),(.int .i64),(.int .i64)] br z32=true/\
 K (.bool (cQ br z32)) h7)else(
 bif(n4==1)then(
 ∃n5,cI h7 (aS h1 1) n5/\
 C.cG n5 0 1000 h7 λr4 h8=>
 ∃b4,r4 = .bool b4/\
 bif b4 then(
 ∃n6,cI h8 (aS h1 2) n6/\
 C.cG n6 0 8459264 h8 λr5 h9=>
 ∃b5,r5 = .bool b5/\
 K (.bool b5) h9)else(
 K (.bool false) h8))else(
 bif(n4==2)then(
 ∃n7,cI h7 (aS h1 1) n7/\
 C.cG n7 2 65535 h7 λr6 bG=>
 ∃b6,r6 = .bool b6/\
 bif b6 then(
 ∃n8,cI bG (aS h1 2) n8/\
 C.cG n8 0 8459264 bG λr7 cu=>
 ∃b7,r7 = .bool b7/\
 bif b7 then(
 ∃n9,cI cu (aS h1 2) n9/\
 K (.bool ((Int.tmod n9 512)==0)) cu)else(
 K (.bool false) cu))else(
 K (.bool false) bG))else(
 bif(n4==3)then(
 ∃n10,cI h7 (aS h1 1) n10/\
 C.cG n10 1 1000 h7 λr8 bf=>
 ∃b8,r8 = .bool b8/\
 bif b8 then(
 ∃n11,cI bf (aS h1 2) n11/\
 C.cG n11 1 1024 bf λr9 bQ=>
 ∃b9,r9 = .bool b9/\
 K (.bool b9) bQ)else(
 K (.bool false) bf))else(
 K (.bool false) h7))))
def gR(x1:LV)(K:KT)(h1:ad):=
 aC x1 32 h1 λh2=>
 ∃(I1:IP) (M1:IM),I1 0 h2/\
 ∀(i1:Int),∀h3:ad,I1 i1 h3->
 bif(decide (i1<10))then(
 (0<=i1/\i1<(10:Int))/\
 ∃n1,cI h3 (Addr.add (Addr.add (bA h1) 3) (Int.toNat i1)) n1/\
 C.cG n1 0 4294967295 h3 λr1 h4=>
 ∃b1,r1 = .bool b1/\
 bif(!b1)then(
 K (.bool false) h4)else(
 I1 (wI (i1+1)) h4/\M1 (wI (i1+1)) h4<M1 i1 h3))else(
 ∃n2,cI h3 (aS h1 13) n2/\
 C.cG n2 0 4294967295 h3 λr2 h5=>
 ∃b2,r2 = .bool b2/\
 bif(!b2)then(
 K (.bool false) h5)else(
 ∃n3,cI h5 (aS h1 14) n3/\
 C.cG n3 0 4294967295 h5 λr3 h6=>
 ∃b3,r3 = .bool b3/\
 bif(!b3)then(
 K (.bool false) h6)else(
 gR.k1 h1 h6 K)))
theorem gR.ok{x1 K h}(x:gR x1 K h):C.gR x1 h K:=fk (fun|2=>([1],[(3,.int .i64)])|_=>([],[])) o0 Tryz.func42 x
def kE(x1:LV)(K:KT)(h1:ad):=
 aC x1 32 h1 λh2=>
 ∃n1,cI h2 (aS h1 0) n1/\
 aC [.int .u8 (IntKind.wrap .u8 (n1)),.int .u8 0] 5 h2 λh3=>
 ∃n2,cI h3 (aS h1 1) n2/\
 C.fG n2 2 h3 λr1 h4=>
 ∃aU aI bw,r1 = vS aU aI bw/\
 ∃aM,List.length aM=aI*1/\ak h4 aU aM/\(∀v∈aM,v.oneCell'=true)/\
 aJ xd 5 (some (bA h2)) 2 2 aI aM h4 λeC dT fD h5=>
 ∃n3,cI h5 (aS h1 2) n3/\
 C.fG n3 4 h5 λr2 h6=>
 ∃kS kA lW,r2 = vS kS kA lW/\
 ∃jR,List.length jR=kA*1/\ak h6 kS jR/\(∀v∈jR,v.oneCell'=true)/\
 aJ xd 5 eC dT fD kA jR h6 λtN tF uF h7=>
 ∃(I1:OA->Nat->Nat->Int->ad->Prop) (M1:OA->Nat->Nat->Int->ad->Nat),I1 tN tF uF 0 h7/\
 ∀(aH:OA) (aK:Nat) (aR:Nat) (i1:Int),∀h8:ad,I1 aH aK aR i1 h8->
 bif(decide (i1<10))then(
 (0<=i1/\i1<(10:Int))/\
 ∃n4,cI h8 (Addr.add (Addr.add (bA h1) 3) (Int.toNat i1)) n4/\
 C.fG n4 4 h8 λr3 h9=>
 ∃xD xf xQ,r3 = vS xD xf xQ/\
 ∃xg,List.length xg=xf*1/\ak h9 xD xg/\(∀v∈xg,v.oneCell'=true)/\
 aJ xd 5 aH aK aR xf xg h9 λBR Bu De bG=>
 I1 BR Bu De (wI (i1+1)) bG/\M1 BR Bu De (wI (i1+1)) bG<M1 aH aK aR i1 h8)else(
 ∃n5,cI h8 (aS h1 13) n5/\
 C.fG n5 4 h8 λr4 cu=>
 ∃EZ E0 Gk,r4 = vS EZ E0 Gk/\
 ∃BS,List.length BS=E0*1/\ak cu EZ BS/\(∀v∈BS,v.oneCell'=true)/\
 aJ xd 5 aH aK aR E0 BS cu λEL Df H3 bf=>
 ∃n6,cI bf (aS h1 14) n6/\
 C.fG n6 4 bf λr5 bQ=>
 ∃Wt Vk sC9,r5 = vS Wt Vk sC9/\
 ∃La,List.length La=Vk*1/\ak bQ Wt La/\(∀v∈La,v.oneCell'=true)/\
 aJ xd 5 EL Df H3 Vk La bQ λK7 K8 MR cX=>
 aC [.int .u8 0,.int .u8 0,.int .u8 0,.int .u8 0,.int .u8 0,.int .u8 0,.int .u8 0,.int .u8 0] 5 cX λfN=>
 ∃Lb,List.length Lb=8*1/\ak fN (some (bA cX)) Lb/\(∀v∈Lb,v.oneCell'=true)/\
 aJ xd 5 K7 K8 MR 8 Lb fN λTY TZ T4 gN=>
 K (vS TY TZ T4) gN)
theorem kE.ok{x1 K h}(x:kE x1 K h):C.kE x1 h K:=fk (fun|5=>([1],[(3,.slice),(4,.int .i64)])|_=>([],[])) o0 Tryz.func43 x
def qT(t1:OA)(g1:LV)(n1:Int)(K:KT)(h1:ad):=
 aC g1 27 h1 λh2=>
 aC z105 105 h2 λh3=>
 ∃br,List.length br=5/\ai h3 (bA h1) br/\
 List.length (br:LV)=5/\
 aF z105 105 ([vP t1]++(br++([vI n1]++(z32++[vI 0])))) 23 h3 λh5=>
 ∃cT,List.length cT=5/\ai h5 (bA h1) cT/\
 C.sd t1 cT n1 h5 λr1 h6=>
 ∃gG n2,r1 = .tuple #[.agg ⟨gG⟩,vI n2]/\
 az (aS h3 7) gG 15 h6 λh7=>
 bD (aS h3 22) (vI n2) h7 λh8=>
 ∃n3,cI h8 (aS h3 22) n3/\
 bif(n3 != 0)then(
 ∃nO,List.length nO=23/\ai h8 (bA h3) nO/\
 az (bA h2) nO 23 h8 λh9=>
 ∃dq,List.length dq=23/\ai h9 (bA h2) dq/\
 K (.agg ⟨dq⟩) h9)else(
 ∃n4,cI h8 (Addr.add (Addr.add (bA h3) 7) 0) n4/\
 bif(n4==0)then(
 bD (aS h3 22) (vI 110) h8 λbG=>
 ∃pI,List.length pI=23/\ai bG (bA h3) pI/\
 az (bA h2) pI 23 bG λcu=>
 ∃fV,List.length fV=23/\ai cu (bA h2) fV/\
 K (.agg ⟨fV⟩) cu)else(
 ∃n5,cI h8 (Addr.add (Addr.add (bA h3) 7) 0) n5/\
 bif(n5 != 2)then(
 bD (aS h3 22) (vI 161) h8 λbf=>
 ∃sB,List.length sB=23/\ai bf (bA h3) sB/\
 az (bA h2) sB 23 bf λbQ=>
 ∃fY,List.length fY=23/\ai bQ (bA h2) fY/\
 K (.agg ⟨fY⟩) bQ)else(
 ∃wQ,List.length wQ=23/\ai h8 (bA h3) wQ/\
 az (bA h2) wQ 23 h8 λcX=>
 ∃kP,List.length kP=23/\ai cX (bA h2) kP/\
 K (.agg ⟨kP⟩) cX)))
theorem qT.ok{t1 g1 n1 K h}(x:qT t1 g1 n1 K h):C.qT t1 g1 n1 h K:=fz Tryz.func44 x
def fv(r1:OA)(K:KT)(h1:ad):=
 aC [vP r1] 151 h1 λh2=>
 K (.func (.func 79) #[] ⟨[vP (some (bA h1))]⟩) h2
theorem fv.ok{r1 K h}(x:fv r1 K h):C.fv r1 h K:=fz Tryz.func45 x
def hQ(t1:OA)(g1:LV)(n1:Int)(K:KT)(h1:ad):=
 aC g1 27 h1 λh2=>
 aC z32 32 h2 λh3=>
 ∃br,List.length br=5/\ai h3 (bA h1) br/\
 C.lJ t1 br n1 h3 λr1 h4=>
 ∃cT n2,r1 = .tuple #[.agg ⟨cT⟩,vI n2]/\
 aF z32 32 cT 15 h4 λh6=>
 bif(n2 != 0)then(
 az (bA h2) z32 15 h6 λh7=>
 ∃dq,List.length dq=15/\ai h7 (bA h2) dq/\
 K (.tuple #[.agg ⟨dq⟩,vI n2]) h7)else(
 ∃n3,cI h6 (aS h4 0) n3/\
 bif(n3==0)then(
 az (bA h2) z32 15 h6 λh8=>
 ∃fV,List.length fV=15/\ai h8 (bA h2) fV/\
 K (.tuple #[.agg ⟨fV⟩,vI 110]) h8)else(
 ∃n4,cI h6 (aS h4 0) n4/\
 bif(n4 != 2)then(
 az (bA h2) z32 15 h6 λh9=>
 ∃fY,List.length fY=15/\ai h9 (bA h2) fY/\
 K (.tuple #[.agg ⟨fY⟩,vI 161]) h9)else(
 ∃gG,List.length gG=15/\ai h6 (bA h4) gG/\
 az (bA h2) gG 15 h6 λbG=>
 ∃kP,List.length kP=15/\ai bG (bA h2) kP/\
 K (.tuple #[.agg ⟨kP⟩,vI 0]) bG)))
theorem hQ.ok{t1 g1 n1 K h}(x:hQ t1 g1 n1 K h):C.hQ t1 g1 n1 h K:=fz Tryz.func51 x
def iZ(t1:OA)(g1 x1:LV)(aW:ByteArray)(K:KT)(h1:ad):=
 aC g1 27 h1 λh2=>
 aC x1 32 h2 λh3=>
 ∃(I1:OA->Nat->Nat->Int->ad->Prop) (M1:OA->Nat->Nat->Int->ad->Nat),I1 none 0 0 0 h3/\
 ∀(jx:OA) (iA:Nat) (kR:Nat) (k1:Int),∀h4:ad,I1 jx iA kR k1 h4->
 ∃n1,cI h4 (aS h2 2) n1/\
 bif(decide (k1<(wI (Int.tdiv n1 512))))then(
 ∃br,List.length br=5/\ai h4 (bA h1) br/\
 ∃cT,List.length cT=15/\ai h4 (bA h2) cT/\
 C.fH t1 br cT k1 h4 λr1 h5=>
 ∃aU aI bw n2,r1 = .tuple #[vS aU aI bw,vI n2]/\
 bif(n2 != 0)then(
 K (.tuple #[vS none 0 0,vI n2]) h5)else(
 ∃aM,List.length aM=aI*3/\ak h5 aU aM/\(∀v∈aM,v.oneCell'=true)/\
 aJ rV 79 jx iA kR aI aM h5 λeC dT fD h6=>
 ∃(I2:IP) (M2:IM),I2 0 h6/\
 ∀(n3:Int),∀h7:ad,I2 n3 h7->
 bif(decide (n3<(aI:Int)))then(
 (0<=n3/\n3<(aI:Int))/\
 ae aU λp1=>
 ∃gG,List.length gG=3/\ai h7 (p1.add ((Int.toNat n3)*3)) gG/\
 aF z79 79 gG 3 h7 λh9=>
 ∃s1,cellOf h9 (aS h7 1)=some (.string s1)/\
 bif(s1.toList==aW.toList)then(
 K (.tuple #[vS eC dT fD,vI 0]) h9)else(
 I2 (wI (n3+1)) h9/\M2 (wI (n3+1)) h9<M2 n3 h7))else(
 I1 eC dT fD (wI (k1+1)) h7/\M1 eC dT fD (wI (k1+1)) h7<M1 jx iA kR k1 h4)))else(
 K (.tuple #[vS jx iA kR,vI 0]) h4)
theorem iZ.ok{t1 g1 x1 aW K h}(x:iZ t1 g1 x1 aW K h):C.iZ t1 g1 x1 aW h K:=fk (fun|3=>([0,3,5,6],[(10,.slice),(11,.int .i64)])|10=>([0,3,5,6,10,11,37,38],[(39,.int .i64)])|_=>([],[])) o0 Tryz.func52 x
def qU(t1:OA)(g1:LV)(n1:Int)(aW:ByteArray)(K:KT)(h1:ad):=
 aC g1 27 h1 λh2=>
 aC [.string aW] 9 h2 λh3=>
 aC z119 119 h3 λh4=>
 aC (z105++[vI 0,vI 0,vS none 0 0,vS none 0 0,vI 0,.string (mkStr []),vI 0]) 122 h4 λh5=>
 aC z119 119 h5 λh6=>
 bD (bA h5) (vP (some (bA h4))) h6 λh7=>
 ∃s1,cellOf h7 (bA h2)=some (.string s1)/\
 C.mq s1 h7 λr1 h8=>
 ∃b1,r1 = .bool b1/\
 bif(!b1)then(
 ∃q1,cP h8 (bA h5) q1/\
 ae q1 λp1=>
 bD (Addr.add (p1.add 0) 22) (vI 1) h8 λh9=>
 ∃q2,cP h9 (bA h5) q2/\
 bD (bA h3) (vP q2) h9 λbG=>
 ∃dq,cP bG (bA h3) dq/\
 K (vP dq) bG)else(
 ∃q3,cP h8 (bA h5) q3/\
 ∃br,List.length br=5/\ai h8 (bA h1) br/\
 C.qT t1 br n1 h8 λr2 cu=>
 ∃cT,r2 = .agg ⟨cT⟩/\
 (cP cu (bA h5) q3)/\
 ae q3 λp2=>
 az (p2.add 0) cT 23 cu λbf=>
 ∃q4,cP bf (bA h5) q4/\
 ae q4 λp3=>
 C.fv (some (p3.add 0)) bf λr3 bQ=>
 ∃v1,r3=v1/\
 ∀(R1:Loop),
 (∀(gG:LV),∀(cX:ad) (k1:KT),bO cX (bQ.size+1) R1 .ready none->
 (
 aF Wk 111 gG 4 cX λgN=>
 bO gN (bQ.size+1) R1 .ready none/\
 xM gN (bQ.size+1) R1 .busy none λgO=>
 ∃aU aI bw,cS gO (aS cX 3) aU aI bw/\
 ∃(I1:IP) (M1:IM),I1 0 gO/\
 ∀(n2:Int),∀jk:ad,I1 n2 jk->
 bif(decide (n2<(aI:Int)))then(
 (0<=n2/\n2<(aI:Int))/\
 ae aU λp4=>
 ∃nO,List.length nO=3/\ai jk (p4.add ((Int.toNat n2)*3)) nO/\
 aF z79 79 nO 3 jk λiG=>
 ∃s2,cellOf iG (aS jk 1)=some (.string s2)/\
 ∃s3,cellOf iG (bA h2)=some (.string s3)/\
 bif(s2.toList==s3.toList)then(
 ∃q5,cP iG (bA h5) q5/\
 ∃q6,cP iG (bA h5) q6/\
 ∃pI,List.length pI=4/\ai iG (bA cX) pI/\
 ∃sB,List.length sB=3/\ai iG (bA jk) sB/\
 ae q5 λp5=>
 az (p5.add 23) pI 4 iG λoM=>
 (cP oM (bA h5) q6)/\
 (List.length (sB:LV)=3/\ai oM (bA jk) sB)/\
 ae q6 λp6=>
 az (p6.add 27) sB 3 oM λqD=>
 ∃q7,cP qD (bA h5) q7/\
 bD (bA h3) (vP q7) qD λpg=>
 bO pg (bQ.size+1) R1 .busy none/\
 k1 (.bool false) (dz pg (bQ.size+1) R1 .done (some .ret)))else(
 I1 (wI (n2+1)) iG/\M1 (wI (n2+1)) iG<M1 n2 jk))else(
 bO jk (bQ.size+1) R1 .busy none/\
 k1 (.bool true) (dz jk (bQ.size+1) R1 .ready none)))->
 rQ Tryz.prog (bQ.size+1) [.agg ⟨gG⟩] cX k1)->
 za Tryz.prog v1 [.func (.yield (bQ.size+1)) #[] #[]] (dw bQ R1) λ_ sX=>
 ∃(st1:LoopState) (jo:Option Code),bO sX (bQ.size+1) R1 st1 jo/\st1≠.busy/\
 xU jo (
 xM sX (bQ.size+1) R1 .exhausted jo λqv=>
 ∃q8,cP qv (bA h5) q8/\
 ae q8 λp7=>
 ∃n3,cI qv (Addr.add (p7.add 0) 22) n3/\
 bif(n3==0)then(
 ∃q9,cP qv (bA h5) q9/\
 ae q9 λp8=>
 bD (Addr.add (p8.add 0) 22) (vI 160) qv λpJ=>
 ∃OQ,cP pJ (bA h5) OQ/\
 bD (bA h3) (vP OQ) pJ λDg=>
 rU bQ.size Dg λwj=>
 ∃fV,cP wj (bA h3) fV/\
 K (vP fV) wj)else(
 ∃Pr,cP qv (bA h5) Pr/\
 bD (bA h3) (vP Pr) qv λMS=>
 rU bQ.size MS λPs=>
 ∃fY,cP Ps (bA h3) fY/\
 K (vP fY) Ps)) (
 xM sX (bQ.size+1) R1 .exhausted jo λIl=>
 rU bQ.size Il λuU=>
 ∃kP,cP uU (bA h3) kP/\
 K (vP kP) uU) (λ_=>False))
theorem qU.ok{t1 g1 n1 aW K h}(x:qU t1 g1 n1 aW K h):C.qU t1 g1 n1 aW h K:=fk (fun|9=>([7,8,9,10,36,37],[(38,.int .i64)])|1000007=>([],[(34,.agg)])|_=>([],[])) (fun|5=>(oS 0 4 (.op 4 [0] (.op 5 [] (.op 6 [] (.op 7 [] .nil)))))|12=>(oS 0 6 (.op 6 [1,3] (.op 7 [] (.op 8 [] (.op 9 [] .nil)))))|_=>.nil) Tryz.func53 x
def cR.k1(s1:ByteArray)(h1:ad)(K:KT):=
 ∃(I1:IP) (M1:IM),I1 0 h1/\
 ∀(i1:Int),∀h2:ad,I1 i1 h2->
 bif(decide (i1<(s1.size:Int)))then(
 (0<=i1/\i1<(s1.size:Int))/\
 ∃b1:UInt8,s1.toList[Int.toNat i1]?=some b1/\
 bif(((UInt8.toNat b1:Nat):Int)==47)then(
 K (.bool false) h2)else(
 (0<=i1/\i1<(s1.size:Int))/\
 ∃b2:UInt8,s1.toList[Int.toNat i1]?=some b2/\
 bif(((UInt8.toNat b2:Nat):Int)==0)then(
 K (.bool false) h2)else(
 I1 (wI (i1+1)) h2/\M1 (wI (i1+1)) h2<M1 i1 h2)))else(
 K (.bool true) h2)
def cR(s1:ByteArray)(K:KT)(h1:ad):=
 bif(decide ((s1.size:Int)<1))then(
 K (.bool false) h1)else(
 bif(decide ((s1.size:Int)>27))then(
 K (.bool false) h1)else(
 bif(s1.toList==(mkStr [46]).toList)then(
 K (.bool false) h1)else(
 bif(s1.toList==(mkStr [46,46]).toList)then(
 K (.bool false) h1)else(
 cR.k1 s1 h1 K))))
theorem cR.ok{s1 K h}(x:cR s1 K h):C.cR s1 h K:=fk (fun|4=>([0],[(3,.int .i64)])|_=>([],[])) o0 Tryz.func54 x
def jg(t1:OA)(g1:LV)(n1:Int)(aW:ByteArray)(K:KT)(h1:ad):=
 aC g1 27 h1 λh2=>
 aC z32 32 h2 λh3=>
 aC z79 79 h3 λh4=>
 ∃br,List.length br=5/\ai h4 (bA h1) br/\
 C.hQ t1 br n1 h4 λr1 h5=>
 ∃cT n2,r1 = .tuple #[.agg ⟨cT⟩,vI n2]/\
 aF z32 32 cT 15 h5 λh7=>
 bif(n2 != 0)then(
 ∃gG,List.length gG=15/\ai h7 (bA h5) gG/\
 az (bA h2) gG 15 h7 λh8=>
 az (bA h3) [vI 0,.string (mkStr []),vI 0] 3 h8 λh9=>
 ∃dq,List.length dq=15/\ai h9 (bA h2) dq/\
 ∃fV,List.length fV=3/\ai h9 (bA h3) fV/\
 K (.tuple #[.agg ⟨dq⟩,.agg ⟨fV⟩,vI n2]) h9)else(
 ∃nO,List.length nO=5/\ai h7 (bA h1) nO/\
 ∃pI,List.length pI=15/\ai h7 (bA h5) pI/\
 C.iZ t1 nO pI aW h7 λr2 bG=>
 ∃aU aI bw n3,r2 = .tuple #[vS aU aI bw,vI n3]/\
 bif(n3 != 0)then(
 ∃sB,List.length sB=15/\ai bG (bA h5) sB/\
 az (bA h2) sB 15 bG λcu=>
 az (bA h3) [vI 0,.string (mkStr []),vI 0] 3 cu λbf=>
 ∃fY,List.length fY=15/\ai bf (bA h2) fY/\
 ∃kP,List.length kP=3/\ai bf (bA h3) kP/\
 K (.tuple #[.agg ⟨fY⟩,.agg ⟨kP⟩,vI n3]) bf)else(
 ∃(I1:IP) (M1:IM),I1 0 bG/\
 ∀(n4:Int),∀bQ:ad,I1 n4 bQ->
 bif(decide (n4<(aI:Int)))then(
 (0<=n4/\n4<(aI:Int))/\
 ae aU λp1=>
 ∃wQ,List.length wQ=3/\ai bQ (p1.add ((Int.toNat n4)*3)) wQ/\
 aF z79 79 wQ 3 bQ λfN=>
 ∃s1,cellOf fN (aS bQ 1)=some (.string s1)/\
 bif(s1.toList==aW.toList)then(
 ∃zU,List.length zU=15/\ai fN (bA h5) zU/\
 ∃OR,List.length OR=3/\ai fN (bA bQ) OR/\
 az (bA h2) zU 15 fN λgN=>
 (List.length (OR:LV)=3/\ai gN (bA bQ) OR)/\
 az (bA h3) OR 3 gN λgO=>
 ∃uG,List.length uG=15/\ai gO (bA h2) uG/\
 ∃u4,List.length u4=3/\ai gO (bA h3) u4/\
 K (.tuple #[.agg ⟨uG⟩,.agg ⟨u4⟩,vI 0]) gO)else(
 I1 (wI (n4+1)) fN/\M1 (wI (n4+1)) fN<M1 n4 bQ))else(
 ∃Gq,List.length Gq=15/\ai bQ (bA h5) Gq/\
 az (bA h2) Gq 15 bQ λjk=>
 az (bA h3) [vI 0,.string (mkStr []),vI 0] 3 jk λeX=>
 ∃Gs,List.length Gs=15/\ai eX (bA h2) Gs/\
 ∃T6,List.length T6=3/\ai eX (bA h3) T6/\
 K (.tuple #[.agg ⟨Gs⟩,.agg ⟨T6⟩,vI 160]) eX)))
theorem jg.ok{t1 g1 n1 aW K h}(x:jg t1 g1 n1 aW K h):C.jg t1 g1 n1 aW h K:=fk (fun|8=>([3,8,9,11,41,42],[(43,.int .i64)])|_=>([],[])) (fun|11=>(.op 0 [] (.op 1 [] (.op 2 [1] (.op 3 [] (.op 4 [] .nil)))))|_=>.nil) Tryz.func55 x
def dV(d1:OA)(K:KT)(h1:ad):=
 ae d1 λp1=>
 ∃aU aI bw,cS h1 (p1.add 0) aU aI bw/\
 K (vI (aI:Int)) h1
theorem dV.ok{d1 K h}(x:dV d1 K h):C.dV d1 h K:=fz Tryz.func56 x
def kx(cw jb mY Dh:OA)(K:KT)(h1:ad):=
 ae cw λp1=>
 ∃b1,cellOf h1 p1=some (.bool b1)/\
 bif b1 then(
 ae mY λp2=>
 ∃q1,cP h1 p2 q1/\
 ae q1 λp3=>
 ∃m1,cellOf h1 (p3.add 1)=some (.map m1)/\
 ae Dh λp4=>
 ∃n1,cI h1 p4 n1/\
 ae jb λp5=>
 ∃aU aI bw,cS h1 p5 aU aI bw/\
 ae m1 λr1=>
 AA (.int .i64) r1 (.i n1) (vS aU aI bw) h1 λh2=>
 K (.tuple #[]) h2)else(
 ae mY λp6=>
 ∃q2,cP h1 p6 q2/\
 ae q2 λp7=>
 ∃m2,cellOf h1 (p7.add 1)=some (.map m2)/\
 ae Dh λp8=>
 ∃n2,cI h1 p8 n2/\
 VF (.int .i64) m2 (.i n2) h1 λh3=>
 K (.tuple #[]) h3)
theorem kx.ok{cw jb mY Dh K h}(x:kx cw jb mY Dh K h):C.kx cw jb mY Dh h K:=fk l0 (fun|1=>(oS 0 6 (.op 6 [] .nil))|2=>(oS 0 5 (.op 5 [] .nil))|_=>.nil) Tryz.func57 x
def bX(aU:OA)(aI bw:Nat)(K:KT)(h1:ad):=
 bif(Option.isNone aU)then(
 K (vS none 0 0) h1)else(
 aC [] 5 h1 λh2=>
 ∃aM,List.length aM=aI*1/\ak h2 aU aM/\(∀v∈aM,v.oneCell'=true)/\
 aJ xd 5 (some ⟨h1.size,0,none⟩) 0 0 aI aM h2 λeC dT fD h3=>
 K (vS eC dT fD) h3)
theorem bX.ok{aU aI bw K h}(x:bX aU aI bw K h):C.bX aU aI bw h K:=fz Tryz.func58 x
def bL(d1:OA)(K:KT)(h1:ad):=
 ae d1 λp1=>
 ∃aU aI bw,cS h1 (p1.add 0) aU aI bw/\
 K (vI (wI (Int.tdiv (aI:Int) 512))) h1
theorem bL.ok{d1 K h}(x:bL d1 K h):C.bL d1 h K:=fz Tryz.func59 x
def dW(t1:OA)(i1:Int)(K:KT)(h1:ad):=
 ∃(I1:Int->Int->ad->Prop) (M1:Int->Int->ad->Nat),I1 (-1) 0 h1/\
 ∀(fU:Int) (k1:Int),∀h2:ad,I1 fU k1 h2->
 ae t1 λp1=>
 ∃aU aI bw,cS h2 (p1.add 1) aU aI bw/\
 bif(decide (k1<(aI:Int)))then(
 ae t1 λp2=>
 ∃eC dT fD,cS h2 (p2.add 1) eC dT fD/\
 (0<=k1/\k1<(dT:Int))/\
 ae eC λp3=>
 ∃n1,cI h2 (Addr.add (p3.add ((Int.toNat k1)*2)) 0) n1/\
 bif(n1==i1)then(
 I1 k1 (wI (k1+1)) h2/\M1 k1 (wI (k1+1)) h2<M1 fU k1 h2)else(
 I1 fU (wI (k1+1)) h2/\M1 fU (wI (k1+1)) h2<M1 fU k1 h2))else(
 K (vI fU) h2)
theorem dW.ok{t1 i1 K h}(x:dW t1 i1 K h):C.dW t1 i1 h K:=fk (fun|3=>([0,1],[(5,.int .i64),(6,.int .i64)])|_=>([],[])) o0 Tryz.func60 x
def bz(t1:OA)(K:KT)(h1:ad):=
 ae t1 λp1=>
 bD (p1.add 1) (.map none) h1 λh2=>
 ae t1 λp2=>
 bD (p2.add 2) (vS none 0 0) h2 λh3=>
 ae t1 λp3=>
 bD (p3.add 3) (.bool true) h3 λh4=>
 K (.tuple #[]) h4
def bz.lo : Nat->List Nat×List (Nat×Ty):=λn=>match n with|_=>([],[])
def bz.od : Nat->Od:=λn=>match n with|_=>.nil
theorem bz.eq(t1:OA)(K:KT)(h:ad):fnX (cx bz.lo bz.od) Tryz.f61 (Tryz.f61.body.getD .skip) [vP t1] K h=bz t1 K h:=by kernel_rfl
theorem bz.chk : Pm (cx bz.lo bz.od) Tryz.f61 (Tryz.f61.body.getD .skip) 1=true:=by kernel_rfl
theorem bz.ok{K:KT}(hx:bz t1 K h):C.bz t1 h K:=
 Wg (Pq _ _) Tryz.func61 (by kernel_rfl) bz.chk (by rw[bz.eq];exact hx)
theorem bz.Pv : Jr (cx bz.lo bz.od) Tryz.f61 (Tryz.f61.body.getD .skip) 1=true:=by kernel_rfl
theorem bz.FE(hx:bz t1 (λ_ h'=>K h') h):D.bz t1 h K:=
 K4 (Pq _ _) Tryz.func61 (by kernel_rfl) bz.Pv (by rw[bz.eq];exact hx)
def qa(d1 jx:OA)(iA kR:Nat)(K:KT)(h1:ad):=
 bif((iA:Int)==0)then(
 K (vI 0) h1)else(
 C.dV d1 h1 λr1 h2=>
 ∃n1,r1 = vI n1/\
 C.xe jx iA kR n1 h2 λr2 h3=>
 ∃b1,r2 = .bool b1/\
 bif(!b1)then(
 K (vI 40) h3)else(
 ∃(I1:OA->Nat->Nat->OA->Nat->Nat->Int->ad->Prop) (M1:OA->Nat->Nat->OA->Nat->Nat->Int->ad->Nat),I1 none 0 0 none 0 0 0 h3/\
 ∀(mL:OA) (jC:Nat) (og:Nat) (jQ:OA) (iP:Nat) (kW:Nat) (n2:Int),∀h4:ad,I1 mL jC og jQ iP kW n2 h4->
 bif(decide (n2<(iA:Int)))then(
 (0<=n2/\n2<(iA:Int))/\
 ae jx λp1=>
 ∃br,List.length br=2/\ai h4 (p1.add ((Int.toNat n2)*2)) br/\
 aF MP 133 br 2 h4 λh6=>
 ∃n3,cI h6 (aS h4 0) n3/\
 aC [vI n3] 3 h6 λh7=>
 ∃aM,List.length aM=1*1/\ak h7 (some (bA h6)) aM/\(∀v∈aM,v.oneCell'=true)/\
 aJ ti3 3 mL jC og 1 aM h7 λaU aI bw h8=>
 ∃eC dT fD,cS h8 (aS h4 1) eC dT fD/\
 aC [vS eC dT fD] 33 h8 λh9=>
 ∃jR,List.length jR=1*1/\ak h9 (some (bA h8)) jR/\(∀v∈jR,v.oneCell'=true)/\
 aJ EK 33 jQ iP kW 1 jR h9 λkS kA lW bG=>
 I1 aU aI bw kS kA lW (wI (n2+1)) bG/\M1 aU aI bw kS kA lW (wI (n2+1)) bG<M1 mL jC og jQ iP kW n2 h4)else(
 C.se mL jC og jQ iP kW h4 λr3 cu=>
 ∃tN tF uF n4,r3 = .tuple #[vS tN tF uF,vI n4]/\
 bif(n4 != 0)then(
 K (vI n4) cu)else(
 C.iD d1 cu λr4 bf=>
 ∃b2,r4 = .bool b2/\
 bif b2 then(
 K (vI 30) bf)else(
 aC ahm 165 bf λbQ=>
 ∃(I2:IP) (M2:IM),I2 0 bQ/\
 ∀(n5:Int),∀cX:ad,I2 n5 cX->
 bif(decide (n5<(iA:Int)))then(
 (0<=n5/\n5<(iA:Int))/\
 ae jx λp2=>
 ∃cT,List.length cT=2/\ai cX (p2.add ((Int.toNat n5)*2)) cT/\
 aF MP 133 cT 2 cX λgN=>
 ∃xD xf xQ,cS gN (aS cX 1) xD xf xQ/\
 C.fI (some (bA bf)) (wI (2+n5)) xD xf xQ gN λr5 gO=>
 r5 = .tuple #[]/\
 I2 (wI (n5+1)) gO/\M2 (wI (n5+1)) gO<M2 n5 cX)else(
 C.fJ (some (bA bf)) cX λr6 jk=>
 r6 = .tuple #[]/\
 C.fI (some (bA bf)) 1 tN tF uF jk λr7 eX=>
 r7 = .tuple #[]/\
 C.fJ (some (bA bf)) eX λr8 iG=>
 r8 = .tuple #[]/\
 C.kF (some (bA bf)) jx iA kR iG λr9 oM=>
 r9 = .tuple #[]/\
 ∃BR Bu De,cS oM (bA bf) BR Bu De/\
 C.k8 BR Bu De d1 oM λE1 qD=>
 ∃n6,E1 = vI n6/\
 K (vI n6) qD))))))
theorem qa.ok{d1 jx iA kR K h}(x:qa d1 jx iA kR K h):C.qa d1 jx iA kR h K:=fk (fun|8=>([0,1,22,23],[(5,.slice),(6,.slice),(24,.int .i64)])|20=>([0,1,9,11,50,51],[(52,.int .i64)])|_=>([],[])) o0 Tryz.func62 x
def iN(d1 jx:OA)(iA kR:Nat)(K:KT)(h1:ad):=
 bif((iA:Int)==0)then(
 K (vI 0) h1)else(
 aF z146 146 [vI 2,vI 0,vS none 0 0] 3 h1 λh3=>
 ∃(I1:OA->Nat->Nat->Int->ad->Prop) (M1:OA->Nat->Nat->Int->ad->Nat),I1 none 0 0 0 h3/\
 ∀(E7:OA) (E8:Nat) (Fa:Nat) (n1:Int),∀h4:ad,I1 E7 E8 Fa n1 h4->
 bif(decide (n1<(iA:Int)))then(
 (0<=n1/\n1<(iA:Int))/\
 ae jx λp1=>
 ∃br,List.length br=2/\ai h4 (p1.add ((Int.toNat n1)*2)) br/\
 aF MP 133 br 2 h4 λh6=>
 ∃aU aI bw,cS h6 (aS h4 1) aU aI bw/\
 List.length ([vI 1,vI (wI (2+n1)),vS aU aI bw]:LV)=3/\
 aC [vI 1,vI (wI (2+n1)),vS aU aI bw] 146 h6 λh7=>
 ∃aM,List.length aM=1*3/\ak h7 (some (bA h6)) aM/\(∀v∈aM,v.oneCell'=true)/\
 aJ xC 146 E7 E8 Fa 1 aM h7 λeC dT fD h8=>
 I1 eC dT fD (wI (n1+1)) h8/\M1 eC dT fD (wI (n1+1)) h8<M1 E7 E8 Fa n1 h4)else(
 ∃cT,List.length cT=3/\ai h4 (bA h1) cT/\
 ∃gG,List.length gG=3/\ai h4 (bA h1) gG/\
 C.iQ jx iA kR h4 λr1 h9=>
 ∃kS kA lW,r1 = vS kS kA lW/\
 (List.length (cT:LV)=3/\ai h9 (bA h1) cT)/\
 (List.length (gG:LV)=3/\ai h9 (bA h1) gG)/\
 List.length (cT:LV)=3/\
 List.length ([vI 1,vI 1,vS kS kA lW]:LV)=3/\
 List.length (gG:LV)=3/\
 aC (cT++([vI 1,vI 1,vS kS kA lW]++gG)) 146 h9 λbG=>
 ∃jR,List.length jR=3*3/\ak bG (some (bA h9)) jR/\(∀v∈jR,v.oneCell'=true)/\
 aJ xC 146 E7 E8 Fa 3 jR bG λtN tF uF cu=>
 ∃(I2:OA->Nat->Nat->Int->ad->Prop) (M2:OA->Nat->Nat->Int->ad->Nat),I2 tN tF uF 0 cu/\
 ∀(Fc:OA) (Fe:Nat) (Ff:Nat) (n2:Int),∀bf:ad,I2 Fc Fe Ff n2 bf->
 bif(decide (n2<(iA:Int)))then(
 (0<=n2/\n2<(iA:Int))/\
 ae jx λp2=>
 ∃nO,List.length nO=2/\ai bf (p2.add ((Int.toNat n2)*2)) nO/\
 aF MP 133 nO 2 bf λcX=>
 ∃n3,cI cX (aS bf 0) n3/\
 ∃xD xf xQ,cS cX (aS bf 1) xD xf xQ/\
 List.length ([vI 1,vI n3,vS xD xf xQ]:LV)=3/\
 aC [vI 1,vI n3,vS xD xf xQ] 146 cX λfN=>
 ∃xg,List.length xg=1*3/\ak fN (some (bA cX)) xg/\(∀v∈xg,v.oneCell'=true)/\
 aJ xC 146 Fc Fe Ff 1 xg fN λBR Bu De gN=>
 I2 BR Bu De (wI (n2+1)) gN/\M2 BR Bu De (wI (n2+1)) gN<M2 Fc Fe Ff n2 bf)else(
 ∃pI,List.length pI=3/\ai bf (bA h1) pI/\
 ∃sB,List.length sB=3/\ai bf (bA h1) sB/\
 (0<=(512:Int)/\(512:Int)<=512/\(1:Int)*512<=281474976710656/\(512:Int)<=281474976710656)/\
 aC (aL z5 (Int.toNat 512)) 5 bf λgO=>
 (List.length (pI:LV)=3/\ai gO (bA h1) pI)/\
 (List.length (sB:LV)=3/\ai gO (bA h1) sB)/\
 List.length (pI:LV)=3/\
 List.length ([vI 1,vI 1,vS (some (bA bf)) (Int.toNat 512) (Int.toNat 512)]:LV)=3/\
 List.length (sB:LV)=3/\
 aC (pI++([vI 1,vI 1,vS (some (bA bf)) (Int.toNat 512) (Int.toNat 512)]++sB)) 146 gO λjk=>
 ∃BS,List.length BS=3*3/\ak jk (some (bA gO)) BS/\(∀v∈BS,v.oneCell'=true)/\
 aJ xC 146 Fc Fe Ff 3 BS jk λEZ E0 Gk eX=>
 ∃(I3:IP) (M3:IM),I3 0 eX/\
 ∀(n4:Int),∀iG:ad,I3 n4 iG->
 bif(decide (n4<(E0:Int)))then(
 (0<=n4/\n4<(E0:Int))/\
 ae EZ λp3=>
 ∃wQ,List.length wQ=3/\ai iG (p3.add ((Int.toNat n4)*3)) wQ/\
 aF z146 146 wQ 3 iG λqD=>
 ∃n5,cI qD (aS iG 0) n5/\
 bif(n5==1)then(
 ∃n6,cI qD (aS iG 1) n6/\
 ∃EL Df H3,cS qD (aS iG 2) EL Df H3/\
 C.dG d1 n6 EL Df H3 qD λr2 pg=>
 ∃n7,r2 = vI n7/\
 bif(n7 != 0)then(
 K (vI n7) pg)else(
 I3 (wI (n4+1)) pg/\M3 (wI (n4+1)) pg<M3 n4 iG))else(
 C.dH d1 qD λr3 sX=>
 ∃n8,r3 = vI n8/\
 bif(n8 != 0)then(
 K (vI n8) sX)else(
 I3 (wI (n4+1)) sX/\M3 (wI (n4+1)) sX<M3 n4 iG)))else(
 K (vI 0) iG))))
theorem iN.ok{d1 jx iA kR K h}(x:iN d1 jx iA kR K h):C.iN d1 jx iA kR h K:=fk (fun|6=>([0,1,6,18,19],[(5,.slice),(20,.int .i64)])|12=>([0,6,42,43],[(5,.slice),(44,.int .i64)])|18=>([0,64,65],[(66,.int .i64)])|_=>([],[])) (fun|10=>(.op 0 [] (.op 1 [] (.op 2 [] (.op 5 [] (.op 3 [1,5] (.op 4 [] (.op 6 [] (.op 7 [] (.op 8 [] .nil)))))))))|16=>(.op 0 [] (.op 1 [] (.op 4 [] (.op 2 [1,4] (.op 3 [] (.op 5 [] (.op 6 [] (.op 7 [] .nil))))))))|_=>.nil) Tryz.func63 x
def oR.k1(bf bQ eX:ad)(R1:Loop)(iG:ad)(k1:KT)(qv:ad)(K:KT):=
 ∃aU aI bw,cS qv (aS iG 2) aU aI bw/\
 C.mM aU aI bw qv λr5 pJ=>
 ∃n3 n4,r5 = .tuple #[vI n3,vI n4]/\
 ∃n5,cI pJ (bA bQ) n5/\
 bif(decide (n5<0))then(
 bif(decide (n3>=0))then(
 bif(n4==0)then(
 ∃n6,cI pJ (aS iG 0) n6/\
 bD (bA bf) (vI n6) pJ λDg=>
 bD (bA bQ) (vI n3) Dg λwj=>
 bO wj (eX.size+1) R1 .busy none/\
 k1 (.bool true) (dz wj (eX.size+1) R1 .ready none))else(
 bO pJ (eX.size+1) R1 .busy none/\
 k1 (.bool true) (dz pJ (eX.size+1) R1 .ready none)))else(
 bO pJ (eX.size+1) R1 .busy none/\
 k1 (.bool true) (dz pJ (eX.size+1) R1 .ready none)))else(
 bO pJ (eX.size+1) R1 .busy none/\
 k1 (.bool true) (dz pJ (eX.size+1) R1 .ready none))
def oR(t1:OA)(g1:LV)(n1:Int)(aW:ByteArray)(cN:Int)(K:KT)(h1:ad):=
 aC [vP t1] 43 h1 λh2=>
 aC g1 27 h2 λh3=>
 aC [.string aW] 9 h3 λh4=>
 aC z36 36 h4 λh5=>
 ∃s1,cellOf h5 (bA h3)=some (.string s1)/\
 C.mq s1 h5 λr1 h6=>
 ∃b1,r1 = .bool b1/\
 bif(!b1)then(
 bD (bA h4) (vI 1) h6 λh7=>
 ∃dq,cI h7 (bA h4) dq/\
 K (vI dq) h7)else(
 ∃br,List.length br=5/\ai h6 (bA h2) br/\
 C.ve br cN h6 λr2 h8=>
 ∃b2,r2 = .bool b2/\
 bif(!b2)then(
 bD (bA h4) (vI 110) h8 λh9=>
 ∃fV,cI h9 (bA h4) fV/\
 K (vI fV) h9)else(
 ∃q1,cP h8 (bA h1) q1/\
 ∃cT,List.length cT=5/\ai h8 (bA h2) cT/\
 C.qT q1 cT n1 h8 λr3 bG=>
 ∃gG,r3 = .agg ⟨gG⟩/\
 aF z105 105 gG 23 bG λbf=>
 ∃n2,cI bf (Addr.add (Addr.add (bA bG) 7) 2) n2/\
 aC z3 3 bf λbQ=>
 aC z3 3 bQ λcX=>
 aC z4 4 cX λfN=>
 bD (bA bf) (vI (wI (Int.tdiv n2 512))) fN λgN=>
 bD (bA bQ) (vI (-1)) gN λgO=>
 bD (bA cX) (.bool false) gO λjk=>
 C.fv (some (bA bG)) jk λr4 eX=>
 ∃v1,r4=v1/\
 ∀(R1:Loop),
 (∀(nO:LV),∀(iG:ad) (k1:KT),bO iG (eX.size+1) R1 .ready none->
 (
 aF Wk 111 nO 4 iG λqD=>
 bO qD (eX.size+1) R1 .ready none/\
 xM qD (eX.size+1) R1 .busy none λpg=>
 ∃b3,cellOf pg (bA cX)=some (.bool b3)/\
 bif b3 then(
 bD (bA cX) (.bool true) pg λsX=>
 oR.k1 bf bQ eX R1 iG k1 sX K)else(
 ∃eC dT fD,cS pg (aS iG 3) eC dT fD/\
 C.bB eC dT fD (Value.func (.func 102) #[] ⟨[vP (some ⟨h3.size,0,none⟩)]⟩) pg λr6 MS=>
 ∃b4,r6 = .bool b4/\
 bD (bA cX) (.bool b4) MS λPs=>
 oR.k1 bf bQ eX R1 iG k1 Ps K))->
 rQ Tryz.prog (eX.size+1) [.agg ⟨nO⟩] iG k1)->
 za Tryz.prog v1 [.func (.yield (eX.size+1)) #[] #[]] (dw eX R1) λ_ Il=>
 ∃(st1:LoopState) (jo:Option Code),bO Il (eX.size+1) R1 st1 jo/\st1≠.busy/\
 xU jo (
 xM Il (eX.size+1) R1 .exhausted jo λuU=>
 ∃n7,cI uU (aS bG 22) n7/\
 bif(n7 != 0)then(
 ∃n8,cI uU (aS bG 22) n8/\
 bD (bA h4) (vI n8) uU λVl=>
 rU eX.size Vl λL7=>
 ∃fY,cI L7 (bA h4) fY/\
 K (vI fY) L7)else(
 ∃b5,cellOf uU (bA cX)=some (.bool b5)/\
 bif b5 then(
 bD (bA h4) (vI 150) uU λWu=>
 rU eX.size Wu λh36=>
 ∃kP,cI h36 (bA h4) kP/\
 K (vI kP) h36)else(
 ∃q2,cP uU (bA h1) q2/\
 C.hZ q2 uU λr7 Z7=>
 ∃n9 n10,r7 = .tuple #[vI n9,vI n10]/\
 aC z3 3 Z7 λh38=>
 bD (bA Z7) (vI n9) h38 λh39=>
 bD (bA h4) (vI n10) h39 λFg=>
 ∃n11,cI Fg (bA h4) n11/\
 bif(n11 != 0)then(
 ∃n12,cI Fg (bA h4) n12/\
 bD (bA h4) (vI n12) Fg λh41=>
 rU eX.size h41 λh42=>
 ∃uG,cI h42 (bA h4) uG/\
 K (vI uG) h42)else(
 ∃n13,cI Fg (bA bf) n13/\
 ∃n14,cI Fg (bA bQ) n14/\
 ∃s2,cellOf Fg (bA h3)=some (.string s2)/\
 C.cE (some (bA bG)) n13 n14 [vI 0,.string s2,vI cN] Fg λr8 h43=>
 ∃n15,r8 = vI n15/\
 bD (bA h4) (vI n15) h43 λVm=>
 D.fj (some (bA h4)) (some (bA h1)) (some (bA Z7)) Vm λYP=>
 rU eX.size YP λWw=>
 ∃u4,cI Ww (bA h4) u4/\
 K (vI u4) Ww)))) (
 False) (λ_=>False)))
theorem oR.ok{t1 g1 n1 aW cN K h}(x:oR t1 g1 n1 aW cN K h):C.oR t1 g1 n1 aW cN h K:=fk (fun|1000008=>([],[(37,.agg)])|_=>([],[])) o0 Tryz.func64 x
def gm.k1(t1:OA)(n1:Int)(aW:ByteArray)(cN:Int)(h1 h3:ad)(K:KT):=
 ∃br,List.length br=5/\ai h3 (bA h1) br/\
 C.hQ t1 br n1 h3 λr2 h4=>
 ∃cT n3,r2 = .tuple #[.agg ⟨cT⟩,vI n3]/\
 aF z32 32 cT 15 h4 λh6=>
 bif(n3 != 0)then(
 K (vI n3) h6)else(
 ∃gG,List.length gG=5/\ai h6 (bA h1) gG/\
 ∃nO,List.length nO=15/\ai h6 (bA h4) nO/\
 C.iZ t1 gG nO (mkStr []) h6 λr3 h7=>
 ∃aU aI bw n4,r3 = .tuple #[vS aU aI bw,vI n4]/\
 bif(n4 != 0)then(
 K (vI n4) h7)else(
 ∃(I1:Int->Int->ad->Prop) (M1:Int->Int->ad->Nat),I1 0 0 h7/\
 ∀(dp:Int) (n5:Int),∀h8:ad,I1 dp n5 h8->
 bif(decide (n5<(aI:Int)))then(
 (0<=n5/\n5<(aI:Int))/\
 ae aU λp1=>
 ∃pI,List.length pI=3/\ai h8 (p1.add ((Int.toNat n5)*3)) pI/\
 aF z79 79 pI 3 h8 λbG=>
 ∃s1,cellOf bG (aS h8 1)=some (.string s1)/\
 bif(s1.toList==aW.toList)then(
 K (vI 150) bG)else(
 ∃n6,cI bG (aS h8 0) n6/\
 bif(n6==dp)then(
 I1 (wI (dp+1)) (wI (n5+1)) bG/\M1 (wI (dp+1)) (wI (n5+1)) bG<M1 dp n5 h8)else(
 I1 dp (wI (n5+1)) bG/\M1 dp (wI (n5+1)) bG<M1 dp n5 h8)))else(
 C.dM t1 h8 λr4 cu=>
 ∃n7 n8,r4 = .tuple #[vI n7,vI n8]/\
 ∃sB,List.length sB=5/\ai cu (bA h1) sB/\
 ∃wQ,List.length wQ=15/\ai cu (bA h4) wQ/\
 C.fK t1 sB n1 wQ [vI dp,.string aW,vI cN] cu λr5 bf=>
 ∃n9,r5 = vI n9/\
 bif(n9 != 0)then(
 C.cH t1 n7 bf λr6 bQ=>
 ∃n10,r6 = vI n10/\
 K (vI n9) bQ)else(
 K (vI n9) bf))))
def gm(t1:OA)(g1:LV)(n1:Int)(aW:ByteArray)(cN:Int)(K:KT)(h1:ad):=
 aC g1 27 h1 λh2=>
 C.cR aW h2 λr1 h3=>
 ∃b1,r1 = .bool b1/\
 bif(!b1)then(
 K (vI 1) h3)else(
 bif(decide (cN<1))then(
 K (vI 110) h3)else(
 ∃n2,cI h3 (aS h1 4) n2/\
 bif(decide (cN>=n2))then(
 K (vI 110) h3)else(
 gm.k1 t1 n1 aW cN h1 h3 K)))
theorem gm.ok{t1 g1 n1 aW cN K h}(x:gm t1 g1 n1 aW cN K h):C.gm t1 g1 n1 aW cN h K:=fk (fun|13=>([0,2,3,4,6,11,50,51],[(14,.int .i64),(52,.int .i64)])|_=>([],[])) o0 Tryz.func65 x
def qc(t1:OA)(g1:LV)(n1:Int)(aW:ByteArray)(K:KT)(h1:ad):=
 aC g1 27 h1 λh2=>
 ∃br,List.length br=5/\ai h2 (bA h1) br/\
 C.qU t1 br n1 aW h2 λr1 h3=>
 ∃q1,r1 = vP q1/\
 ae q1 λp1=>
 ∃n2,cI h3 (Addr.add (p1.add 0) 22) n2/\
 bif(n2 != 0)then(
 ae q1 λp2=>
 ∃n3,cI h3 (Addr.add (p2.add 0) 22) n3/\
 K (.tuple #[vI 0,vI n3]) h3)else(
 ae q1 λp3=>
 ∃aU aI bw,cS h3 (Addr.add (p3.add 23) 2) aU aI bw/\
 ae q1 λp4=>
 ∃n4,cI h3 (Addr.add (p4.add 27) 0) n4/\
 C.oh aU aI bw n4 h3 λr2 h4=>
 ∃n5,r2 = vI n5/\
 C.dI q1 n5 h4 λr3 h5=>
 ∃n6 n7,r3 = .tuple #[vI n6,vI n7]/\
 K (.tuple #[vI n6,vI n7]) h5)
theorem qc.ok{t1 g1 n1 aW K h}(x:qc t1 g1 n1 aW K h):C.qc t1 g1 n1 aW h K:=fk l0 (fun|3=>(oS 0 6 (.op 6 [] .nil))|4=>(oS 0 16 (.op 16 [] .nil))|_=>.nil) Tryz.func66 x
def iO(t1:OA)(g1:LV)(n1:Int)(aW:ByteArray)(K:KT)(h1:ad):=
 aC g1 27 h1 λh2=>
 C.cR aW h2 λr1 h3=>
 ∃b1,r1 = .bool b1/\
 bif(!b1)then(
 K (.tuple #[vI 0,vI 1]) h3)else(
 ∃br,List.length br=5/\ai h3 (bA h1) br/\
 C.gz t1 br n1 aW 0 h3 λr2 h4=>
 ∃n2 n3,r2 = .tuple #[vI n2,vI n3]/\
 K (.tuple #[vI n2,vI n3]) h4)
theorem iO.ok{t1 g1 n1 aW K h}(x:iO t1 g1 n1 aW K h):C.iO t1 g1 n1 aW h K:=fz Tryz.func67 x
def nZ(t1:OA)(g1:LV)(n1:Int)(aW:ByteArray)(cN:Int)(K:KT)(h1:ad):=
 aC g1 27 h1 λh2=>
 C.mq aW h2 λr1 h3=>
 ∃b1,r1 = .bool b1/\
 bif(!b1)then(
 K (.tuple #[vI 0,vI 1]) h3)else(
 ∃br,List.length br=5/\ai h3 (bA h1) br/\
 C.ve br cN h3 λr2 h4=>
 ∃b2,r2 = .bool b2/\
 bif(!b2)then(
 K (.tuple #[vI 0,vI 110]) h4)else(
 ∃cT,List.length cT=5/\ai h4 (bA h1) cT/\
 C.qU t1 cT n1 aW h4 λr3 h5=>
 ∃q1,r3 = vP q1/\
 ae q1 λp1=>
 ∃n2,cI h5 (Addr.add (p1.add 0) 22) n2/\
 bif(n2 != 0)then(
 ae q1 λp2=>
 ∃n3,cI h5 (Addr.add (p2.add 0) 22) n3/\
 K (.tuple #[vI 0,vI n3]) h5)else(
 ae q1 λp3=>
 ∃aU aI bw,cS h5 (Addr.add (p3.add 23) 2) aU aI bw/\
 ae q1 λp4=>
 ∃n4,cI h5 (Addr.add (p4.add 27) 0) n4/\
 C.nv aU aI bw [vI n4,.string aW,vI cN] h5 λr4 h6=>
 ∃n5,r4 = vI n5/\
 C.dI q1 n5 h6 λr5 h7=>
 ∃n6 n7,r5 = .tuple #[vI n6,vI n7]/\
 K (.tuple #[vI n6,vI n7]) h7)))
theorem nZ.ok{t1 g1 n1 aW cN K h}(x:nZ t1 g1 n1 aW cN K h):C.nZ t1 g1 n1 aW cN h K:=fk l0 (fun|7=>(oS 0 6 (.op 6 [] .nil))|8=>(oS 0 19 (.op 19 [] .nil))|_=>.nil) Tryz.func68 x
def dY.k1(t1:OA)(n1:Int)(aW:ByteArray)(cN:Int)(h1 h3:ad)(K:KT):=
 ∃br,List.length br=5/\ai h3 (bA h1) br/\
 C.gz t1 br n1 aW cN h3 λr2 h4=>
 ∃n3 n4,r2 = .tuple #[vI n3,vI n4]/\
 K (.tuple #[vI n3,vI n4]) h4
def dY(t1:OA)(g1:LV)(n1:Int)(aW:ByteArray)(cN:Int)(K:KT)(h1:ad):=
 aC g1 27 h1 λh2=>
 C.cR aW h2 λr1 h3=>
 ∃b1,r1 = .bool b1/\
 bif(!b1)then(
 K (.tuple #[vI 0,vI 1]) h3)else(
 bif(decide (cN<1))then(
 K (.tuple #[vI 0,vI 110]) h3)else(
 ∃n2,cI h3 (aS h1 4) n2/\
 bif(decide (cN>=n2))then(
 K (.tuple #[vI 0,vI 110]) h3)else(
 dY.k1 t1 n1 aW cN h1 h3 K)))
theorem dY.ok{t1 g1 n1 aW cN K h}(x:dY t1 g1 n1 aW cN K h):C.dY t1 g1 n1 aW cN h K:=fz Tryz.func69 x
def iB(s1:ByteArray)(n1:Int)(K:KT)(h1:ad):=
 aC [.int .u8 (IntKind.wrap .u8 ((wI (48+(wI (Int.tdiv n1 10)))))),.int .u8 (IntKind.wrap .u8 ((wI (48+(Int.tmod n1 10)))))] 5 h1 λh2=>
 ∃Eb,av h2 (some (bA h1)) 2 Eb/\
 ((s1.size+(mkStr Eb).size:Nat):Int)<=9223372036854775807/\
 K (.string (s1++(mkStr Eb))) h2
theorem iB.ok{s1 n1 K h}(x:iB s1 n1 K h):C.iB s1 n1 h K:=fz Tryz.func70 x
def cV(m1:Option Nat)(K:KT)(h1:ad):=
 aC [.map m1] 97 h1 λh2=>
 K (.func (.func 117) #[] ⟨[vP (some ⟨h1.size,0,none⟩)]⟩) h2
theorem cV.ok{m1 K h}(x:cV m1 K h):C.cV m1 h K:=fz Tryz.func72 x
def iC(d1:OA)(i1:Int)(K:KT)(h1:ad):=
 ae d1 λp1=>
 ∃b1,cellOf h1 (p1.add 4)=some (.bool b1)/\
 bif b1 then(
 K (.tuple #[vS none 0 0,vI 30]) h1)else(
 C.jh d1 i1 h1 λr1 h2=>
 ∃b2,r1 = .bool b2/\
 bif(!b2)then(
 K (.tuple #[vS none 0 0,vI 31]) h2)else(
 ae d1 λp2=>
 ∃aU aI bw,cS h2 (p2.add 0) aU aI bw/\
 (0<=i1/\i1<(aI:Int))/\
 ae aU λp3=>
 ∃br,List.length br=512/\ai h2 (p3.add ((Int.toNat i1)*512)) br/\
 aF z67 67 br 512 h2 λh4=>
 ae d1 λp4=>
 ∃eC dT fD,cS h4 (p4.add 1) eC dT fD/\
 ∃(I1:IP) (M1:IM),I1 0 h4/\
 ∀(n1:Int),∀h5:ad,I1 n1 h5->
 bif(decide (n1<(dT:Int)))then(
 (0<=n1/\n1<(dT:Int))/\
 ae eC λp5=>
 ∃cT,List.length cT=513/\ai h5 (p5.add ((Int.toNat n1)*513)) cT/\
 aF z183 183 cT 513 h5 λh7=>
 ∃n2,cI h7 (aS h5 0) n2/\
 bif(n2==i1)then(
 ∃gG,List.length gG=512/\ai h7 (aS h5 1) gG/\
 az (bA h2) gG 512 h7 λh8=>
 I1 (wI (n1+1)) h8/\M1 (wI (n1+1)) h8<M1 n1 h5)else(
 I1 (wI (n1+1)) h7/\M1 (wI (n1+1)) h7<M1 n1 h5))else(
 K (.tuple #[vS (some (bA h2)) 512 512,vI 0]) h5)))
theorem iC.ok{d1 i1 K h}(x:iC d1 i1 K h):C.iC d1 i1 h K:=fk (fun|7=>([1,6,29,30],[(31,.int .i64)])|_=>([],[])) o0 Tryz.func73 x
def cK.k1(d1:OA)(i1:Int)(h3:ad)(K:KT):=
 ae d1 λp2=>
 ∃aU aI bw,cS h3 (p2.add 1) aU aI bw/\
 ∃(I1:IP) (M1:IM),I1 (wI ((aI:Int)-1)) h3/\
 ∀(j1:Int),∀h4:ad,I1 j1 h4->
 bif(decide (j1>=0))then(
 ae d1 λp3=>
 ∃eC dT fD,cS h4 (p3.add 1) eC dT fD/\
 (0<=j1/\j1<(dT:Int))/\
 ae eC λp4=>
 ∃n2,cI h4 (Addr.add (p4.add ((Int.toNat j1)*3)) 0) n2/\
 bif(n2==1)then(
 ae d1 λp5=>
 ∃kS kA lW,cS h4 (p5.add 1) kS kA lW/\
 (0<=j1/\j1<(kA:Int))/\
 ae kS λp6=>
 ∃n3,cI h4 (Addr.add (p6.add ((Int.toNat j1)*3)) 1) n3/\
 bif(n3==i1)then(
 ae d1 λp7=>
 ∃tN tF uF,cS h4 (p7.add 1) tN tF uF/\
 (0<=j1/\j1<(tF:Int))/\
 ae tN λp8=>
 ∃xD xf xQ,cS h4 (Addr.add (p8.add ((Int.toNat j1)*3)) 2) xD xf xQ/\
 C.dR xD xf xQ h4 λr2 h5=>
 ∃BR Bu De,r2 = vS BR Bu De/\
 K (.tuple #[vS BR Bu De,vI 0]) h5)else(
 I1 (wI (j1-1)) h4/\M1 (wI (j1-1)) h4<M1 j1 h4))else(
 I1 (wI (j1-1)) h4/\M1 (wI (j1-1)) h4<M1 j1 h4))else(
 ae d1 λp9=>
 ∃EZ E0 Gk,cS h4 (p9.add 0) EZ E0 Gk/\
 (0<=(wI (i1*512))/\(wI (i1*512))<=(wI ((wI (i1*512))+512))/\(wI ((wI (i1*512))+512))<=(Gk:Int))/\
 C.dR (if Gk=(Int.toNat (wI (i1*512)))then EZ else Option.map (Addr.add · (Int.toNat (wI (i1*512)))) EZ) ((Int.toNat (wI ((wI (i1*512))+512)))-(Int.toNat (wI (i1*512)))) (Gk-(Int.toNat (wI (i1*512)))) h4 λr3 h6=>
 ∃EL Df H3,r3 = vS EL Df H3/\
 K (.tuple #[vS EL Df H3,vI 0]) h6)
def cK(d1:OA)(i1:Int)(K:KT)(h1:ad):=
 ae d1 λp1=>
 ∃b1,cellOf h1 (p1.add 4)=some (.bool b1)/\
 bif b1 then(
 K (.tuple #[vS none 0 0,vI 30]) h1)else(
 bif(decide (i1<0))then(
 K (.tuple #[vS none 0 0,vI 31]) h1)else(
 C.bL d1 h1 λr1 h2=>
 ∃n1,r1 = vI n1/\
 bif(decide (i1>=n1))then(
 K (.tuple #[vS none 0 0,vI 31]) h2)else(
 cK.k1 d1 i1 h2 K)))
theorem cK.ok{d1 i1 K h}(x:cK d1 i1 K h):C.cK d1 i1 h K:=fk (fun|6=>([0,1],[(6,.int .i64)])|_=>([],[])) o0 Tryz.func74 x
def dP.k1(kD:OA)(jd:Nat)(Fj:Int)(h4:ad)(K:KT):=
 bif(decide (Fj<(jd:Int)))then(
 (0<=Fj/\Fj<(jd:Int))/\
 ae kD λp3=>
 ∃b1,cellOf h4 (p3.add (Int.toNat Fj))=some (.bool b1)/\
 K (.bool b1) h4)else(
 K (.bool false) h4)
def dP(pZ:OA)(nY tE:Nat)(i1:Int)(kD:OA)(jd nH:Nat)(K:KT)(h1:ad):=
 ∃(I1:IP) (M1:IM),I1 (wI (i1+1)) h1/\
 ∀(j1:Int),∀h2:ad,I1 j1 h2->
 bif(decide (j1<(nY:Int)))then(
 (0<=j1/\j1<(nY:Int))/\
 ae pZ λp1=>
 ∃n1,cI h2 (Addr.add (p1.add ((Int.toNat j1)*3)) 0) n1/\
 bif(n1==2)then(
 K (.bool true) h2)else(
 I1 (wI (j1+1)) h2/\M1 (wI (j1+1)) h2<M1 j1 h2))else(
 ∃(I2:Int->Int->ad->Prop) (M2:Int->Int->ad->Nat),I2 0 (wI (i1-1)) h2/\
 ∀(zm:Int) (j2:Int),∀h3:ad,I2 zm j2 h3->
 bif(decide (j2>=0))then(
 (0<=j2/\j2<(nY:Int))/\
 ae pZ λp2=>
 ∃n2,cI h3 (Addr.add (p2.add ((Int.toNat j2)*3)) 0) n2/\
 bif(n2==1)then(
 I2 (wI (zm+1)) (wI (j2-1)) h3/\M2 (wI (zm+1)) (wI (j2-1)) h3<M2 zm j2 h3)else(
 dP.k1 kD jd zm h3 K))else(
 dP.k1 kD jd zm h3 K))
theorem dP.ok{pZ nY tE i1 kD jd nH K h}(x:dP pZ nY tE i1 kD jd nH K h):C.dP pZ nY tE i1 kD jd nH h K:=fk (fun|2=>([0,1,2],[(7,.int .i64)])|8=>([0,2],[(8,.int .i64),(9,.int .i64)])|_=>([],[])) o0 Tryz.func75 x
def cG(n1 Da we:Int)(K:KT)(h1:ad):=
 bif(decide (n1>=Da))then(
 K (.bool (decide (n1<=we))) h1)else(
 K (.bool false) h1)
theorem cG.ok{n1 Da we K h}(x:cG n1 Da we K h):C.cG n1 Da we h K:=fz Tryz.func76 x
def fG(n1 rZ:Int)(K:KT)(h1:ad):=
 ∃(I1:Int->OA->Nat->Nat->Int->ad->Prop) (M1:Int->OA->Nat->Nat->Int->ad->Nat),I1 n1 none 0 0 0 h1/\
 ∀(n2:Int) (aH:OA) (aK:Nat) (aR:Nat) (i1:Int),∀h2:ad,I1 n2 aH aK aR i1 h2->
 bif(decide (i1<rZ))then(
 aC [.int .u8 (IntKind.wrap .u8 ((Int.tmod n2 256)))] 5 h2 λh3=>
 ∃aM,List.length aM=1*1/\ak h3 (some (bA h2)) aM/\(∀v∈aM,v.oneCell'=true)/\
 aJ xd 5 aH aK aR 1 aM h3 λaU aI bw h4=>
 I1 (wI (Int.tdiv n2 256)) aU aI bw (wI (i1+1)) h4/\M1 (wI (Int.tdiv n2 256)) aU aI bw (wI (i1+1)) h4<M1 n2 aH aK aR i1 h2)else(
 K (vS aH aK aR) h2)
theorem fG.ok{n1 rZ K h}(x:fG n1 rZ K h):C.fG n1 rZ h K:=fk (fun|3=>([1],[(0,.int .i64),(5,.slice),(6,.int .i64)])|_=>([],[])) o0 Tryz.func77 x
def sd(t1:OA)(g1:LV)(n1:Int)(K:KT)(h1:ad):=
 aC g1 27 h1 λh2=>
 aC z32 32 h2 λh3=>
 ∃br,List.length br=5/\ai h3 ⟨h1.size,0,none⟩ br/\
 C.j3 br n1 h3 λr1 h4=>
 ∃b1,r1 = .bool b1/\
 bif(!b1)then(
 az ⟨h2.size,0,none⟩ z32 15 h4 λh5=>
 ∃dq,List.length dq=15/\ai h5 ⟨h2.size,0,none⟩ dq/\
 K (.tuple #[.agg ⟨dq⟩,vI 110]) h5)else(
 ∃cT,List.length cT=5/\ai h4 ⟨h1.size,0,none⟩ cT/\
 C.mF t1 cT n1 h4 λr2 h6=>
 ∃n2 aU aI bw n3 n4,r2 = .tuple #[vI n2,vS aU aI bw,vI n3,vI n4]/\
 bif(n4 != 0)then(
 az ⟨h2.size,0,none⟩ z32 15 h6 λh7=>
 ∃fV,List.length fV=15/\ai h7 ⟨h2.size,0,none⟩ fV/\
 K (.tuple #[.agg ⟨fV⟩,vI n4]) h7)else(
 (0<=n3/\n3<=(wI (n3+64))/\(wI (n3+64))<=(bw:Int))/\
 C.mN (if bw=(Int.toNat n3)then aU else Option.map (Addr.add · (Int.toNat n3)) aU) ((Int.toNat (wI (n3+64)))-(Int.toNat n3)) (bw-(Int.toNat n3)) h6 λr3 h8=>
 ∃gG n5,r3 = .tuple #[.agg ⟨gG⟩,vI n5]/\
 az ⟨h2.size,0,none⟩ gG 15 h8 λh9=>
 ∃fY,List.length fY=15/\ai h9 ⟨h2.size,0,none⟩ fY/\
 K (.tuple #[.agg ⟨fY⟩,vI n5]) h9))
theorem sd.ok{t1 g1 n1 K h}(x:sd t1 g1 n1 K h):C.sd t1 g1 n1 h K:=fz Tryz.func78 x
def aQ.k2(jP:Value)(cw:OA)(k1:Int)(h2:ad)(I1:IP)(M1:IM)(h3 bf:ad)(K:KT):=
 ∃eC dT fD,cS bf (aS h3 2) eC dT fD/\
 C.n' eC dT fD bf λr5 bQ=>
 ∃kS kA lW n8,r5 = .tuple #[vS kS kA lW,vI n8]/\
 bD (aS h3 3) (vS kS kA lW) bQ λcX=>
 ae cw λYL=>
 ∃Pr,cP cX YL Pr/\
 C.fw Pr n8 cX λr6 fN=>
 ∃b3,r6 = .bool b3/\
 bif b3 then(
 K (.tuple #[]) fN)else(
 ∃gG,List.length gG=4/\ai fN (bA h3) gG/\
 gJ Tryz.prog jP [.agg ⟨gG⟩] fN λr7 gN=>
 ∃b4,r7 = .bool b4/\
 bif(!b4)then(
 K (.tuple #[]) gN)else(
 I1 (wI (k1+1)) gN/\M1 (wI (k1+1)) gN<M1 k1 h2))
def aQ.k1(jP:Value)(cw:OA)(k1:Int)(h2:ad)(I1:IP)(M1:IM)(K:KT):=
 (0<=(512:Int)/\(512:Int)<=512/\(1:Int)*512<=281474976710656/\(512:Int)<=281474976710656)/\
 aC (aL z5 (Int.toNat 512)) 5 h2 λh3=>
 aF Wk 111 [vI k1,vI 0,vS (some (bA h2)) (Int.toNat 512) (Int.toNat 512),vS none 0 0] 4 h3 λh5=>
 ae cw λp5=>
 ∃q3,cP h5 p5 q3/\
 ae q3 λp6=>
 ∃q4,cP h5 (p6.add 0) q4/\
 ae cw λp7=>
 ∃q5,cP h5 p7 q5/\
 ae q5 λp8=>
 ∃br,List.length br=5/\ai h5 (p8.add 1) br/\
 ae cw λp9=>
 ∃q6,cP h5 p9 q6/\
 ae q6 λOP=>
 ∃cT,List.length cT=15/\ai h5 (OP.add 7) cT/\
 C.nk q4 br cT k1 h5 λr1 h6=>
 ∃n3 n4,r1 = .tuple #[vI n3,vI n4]/\
 bD (aS h3 1) (vI n3) h6 λh7=>
 ae cw λIk=>
 ∃q7,cP h7 Ik q7/\
 C.fw q7 n4 h7 λr2 h8=>
 ∃b1,r2 = .bool b1/\
 bif b1 then(
 K (.tuple #[]) h8)else(
 ∃n5,cI h8 (aS h3 1) n5/\
 bif(n5 != 0)then(
 ae cw λJw=>
 ∃q8,cP h8 Jw q8/\
 ae q8 λYM=>
 ∃q9,cP h8 (YM.add 0) q9/\
 ∃n6,cI h8 (aS h3 1) n6/\
 C.dF q9 n6 h8 λr3 h9=>
 ∃aU aI bw n7,r3 = .tuple #[vS aU aI bw,vI n7]/\
 bD (aS h3 2) (vS aU aI bw) h9 λbG=>
 ae cw λZ4=>
 ∃OQ,cP bG Z4 OQ/\
 C.fw OQ n7 bG λr4 cu=>
 ∃b2,r4 = .bool b2/\
 bif b2 then(
 K (.tuple #[]) cu)else(
 aQ.k2 jP cw k1 h2 I1 M1 h3 cu K))else(
 aQ.k2 jP cw k1 h2 I1 M1 h3 h8 K))
def aQ(jP:Value)(cw:OA)(K:KT)(h1:ad):=
 ∃(I1:IP) (M1:IM),I1 0 h1/\
 ∀(k1:Int),∀h2:ad,I1 k1 h2->
 ae cw λp1=>
 ∃q1,cP h2 p1 q1/\
 ae q1 λp2=>
 ∃n1,cI h2 (p2.add 22) n1/\
 bif(n1==0)then(
 ae cw λp3=>
 ∃q2,cP h2 p3 q2/\
 ae q2 λp4=>
 ∃n2,cI h2 (Addr.add (p4.add 7) 2) n2/\
 bif(decide (k1<(wI (Int.tdiv n2 512))))then(
 aQ.k1 jP cw k1 h2 I1 M1 K)else(
 K (.tuple #[]) h2))else(
 K (.tuple #[]) h2)
theorem aQ.ok{jP cw K h}(x:aQ jP cw K h):C.aQ jP cw h K:=fk (fun|1=>([0,1],[(3,.int .i64)])|_=>([],[])) (fun|5=>(oS 0 19 (.op 19 [] .nil))|8=>(oS 0 12 (.op 12 [] .nil))|_=>.nil) Tryz.func79 x
def nk.k1(t1:OA)(k1:Int)(h1 h2 h3:ad)(K:KT):=
 ∃br,List.length br=5/\ai h3 ⟨h1.size,0,none⟩ br/\
 ∃cT,List.length cT=15/\ai h3 ⟨h2.size,0,none⟩ cT/\
 List.length (br:LV)=5/\
 List.length (cT:LV)=15/\
 aC ([vP t1]++(br++cT)) 189 h3 λh4=>
 C.bY (some ⟨h3.size,0,none⟩) k1 (Value.func (.func 123) #[] ⟨[]⟩) h4 λr1 h5=>
 ∃n1 n2,r1 = .tuple #[vI n1,vI n2]/\
 K (.tuple #[vI n1,vI n2]) h5
def nk(t1:OA)(g1 x1:LV)(k1:Int)(K:KT)(h1:ad):=
 aC g1 27 h1 λh2=>
 aC x1 32 h2 λh3=>
 bif(decide (k1<0))then(
 K (.tuple #[vI 0,vI 101]) h3)else(
 bif(decide (k1>=16522))then(
 K (.tuple #[vI 0,vI 101]) h3)else(
 nk.k1 t1 k1 h1 h2 h3 K))
set_option maxRecDepth 1000000 in
set_option maxRecDepth 1000000 in
theorem nk.ok{t1 g1 x1 k1 K h}(x:nk t1 g1 x1 k1 K h):C.nk t1 g1 x1 k1 h K:=fz Tryz.func80 x
def fw(r1:OA)(e1:Int)(K:KT)(h1:ad):=
 ae r1 λp1=>
 bD (p1.add 22) (vI e1) h1 λh2=>
 K (.bool (e1 != 0)) h2
theorem fw.ok{r1 e1 K h}(x:fw r1 e1 K h):C.fw r1 e1 h K:=fz Tryz.func81 x
def n'(aH:OA)(aK aR:Nat)(K:KT)(h1:ad):=
 bif((aK:Int) != 512)then(
 K (.tuple #[vS none 0 0,vI 32]) h1)else(
 ∃(I1:OA->Nat->Nat->Int->ad->Prop) (M1:OA->Nat->Nat->Int->ad->Nat),I1 none 0 0 0 h1/\
 ∀(jx:OA) (iA:Nat) (kR:Nat) (n1:Int),∀h2:ad,I1 jx iA kR n1 h2->
 bif(decide (n1<16))then(
 C.lL aH aK aR n1 h2 λr1 h3=>
 ∃aU aI bw,r1 = vS aU aI bw/\
 C.lK aU aI bw h3 λr2 h4=>
 ∃n2 s1 b1,r2 = .tuple #[vI n2,.string s1,.bool b1]/\
 bif(!b1)then(
 K (.tuple #[vS none 0 0,vI 140]) h4)else(
 bif(n2 != 0)then(
 List.length ([vI n1,.string s1,vI n2]:LV)=3/\
 aC [vI n1,.string s1,vI n2] 79 h4 λh5=>
 ∃aM,List.length aM=1*3/\ak h5 (some (bA h4)) aM/\(∀v∈aM,v.oneCell'=true)/\
 aJ rV 79 jx iA kR 1 aM h5 λeC dT fD h6=>
 I1 eC dT fD (wI (n1+1)) h6/\M1 eC dT fD (wI (n1+1)) h6<M1 jx iA kR n1 h2)else(
 I1 jx iA kR (wI (n1+1)) h4/\M1 jx iA kR (wI (n1+1)) h4<M1 jx iA kR n1 h2)))else(
 K (.tuple #[vS jx iA kR,vI 0]) h2))
theorem n'.ok{aH aK aR K h}(x:n' aH aK aR K h):C.n' aH aK aR h K:=fk (fun|5=>([0],[(4,.slice),(12,.int .i64)])|_=>([],[])) o0 Tryz.func82 x
def lJ(t1:OA)(g1:LV)(n1:Int)(K:KT)(h1:ad):=
 aC g1 27 h1 λh2=>
 aC z32 32 h2 λh3=>
 ∃br,List.length br=5/\ai h3 (bA h1) br/\
 C.dS br n1 h3 λr1 h4=>
 ∃n2 n3 n4,r1 = .tuple #[vI n2,vI n3,vI n4]/\
 bif(n4 != 0)then(
 az (bA h2) z32 15 h4 λh5=>
 ∃dq,List.length dq=15/\ai h5 (bA h2) dq/\
 K (.tuple #[.agg ⟨dq⟩,vI n4]) h5)else(
 C.aT t1 n2 h4 λr2 h6=>
 ∃aU aI bw n5,r2 = .tuple #[vS aU aI bw,vI n5]/\
 bif(n5 != 0)then(
 az (bA h2) z32 15 h6 λh7=>
 ∃fV,List.length fV=15/\ai h7 (bA h2) fV/\
 K (.tuple #[.agg ⟨fV⟩,vI n5]) h7)else(
 (0<=n3/\n3<=(wI (n3+64))/\(wI (n3+64))<=(bw:Int))/\
 C.db (if bw=(Int.toNat n3)then aU else Option.map (Addr.add · (Int.toNat n3)) aU) ((Int.toNat (wI (n3+64)))-(Int.toNat n3)) (bw-(Int.toNat n3)) h6 λr3 h8=>
 ∃cT n6,r3 = .tuple #[.agg ⟨cT⟩,vI n6]/\
 az (bA h2) cT 15 h8 λh9=>
 ∃fY,List.length fY=15/\ai h9 (bA h2) fY/\
 K (.tuple #[.agg ⟨fY⟩,vI n6]) h9))
theorem lJ.ok{t1 g1 n1 K h}(x:lJ t1 g1 n1 K h):C.lJ t1 g1 n1 h K:=fz Tryz.func87 x
def fH.k1(t1:OA)(k1:Int)(h4:ad)(n1:Int)(K:KT):=
 C.aT t1 n1 h4 λr2 h5=>
 ∃aU aI bw n3,r2 = .tuple #[vS aU aI bw,vI n3]/\
 bif(n3 != 0)then(
 K (.tuple #[vS none 0 0,vI n3]) h5)else(
 C.kG aU aI bw h5 λr3 h6=>
 ∃eC dT fD n4,r3 = .tuple #[vS eC dT fD,vI n4]/\
 bif(n4 != 0)then(
 K (.tuple #[vS none 0 0,vI n4]) h6)else(
 ∃(I1:OA->Nat->Nat->Int->ad->Prop) (M1:OA->Nat->Nat->Int->ad->Nat),I1 none 0 0 0 h6/\
 ∀(pK:OA) (oC:Nat) (rK:Nat) (n5:Int),∀h7:ad,I1 pK oC rK n5 h7->
 bif(decide (n5<(dT:Int)))then(
 (0<=n5/\n5<(dT:Int))/\
 ae eC λp1=>
 ∃gG,List.length gG=3/\ai h7 (p1.add ((Int.toNat n5)*3)) gG/\
 aF z79 79 gG 3 h7 λh9=>
 ∃n6,cI h9 (aS h7 0) n6/\
 ∃s1,cellOf h9 (aS h7 1)=some (.string s1)/\
 ∃n7,cI h9 (aS h7 2) n7/\
 List.length ([vI (wI ((wI (16*k1))+n6)),.string s1,vI n7]:LV)=3/\
 aC [vI (wI ((wI (16*k1))+n6)),.string s1,vI n7] 79 h9 λbG=>
 ∃aM,List.length aM=1*3/\ak bG (some (bA h9)) aM/\(∀v∈aM,v.oneCell'=true)/\
 aJ rV 79 pK oC rK 1 aM bG λkS kA lW cu=>
 I1 kS kA lW (wI (n5+1)) cu/\M1 kS kA lW (wI (n5+1)) cu<M1 pK oC rK n5 h7)else(
 K (.tuple #[vS pK oC rK,vI 0]) h7)))
def fH(t1:OA)(g1 x1:LV)(k1:Int)(K:KT)(h1:ad):=
 aC g1 27 h1 λh2=>
 aC x1 32 h2 λh3=>
 ∃br,List.length br=5/\ai h3 (bA h1) br/\
 ∃cT,List.length cT=15/\ai h3 (bA h2) cT/\
 C.dJ t1 br cT k1 h3 λr1 h4=>
 ∃n1 n2,r1 = .tuple #[vI n1,vI n2]/\
 bif(n2 != 0)then(
 K (.tuple #[vS none 0 0,vI n2]) h4)else(
 bif(n1==0)then(
 K (.tuple #[vS none 0 0,vI n2]) h4)else(
 fH.k1 t1 k1 h4 n1 K))
theorem fH.ok{t1 g1 x1 k1 K h}(x:fH t1 g1 x1 k1 K h):C.fH t1 g1 x1 k1 h K:=fk (fun|12=>([3,50,51],[(15,.slice),(52,.int .i64)])|_=>([],[])) o0 Tryz.func88 x
def mq(s1:ByteArray)(K:KT)(h1:ad):=
 C.qp s1 h1 λr1 h2=>
 ∃v1 b1,r1 = .tuple #[v1,.bool b1]/\
 bif(decide ((s1.size:Int)>=1))then(
 bif(decide ((s1.size:Int)<=27))then(
 bif(!b1)then(
 C.fX s1 (mkStr [47,0]) h2 λr2 h3=>
 ∃b2,r2 = .bool b2/\
 K (.bool (!b2)) h3)else(
 K (.bool false) h2))else(
 K (.bool false) h2))else(
 K (.bool false) h2)
theorem mq.ok{s1 K h}(x:mq s1 K h):C.mq s1 h K:=fz Tryz.func89 x
def xe(jx:OA)(iA kR:Nat)(n1:Int)(K:KT)(h1:ad):=
 ∃(I1:Int->Int->ad->Prop) (M1:Int->Int->ad->Nat),I1 97 0 h1/\
 ∀(Wy:Int) (n2:Int),∀h2:ad,I1 Wy n2 h2->
 bif(decide (n2<(iA:Int)))then(
 (0<=n2/\n2<(iA:Int))/\
 ae jx λp1=>
 ∃br,List.length br=2/\ai h2 (p1.add ((Int.toNat n2)*2)) br/\
 aF MP 133 br 2 h2 λh4=>
 ∃n3,cI h4 (aS h2 0) n3/\
 bif(decide (n3<=Wy))then(
 K (.bool false) h4)else(
 ∃n4,cI h4 (aS h2 0) n4/\
 bif(decide (n4>=n1))then(
 K (.bool false) h4)else(
 ∃n5,cI h4 (aS h2 0) n5/\
 I1 n5 (wI (n2+1)) h4/\M1 n5 (wI (n2+1)) h4<M1 Wy n2 h2)))else(
 K (.bool (decide ((iA:Int)<=96))) h2)
theorem xe.ok{jx iA kR n1 K h}(x:xe jx iA kR n1 K h):C.xe jx iA kR n1 h K:=fk (fun|3=>([0,1,8,9],[(5,.int .i64),(10,.int .i64)])|_=>([],[])) o0 Tryz.func90 x
def se(mL:OA)(jC og:Nat)(jQ:OA)(iP kW:Nat)(K:KT)(h1:ad):=
 C.uB mL jC og 16384 h1 λr1 h2=>
 ∃b1,r1 = .bool b1/\
 bif(!b1)then(
 K (.tuple #[vS none 0 0,vI 40]) h2)else(
 C.kH jQ iP kW (jC:Int) h2 λr2 h3=>
 ∃b2,r2 = .bool b2/\
 bif(!b2)then(
 K (.tuple #[vS none 0 0,vI 32]) h3)else(
 C.oq  h3 λr3 h4=>
 ∃aU aI bw,r3 = vS aU aI bw/\
 C.j5 aU aI bw 0 8 (mkStr [66,79,76,69,76,79,71,49]) h4 λr4 h5=>
 ∃n1,r4 = vI n1/\
 C.ja aU aI bw 8 2 (IntKind.wrap .u64 ((jC:Int))) h5 λr5 h6=>
 ∃n2,r5 = vI n2/\
 ∃(I1:IP) (M1:IM),I1 0 h6/\
 ∀(n3:Int),∀h7:ad,I1 n3 h7->
 bif(decide (n3<(jC:Int)))then(
 (0<=n3/\n3<(jC:Int))/\
 ae mL λp1=>
 ∃n4,cI h7 (p1.add (Int.toNat n3)) n4/\
 C.ja aU aI bw (wI (16+(wI (4*n3)))) 4 (IntKind.wrap .u64 (n4)) h7 λr6 h8=>
 ∃n5,r6 = vI n5/\
 I1 (wI (n3+1)) h8/\M1 (wI (n3+1)) h8<M1 n3 h7)else(
 C.qd aU aI bw jQ iP kW h7 λr7 h9=>
 ∃n6,r7 = .int .u32 n6/\
 C.ja aU aI bw 12 4 (IntKind.wrap .u64 (n6)) h9 λr8 bG=>
 ∃n7,r8 = vI n7/\
 K (.tuple #[vS aU aI bw,vI 0]) bG)))
set_option maxRecDepth 1000000 in
set_option maxRecDepth 1000000 in
theorem se.ok{mL jC og jQ iP kW K h}(x:se mL jC og jQ iP kW K h):C.se mL jC og jQ iP kW h K:=fk (fun|9=>([1,6,27,28],[(29,.int .i64)])|_=>([],[])) o0 Tryz.func91 x
def iD(d1:OA)(K:KT)(h1:ad):=
 ae d1 λp1=>
 ∃b1,cellOf h1 (p1.add 4)=some (.bool b1)/\
 K (.bool b1) h1
theorem iD.ok{d1 K h}(x:iD d1 K h):C.iD d1 h K:=fz Tryz.func92 x
def fI(s1:OA)(i1:Int)(aH:OA)(aK aR:Nat)(K:KT)(h1:ad):=
 aC [vI i1] 3 h1 λh2=>
 aC [vS aH aK aR] 33 h2 λh3=>
 ae s1 λp1=>
 ∃aU aI bw,cS h3 p1 aU aI bw/\
 aC [.func (.func 148) #[] ⟨[vP (some (bA h1)),vP (some (bA h2))]⟩] 168 h3 λh4=>
 ∃aM,List.length aM=1*1/\ak h4 (some (bA h3)) aM/\(∀v∈aM,v.oneCell'=true)/\
 aJ Rv 168 aU aI bw 1 aM h4 λeC dT fD h5=>
 ae s1 λp2=>
 bD p2 (vS eC dT fD) h5 λh6=>
 K (.tuple #[]) h6
theorem fI.ok{s1 i1 aH aK aR K h}(x:fI s1 i1 aH aK aR K h):C.fI s1 i1 aH aK aR h K:=fz Tryz.func93 x
def fJ(s1:OA)(K:KT)(h1:ad):=
 ae s1 λp1=>
 ∃aU aI bw,cS h1 p1 aU aI bw/\
 aC [.func (.func 150) #[] ⟨[]⟩] 168 h1 λh2=>
 ∃aM,List.length aM=1*1/\ak h2 (some (bA h1)) aM/\(∀v∈aM,v.oneCell'=true)/\
 aJ Rv 168 aU aI bw 1 aM h2 λeC dT fD h3=>
 ae s1 λp2=>
 bD p2 (vS eC dT fD) h3 λh4=>
 K (.tuple #[]) h4
theorem fJ.ok{s1 K h}(x:fJ s1 K h):C.fJ s1 h K:=fz Tryz.func94 x
def kF(s1 jx:OA)(iA kR:Nat)(K:KT)(h1:ad):=
 ∃(I1:IP) (M1:IM),I1 0 h1/\
 ∀(n1:Int),∀h2:ad,I1 n1 h2->
 bif(decide (n1<(iA:Int)))then(
 (0<=n1/\n1<(iA:Int))/\
 ae jx λp1=>
 ∃br,List.length br=2/\ai h2 (p1.add ((Int.toNat n1)*2)) br/\
 aF MP 133 br 2 h2 λh4=>
 ∃n2,cI h4 (aS h2 0) n2/\
 ∃aU aI bw,cS h4 (aS h2 1) aU aI bw/\
 C.fI s1 n2 aU aI bw h4 λr1 h5=>
 r1 = .tuple #[]/\
 I1 (wI (n1+1)) h5/\M1 (wI (n1+1)) h5<M1 n1 h2)else(
 C.fJ s1 h2 λr2 h6=>
 r2 = .tuple #[]/\
 C.oq  h6 λr3 h7=>
 ∃eC dT fD,r3 = vS eC dT fD/\
 C.fI s1 1 eC dT fD h7 λr4 h8=>
 r4 = .tuple #[]/\
 C.fJ s1 h8 λr5 h9=>
 r5 = .tuple #[]/\
 K (.tuple #[]) h9)
theorem kF.ok{s1 jx iA kR K h}(x:kF s1 jx iA kR K h):C.kF s1 jx iA kR h K:=fk (fun|1=>([0,6,7],[(8,.int .i64)])|_=>([],[])) o0 Tryz.func95 x
def k8(aU:OA)(aI bw:Nat)(d1:OA)(K:KT)(h1:ad):=
 ∃(I1:IP) (M1:IM),I1 0 h1/\
 ∀(n1:Int),∀h2:ad,I1 n1 h2->
 bif(decide (n1<(aI:Int)))then(
 (0<=n1/\n1<(aI:Int))/\
 ae aU λp1=>
 ∃v1,cellOf h2 (p1.add (Int.toNat n1))=some (v1)/\
 gJ Tryz.prog v1 [vP d1] h2 λr1 h3=>
 ∃n2,r1 = vI n2/\
 bif(n2 != 0)then(
 K (vI n2) h3)else(
 I1 (wI (n1+1)) h3/\M1 (wI (n1+1)) h3<M1 n1 h2))else(
 K (vI 0) h2)
theorem k8.ok{aU aI bw d1 K h}(x:k8 aU aI bw d1 K h):C.k8 aU aI bw d1 h K:=fk (fun|2=>([1,8,9],[(10,.int .i64)])|_=>([],[])) o0 Tryz.func96 x
def iQ(jx:OA)(iA kR:Nat)(K:KT)(h1:ad):=
 aC [.int .u8 66,.int .u8 79,.int .u8 76,.int .u8 69,.int .u8 76,.int .u8 79,.int .u8 71,.int .u8 49] 5 h1 λh2=>
 K5 (bA h1) h2 λh3=>
 C.gS (iA:Int) 2 h3 λr1 h4=>
 ∃aU aI bw,r1 = vS aU aI bw/\
 ∃aM,List.length aM=aI*1/\ak h4 aU aM/\(∀v∈aM,v.oneCell'=true)/\
 aJ xd 5 (some (bA h1)) 8 8 aI aM h4 λeC dT fD h5=>
 aC [.int .u8 0,.int .u8 0] 5 h5 λh6=>
 ∃jR,List.length jR=2*1/\ak h6 (some (bA h5)) jR/\(∀v∈jR,v.oneCell'=true)/\
 aJ xd 5 eC dT fD 2 jR h6 λkS kA lW h7=>
 ∃(I1:OA->Nat->Nat->OA->Nat->Nat->Int->ad->Prop) (M1:OA->Nat->Nat->OA->Nat->Nat->Int->ad->Nat),I1 none 0 0 none 0 0 0 h7/\
 ∀(Lc:OA) (Ld:Nat) (Le:Nat) (jQ:OA) (iP:Nat) (kW:Nat) (n1:Int),∀h8:ad,I1 Lc Ld Le jQ iP kW n1 h8->
 bif(decide (n1<(iA:Int)))then(
 (0<=n1/\n1<(iA:Int))/\
 ae jx λp1=>
 ∃br,List.length br=2/\ai h8 (p1.add ((Int.toNat n1)*2)) br/\
 aF MP 133 br 2 h8 λbG=>
 ∃n2,cI bG (aS h8 0) n2/\
 C.gS n2 4 bG λr2 cu=>
 ∃tN tF uF,r2 = vS tN tF uF/\
 ∃xg,List.length xg=tF*1/\ak cu tN xg/\(∀v∈xg,v.oneCell'=true)/\
 aJ xd 5 Lc Ld Le tF xg cu λxD xf xQ bf=>
 ∃BR Bu De,cS bf (aS h8 1) BR Bu De/\
 ∃BS,List.length BS=Bu*1/\ak bf BR BS/\(∀v∈BS,v.oneCell'=true)/\
 aJ xd 5 jQ iP kW Bu BS bf λEZ E0 Gk bQ=>
 I1 xD xf xQ EZ E0 Gk (wI (n1+1)) bQ/\M1 xD xf xQ EZ E0 Gk (wI (n1+1)) bQ<M1 Lc Ld Le jQ iP kW n1 h8)else(
 ∃(I2:OA->Nat->Nat->ad->Prop) (M2:OA->Nat->Nat->ad->Nat),I2 Lc Ld Le h8/\
 ∀(Gt:OA) (yA:Nat) (Pw:Nat),∀cX:ad,I2 Gt yA Pw cX->
 bif(decide ((wI ((wI ((kA:Int)+4))+(yA:Int)))<512))then(
 aC [.int .u8 0] 5 cX λfN=>
 ∃La,List.length La=1*1/\ak fN (some (bA cX)) La/\(∀v∈La,v.oneCell'=true)/\
 aJ xd 5 Gt yA Pw 1 La fN λEL Df H3 gN=>
 I2 EL Df H3 gN/\M2 EL Df H3 gN<M2 Gt yA Pw cX)else(
 ∃Lb,List.length Lb=kA*1/\ak cX kS Lb/\(∀v∈Lb,v.oneCell'=true)/\
 aJ xd 5 none 0 0 kA Lb cX λWt Vk sC9 gO=>
 aC [.int .u8 0,.int .u8 0,.int .u8 0,.int .u8 0] 5 gO λjk=>
 ∃Z8,List.length Z8=4*1/\ak jk (some (bA gO)) Z8/\(∀v∈Z8,v.oneCell'=true)/\
 aJ xd 5 Wt Vk sC9 4 Z8 jk λK7 K8 MR eX=>
 ∃Z9,List.length Z9=yA*1/\ak eX Gt Z9/\(∀v∈Z9,v.oneCell'=true)/\
 aJ xd 5 K7 K8 MR yA Z9 eX λTY TZ T4 iG=>
 ∃Z',List.length Z'=iP*1/\ak iG jQ Z'/\(∀v∈Z',v.oneCell'=true)/\
 aJ xd 5 TY TZ T4 iP Z' iG λsA12 sL12 sC12 oM=>
 C.lM sA12 sL12 sC12 oM λr3 qD=>
 ∃n3,r3 = .int .u32 n3/\
 C.gS (wI (n3)) 4 qD λr4 pg=>
 ∃ahA aef sC13,r4 = vS ahA aef sC13/\
 ∃RB,List.length RB=aef*1/\ak pg ahA RB/\(∀v∈RB,v.oneCell'=true)/\
 aJ xd 5 kS kA lW aef RB pg λsA14 sL14 sC14 sX=>
 ∃RC,List.length RC=yA*1/\ak sX Gt RC/\(∀v∈RC,v.oneCell'=true)/\
 aJ xd 5 sA14 sL14 sC14 yA RC sX λsA15 sL15 sC15 qv=>
 K (vS sA15 sL15 sC15) qv))
theorem iQ.ok{jx iA kR K h}(x:iQ jx iA kR K h):C.iQ jx iA kR h K:=fk (fun|6=>([3,19,20],[(4,.slice),(5,.slice),(21,.int .i64)])|11=>([3,5],[(4,.slice)])|_=>([],[])) o0 Tryz.func97 x
def dG(d1:OA)(i1:Int)(aH:OA)(aK aR:Nat)(K:KT)(h1:ad):=
 ae d1 λp1=>
 ∃b1,cellOf h1 (p1.add 4)=some (.bool b1)/\
 bif b1 then(
 K (vI 30) h1)else(
 C.dR aH aK aR h1 λr1 h2=>
 ∃aU aI bw,r1 = vS aU aI bw/\
 aF z146 146 [vI 1,vI i1,vS aU aI bw] 3 h2 λh4=>
 ∃br,List.length br=3/\ai h4 (bA h2) br/\
 C.bL d1 h4 λr2 h5=>
 ∃n1,r2 = vI n1/\
 (List.length (br:LV)=3/\ai h5 (bA h2) br)/\
 C.jD n1 br h5 λr3 h6=>
 ∃n2,r3 = vI n2/\
 bif(n2 != 0)then(
 K (vI n2) h6)else(
 ae d1 λp2=>
 ∃n3,cI h6 (p2.add 5) n3/\
 ae d1 λp3=>
 bD (p3.add 5) (vI (wI (n3+1))) h6 λh7=>
 ae d1 λp4=>
 ∃eC dT fD,cS h7 (p4.add 1) eC dT fD/\
 ∃cT,List.length cT=3/\ai h7 (bA h2) cT/\
 List.length (cT:LV)=3/\
 aC cT 146 h7 λh8=>
 (cS h8 (p4.add 1) eC dT fD)/\
 ∃aM,List.length aM=1*3/\ak h8 (some (bA h7)) aM/\(∀v∈aM,v.oneCell'=true)/\
 aJ xC 146 eC dT fD 1 aM h8 λkS kA lW h9=>
 ae d1 λp5=>
 bD (p5.add 1) (vS kS kA lW) h9 λbG=>
 C.fe d1 bG λr4 cu=>
 ∃b2,r4 = .bool b2/\
 bif b2 then(
 K (vI 30) cu)else(
 K (vI 0) cu)))
theorem dG.ok{d1 i1 aH aK aR K h}(x:dG d1 i1 aH aK aR K h):C.dG d1 i1 aH aK aR h K:=fk l0 (fun|4=>(.op 0 [] (.op 2 [] (.op 1 [2] (.op 3 [] (.op 4 [] .nil)))))|8=>(oS 0 6 (.op 6 [4] (.op 7 [] (.op 8 [] (.op 9 [] (.op 10 [] .nil))))))|_=>.nil) Tryz.func98 x
def dH(d1:OA)(K:KT)(h1:ad):=
 ae d1 λp1=>
 ∃b1,cellOf h1 (p1.add 4)=some (.bool b1)/\
 bif b1 then(
 K (vI 30) h1)else(
 ae d1 λp2=>
 ∃n1,cI h1 (p2.add 6) n1/\
 ae d1 λp3=>
 bD (p3.add 6) (vI (wI (n1+1))) h1 λh2=>
 C.fe d1 h2 λr1 h3=>
 ∃b2,r1 = .bool b2/\
 bif b2 then(
 K (vI 30) h3)else(
 ae d1 λp4=>
 ∃aU aI bw,cS h3 (p4.add 1) aU aI bw/\
 List.length ([vI 2,vI 0,vS none 0 0]:LV)=3/\
 aC [vI 2,vI 0,vS none 0 0] 146 h3 λh4=>
 ∃aM,List.length aM=1*3/\ak h4 (some (bA h3)) aM/\(∀v∈aM,v.oneCell'=true)/\
 aJ xC 146 aU aI bw 1 aM h4 λeC dT fD h5=>
 ae d1 λp5=>
 bD (p5.add 1) (vS eC dT fD) h5 λh6=>
 K (vI 0) h6))
theorem dH.ok{d1 K h}(x:dH d1 K h):C.dH d1 h K:=fz Tryz.func99 x
def ve(g1:LV)(n1:Int)(K:KT)(h1:ad):=
 aC g1 27 h1 λh2=>
 bif(decide (n1>=1))then(
 ∃n2,cI h2 (aS h1 4) n2/\
 K (.bool (decide (n1<n2))) h2)else(
 K (.bool false) h2)
theorem ve.ok{g1 n1 K h}(x:ve g1 n1 K h):C.ve g1 n1 h K:=fz Tryz.func100 x
def bB(aU:OA)(aI bw:Nat)(f1:Value)(K:KT)(h1:ad):=
 C.cj aU aI bw f1 h1 λr1 h2=>
 ∃n1,r1 = vI n1/\
 K (.bool (decide (n1>=0))) h2
theorem bB.ok{aU aI bw f1 K h}(x:bB aU aI bw f1 K h):C.bB aU aI bw f1 h K:=fz Tryz.func101 x
def sf(c1:LV)(cw:OA)(K:KT)(h1:ad):=
 aC c1 79 h1 λh2=>
 ∃s1,cellOf h2 (aS h1 1)=some (.string s1)/\
 ae cw λp1=>
 ∃s2,cellOf h2 p1=some (.string s2)/\
 K (.bool (s1.toList==s2.toList)) h2
theorem sf.ok{c1 cw K h}(x:sf c1 cw K h):C.sf c1 cw h K:=fz Tryz.func102 x
def mM(aH:OA)(aK aR:Nat)(K:KT)(h1:ad):=
 C.n' aH aK aR h1 λr1 h2=>
 ∃aU aI bw n1,r1 = .tuple #[vS aU aI bw,vI n1]/\
 bif(n1 != 0)then(
 K (.tuple #[vI 0,vI n1]) h2)else(
 ∃(I1:IP) (M1:IM),I1 0 h2/\
 ∀(n2:Int),∀h3:ad,I1 n2 h3->
 bif(decide (n2<16))then(
 bif(n2==(aI:Int))then(
 K (.tuple #[vI n2,vI 0]) h3)else(
 (0<=n2/\n2<(aI:Int))/\
 ae aU λp1=>
 ∃n3,cI h3 (Addr.add (p1.add ((Int.toNat n2)*3)) 0) n3/\
 bif(n3 != n2)then(
 K (.tuple #[vI n2,vI 0]) h3)else(
 I1 (wI (n2+1)) h3/\M1 (wI (n2+1)) h3<M1 n2 h3)))else(
 K (.tuple #[vI (-1),vI 0]) h3))
theorem mM.ok{aH aK aR K h}(x:mM aH aK aR K h):C.mM aH aK aR h K:=fk (fun|5=>([4],[(15,.int .i64)])|_=>([],[])) o0 Tryz.func103 x
def hZ(t1:OA)(K:KT)(h1:ad):=
 ae t1 λp1=>
 ∃b1,cellOf h1 (p1.add 3)=some (.bool b1)/\
 bif b1 then(
 K (.tuple #[vI 0,vI 61]) h1)else(
 ae t1 λp2=>
 ∃aU aI bw,cS h1 (p2.add 2) aU aI bw/\
 K (.tuple #[vI (aI:Int),vI 0]) h1)
theorem hZ.ok{t1 K h}(x:hZ t1 K h):C.hZ t1 h K:=fz Tryz.func104 x
def fj(cw jb mY:OA)(K:KT)(h1:ad):=
 ae cw λp1=>
 ∃n1,cI h1 p1 n1/\
 bif(n1 != 0)then(
 ae jb λp2=>
 ∃q1,cP h1 p2 q1/\
 ae mY λp3=>
 ∃n2,cI h1 p3 n2/\
 C.fS q1 n2 h1 λr1 h2=>
 ∃n3,r1 = vI n3/\
 K (.tuple #[]) h2)else(
 K (.tuple #[]) h1)
def fj.lo : Nat->List Nat×List (Nat×Ty):=λn=>match n with|_=>([],[])
def fj.od : Nat->Od:=λn=>match n with|_=>.nil
theorem fj.eq(cw:OA)(jb:OA)(mY:OA)(K:KT)(h:ad):fnX (cx fj.lo fj.od) Tryz.f105 (Tryz.f105.body.getD .skip) [vP cw,vP jb,vP mY] K h=fj cw jb mY K h:=by kernel_rfl
theorem fj.Pv : Jr (cx fj.lo fj.od) Tryz.f105 (Tryz.f105.body.getD .skip) 3=true:=by kernel_rfl
theorem fj.FE(hx:fj cw jb mY (λ_ h'=>K h') h):D.fj cw jb mY h K:=
 K4 (Pq _ _) Tryz.func105 (by kernel_rfl) fj.Pv (by rw[fj.eq];exact hx)
def fS.k1(t1:OA)(jy:Int)(h1:ad)(K:KT):=
 ae t1 λp3=>
 ∃eC dT fD,cS h1 (p3.add 2) eC dT fD/\
 ∃(I1:IP) (M1:IM),I1 (wI ((dT:Int)-1)) h1/\
 ∀(k1:Int),∀h2:ad,I1 k1 h2->
 bif(decide (k1>=jy))then(
 ae t1 λp4=>
 ∃kS kA lW,cS h2 (p4.add 2) kS kA lW/\
 (0<=k1/\k1<(kA:Int))/\
 ae kS λp5=>
 ∃v1,cellOf h2 (p5.add (Int.toNat k1))=some (v1)/\
 gJ Tryz.prog v1 [] h2 λr1 h3=>
 r1 = .tuple #[]/\
 I1 (wI (k1-1)) h3/\M1 (wI (k1-1)) h3<M1 k1 h2)else(
 ae t1 λp6=>
 ∃tN tF uF,cS h2 (p6.add 2) tN tF uF/\
 (0<=jy/\jy<=(uF:Int))/\
 ae t1 λp7=>
 bD (p7.add 2) (vS tN (Int.toNat jy) uF) h2 λh4=>
 K (vI 0) h4)
def fS(t1:OA)(jy:Int)(K:KT)(h1:ad):=
 ae t1 λp1=>
 ∃b1,cellOf h1 (p1.add 3)=some (.bool b1)/\
 bif b1 then(
 K (vI 61) h1)else(
 bif(decide (jy<0))then(
 K (vI 62) h1)else(
 ae t1 λp2=>
 ∃aU aI bw,cS h1 (p2.add 2) aU aI bw/\
 bif(decide (jy>(aI:Int)))then(
 K (vI 62) h1)else(
 fS.k1 t1 jy h1 K)))
theorem fS.ok{t1 jy K h}(x:fS t1 jy K h):C.fS t1 jy h K:=fk (fun|6=>([0,1],[(5,.int .i64)])|_=>([],[])) o0 Tryz.func106 x
def cE.k2(r1 y1:OA)(bf:ad)(K:KT):=
 ae y1 λp8=>
 ∃pI,List.length pI=15/\ai bf p8 pI/\
 ae r1 λp9=>
 ∃sB,List.length sB=15/\ai bf (p9.add 7) sB/\
 dr [(.int .i64),(.int .i64),(.int .i64),(.int .i64),(.int .i64),(.int .i64),(.int .i64),(.int .i64),(.int .i64),(.int .i64),(.int .i64),(.int .i64),(.int .i64),(.int .i64),(.int .i64)] pI sB=true/\
 bif(cQ pI sB)then(
 K (vI 0) bf)else(
 ae r1 λOP=>
 ∃q4,cP bf (OP.add 0) q4/\
 ae r1 λIk=>
 ∃wQ,List.length wQ=5/\ai bf (Ik.add 1) wQ/\
 ae r1 λJw=>
 ∃n7,cI bf (Jw.add 6) n7/\
 ae y1 λYM=>
 ∃zU,List.length zU=15/\ai bf YM zU/\
 C.si q4 wQ n7 zU bf λr6 bQ=>
 ∃n8,r6 = vI n8/\
 K (vI n8) bQ)
def cE.k1(r1:OA)(dp:Int)(h1:ad)(y1:OA)(i1 e1:Int)(h6:ad)(K:KT):=
 bif(e1 != 0)then(
 K (vI e1) h6)else(
 ae r1 λp4=>
 ∃q2,cP h6 (p4.add 0) q2/\
 C.dF q2 i1 h6 λr3 h7=>
 ∃aU aI bw n3,r3 = .tuple #[vS aU aI bw,vI n3]/\
 bif(n3 != 0)then(
 K (vI n3) h7)else(
 bD (aS h1 0) (vI (if(0:Int)>dp then 0 else dp)) h7 λh8=>
 ∃nO,List.length nO=3/\ai h8 (bA h1) nO/\
 C.nv aU aI bw nO h8 λr4 h9=>
 ∃n4,r4 = vI n4/\
 bif(n4 != 0)then(
 K (vI n4) h9)else(
 ae r1 λp5=>
 ∃q3,cP h9 (p5.add 0) q3/\
 C.aX q3 i1 aU aI bw h9 λr5 bG=>
 ∃n5,r5 = vI n5/\
 bif(n5 != 0)then(
 K (vI n5) bG)else(
 bif(decide (dp<0))then(
 ae y1 λp6=>
 ∃n6,cI bG (p6.add 2) n6/\
 ae y1 λp7=>
 bD (p7.add 2) (vI (wI (n6+512))) bG λcu=>
 cE.k2 r1 y1 cu K)else(
 cE.k2 r1 y1 bG K)))))
def cE(r1:OA)(AW dp:Int)(c1:LV)(K:KT)(h1:ad):=
 aC c1 79 h1 λh2=>
 ae r1 λp1=>
 ∃q1,cP h2 (p1.add 0) q1/\
 ae r1 λp2=>
 ∃br,List.length br=5/\ai h2 (p2.add 1) br/\
 ae r1 λp3=>
 ∃cT,List.length cT=15/\ai h2 (p3.add 7) cT/\
 (
 C.ou q1 br cT AW h2 λr2 h3=>
 ∃gG n1 n2,r2 = .tuple #[.agg ⟨gG⟩,vI n1,vI n2]/\
 aC z32 32 h3 λh4=>
 (cP h4 (p1.add 0) q1)/\
 (List.length (br:LV)=5/\ai h4 (p2.add 1) br)/\
 (List.length (cT:LV)=15/\ai h4 (p3.add 7) cT)/\
 az (bA h3) gG 15 h4 λh5=>
 cE.k1 r1 dp h1 (some (bA h3)) n1 n2 h5 K)/\
 aC z32 32 h2 λcX=>
 (cP cX (p1.add 0) q1)/\
 (List.length (br:LV)=5/\ai cX (p2.add 1) br)/\
 (List.length (cT:LV)=15/\ai cX (p3.add 7) cT)/\
 C.ou q1 br cT AW cX λr7 fN=>
 ∃OR n9 n10,r7 = .tuple #[.agg ⟨OR⟩,vI n9,vI n10]/\
 az (bA h2) OR 15 fN λgN=>
 cE.k1 r1 dp h1 (some (bA h2)) n9 n10 gN K
theorem cE.ok{r1 AW dp c1 K h}(x:cE r1 AW dp c1 K h):C.cE r1 AW dp c1 h K:=fk l0 (fun|1=>(oS 0 13 (.alt 13 [] (oS 14 4 (.op 18 [3,7,11] (.op 19 [] (.op 20 [] (.op 21 [] .nil))))) (.op 18 [3,7,11] (oS 13 5 (.op 19 [] (.op 20 [] (.op 21 [] .nil)))))))|16=>(oS 0 5 (.op 5 [] .nil))|18=>(oS 0 14 (.op 14 [] .nil))|_=>.nil) Tryz.func107 x
def dM(t1:OA)(K:KT)(h1:ad):=
 ae t1 λp1=>
 ∃b1,cellOf h1 (p1.add 2)=some (.bool b1)/\
 bif b1 then(
 K (.tuple #[vI 0,vI 61]) h1)else(
 ae t1 λp2=>
 ∃aU aI bw,cS h1 (p2.add 1) aU aI bw/\
 K (.tuple #[vI (aI:Int),vI 0]) h1)
theorem dM.ok{t1 K h}(x:dM t1 K h):C.dM t1 h K:=fz Tryz.func108 x
def fK.k1(t1:OA)(n1:Int)(h1 h2 h5 bG:ad)(K:KT):=
 ∃pI,List.length pI=15/\ai bG (bA h5) pI/\
 ∃sB,List.length sB=15/\ai bG (bA h2) sB/\
 dr [(.int .i64),(.int .i64),(.int .i64),(.int .i64),(.int .i64),(.int .i64),(.int .i64),(.int .i64),(.int .i64),(.int .i64),(.int .i64),(.int .i64),(.int .i64),(.int .i64),(.int .i64)] pI sB=true/\
 bif(cQ pI sB)then(
 K (vI 0) bG)else(
 ∃wQ,List.length wQ=5/\ai bG (bA h1) wQ/\
 ∃zU,List.length zU=15/\ai bG (bA h5) zU/\
 C.lO t1 wQ n1 zU bG λr3 cu=>
 ∃n9,r3 = vI n9/\
 K (vI n9) cu)
def fK(t1:OA)(g1:LV)(n1:Int)(x1 c1:LV)(K:KT)(h1:ad):=
 aC g1 27 h1 λh2=>
 aC x1 32 h2 λh3=>
 aC c1 79 h3 λh4=>
 ∃br,List.length br=5/\ai h4 (bA h1) br/\
 ∃cT,List.length cT=15/\ai h4 (bA h2) cT/\
 ∃n2,cI h4 (aS h3 0) n2/\
 C.gT t1 br cT (wI (Int.tdiv n2 16)) h4 λr1 h5=>
 ∃gG n3 n4,r1 = .tuple #[.agg ⟨gG⟩,vI n3,vI n4]/\
 aF z32 32 gG 15 h5 λh7=>
 bif(n4 != 0)then(
 K (vI n4) h7)else(
 ∃nO,List.length nO=3/\ai h7 (bA h3) nO/\
 C.j6 t1 n3 nO h7 λr2 h8=>
 ∃n5,r2 = vI n5/\
 bif(n5 != 0)then(
 K (vI n5) h8)else(
 ∃n6,cI h8 (aS h3 0) n6/\
 ∃n7,cI h8 (aS h2 2) n7/\
 bif(decide ((wI ((wI (Int.tdiv n6 16))*512))>=n7))then(
 ∃n8,cI h8 (aS h2 2) n8/\
 bD (aS h5 2) (vI (wI (n8+512))) h8 λh9=>
 fK.k1 t1 n1 h1 h2 h5 h9 K)else(
 fK.k1 t1 n1 h1 h2 h5 h8 K)))
theorem fK.ok{t1 g1 n1 x1 c1 K h}(x:fK t1 g1 n1 x1 c1 K h):C.fK t1 g1 n1 x1 c1 h K:=fz Tryz.func109 x
def cH.k1(t1:OA)(jy:Int)(h1:ad)(K:KT):=
 ae t1 λp3=>
 ∃eC dT fD,cS h1 (p3.add 1) eC dT fD/\
 (0<=jy/\jy<=(fD:Int))/\
 ∃aM,List.length aM=(Int.toNat jy)*2/\ak h1 eC aM/\(∀v∈aM,v.oneCell'=true)/\
 aJ Jt 130 none 0 0 (Int.toNat jy) aM h1 λkS kA lW h2=>
 ae t1 λp4=>
 bD (p4.add 1) (vS kS kA lW) h2 λh3=>
 K (vI 0) h3
def cH(t1:OA)(jy:Int)(K:KT)(h1:ad):=
 ae t1 λp1=>
 ∃b1,cellOf h1 (p1.add 2)=some (.bool b1)/\
 bif b1 then(
 K (vI 61) h1)else(
 bif(decide (jy<0))then(
 K (vI 62) h1)else(
 ae t1 λp2=>
 ∃aU aI bw,cS h1 (p2.add 1) aU aI bw/\
 bif(decide (jy>(aI:Int)))then(
 K (vI 62) h1)else(
 cH.k1 t1 jy h1 K)))
theorem cH.ok{t1 jy K h}(x:cH t1 jy K h):C.cH t1 jy h K:=fz Tryz.func110 x
def dI.k1(f1:OA)(e2:Int)(h3:ad)(K:KT):=
 bif(e2 != 0)then(
 K (.tuple #[vI 0,vI e2]) h3)else(
 ae f1 λp4=>
 ∃n3,cI h3 (Addr.add (p4.add 27) 2) n3/\
 K (.tuple #[vI n3,vI 0]) h3)
def dI(f1:OA)(e1:Int)(K:KT)(h1:ad):=
 bif(e1==0)then(
 ae f1 λp1=>
 ∃q1,cP h1 (Addr.add (p1.add 0) 0) q1/\
 ae f1 λp2=>
 ∃n1,cI h1 (Addr.add (p2.add 23) 1) n1/\
 ae f1 λp3=>
 ∃aU aI bw,cS h1 (Addr.add (p3.add 23) 2) aU aI bw/\
 C.aX q1 n1 aU aI bw h1 λr1 h2=>
 ∃n2,r1 = vI n2/\
 dI.k1 f1 n2 h2 K)else(
 dI.k1 f1 e1 h1 K)
theorem dI.ok{f1 e1 K h}(x:dI f1 e1 K h):C.dI f1 e1 h K:=fk l0 (fun|2=>(oS 0 16 (.op 16 [] .nil))|_=>.nil) Tryz.func111 x
def oh(aH:OA)(aK aR:Nat)(dp:Int)(K:KT)(h1:ad):=
 bif((aK:Int) != 512)then(
 K (vI 32) h1)else(
 C.j8 dp h1 λr1 h2=>
 ∃b1,r1 = .bool b1/\
 bif(!b1)then(
 K (vI 140) h2)else(
 C.lL aH aK aR dp h2 λr2 h3=>
 ∃aU aI bw,r2 = vS aU aI bw/\
 Fy xd aU aI h3 λh4=>
 K (vI 0) h4))
theorem oh.ok{aH aK aR dp K h}(x:oh aH aK aR dp K h):C.oh aH aK aR dp h K:=fz Tryz.func112 x
def gz(t1:OA)(g1:LV)(n1:Int)(aW:ByteArray)(cN:Int)(K:KT)(h1:ad):=
 aC g1 27 h1 λh2=>
 ∃br,List.length br=5/\ai h2 (bA h1) br/\
 C.jg t1 br n1 aW h2 λr1 h3=>
 ∃cT gG n2,r1 = .tuple #[.agg ⟨cT⟩,.agg ⟨gG⟩,vI n2]/\
 aC z32 32 h3 λh4=>
 aC z79 79 h4 λh5=>
 az (bA h3) cT 15 h5 λh6=>
 az (bA h4) gG 3 h6 λh7=>
 bif(n2 != 0)then(
 K (.tuple #[vI 0,vI n2]) h7)else(
 ∃nO,List.length nO=5/\ai h7 (bA h1) nO/\
 ∃pI,List.length pI=15/\ai h7 (bA h3) pI/\
 ∃n3,cI h7 (aS h4 0) n3/\
 C.dJ t1 nO pI (wI (Int.tdiv n3 16)) h7 λr2 h8=>
 ∃n4 n5,r2 = .tuple #[vI n4,vI n5]/\
 bif(n5 != 0)then(
 K (.tuple #[vI 0,vI n5]) h8)else(
 ∃n6,cI h8 (aS h4 0) n6/\
 C.j6 t1 n4 [vI n6,.string aW,vI cN] h8 λr3 h9=>
 ∃n7,r3 = vI n7/\
 bif(n7 != 0)then(
 K (.tuple #[vI 0,vI n7]) h9)else(
 ∃n8,cI h9 (aS h4 2) n8/\
 K (.tuple #[vI n8,vI 0]) h9)))
theorem gz.ok{t1 g1 n1 aW cN K h}(x:gz t1 g1 n1 aW cN K h):C.gz t1 g1 n1 aW cN h K:=fz Tryz.func113 x
def nv.k1(aH:OA)(aK aR:Nat)(h1 h5:ad)(K:KT):=
 ∃n4,cI h5 (aS h1 0) n4/\
 C.lL aH aK aR n4 h5 λr3 h6=>
 ∃aU aI bw,r3 = vS aU aI bw/\
 ∃n5,cI h6 (aS h1 2) n5/\
 C.ja aU aI bw 0 4 (IntKind.wrap .u64 (n5)) h6 λr4 h7=>
 ∃n6,r4 = vI n6/\
 ∃s2,cellOf h7 (aS h1 1)=some (.string s2)/\
 C.ja aU aI bw 4 1 (IntKind.wrap .u64 ((s2.size:Int))) h7 λr5 h8=>
 ∃n7,r5 = vI n7/\
 ∃s3,cellOf h8 (aS h1 1)=some (.string s3)/\
 C.j5 aU aI bw 5 27 s3 h8 λr6 h9=>
 ∃n8,r6 = vI n8/\
 K (vI 0) h9
def nv(aH:OA)(aK aR:Nat)(e1:LV)(K:KT)(h1:ad):=
 aC e1 79 h1 λh2=>
 bif((aK:Int) != 512)then(
 K (vI 32) h2)else(
 ∃n1,cI h2 (aS h1 0) n1/\
 C.j8 n1 h2 λr1 h3=>
 ∃b1,r1 = .bool b1/\
 bif(!b1)then(
 K (vI 140) h3)else(
 ∃n2,cI h3 (aS h1 2) n2/\
 bif(decide (n2<1))then(
 K (vI 140) h3)else(
 ∃n3,cI h3 (aS h1 2) n3/\
 bif(decide (n3>4294967295))then(
 K (vI 140) h3)else(
 ∃s1,cellOf h3 (aS h1 1)=some (.string s1)/\
 C.mq s1 h3 λr2 h4=>
 ∃b2,r2 = .bool b2/\
 bif(!b2)then(
 K (vI 140) h4)else(
 nv.k1 aH aK aR h1 h4 K)))))
theorem nv.ok{aH aK aR e1 K h}(x:nv aH aK aR e1 K h):C.nv aH aK aR e1 h K:=fz Tryz.func114 x
def jh(d1:OA)(i1:Int)(K:KT)(h1:ad):=
 bif(decide (i1>=0))then(
 ae d1 λp1=>
 ∃aU aI bw,cS h1 (p1.add 0) aU aI bw/\
 K (.bool (decide (i1<(aI:Int)))) h1)else(
 K (.bool false) h1)
theorem jh.ok{d1 i1 K h}(x:jh d1 i1 K h):C.jh d1 i1 h K:=fz Tryz.func118 x
def j3(g1:LV)(n1:Int)(K:KT)(h1:ad):=
 aC g1 27 h1 λh2=>
 ∃n2,cI h2 (Addr.add ⟨h1.size,0,none⟩ 4) n2/\
 C.fy n1 1 (wI (n2-1)) h2 λr1 h3=>
 ∃b1,r1 = .bool b1/\
 K (.bool b1) h3
theorem j3.ok{g1 n1 K h}(x:j3 g1 n1 K h):C.j3 g1 n1 h K:=fz Tryz.func119 x
def mF(t1:OA)(g1:LV)(n1:Int)(K:KT)(h1:ad):=
 aC g1 27 h1 λh2=>
 ∃br,List.length br=5/\ai h2 ⟨h1.size,0,none⟩ br/\
 C.mO br n1 h2 λr1 h3=>
 ∃n2 n3 n4,r1 = .tuple #[vI n2,vI n3,vI n4]/\
 bif(n4 != 0)then(
 K (.tuple #[vI 0,vS none 0 0,vI 0,vI n4]) h3)else(
 C.dF t1 n2 h3 λr2 h4=>
 ∃aU aI bw n5,r2 = .tuple #[vS aU aI bw,vI n5]/\
 K (.tuple #[vI n2,vS aU aI bw,vI n3,vI n5]) h4)
theorem mF.ok{t1 g1 n1 K h}(x:mF t1 g1 n1 K h):C.mF t1 g1 n1 h K:=fz Tryz.func120 x
def mN(aH:OA)(aK aR:Nat)(K:KT)(h1:ad):=
 aC [vS aH aK aR] 33 h1 λh2=>
 aC z32 32 h2 λh3=>
 ∃aU aI bw,cS h3 ⟨h1.size,0,none⟩ aU aI bw/\
 bif((aI:Int) != 64)then(
 az ⟨h2.size,0,none⟩ z32 15 h3 λh4=>
 ∃dq,List.length dq=15/\ai h4 ⟨h2.size,0,none⟩ dq/\
 K (.tuple #[.agg ⟨dq⟩,vI 32]) h4)else(
 C.dg 0 1 (some ⟨h1.size,0,none⟩) h3 λr1 h5=>
 ∃n1,r1 = vI n1/\
 C.dg 2 2 (some ⟨h1.size,0,none⟩) h5 λr2 h6=>
 ∃n2,r2 = vI n2/\
 C.dg 4 4 (some ⟨h1.size,0,none⟩) h6 λr3 h7=>
 ∃n3,r3 = vI n3/\
 C.dg 48 4 (some ⟨h1.size,0,none⟩) h7 λr4 h8=>
 ∃n4,r4 = vI n4/\
 C.dg 52 4 (some ⟨h1.size,0,none⟩) h8 λr5 h9=>
 ∃n5,r5 = vI n5/\
 aF z32 32 [vI n1,vI n2,vI n3,vI 0,vI 0,vI 0,vI 0,vI 0,vI 0,vI 0,vI 0,vI 0,vI 0,vI n4,vI n5] 15 h9 λcu=>
 ∃(I1:IP) (M1:IM),I1 0 cu/\
 ∀(n6:Int),∀bf:ad,I1 n6 bf->
 bif(decide (n6<10))then(
 C.dg (wI (8+(wI (4*n6)))) 4 (some ⟨h1.size,0,none⟩) bf λr6 bQ=>
 ∃n7,r6 = vI n7/\
 (0<=n6/\n6<(10:Int))/\
 bD (Addr.add (Addr.add ⟨h9.size,0,none⟩ 3) (Int.toNat n6)) (vI n7) bQ λcX=>
 I1 (wI (n6+1)) cX/\M1 (wI (n6+1)) cX<M1 n6 bf)else(
 ∃eC dT fD,cS bf ⟨h1.size,0,none⟩ eC dT fD/\
 C.pH eC dT fD 1 1 bf λr7 fN=>
 ∃b1 n8,r7 = .tuple #[.bool b1,vI n8]/\
 ∃kS kA lW,cS fN ⟨h1.size,0,none⟩ kS kA lW/\
 C.pH kS kA lW 56 8 fN λr8 gN=>
 ∃b2 n9,r8 = .tuple #[.bool b2,vI n9]/\
 bif(!b1)then(
 az ⟨h2.size,0,none⟩ z32 15 gN λgO=>
 ∃fV,List.length fV=15/\ai gO ⟨h2.size,0,none⟩ fV/\
 K (.tuple #[.agg ⟨fV⟩,vI 111]) gO)else(
 bif(!b2)then(
 az ⟨h2.size,0,none⟩ z32 15 gN λjk=>
 ∃fY,List.length fY=15/\ai jk ⟨h2.size,0,none⟩ fY/\
 K (.tuple #[.agg ⟨fY⟩,vI 111]) jk)else(
 ∃br,List.length br=15/\ai gN ⟨h9.size,0,none⟩ br/\
 C.qq br gN λr9 eX=>
 ∃b3,r9 = .bool b3/\
 bif(!b3)then(
 az ⟨h2.size,0,none⟩ z32 15 eX λiG=>
 ∃kP,List.length kP=15/\ai iG ⟨h2.size,0,none⟩ kP/\
 K (.tuple #[.agg ⟨kP⟩,vI 111]) iG)else(
 ∃cT,List.length cT=15/\ai eX ⟨h9.size,0,none⟩ cT/\
 az ⟨h2.size,0,none⟩ cT 15 eX λoM=>
 ∃uG,List.length uG=15/\ai oM ⟨h2.size,0,none⟩ uG/\
 K (.tuple #[.agg ⟨uG⟩,vI 0]) oM)))))
theorem mN.ok{aH aK aR K h}(x:mN aH aK aR K h):C.mN aH aK aR h K:=fk (fun|6=>([1,2,4,5],[(27,.int .i64)])|_=>([],[])) o0 Tryz.func121 x
def bY.k1(f1:OA)(fU n1:Int)(h3:ad)(I1:Int->Int->ad->Prop)(M1:Int->Int->ad->Nat)(wh e1:Int)(h8:ad)(K:KT):=
 bif(e1 != 0)then(
 K (.tuple #[vI 0,vI e1]) h8)else(
 bif(wh==0)then(
 K (.tuple #[vI 0,vI 0]) h8)else(
 C.kI f1 wh h8 λr4 h9=>
 ∃n6,r4 = vI n6/\
 bif(n6 != 0)then(
 K (.tuple #[vI 0,vI n6]) h9)else(
 I1 wh (wI (n1+1)) h9/\M1 wh (wI (n1+1)) h9<M1 fU n1 h3)))
def bY(f1:OA)(k1:Int)(Ju:Value)(K:KT)(h1:ad):=
 C.uD k1 h1 λr1 h2=>
 ∃aU aI bw,r1 = vS aU aI bw/\
 ∃(I1:Int->Int->ad->Prop) (M1:Int->Int->ad->Nat),I1 0 0 h2/\
 ∀(fU:Int) (n1:Int),∀h3:ad,I1 fU n1 h3->
 bif(decide (n1<(aI:Int)))then(
 (0<=n1/\n1<(aI:Int))/\
 ae aU λp1=>
 ∃br,List.length br=2/\ai h3 (p1.add ((Int.toNat n1)*2)) br/\
 aF aho 192 br 2 h3 λh5=>
 ∃cT,List.length cT=2/\ai h5 ⟨h3.size,0,none⟩ cT/\
 C.iT f1 cT fU h5 λr2 h6=>
 ∃n2 eC dT fD n3,r2 = .tuple #[vI n2,vS eC dT fD,vI n3]/\
 bif(n3==0)then(
 bif(n2==0)then(
 ∃gG,List.length gG=2/\ai h6 ⟨h3.size,0,none⟩ gG/\
 gJ Tryz.prog Ju [.agg ⟨gG⟩,vI fU,vS eC dT fD] h6 λr3 h7=>
 ∃n4 n5,r3 = .tuple #[vI n4,vI n5]/\
 bY.k1 f1 fU n1 h3 I1 M1 n4 n5 h7 K)else(
 bY.k1 f1 fU n1 h3 I1 M1 n2 n3 h6 K))else(
 bY.k1 f1 fU n1 h3 I1 M1 n2 n3 h6 K))else(
 K (.tuple #[vI fU,vI 0]) h3)
theorem bY.ok{f1 k1 Ju K h}(x:bY f1 k1 Ju K h):C.bY f1 k1 Ju h K:=fk (fun|3=>([0,2,16,17],[(8,.int .i64),(18,.int .i64)])|_=>([],[])) o0 Tryz.func122 x
def oT(x1:LV)(x2:Int)(xA1:OA)(xL1 xC1:Nat)(K:KT)(h1:ad):=
 aC x1 192 h1 λh2=>
 K (.tuple #[vI 0,vI 0]) h2
theorem oT.ok{x1 x2 xA1 xL1 xC1 K h}(x:oT x1 x2 xA1 xL1 xC1 K h):C.oT x1 x2 xA1 xL1 xC1 h K:=fz Tryz.func123 x
def lK.k1(TW:OA)(Ws Vj:Nat)(n1:Int)(h3:ad)(n3:Int)(K:KT):=
 (0<=(5:Int)/\(5:Int)<=(IntKind.wrap .u64 (5+n3))/\(IntKind.wrap .u64 (5+n3))<=(IntKind.wrap .u64 (5+n3))/\(IntKind.wrap .u64 (5+n3))<=(Vj:Int))/\
 ∃Eb,av h3 (if(Int.toNat (IntKind.wrap .u64 (5+n3)))=(Int.toNat 5)then TW else Option.map (Addr.add · (Int.toNat 5)) TW) ((Int.toNat (IntKind.wrap .u64 (5+n3)))-(Int.toNat 5)) Eb/\
 C.pH TW Ws Vj (wI (5+(wI (n3)))) (wI (27-(wI (n3)))) h3 λr4 h5=>
 ∃b2 n6,r4 = .tuple #[.bool b2,vI n6]/\
 bif b2 then(
 C.mq (mkStr Eb) h5 λr5 h6=>
 ∃b3,r5 = .bool b3/\
 K (.tuple #[vI (wI (n1)),.string (mkStr Eb),.bool b3]) h6)else(
 K (.tuple #[vI (wI (n1)),.string (mkStr Eb),.bool false]) h5)
def lK(TW:OA)(Ws Vj:Nat)(K:KT)(h1:ad):=
 C.sN TW Ws Vj 0 4 h1 λr1 h2=>
 ∃n1 n2,r1 = .tuple #[.int .u64 n1,vI n2]/\
 C.sN TW Ws Vj 4 1 h2 λr2 h3=>
 ∃n3 n4,r2 = .tuple #[.int .u64 n3,vI n4]/\
 bif(n1==0)then(
 C.pH TW Ws Vj 0 32 h3 λr3 h4=>
 ∃b1 n5,r3 = .tuple #[.bool b1,vI n5]/\
 K (.tuple #[vI 0,.string (mkStr []),.bool b1]) h4)else(
 bif(decide (n3<1))then(
 K (.tuple #[vI 0,.string (mkStr []),.bool false]) h3)else(
 bif(decide (n3>27))then(
 K (.tuple #[vI 0,.string (mkStr []),.bool false]) h3)else(
 lK.k1 TW Ws Vj n1 h3 n3 K)))
theorem lK.ok{TW Ws Vj K h}(x:lK TW Ws Vj K h):C.lK TW Ws Vj h K:=fz Tryz.func124 x
def lL(aH:OA)(aK aR:Nat)(k1:Int)(K:KT)(h1:ad):=
 (0<=(wI (32*k1))/\(wI (32*k1))<=(wI ((wI (32*k1))+32))/\(wI ((wI (32*k1))+32))<=(wI ((wI (32*k1))+32))/\(wI ((wI (32*k1))+32))<=(aR:Int))/\
 K (vS (if(Int.toNat (wI ((wI (32*k1))+32)))=(Int.toNat (wI (32*k1)))then aH else Option.map (Addr.add · (Int.toNat (wI (32*k1)))) aH) ((Int.toNat (wI ((wI (32*k1))+32)))-(Int.toNat (wI (32*k1)))) ((Int.toNat (wI ((wI (32*k1))+32)))-(Int.toNat (wI (32*k1))))) h1
theorem lL.ok{aH aK aR k1 K h}(x:lL aH aK aR k1 K h):C.lL aH aK aR k1 h K:=fz Tryz.func125 x
def dS.k1(n1:Int)(h1 h2:ad)(K:KT):=
 ∃n3,cI h2 (aS h1 2) n3/\
 K (.tuple #[vI (wI (n3+(wI (Int.tdiv n1 8)))),vI (wI ((Int.tmod n1 8)*64)),vI 0]) h2
def dS(g1:LV)(n1:Int)(K:KT)(h1:ad):=
 aC g1 27 h1 λh2=>
 bif(decide (n1<1))then(
 K (.tuple #[vI 0,vI 0,vI 110]) h2)else(
 ∃n2,cI h2 (aS h1 4) n2/\
 bif(decide (n1>=n2))then(
 K (.tuple #[vI 0,vI 0,vI 110]) h2)else(
 dS.k1 n1 h1 h2 K))
theorem dS.ok{g1 n1 K h}(x:dS g1 n1 K h):C.dS g1 n1 h K:=fz Tryz.func136 x
def db.k1(aH:OA)(aK aR:Nat)(h1:ad)(x1:OA)(h9:ad)(K:KT):=
 ∃(I1:IP) (M1:IM),I1 0 h9/\
 ∀(i1:Int),∀bG:ad,I1 i1 bG->
 bif(decide (i1<10))then(
 (0<=(wI (8+(wI (4*i1))))/\(wI (8+(wI (4*i1))))<=(wI (12+(wI (4*i1))))/\(wI (12+(wI (4*i1))))<=(aR:Int))/\
 C.bp (if aR=(Int.toNat (wI (8+(wI (4*i1)))))then aH else Option.map (Addr.add · (Int.toNat (wI (8+(wI (4*i1)))))) aH) ((Int.toNat (wI (12+(wI (4*i1)))))-(Int.toNat (wI (8+(wI (4*i1)))))) (aR-(Int.toNat (wI (8+(wI (4*i1)))))) bG λr4 cu=>
 ∃n4,r4 = vI n4/\
 ae x1 λp1=>
 (0<=i1/\i1<(10:Int))/\
 bD (Addr.add (p1.add 3) (Int.toNat i1)) (vI n4) cu λbf=>
 I1 (wI (i1+1)) bf/\M1 (wI (i1+1)) bf<M1 i1 bG)else(
 (0<=(48:Int)/\(48:Int)<=(52:Int)/\(52:Int)<=(aR:Int))/\
 C.bp (if aR=(Int.toNat 48)then aH else Option.map (Addr.add · (Int.toNat 48)) aH) ((Int.toNat 52)-(Int.toNat 48)) (aR-(Int.toNat 48)) bG λr5 bQ=>
 ∃n5,r5 = vI n5/\
 ae x1 λp2=>
 bD (p2.add 13) (vI n5) bQ λcX=>
 (0<=(52:Int)/\(52:Int)<=(56:Int)/\(56:Int)<=(aR:Int))/\
 C.bp (if aR=(Int.toNat 52)then aH else Option.map (Addr.add · (Int.toNat 52)) aH) ((Int.toNat 56)-(Int.toNat 52)) (aR-(Int.toNat 52)) cX λr6 fN=>
 ∃n6,r6 = vI n6/\
 ae x1 λp3=>
 bD (p3.add 14) (vI n6) fN λgN=>
 ae x1 λp4=>
 ∃br,List.length br=15/\ai gN p4 br/\
 C.fR br gN λr7 gO=>
 ∃aU aI bw n7,r7 = .tuple #[vS aU aI bw,vI n7]/\
 bif(n7 != 0)then(
 az (bA h1) z32 15 gO λjk=>
 ∃fV,List.length fV=15/\ai jk (bA h1) fV/\
 K (.tuple #[.agg ⟨fV⟩,vI 111]) jk)else(
 ∃Eb,av gO aU aI Eb/\
 ∃bs2,av gO aH aK bs2/\
 bif(!((mkStr Eb).toList==(mkStr bs2).toList))then(
 az (bA h1) z32 15 gO λeX=>
 ∃fY,List.length fY=15/\ai eX (bA h1) fY/\
 K (.tuple #[.agg ⟨fY⟩,vI 111]) eX)else(
 ae x1 λp5=>
 ∃cT,List.length cT=15/\ai gO p5 cT/\
 az (bA h1) cT 15 gO λiG=>
 ∃kP,List.length kP=15/\ai iG (bA h1) kP/\
 K (.tuple #[.agg ⟨kP⟩,vI 0]) iG)))
def db(aH:OA)(aK aR:Nat)(K:KT)(h1:ad):=
 aC z32 32 h1 λh2=>
 bif((aK:Int) != 64)then(
 az (bA h1) z32 15 h2 λh3=>
 ∃dq,List.length dq=15/\ai h3 (bA h1) dq/\
 K (.tuple #[.agg ⟨dq⟩,vI 32]) h3)else(
 (0<=(0:Int)/\(0:Int)<=(1:Int)/\(1:Int)<=(aR:Int))/\
 (0<=(2:Int)/\(2:Int)<=(4:Int)/\(4:Int)<=(aR:Int))/\
 (0<=(4:Int)/\(4:Int)<=(8:Int)/\(8:Int)<=(aR:Int))/\
 (
 C.bp (if aR=(Int.toNat 0)then aH else Option.map (Addr.add · (Int.toNat 0)) aH) ((Int.toNat 1)-(Int.toNat 0)) (aR-(Int.toNat 0)) h2 λr1 h4=>
 ∃n1,r1 = vI n1/\
 (
 C.bp (if aR=(Int.toNat 2)then aH else Option.map (Addr.add · (Int.toNat 2)) aH) ((Int.toNat 4)-(Int.toNat 2)) (aR-(Int.toNat 2)) h4 λr2 h5=>
 ∃n2,r2 = vI n2/\
 (
 C.bp (if aR=(Int.toNat 4)then aH else Option.map (Addr.add · (Int.toNat 4)) aH) ((Int.toNat 8)-(Int.toNat 4)) (aR-(Int.toNat 4)) h5 λr3 h6=>
 ∃n3,r3 = vI n3/\
 aF z32 32 [vI n1,vI n2,vI n3,vI 0,vI 0,vI 0,vI 0,vI 0,vI 0,vI 0,vI 0,vI 0,vI 0,vI 0,vI 0] 15 h6 λh8=>
 db.k1 aH aK aR h1 (some (bA h6)) h8 K)/\
 aC z32 32 h5 λoM=>
 C.bp (if aR=(Int.toNat 4)then aH else Option.map (Addr.add · (Int.toNat 4)) aH) ((Int.toNat 8)-(Int.toNat 4)) (aR-(Int.toNat 4)) oM λr8 qD=>
 ∃n8,r8 = vI n8/\
 az (bA h5) [vI n1,vI n2,vI n8,vI 0,vI 0,vI 0,vI 0,vI 0,vI 0,vI 0,vI 0,vI 0,vI 0,vI 0,vI 0] 15 qD λpg=>
 db.k1 aH aK aR h1 (some (bA h5)) pg K)/\
 aC z32 32 h4 λsX=>
 C.bp (if aR=(Int.toNat 2)then aH else Option.map (Addr.add · (Int.toNat 2)) aH) ((Int.toNat 4)-(Int.toNat 2)) (aR-(Int.toNat 2)) sX λr9 qv=>
 ∃n9,r9 = vI n9/\
 C.bp (if aR=(Int.toNat 4)then aH else Option.map (Addr.add · (Int.toNat 4)) aH) ((Int.toNat 8)-(Int.toNat 4)) (aR-(Int.toNat 4)) qv λE1 pJ=>
 ∃n10,E1 = vI n10/\
 az (bA h4) [vI n1,vI n9,vI n10,vI 0,vI 0,vI 0,vI 0,vI 0,vI 0,vI 0,vI 0,vI 0,vI 0,vI 0,vI 0] 15 pJ λDg=>
 db.k1 aH aK aR h1 (some (bA h4)) Dg K)/\
 aC z32 32 h2 λwj=>
 C.bp (if aR=(Int.toNat 0)then aH else Option.map (Addr.add · (Int.toNat 0)) aH) ((Int.toNat 1)-(Int.toNat 0)) (aR-(Int.toNat 0)) wj λTX MS=>
 ∃n11,TX = vI n11/\
 C.bp (if aR=(Int.toNat 2)then aH else Option.map (Addr.add · (Int.toNat 2)) aH) ((Int.toNat 4)-(Int.toNat 2)) (aR-(Int.toNat 2)) MS λEM Ps=>
 ∃n12,EM = vI n12/\
 C.bp (if aR=(Int.toNat 4)then aH else Option.map (Addr.add · (Int.toNat 4)) aH) ((Int.toNat 8)-(Int.toNat 4)) (aR-(Int.toNat 4)) Ps λr13 Il=>
 ∃n13,r13 = vI n13/\
 az (bA h2) [vI n11,vI n12,vI n13,vI 0,vI 0,vI 0,vI 0,vI 0,vI 0,vI 0,vI 0,vI 0,vI 0,vI 0,vI 0] 15 Il λuU=>
 db.k1 aH aK aR h1 (some (bA h2)) uU K)
theorem db.ok{aH aK aR K h}(x:db aH aK aR K h):C.db aH aK aR h K:=fk (fun|5=>([0,2,4],[(5,.int .i64)])|_=>([],[])) (fun|3=>(.op 0 [] (.op 1 [] (.op 3 [] (.op 4 [] (.op 6 [] (.op 7 [] (.alt 2 [] (.alt 5 [] (.alt 8 [] (.op 9 [] (.op 10 [] (.op 11 [] .nil))) (.op 10 [] (.op 8 [] (.op 9 [] (.op 11 [] .nil))))) (.op 10 [] (.op 5 [] (.op 8 [] (.op 9 [] (.op 11 [] .nil)))))) (.op 10 [] (.op 2 [] (.op 5 [] (.op 8 [] (.op 9 [] (.op 11 [] .nil)))))))))))))|_=>.nil) Tryz.func137 x
def dJ.k2(t1 aU:OA)(aI:Nat)(n3 i1:Int)(h6:ad)(I1:Int->Int->ad->Prop)(M1:Int->Int->ad->Nat)(h7:ad)(K:KT):=
 bif(i1==(aI:Int))then(
 K (.tuple #[vI n3,vI 0]) h7)else(
 C.ji t1 n3 h7 λr4 h8=>
 ∃eC dT fD n5,r4 = .tuple #[vS eC dT fD,vI n5]/\
 bif(n5 != 0)then(
 K (.tuple #[vI 0,vI n5]) h8)else(
 (0<=i1/\i1<(aI:Int))/\
 ae aU λp1=>
 ∃n6,cI h8 (p1.add (Int.toNat i1)) n6/\
 (0<=n6/\n6<(dT:Int))/\
 ae eC λp2=>
 ∃n7,cI h8 (p2.add (Int.toNat n6)) n7/\
 I1 n7 (wI (i1+1)) h8/\M1 n7 (wI (i1+1)) h8<M1 n3 i1 h6))
def dJ.k1(t1:OA)(k1:Int)(h1 h2 h3:ad)(K:KT):=
 C.gD k1 h3 λr1 h4=>
 ∃n1 aU aI bw,r1 = .tuple #[vI n1,vS aU aI bw]/\
 ∃br,List.length br=15/\ai h4 ⟨h2.size,0,none⟩ br/\
 C.gE br n1 h4 λr2 h5=>
 ∃n2,r2 = vI n2/\
 ∃(I1:Int->Int->ad->Prop) (M1:Int->Int->ad->Nat),I1 n2 0 h5/\
 ∀(n3:Int) (i1:Int),∀h6:ad,I1 n3 i1 h6->
 ∃cT,List.length cT=5/\ai h6 ⟨h1.size,0,none⟩ cT/\
 C.ig cT n3 h6 λr3 h7=>
 ∃n4,r3 = vI n4/\
 bif(n4 != 0)then(
 K (.tuple #[vI 0,vI n4]) h7)else(
 bif(n3==0)then(
 K (.tuple #[vI 0,vI n4]) h7)else(
 dJ.k2 t1 aU aI n3 i1 h6 I1 M1 h7 K))
def dJ(t1:OA)(g1 x1:LV)(k1:Int)(K:KT)(h1:ad):=
 aC g1 27 h1 λh2=>
 aC x1 32 h2 λh3=>
 bif(decide (k1<0))then(
 K (.tuple #[vI 0,vI 101]) h3)else(
 bif(decide (k1>=16522))then(
 K (.tuple #[vI 0,vI 101]) h3)else(
 dJ.k1 t1 k1 h1 h2 h3 K))
set_option maxRecDepth 1000000 in
set_option maxRecDepth 1000000 in
theorem dJ.ok{t1 g1 x1 k1 K h}(x:dJ t1 g1 x1 k1 K h):C.dJ t1 g1 x1 k1 h K:=fk (fun|7=>([0,5,11],[(12,.int .i64),(13,.int .i64)])|_=>([],[])) o0 Tryz.func138 x
def kG(aH:OA)(aK aR:Nat)(K:KT)(h1:ad):=
 bif((aK:Int) != 512)then(
 K (.tuple #[vS none 0 0,vI 32]) h1)else(
 ∃(I1:OA->Nat->Nat->Int->ad->Prop) (M1:OA->Nat->Nat->Int->ad->Nat),I1 none 0 0 0 h1/\
 ∀(jx:OA) (iA:Nat) (kR:Nat) (k1:Int),∀h2:ad,I1 jx iA kR k1 h2->
 bif(decide (k1<16))then(
 (0<=(wI (32*k1))/\(wI (32*k1))<=(wI ((wI (32*k1))+32))/\(wI ((wI (32*k1))+32))<=(aR:Int))/\
 C.fL (if aR=(Int.toNat (wI (32*k1)))then aH else Option.map (Addr.add · (Int.toNat (wI (32*k1)))) aH) ((Int.toNat (wI ((wI (32*k1))+32)))-(Int.toNat (wI (32*k1)))) (aR-(Int.toNat (wI (32*k1)))) h2 λr1 h3=>
 ∃n1 s1 b1,r1 = .tuple #[vI n1,.string s1,.bool b1]/\
 bif(!b1)then(
 K (.tuple #[vS none 0 0,vI 140]) h3)else(
 bif(n1 != 0)then(
 List.length ([vI k1,.string s1,vI n1]:LV)=3/\
 aC [vI k1,.string s1,vI n1] 79 h3 λh4=>
 ∃aM,List.length aM=1*3/\ak h4 (some (bA h3)) aM/\(∀v∈aM,v.oneCell'=true)/\
 aJ rV 79 jx iA kR 1 aM h4 λaU aI bw h5=>
 I1 aU aI bw (wI (k1+1)) h5/\M1 aU aI bw (wI (k1+1)) h5<M1 jx iA kR k1 h2)else(
 I1 jx iA kR (wI (k1+1)) h3/\M1 jx iA kR (wI (k1+1)) h3<M1 jx iA kR k1 h2)))else(
 K (.tuple #[vS jx iA kR,vI 0]) h2))
theorem kG.ok{aH aK aR K h}(x:kG aH aK aR K h):C.kG aH aK aR h K:=fk (fun|5=>([0],[(4,.slice),(5,.int .i64)])|_=>([],[])) o0 Tryz.func139 x
def qp(s1:ByteArray)(K:KT)(h1:ad):=
 Wi h1 λh2=>
 AA .str h1.size (.s (ByteArray.toList (mkStr [46]))) (.func (.func 185) #[] ⟨[]⟩) h2 λh3=>
 AA .str h1.size (.s (ByteArray.toList (mkStr [46,46]))) (.func (.func 186) #[] ⟨[]⟩) h3 λh4=>
 u7 .str (some h1.size) h4 λWv=>
 ∃(v1:Value),Option.getD (nD Wv (.s (ByteArray.toList s1))) (zeroV Wn)=v1/\
 K (.tuple #[v1,.bool (Option.isSome (nD Wv (.s (ByteArray.toList s1))))]) h4
theorem qp.ok{s1 K h}(x:qp s1 K h):C.qp s1 h K:=fz Tryz.func140 x
def fX(s1 gM:ByteArray)(K:KT)(h1:ad):=
 C.eW s1 gM h1 λr1 h2=>
 ∃n1,r1 = vI n1/\
 K (.bool (decide (n1>=0))) h2
theorem fX.ok{s1 gM K h}(x:fX s1 gM K h):C.fX s1 gM h K:=fz Tryz.func141 x
def uB(mL:OA)(jC og:Nat)(n1:Int)(K:KT)(h1:ad):=
 aC [vI n1] 3 h1 λh2=>
 aC z3 3 h2 λh3=>
 bD (bA h2) (vI 97) h3 λh4=>
 ∃(I1:IP) (M1:IM),I1 0 h4/\
 ∀(n2:Int),∀h5:ad,I1 n2 h5->
 bif(decide (n2<(jC:Int)))then(
 (0<=n2/\n2<(jC:Int))/\
 ae mL λp1=>
 ∃n3,cI h5 (p1.add (Int.toNat n2)) n3/\
 C.oz n3 (some (bA h2)) (some (bA h1)) h5 λr1 h6=>
 ∃b1,r1 = .bool b1/\
 bif b1 then(
 K (.bool false) h6)else(
 I1 (wI (n2+1)) h6/\M1 (wI (n2+1)) h6<M1 n2 h5))else(
 bif(decide ((jC:Int)>=1))then(
 K (.bool (decide ((jC:Int)<=96))) h5)else(
 K (.bool false) h5))
theorem uB.ok{mL jC og n1 K h}(x:uB mL jC og n1 K h):C.uB mL jC og n1 h K:=fk (fun|4=>([0,6,10,11],[(12,.int .i64)])|_=>([],[])) o0 Tryz.func142 x
def kH(jQ:OA)(iP kW:Nat)(n1:Int)(K:KT)(h1:ad):=
 ∃(I1:IP) (M1:IM),I1 0 h1/\
 ∀(n2:Int),∀h2:ad,I1 n2 h2->
 bif(decide (n2<(iP:Int)))then(
 (0<=n2/\n2<(iP:Int))/\
 ae jQ λp1=>
 ∃aU aI bw,cS h2 (p1.add (Int.toNat n2)) aU aI bw/\
 bif((aI:Int) != 512)then(
 K (.bool false) h2)else(
 I1 (wI (n2+1)) h2/\M1 (wI (n2+1)) h2<M1 n2 h2))else(
 K (.bool ((iP:Int)==n1)) h2)
theorem kH.ok{jQ iP kW n1 K h}(x:kH jQ iP kW n1 K h):C.kH jQ iP kW n1 h K:=fk (fun|2=>([0,1,7,8],[(9,.int .i64)])|_=>([],[])) o0 Tryz.func143 x
def oq (K:KT)(h1:ad):Prop:=
 (0<=(512:Int)/\(512:Int)<=512/\(1:Int)*512<=281474976710656/\(512:Int)<=281474976710656)/\
 aC (aL z5 (Int.toNat 512)) 5 h1 λh2=>
 K (vS (some (bA h1)) (Int.toNat 512) (Int.toNat 512)) h2
theorem oq.ok{K h}(x:oq  K h):C.oq  h K:=fz Tryz.func144 x
def j5(aH:OA)(aK aR:Nat)(fU n1:Int)(s1:ByteArray)(K:KT)(h1:ad):=
 bif(decide (n1<0))then(
 K (vI 1) h1)else(
 bif(decide ((s1.size:Int)>n1))then(
 K (vI 1) h1)else(
 Zu s1 5 h1 λcw h2=>
 C.sj (some (bA h1)) s1.size cw h2 λr1 h3=>
 ∃n2,r1 = vI n2/\
 bif(decide (n2<(s1.size:Int)))then(
 K (vI 1) h3)else(
 C.qV aH aK aR fU n1 h3 λr2 h4=>
 ∃b1,r2 = .bool b1/\
 bif(!b1)then(
 K (vI 20) h4)else(
 (0<=fU/\fU<=(wI (fU+n1))/\(wI (fU+n1))<=(aR:Int))/\
 xw xd (if aR=(Int.toNat fU)then aH else Option.map (Addr.add · (Int.toNat fU)) aH) ((Int.toNat (wI (fU+n1)))-(Int.toNat fU)) (.string s1) h4 λn3 h5=>
 (0<=(wI (fU+(n3:Int)))/\(wI (fU+(n3:Int)))<=(wI (fU+n1))/\(wI (fU+n1))<=(aR:Int))/\
 Fy xd (if aR=(Int.toNat (wI (fU+(n3:Int))))then aH else Option.map (Addr.add · (Int.toNat (wI (fU+(n3:Int))))) aH) ((Int.toNat (wI (fU+n1)))-(Int.toNat (wI (fU+(n3:Int))))) h5 λh6=>
 K (vI 0) h6))))
theorem j5.ok{aH aK aR fU n1 s1 K h}(x:j5 aH aK aR fU n1 s1 K h):C.j5 aH aK aR fU n1 s1 h K:=fz Tryz.func145 x
def ja(aH:OA)(aK aR:Nat)(fU n1 v1:Int)(K:KT)(h1:ad):=
 C.j9 n1 h1 λr1 h2=>
 ∃b1,r1 = .bool b1/\
 bif(!b1)then(
 K (vI 1) h2)else(
 bif(decide (n1<8))then(
 if(wI (8*n1))<0 then False else
 bif((Int.fdiv v1 (2 ^ min (Int.toNat (wI (8*n1))) 64)) != 0)then(
 K (vI 1) h2)else(
 C.qV aH aK aR fU n1 h2 λr2 h3=>
 ∃b2,r2 = .bool b2/\
 bif(!b2)then(
 K (vI 20) h3)else(
 ∃(I1:IP) (M1:IM),I1 0 h3/\
 ∀(n2:Int),∀h4:ad,I1 n2 h4->
 bif(decide (n2<n1))then(
 if(wI (8*n2))<0 then False else
 (0<=(wI (fU+n2))/\(wI (fU+n2))<(aK:Int))/\
 ae aH λp1=>
 bD (p1.add (Int.toNat (wI (fU+n2)))) (.int .u8 (IntKind.wrap .u8 ((Int.fdiv v1 (2 ^ min (Int.toNat (wI (8*n2))) 64))))) h4 λh5=>
 I1 (wI (n2+1)) h5/\M1 (wI (n2+1)) h5<M1 n2 h4)else(
 K (vI 0) h4))))else(
 C.qV aH aK aR fU n1 h2 λr3 h6=>
 ∃b3,r3 = .bool b3/\
 bif(!b3)then(
 K (vI 20) h6)else(
 ∃(I2:IP) (M2:IM),I2 0 h6/\
 ∀(n3:Int),∀h7:ad,I2 n3 h7->
 bif(decide (n3<n1))then(
 if(wI (8*n3))<0 then False else
 (0<=(wI (fU+n3))/\(wI (fU+n3))<(aK:Int))/\
 ae aH λp2=>
 bD (p2.add (Int.toNat (wI (fU+n3)))) (.int .u8 (IntKind.wrap .u8 ((Int.fdiv v1 (2 ^ min (Int.toNat (wI (8*n3))) 64))))) h7 λh8=>
 I2 (wI (n3+1)) h8/\M2 (wI (n3+1)) h8<M2 n3 h7)else(
 K (vI 0) h7))))
theorem ja.ok{aH aK aR fU n1 v1 K h}(x:ja aH aK aR fU n1 v1 K h):C.ja aH aK aR fU n1 v1 h K:=fk (fun|6=>([0,1,3,31],[(32,.int .i64)])|_=>([],[])) o0 Tryz.func146 x
def qd(Db:OA)(Dc Dd:Nat)(wg:OA)(uC yw:Nat)(K:KT)(h1:ad):=
 C.oA Db Dc Dd h1 λr1 h2=>
 ∃aU aI bw,r1 = vS aU aI bw/\
 C.ja aU aI bw 12 4 0 h2 λr2 h3=>
 ∃n1,r2 = vI n1/\
 C.yy aU aI bw h3 λr3 h4=>
 ∃n2,r3 = .int .u32 n2/\
 ∃(I1:Int->Int->ad->Prop) (M1:Int->Int->ad->Nat),I1 n2 0 h4/\
 ∀(s1:Int) (n3:Int),∀h5:ad,I1 s1 n3 h5->
 bif(decide (n3<(uC:Int)))then(
 (0<=n3/\n3<(uC:Int))/\
 ae wg λp1=>
 ∃eC dT fD,cS h5 (p1.add (Int.toNat n3)) eC dT fD/\
 C.yy eC dT fD h5 λr4 h6=>
 ∃n4,r4 = .int .u32 n4/\
 C.qW s1 n4 (dT:Int) h6 λr5 h7=>
 ∃n5 n6,r5 = .tuple #[.int .u32 n5,vI n6]/\
 I1 n5 (wI (n3+1)) h7/\M1 n5 (wI (n3+1)) h7<M1 s1 n3 h5)else(
 K (.int .u32 s1) h5)
theorem qd.ok{Db Dc Dd wg uC yw K h}(x:qd Db Dc Dd wg uC yw K h):C.qd Db Dc Dd wg uC yw h K:=fk (fun|5=>([15,16],[(6,.int .u32),(17,.int .i64)])|_=>([],[])) o0 Tryz.func147 x
def iR(d1 cw jb:OA)(K:KT)(h1:ad):=
 ae cw λp1=>
 ∃n1,cI h1 p1 n1/\
 ae jb λp2=>
 ∃aU aI bw,cS h1 p2 aU aI bw/\
 C.gA d1 n1 aU aI bw h1 λr1 h2=>
 ∃n2,r1 = vI n2/\
 K (vI n2) h2
theorem iR.ok{d1 cw jb K h}(x:iR d1 cw jb K h):C.iR d1 cw jb h K:=fz Tryz.func148 x
def gA(d1:OA)(i1:Int)(aH:OA)(aK aR:Nat)(K:KT)(h1:ad):=
 ae d1 λp1=>
 ∃b1,cellOf h1 (p1.add 4)=some (.bool b1)/\
 bif b1 then(
 K (vI 30) h1)else(
 C.jh d1 i1 h1 λr1 h2=>
 ∃b2,r1 = .bool b2/\
 bif(!b2)then(
 K (vI 31) h2)else(
 bif((aK:Int) != 512)then(
 K (vI 32) h2)else(
 ae d1 λp2=>
 ∃aU aI bw,cS h2 (p2.add 1) aU aI bw/\
 512<=aK/\
 ae aH λp3=>
 ∃br,List.length br=512/\ai h2 p3 br/\
 List.length (br:LV)=512/\
 List.length (([vI i1]++br):LV)=513/\
 aC ([vI i1]++br) 183 h2 λh3=>
 (cS h3 (p2.add 1) aU aI bw)/\
 ∃aM,List.length aM=1*513/\ak h3 (some (bA h2)) aM/\(∀v∈aM,v.oneCell'=true)/\
 aJ Wm 183 aU aI bw 1 aM h3 λeC dT fD h4=>
 ae d1 λp4=>
 bD (p4.add 1) (vS eC dT fD) h4 λh5=>
 ae d1 λp5=>
 ∃kS kA lW,cS h5 (p5.add 7) kS kA lW/\
 C.bX aH aK aR h5 λr2 h6=>
 ∃tN tF uF,r2 = vS tN tF uF/\
 (cS h6 (p5.add 7) kS kA lW)/\
 List.length ([vI 1,vI i1,vS tN tF uF]:LV)=3/\
 aC [vI 1,vI i1,vS tN tF uF] 146 h6 λh7=>
 (cS h7 (p5.add 7) kS kA lW)/\
 ∃jR,List.length jR=1*3/\ak h7 (some (bA h6)) jR/\(∀v∈jR,v.oneCell'=true)/\
 aJ xC 146 kS kA lW 1 jR h7 λxD xf xQ h8=>
 ae d1 λp6=>
 bD (p6.add 7) (vS xD xf xQ) h8 λh9=>
 ae d1 λp7=>
 ∃n1,cI h9 (p7.add 5) n1/\
 ae d1 λp8=>
 bD (p8.add 5) (vI (wI (n1+1))) h9 λbG=>
 C.iE d1 (Value.nilFunc) bG λr3 cu=>
 ∃n2,r3 = vI n2/\
 K (vI n2) cu)))
theorem gA.ok{d1 i1 aH aK aR K h}(x:gA d1 i1 aH aK aR K h):C.gA d1 i1 aH aK aR h K:=fk l0 (fun|7=>(oS 0 10 (.op 10 [4] (.op 11 [] (.op 12 [] (.op 13 [] (.op 14 [] .nil))))))|8=>(oS 0 7 (.op 7 [4] (.op 8 [] (.op 9 [4] (.op 10 [] (.op 11 [] (.op 12 [] (.op 13 [] .nil))))))))|_=>.nil) Tryz.func149 x
def iS(d1:OA)(K:KT)(h1:ad):=
 C.gC d1 h1 λr1 h2=>
 ∃n1,r1 = vI n1/\
 K (vI n1) h2
theorem iS.ok{d1 K h}(x:iS d1 K h):C.iS d1 h K:=fz Tryz.func150 x
def gC(d1:OA)(K:KT)(h1:ad):=
 aC [vP d1] 35 h1 λh2=>
 ∃q1,cP h2 (bA h1) q1/\
 ae q1 λp1=>
 ∃b1,cellOf h2 (p1.add 4)=some (.bool b1)/\
 bif b1 then(
 K (vI 30) h2)else(
 ∃q2,cP h2 (bA h1) q2/\
 ae q2 λp2=>
 ∃n1,cI h2 (p2.add 6) n1/\
 ae q2 λp3=>
 bD (p3.add 6) (vI (wI (n1+1))) h2 λh3=>
 ∃q3,cP h3 (bA h1) q3/\
 C.iE q3 (Value.func (.func 196) #[] ⟨[vP (some ⟨h1.size,0,none⟩)]⟩) h3 λr1 h4=>
 ∃n2,r1 = vI n2/\
 K (vI n2) h4)
theorem gC.ok{d1 K h}(x:gC d1 K h):C.gC d1 h K:=fz Tryz.func151 x
def gS(n1 rZ:Int)(K:KT)(h1:ad):=
 ∃(I1:Int->OA->Nat->Nat->Int->ad->Prop) (M1:Int->OA->Nat->Nat->Int->ad->Nat),I1 n1 none 0 0 0 h1/\
 ∀(n2:Int) (aH:OA) (aK:Nat) (aR:Nat) (i1:Int),∀h2:ad,I1 n2 aH aK aR i1 h2->
 bif(decide (i1<rZ))then(
 aC [.int .u8 (IntKind.wrap .u8 ((Int.tmod n2 256)))] 5 h2 λh3=>
 ∃aM,List.length aM=1*1/\ak h3 (some (bA h2)) aM/\(∀v∈aM,v.oneCell'=true)/\
 aJ xd 5 aH aK aR 1 aM h3 λaU aI bw h4=>
 I1 (wI (Int.tdiv n2 256)) aU aI bw (wI (i1+1)) h4/\M1 (wI (Int.tdiv n2 256)) aU aI bw (wI (i1+1)) h4<M1 n2 aH aK aR i1 h2)else(
 K (vS aH aK aR) h2)
theorem gS.ok{n1 rZ K h}(x:gS n1 rZ K h):C.gS n1 rZ h K:=fk (fun|3=>([1],[(0,.int .i64),(5,.slice),(6,.int .i64)])|_=>([],[])) o0 Tryz.func152 x
def lM(aH:OA)(aK aR:Nat)(K:KT)(h1:ad):=
 ∃(I1:Int->Int->ad->Prop) (M1:Int->Int->ad->Nat),I1 4294967295 0 h1/\
 ∀(c1:Int) (i1:Int),∀h2:ad,I1 c1 i1 h2->
 bif(decide (i1<(aK:Int)))then(
 (0<=i1/\i1<(aK:Int))/\
 ae aH λp1=>
 ∃n1,cellOf h2 (p1.add (Int.toNat i1))=some (.int .u8 n1)/\
 ∃(I2:Int->Int->ad->Prop) (M2:Int->Int->ad->Nat),I2 (bP .xor .u32 c1 (IntKind.wrap .u32 (n1))) 0 h2/\
 ∀(c2:Int) (k1:Int),∀h3:ad,I2 c2 k1 h3->
 bif(decide (k1<8))then(
 bif((Int.tmod c2 2)==1)then(
 I2 (bP .xor .u32 (IntKind.wrap .u32 (Int.tdiv c2 2)) 3988292384) (wI (k1+1)) h3/\M2 (bP .xor .u32 (IntKind.wrap .u32 (Int.tdiv c2 2)) 3988292384) (wI (k1+1)) h3<M2 c2 k1 h3)else(
 I2 (IntKind.wrap .u32 (Int.tdiv c2 2)) (wI (k1+1)) h3/\M2 (IntKind.wrap .u32 (Int.tdiv c2 2)) (wI (k1+1)) h3<M2 c2 k1 h3))else(
 I1 c2 (wI (i1+1)) h3/\M1 c2 (wI (i1+1)) h3<M1 c1 i1 h2))else(
 K (.int .u32 (bP .xor .u32 (IntKind.max .u32) c1)) h2)
theorem lM.ok{aH aK aR K h}(x:lM aH aK aR K h):C.lM aH aK aR h K:=fk (fun|3=>([0],[(3,.int .u32),(4,.int .i64)])|7=>([0,4],[(3,.int .u32),(5,.int .i64)])|_=>([],[])) o0 Tryz.func153 x
def jD(blocks1:Int)(a1:LV)(K:KT)(h1:ad):=
 aC a1 146 h1 λh2=>
 ∃n1,cI h2 (aS h1 0) n1/\
 bif(n1==2)then(
 K (vI 0) h2)else(
 bif(n1==1)then(
 ∃n2,cI h2 (aS h1 1) n2/\
 bif(decide (n2<0))then(
 K (vI 31) h2)else(
 ∃n3,cI h2 (aS h1 1) n3/\
 bif(decide (n3>=blocks1))then(
 K (vI 31) h2)else(
 ∃aU aI bw,cS h2 (aS h1 2) aU aI bw/\
 bif((aI:Int) != 512)then(
 K (vI 32) h2)else(
 K (vI 0) h2))))else(
 K (vI 1) h2))
theorem jD.ok{blocks1 a1 K h}(x:jD blocks1 a1 K h):C.jD blocks1 a1 h K:=fz Tryz.func154 x
def fe(d1:OA)(K:KT)(h1:ad):=
 ae d1 λp1=>
 ∃n1,cI h1 (p1.add 3) n1/\
 bif(n1==0)then(
 K (.bool false) h1)else(
 ae d1 λp2=>
 ∃n2,cI h1 (p2.add 3) n2/\
 ae d1 λp3=>
 bD (p3.add 3) (vI (wI (n2-1))) h1 λh2=>
 ae d1 λp4=>
 ∃n3,cI h2 (p4.add 3) n3/\
 ae d1 λp5=>
 bD (p5.add 4) (.bool (n3==0)) h2 λh3=>
 ae d1 λp6=>
 ∃b1,cellOf h3 (p6.add 4)=some (.bool b1)/\
 K (.bool b1) h3)
theorem fe.ok{d1 K h}(x:fe d1 K h):C.fe d1 h K:=fz Tryz.func155 x
def cj(aU:OA)(aI bw:Nat)(f1:Value)(K:KT)(h1:ad):=
 ∃(I1:IP) (M1:IM),I1 0 h1/\
 ∀(n1:Int),∀h2:ad,I1 n1 h2->
 bif(decide (n1<(aI:Int)))then(
 (0<=n1/\n1<(aI:Int))/\
 ae aU λp1=>
 ∃br,List.length br=3/\ai h2 (p1.add ((Int.toNat n1)*3)) br/\
 gJ Tryz.prog f1 [.agg ⟨br⟩] h2 λr1 h3=>
 ∃b1,r1 = .bool b1/\
 bif b1 then(
 K (vI n1) h3)else(
 I1 (wI (n1+1)) h3/\M1 (wI (n1+1)) h3<M1 n1 h2))else(
 K (vI (-1)) h2)
theorem cj.ok{aU aI bw f1 K h}(x:cj aU aI bw f1 K h):C.cj aU aI bw f1 h K:=fk (fun|2=>([0,1,7],[(8,.int .i64)])|_=>([],[])) o0 Tryz.func156 x
def ou.k1(k1:Int)(h1 h2 h3 h4 h5 h6 cX:ad)(K:KT):=
 ∃q1,cP cX ⟨h1.size,0,none⟩ q1/\
 C.qe q1 cX λr1 fN=>
 ∃g2 fs1 br,r1 = .func (.func g2) ⟨fs1⟩ ⟨br⟩/\
 aC ahp 262 fN λgN=>
 bD ⟨fN.size,0,none⟩ (.func (.func g2) ⟨fs1⟩ ⟨br⟩) gN λgO=>
 ∃q2,cP gO ⟨h1.size,0,none⟩ q2/\
 ∃cT,List.length cT=5/\ai gO ⟨h2.size,0,none⟩ cT/\
 ∃gG,List.length gG=15/\ai gO ⟨h3.size,0,none⟩ gG/\
 List.length (cT:LV)=5/\
 List.length (gG:LV)=15/\
 aC ([vP q2]++(cT++gG)) 189 gO λjk=>
 aC ahn 187 jk λeX=>
 bD ⟨jk.size,0,none⟩ (vP (some ⟨gO.size,0,none⟩)) eX λiG=>
 ∃q3,cP iG ⟨jk.size,0,none⟩ q3/\
 C.bY q3 k1 (Value.func (.func 199) #[] ⟨[vP (some ⟨h1.size,0,none⟩),vP (some ⟨h2.size,0,none⟩),vP (some ⟨jk.size,0,none⟩)]⟩) iG λr2 oM=>
 ∃n1 n2,r2 = .tuple #[vI n1,vI n2]/\
 bD ⟨h5.size,0,none⟩ (vI n1) oM λqD=>
 bD ⟨h6.size,0,none⟩ (vI n2) qD λpg=>
 ∃q4,cP pg ⟨jk.size,0,none⟩ q4/\
 ae q4 λp1=>
 ∃nO,List.length nO=15/\ai pg (p1.add 6) nO/\
 ∃n3,cI pg ⟨h5.size,0,none⟩ n3/\
 ∃n4,cI pg ⟨h6.size,0,none⟩ n4/\
 az ⟨h4.size,0,none⟩ nO 15 pg λsX=>
 (cI sX ⟨h5.size,0,none⟩ n3)/\
 (cI sX ⟨h6.size,0,none⟩ n4)/\
 bD ⟨h5.size,0,none⟩ (vI n3) sX λqv=>
 (cI qv ⟨h6.size,0,none⟩ n4)/\
 bD ⟨h6.size,0,none⟩ (vI n4) qv λpJ=>
 D.eF (some ⟨fN.size,0,none⟩) (some ⟨h6.size,0,none⟩) (some ⟨h4.size,0,none⟩) (some ⟨h5.size,0,none⟩) pJ λDg=>
 ∃Gs,List.length Gs=15/\ai Dg ⟨h4.size,0,none⟩ Gs/\
 ∃T6,cI Dg ⟨h5.size,0,none⟩ T6/\
 ∃ahB,cI Dg ⟨h6.size,0,none⟩ ahB/\
 K (.tuple #[.agg ⟨Gs⟩,vI T6,vI ahB]) Dg
def ou(t1:OA)(g1 x1:LV)(k1:Int)(K:KT)(h1:ad):=
 aC [vP t1] 43 h1 λh2=>
 aC g1 27 h2 λh3=>
 aC x1 32 h3 λh4=>
 aC z32 32 h4 λh5=>
 aC z3 3 h5 λh6=>
 aC z36 36 h6 λh7=>
 bif(decide (k1<0))then(
 az ⟨h4.size,0,none⟩ z32 15 h7 λh8=>
 bD ⟨h5.size,0,none⟩ (vI 0) h8 λh9=>
 bD ⟨h6.size,0,none⟩ (vI 101) h9 λbG=>
 ∃dq,List.length dq=15/\ai bG ⟨h4.size,0,none⟩ dq/\
 ∃fV,cI bG ⟨h5.size,0,none⟩ fV/\
 ∃fY,cI bG ⟨h6.size,0,none⟩ fY/\
 K (.tuple #[.agg ⟨dq⟩,vI fV,vI fY]) bG)else(
 bif(decide (k1>=16522))then(
 az ⟨h4.size,0,none⟩ z32 15 h7 λcu=>
 bD ⟨h5.size,0,none⟩ (vI 0) cu λbf=>
 bD ⟨h6.size,0,none⟩ (vI 101) bf λbQ=>
 ∃kP,List.length kP=15/\ai bQ ⟨h4.size,0,none⟩ kP/\
 ∃uG,cI bQ ⟨h5.size,0,none⟩ uG/\
 ∃u4,cI bQ ⟨h6.size,0,none⟩ u4/\
 K (.tuple #[.agg ⟨kP⟩,vI uG,vI u4]) bQ)else(
 ou.k1 k1 h1 h2 h3 h4 h5 h6 h7 K))
set_option maxRecDepth 1000000 in
set_option maxRecDepth 1000000 in
theorem ou.ok{t1 g1 x1 k1 K h}(x:ou t1 g1 x1 k1 K h):C.ou t1 g1 x1 k1 h K:=fk l0 (fun|7=>(oS 0 6 (.op 6 [4,5] (.op 7 [5] (.op 8 [] .nil))))|_=>.nil) Tryz.func157 x
def si(t1:OA)(g1:LV)(n1:Int)(x1:LV)(K:KT)(h1:ad):=
 aC g1 27 h1 λh2=>
 aC x1 32 h2 λh3=>
 ∃br,List.length br=5/\ai h3 ⟨h1.size,0,none⟩ br/\
 C.j3 br n1 h3 λr1 h4=>
 ∃b1,r1 = .bool b1/\
 bif(!b1)then(
 K (vI 110) h4)else(
 ∃cT,List.length cT=15/\ai h4 ⟨h2.size,0,none⟩ cT/\
 C.mP cT h4 λr2 h5=>
 ∃aU aI bw n2,r2 = .tuple #[vS aU aI bw,vI n2]/\
 bif(n2 != 0)then(
 K (vI n2) h5)else(
 ∃gG,List.length gG=5/\ai h5 ⟨h1.size,0,none⟩ gG/\
 C.mF t1 gG n1 h5 λr3 h6=>
 ∃n3 eC dT fD n4 n5,r3 = .tuple #[vI n3,vS eC dT fD,vI n4,vI n5]/\
 bif(n5 != 0)then(
 K (vI n5) h6)else(
 (0<=n4/\n4<=(dT:Int))/\
 xw xd (if fD=(Int.toNat n4)then eC else Option.map (Addr.add · (Int.toNat n4)) eC) (dT-(Int.toNat n4)) (vS aU aI bw) h6 λn6 h7=>
 C.aX t1 n3 eC dT fD h7 λr4 h8=>
 ∃n7,r4 = vI n7/\
 K (vI n7) h8)))
theorem si.ok{t1 g1 n1 x1 K h}(x:si t1 g1 n1 x1 K h):C.si t1 g1 n1 x1 h K:=fz Tryz.func158 x
def gT.k1(t1:OA)(k1:Int)(h1 h2 h3 h7:ad)(K:KT):=
 C.dM t1 h7 λr1 h8=>
 ∃n1 n2,r1 = .tuple #[vI n1,vI n2]/\
 ∃br,List.length br=5/\ai h8 ⟨h1.size,0,none⟩ br/\
 ∃cT,List.length cT=15/\ai h8 ⟨h2.size,0,none⟩ cT/\
 C.fM t1 br cT k1 h8 λr2 h9=>
 ∃gG n3 n4,r2 = .tuple #[.agg ⟨gG⟩,vI n3,vI n4]/\
 aF z32 32 gG 15 h9 λcu=>
 bif(n4 != 0)then(
 C.cH t1 n1 cu λr3 bf=>
 ∃n5,r3 = vI n5/\
 az ⟨h3.size,0,none⟩ z32 15 bf λbQ=>
 ∃fY,List.length fY=15/\ai bQ ⟨h3.size,0,none⟩ fY/\
 K (.tuple #[.agg ⟨fY⟩,vI 0,vI n4]) bQ)else(
 ∃nO,List.length nO=15/\ai cu ⟨h9.size,0,none⟩ nO/\
 az ⟨h3.size,0,none⟩ nO 15 cu λcX=>
 ∃kP,List.length kP=15/\ai cX ⟨h3.size,0,none⟩ kP/\
 K (.tuple #[.agg ⟨kP⟩,vI n3,vI 0]) cX)
def gT(t1:OA)(g1 x1:LV)(k1:Int)(K:KT)(h1:ad):=
 aC g1 27 h1 λh2=>
 aC x1 32 h2 λh3=>
 aC z32 32 h3 λh4=>
 bif(decide (k1<0))then(
 az ⟨h3.size,0,none⟩ z32 15 h4 λh5=>
 ∃dq,List.length dq=15/\ai h5 ⟨h3.size,0,none⟩ dq/\
 K (.tuple #[.agg ⟨dq⟩,vI 0,vI 101]) h5)else(
 bif(decide (k1>=16522))then(
 az ⟨h3.size,0,none⟩ z32 15 h4 λh6=>
 ∃fV,List.length fV=15/\ai h6 ⟨h3.size,0,none⟩ fV/\
 K (.tuple #[.agg ⟨fV⟩,vI 0,vI 101]) h6)else(
 gT.k1 t1 k1 h1 h2 h3 h4 K))
set_option maxRecDepth 1000000 in
set_option maxRecDepth 1000000 in
theorem gT.ok{t1 g1 x1 k1 K h}(x:gT t1 g1 x1 k1 K h):C.gT t1 g1 x1 k1 h K:=fz Tryz.func159 x
def j6(t1:OA)(yx:Int)(c1:LV)(K:KT)(h1:ad):=
 aC c1 79 h1 λh2=>
 C.aT t1 yx h2 λr1 h3=>
 ∃aU aI bw n1,r1 = .tuple #[vS aU aI bw,vI n1]/\
 bif(n1 != 0)then(
 K (vI n1) h3)else(
 ∃n2,cI h3 (aS h1 2) n2/\
 bif(n2==0)then(
 ∃n3,cI h3 (aS h1 0) n3/\
 C.iF aU aI bw (Int.tmod n3 16) h3 λr2 h4=>
 ∃n4,r2 = vI n4/\
 C.aA t1 yx aU aI bw h4 λr3 h5=>
 ∃n5,r3 = vI n5/\
 K (vI n5) h5)else(
 ∃n6,cI h3 (aS h1 0) n6/\
 ∃s1,cellOf h3 (aS h1 1)=some (.string s1)/\
 ∃n7,cI h3 (aS h1 2) n7/\
 C.gU aU aI bw [vI (Int.tmod n6 16),.string s1,vI n7] h3 λr4 h6=>
 ∃n8,r4 = vI n8/\
 C.aA t1 yx aU aI bw h6 λr5 h7=>
 ∃n9,r5 = vI n9/\
 K (vI n9) h7))
theorem j6.ok{t1 yx c1 K h}(x:j6 t1 yx c1 K h):C.j6 t1 yx c1 h K:=fz Tryz.func160 x
def lO(t1:OA)(g1:LV)(n1:Int)(x1:LV)(K:KT)(h1:ad):=
 aC g1 27 h1 λh2=>
 aC x1 32 h2 λh3=>
 ∃br,List.length br=5/\ai h3 (bA h1) br/\
 C.dS br n1 h3 λr1 h4=>
 ∃n2 n3 n4,r1 = .tuple #[vI n2,vI n3,vI n4]/\
 bif(n4 != 0)then(
 K (vI n4) h4)else(
 ∃cT,List.length cT=15/\ai h4 (bA h2) cT/\
 C.fR cT h4 λr2 h5=>
 ∃aU aI bw n5,r2 = .tuple #[vS aU aI bw,vI n5]/\
 bif(n5 != 0)then(
 K (vI n5) h5)else(
 C.aT t1 n2 h5 λr3 h6=>
 ∃eC dT fD n6,r3 = .tuple #[vS eC dT fD,vI n6]/\
 bif(n6 != 0)then(
 K (vI n6) h6)else(
 ∃(I1:IP) (M1:IM),I1 0 h6/\
 ∀(i1:Int),∀h7:ad,I1 i1 h7->
 bif(decide (i1<64))then(
 (0<=i1/\i1<(aI:Int))/\
 ae aU λp1=>
 ∃n7,cellOf h7 (p1.add (Int.toNat i1))=some (.int .u8 n7)/\
 (0<=(wI (n3+i1))/\(wI (n3+i1))<(dT:Int))/\
 ae eC λp2=>
 bD (p2.add (Int.toNat (wI (n3+i1)))) (.int .u8 n7) h7 λh8=>
 I1 (wI (i1+1)) h8/\M1 (wI (i1+1)) h8<M1 i1 h7)else(
 C.aA t1 n2 eC dT fD h7 λr4 h9=>
 ∃n8,r4 = vI n8/\
 K (vI n8) h9))))
theorem lO.ok{t1 g1 n1 x1 K h}(x:lO t1 g1 n1 x1 K h):C.lO t1 g1 n1 x1 h K:=fk (fun|11=>([0,9,10,12,14],[(16,.int .i64)])|_=>([],[])) o0 Tryz.func161 x
def j8(k1:Int)(K:KT)(h1:ad):=
 bif(decide (k1>=0))then(
 K (.bool (decide (k1<16))) h1)else(
 K (.bool false) h1)
theorem j8.ok{k1 K h}(x:j8 k1 K h):C.j8 k1 h K:=fz Tryz.func162 x
def fy(v1 Da we:Int)(K:KT)(h1:ad):=
 bif(decide (v1>=Da))then(
 K (.bool (decide (v1<=we))) h1)else(
 K (.bool false) h1)
theorem fy.ok{v1 Da we K h}(x:fy v1 Da we K h):C.fy v1 Da we h K:=fz Tryz.func165 x
def mO.k1(n1:Int)(h1 h2:ad)(K:KT):=
 ∃n3,cI h2 (Addr.add ⟨h1.size,0,none⟩ 2) n3/\
 K (.tuple #[vI (wI (n3+(wI (Int.tdiv n1 8)))),vI (wI ((Int.tmod n1 8)*64)),vI 0]) h2
def mO(g1:LV)(n1:Int)(K:KT)(h1:ad):=
 aC g1 27 h1 λh2=>
 bif(decide (n1<1))then(
 K (.tuple #[vI 0,vI 0,vI 110]) h2)else(
 ∃n2,cI h2 (Addr.add ⟨h1.size,0,none⟩ 4) n2/\
 bif(decide (n1>=n2))then(
 K (.tuple #[vI 0,vI 0,vI 110]) h2)else(
 mO.k1 n1 h1 h2 K))
theorem mO.ok{g1 n1 K h}(x:mO g1 n1 K h):C.mO g1 n1 h K:=fz Tryz.func166 x
def dg(fU n1:Int)(cw:OA)(K:KT)(h1:ad):=
 ae cw λp1=>
 ∃aU aI bw,cS h1 p1 aU aI bw/\
 C.sN aU aI bw fU n1 h1 λr1 h2=>
 ∃n2 n3,r1 = .tuple #[.int .u64 n2,vI n3]/\
 K (vI (wI (n2))) h2
theorem dg.ok{fU n1 cw K h}(x:dg fU n1 cw K h):C.dg fU n1 cw h K:=fz Tryz.func167 x
def sN(aH:OA)(aK aR:Nat)(fU n1:Int)(K:KT)(h1:ad):=
 C.j9 n1 h1 λr1 h2=>
 ∃b1,r1 = .bool b1/\
 bif(!b1)then(
 K (.tuple #[.int .u64 0,vI 1]) h2)else(
 C.qV aH aK aR fU n1 h2 λr2 h3=>
 ∃b2,r2 = .bool b2/\
 bif(!b2)then(
 K (.tuple #[.int .u64 0,vI 20]) h3)else(
 ∃(I1:Int->Int->ad->Prop) (M1:Int->Int->ad->Nat),I1 0 0 h3/\
 ∀(v1:Int) (n2:Int),∀h4:ad,I1 v1 n2 h4->
 bif(decide (n2<n1))then(
 (0<=(wI (fU+n2))/\(wI (fU+n2))<(aK:Int))/\
 ae aH λp1=>
 ∃n3,cellOf h4 (p1.add (Int.toNat (wI (fU+n2))))=some (.int .u8 n3)/\
 if(wI (8*n2))<0 then False else
 I1 (bP .or .u64 v1 (IntKind.wrap .u64 (((IntKind.wrap .u64 (n3))*2 ^ min (Int.toNat (wI (8*n2))) 64)))) (wI (n2+1)) h4/\M1 (bP .or .u64 v1 (IntKind.wrap .u64 (((IntKind.wrap .u64 (n3))*2 ^ min (Int.toNat (wI (8*n2))) 64)))) (wI (n2+1)) h4<M1 v1 n2 h4)else(
 K (.tuple #[.int .u64 v1,vI 0]) h4)))
theorem sN.ok{aH aK aR fU n1 K h}(x:sN aH aK aR fU n1 K h):C.sN aH aK aR fU n1 h K:=fk (fun|7=>([0,1,20],[(8,.int .u64),(21,.int .i64)])|_=>([],[])) o0 Tryz.func168 x
def pH(aH:OA)(aK aR:Nat)(fU n1:Int)(K:KT)(h1:ad):=
 bif(decide (n1<0))then(
 K (.tuple #[.bool false,vI 1]) h1)else(
 C.qV aH aK aR fU n1 h1 λr1 h2=>
 ∃b1,r1 = .bool b1/\
 bif(!b1)then(
 K (.tuple #[.bool false,vI 20]) h2)else(
 (0<=fU/\fU<=(wI (fU+n1))/\(wI (fU+n1))<=(aR:Int))/\
 C.sk (if aR=(Int.toNat fU)then aH else Option.map (Addr.add · (Int.toNat fU)) aH) ((Int.toNat (wI (fU+n1)))-(Int.toNat fU)) (aR-(Int.toNat fU)) h2 λr2 h3=>
 ∃b2,r2 = .bool b2/\
 K (.tuple #[.bool b2,vI 0]) h3))
theorem pH.ok{aH aK aR fU n1 K h}(x:pH aH aK aR fU n1 K h):C.pH aH aK aR fU n1 h K:=fz Tryz.func169 x
def qq(x1:LV)(K:KT)(h1:ad):=
 aC x1 32 h1 λh2=>
 ∃br,List.length br=15/\ai h2 ⟨h1.size,0,none⟩ br/\
 C.ke br h2 λr1 h3=>
 ∃cT,r1 = .agg ⟨cT⟩/\
 ∃(I1:IP) (M1:IM),I1 0 h3/\
 ∀(n1:Int),∀h4:ad,I1 n1 h4->
 bif(decide (n1<12))then(
 (0<=n1/\n1<(12:Int))/\
 ∃n2,cT[(Int.toNat n1)]?=some (vI n2)/\
 C.fy n2 0 4294967295 h4 λr2 h5=>
 ∃b1,r2 = .bool b1/\
 bif(!b1)then(
 K (.bool false) h5)else(
 I1 (wI (n1+1)) h5/\M1 (wI (n1+1)) h5<M1 n1 h4))else(
 ∃n3,cI h4 (Addr.add ⟨h1.size,0,none⟩ 0) n3/\
 bif(n3==0)then(
 ∃gG,List.length gG=15/\ai h4 ⟨h1.size,0,none⟩ gG/\
 dr [(.int .i64),(.int .i64),(.int .i64),(.int .i64),(.int .i64),(.int .i64),(.int .i64),(.int .i64),(.int .i64),(.int .i64),(.int .i64),(.int .i64),(.int .i64),(.int .i64),(.int .i64)] gG z32=true/\
 K (.bool (cQ gG z32)) h4)else(
 bif(n3==1)then(
 ∃n4,cI h4 (Addr.add ⟨h1.size,0,none⟩ 1) n4/\
 C.fy n4 0 1000 h4 λr3 h6=>
 ∃b2,r3 = .bool b2/\
 bif b2 then(
 ∃n5,cI h6 (Addr.add ⟨h1.size,0,none⟩ 2) n5/\
 C.fy n5 0 8459264 h6 λr4 h7=>
 ∃b3,r4 = .bool b3/\
 K (.bool b3) h7)else(
 K (.bool false) h6))else(
 bif(n3==2)then(
 ∃n6,cI h4 (Addr.add ⟨h1.size,0,none⟩ 1) n6/\
 C.fy n6 2 65535 h4 λr5 h8=>
 ∃b4,r5 = .bool b4/\
 bif b4 then(
 ∃n7,cI h8 (Addr.add ⟨h1.size,0,none⟩ 2) n7/\
 C.fy n7 0 8459264 h8 λr6 h9=>
 ∃b5,r6 = .bool b5/\
 bif b5 then(
 ∃n8,cI h9 (Addr.add ⟨h1.size,0,none⟩ 2) n8/\
 K (.bool ((Int.tmod n8 512)==0)) h9)else(
 K (.bool false) h9))else(
 K (.bool false) h8))else(
 bif(n3==3)then(
 ∃n9,cI h4 (Addr.add ⟨h1.size,0,none⟩ 1) n9/\
 C.fy n9 1 1000 h4 λr7 bG=>
 ∃b6,r7 = .bool b6/\
 bif b6 then(
 ∃n10,cI bG (Addr.add ⟨h1.size,0,none⟩ 2) n10/\
 C.fy n10 1 1024 bG λr8 cu=>
 ∃b7,r8 = .bool b7/\
 K (.bool b7) cu)else(
 K (.bool false) bG))else(
 K (.bool false) h4)))))
set_option maxRecDepth 1000000 in
set_option maxRecDepth 1000000 in
theorem qq.ok{x1 K h}(x:qq x1 K h):C.qq x1 h K:=fk (fun|2=>([1,6],[(7,.int .i64)])|_=>([],[])) o0 Tryz.func170 x
def uD(k1:Int)(K:KT)(h1:ad):=
 bif(decide (k1<10))then(
 List.length ([vI 0,vI k1]:LV)=2/\
 aC [vI 0,vI k1] 192 h1 λh2=>
 K (vS (some ⟨h1.size,0,none⟩) 1 1) h2)else(
 bif(decide (k1<138))then(
 List.length ([vI 1,vI 0]:LV)=2/\
 List.length ([vI 3,vI (wI (k1-10))]:LV)=2/\
 aC [vI 1,vI 0,vI 3,vI (wI (k1-10))] 192 h1 λh3=>
 K (vS (some ⟨h1.size,0,none⟩) 2 2) h3)else(
 List.length ([vI 2,vI 0]:LV)=2/\
 List.length ([vI 3,vI (wI (Int.tdiv (wI (k1-138)) 128))]:LV)=2/\
 List.length ([vI 3,vI (Int.tmod (wI (k1-138)) 128)]:LV)=2/\
 aC [vI 2,vI 0,vI 3,vI (wI (Int.tdiv (wI (k1-138)) 128)),vI 3,vI (Int.tmod (wI (k1-138)) 128)] 192 h1 λh4=>
 K (vS (some ⟨h1.size,0,none⟩) 3 3) h4))
theorem uD.ok{k1 K h}(x:uD k1 K h):C.uD k1 h K:=fz Tryz.func171 x
def iT(f1:OA)(s1:LV)(fU:Int)(K:KT)(h1:ad):=
 aC s1 192 h1 λh2=>
 ∃n1,cI h2 (Addr.add ⟨h1.size,0,none⟩ 0) n1/\
 bif(n1 != 3)then(
 ∃br,List.length br=2/\ai h2 ⟨h1.size,0,none⟩ br/\
 C.kf f1 br h2 λr1 h3=>
 ∃q1,r1 = vP q1/\
 ae q1 λp1=>
 ∃n2,cI h3 p1 n2/\
 K (.tuple #[vI n2,vS none 0 0,vI 0]) h3)else(
 ae f1 λp2=>
 ∃q2,cP h2 (p2.add 0) q2/\
 C.dF q2 fU h2 λr2 h4=>
 ∃aU aI bw n3,r2 = .tuple #[vS aU aI bw,vI n3]/\
 bif(n3 != 0)then(
 K (.tuple #[vI 0,vS none 0 0,vI n3]) h4)else(
 ∃n4,cI h4 (Addr.add ⟨h1.size,0,none⟩ 1) n4/\
 C.sN aU aI bw (wI (4*n4)) 4 h4 λr3 h5=>
 ∃n5 n6,r3 = .tuple #[.int .u64 n5,vI n6]/\
 K (.tuple #[vI (wI (n5)),vS aU aI bw,vI 0]) h5))
theorem iT.ok{f1 s1 fU K h}(x:iT f1 s1 fU K h):C.iT f1 s1 fU h K:=fz Tryz.func172 x
def kI(f1:OA)(wh:Int)(K:KT)(h1:ad):=
 ae f1 λp1=>
 ∃n1,cI h1 (Addr.add (p1.add 1) 3) n1/\
 bif(decide (wh<n1))then(
 K (vI 100) h1)else(
 ae f1 λp2=>
 ∃n2,cI h1 (Addr.add (p2.add 1) 0) n2/\
 bif(decide (wh>=n2))then(
 K (vI 100) h1)else(
 K (vI 0) h1))
theorem kI.ok{f1 wh K h}(x:kI f1 wh K h):C.kI f1 wh h K:=fz Tryz.func173 x
def bp(aH:OA)(aK aR:Nat)(K:KT)(h1:ad):=
 ∃(I1:Int->Int->ad->Prop) (M1:Int->Int->ad->Nat),I1 0 (wI ((aK:Int)-1)) h1/\
 ∀(n1:Int) (i1:Int),∀h2:ad,I1 n1 i1 h2->
 bif(decide (i1>=0))then(
 (0<=i1/\i1<(aK:Int))/\
 ae aH λp1=>
 ∃n2,cellOf h2 (p1.add (Int.toNat i1))=some (.int .u8 n2)/\
 I1 (wI ((wI (n1*256))+(wI (n2)))) (wI (i1-1)) h2/\M1 (wI ((wI (n1*256))+(wI (n2)))) (wI (i1-1)) h2<M1 n1 i1 h2)else(
 K (vI n1) h2)
theorem bp.ok{aH aK aR K h}(x:bp aH aK aR K h):C.bp aH aK aR h K:=fk (fun|3=>([0],[(3,.int .i64),(4,.int .i64)])|_=>([],[])) o0 Tryz.func179 x
def gD(k1:Int)(K:KT)(h1:ad):=
 bif(decide (k1<10))then(
 K (.tuple #[vI k1,vS none 0 0]) h1)else(
 bif(decide (k1<138))then(
 aC [vI (wI (k1-10))] 3 h1 λh2=>
 K (.tuple #[vI 10,vS (some ⟨h1.size,0,none⟩) 1 1]) h2)else(
 aC [vI (wI (Int.tdiv (wI ((wI (k1-10))-128)) 128)),vI (Int.tmod (wI ((wI (k1-10))-128)) 128)] 3 h1 λh3=>
 K (.tuple #[vI 11,vS (some ⟨h1.size,0,none⟩) 2 2]) h3))
theorem gD.ok{k1 K h}(x:gD k1 K h):C.gD k1 h K:=fz Tryz.func180 x
def gE(x1:LV)(i1:Int)(K:KT)(h1:ad):=
 aC x1 32 h1 λh2=>
 bif(i1==10)then(
 ∃n1,cI h2 (Addr.add ⟨h1.size,0,none⟩ 13) n1/\
 K (vI n1) h2)else(
 bif(i1==11)then(
 ∃n2,cI h2 (Addr.add ⟨h1.size,0,none⟩ 14) n2/\
 K (vI n2) h2)else(
 (0<=i1/\i1<(10:Int))/\
 ∃n3,cI h2 (Addr.add (Addr.add ⟨h1.size,0,none⟩ 3) (Int.toNat i1)) n3/\
 K (vI n3) h2))
theorem gE.ok{x1 i1 K h}(x:gE x1 i1 K h):C.gE x1 i1 h K:=fz Tryz.func181 x
def ig(g1:LV)(n1:Int)(K:KT)(h1:ad):=
 aC g1 27 h1 λh2=>
 bif(n1 != 0)then(
 ∃n2,cI h2 (Addr.add ⟨h1.size,0,none⟩ 3) n2/\
 bif(decide (n1<n2))then(
 K (vI 100) h2)else(
 ∃n3,cI h2 (Addr.add ⟨h1.size,0,none⟩ 0) n3/\
 bif(decide (n1>=n3))then(
 K (vI 100) h2)else(
 K (vI 0) h2)))else(
 K (vI 0) h2)
theorem ig.ok{g1 n1 K h}(x:ig g1 n1 K h):C.ig g1 n1 h K:=fz Tryz.func182 x
def ji(t1:OA)(n1:Int)(K:KT)(h1:ad):=
 C.aT t1 n1 h1 λr1 h2=>
 ∃aU aI bw n2,r1 = .tuple #[vS aU aI bw,vI n2]/\
 bif(n2 != 0)then(
 K (.tuple #[vS none 0 0,vI n2]) h2)else(
 C.jE aU aI bw h2 λr2 h3=>
 ∃eC dT fD,r2 = vS eC dT fD/\
 K (.tuple #[vS eC dT fD,vI 0]) h3)
theorem ji.ok{t1 n1 K h}(x:ji t1 n1 K h):C.ji t1 n1 h K:=fz Tryz.func183 x
def fL.k1(aH:OA)(aK:Nat)(n1:Int)(aW:ByteArray)(h4:ad)(K:KT):=
 C.ij n1 aW h4 λr3 h5=>
 ∃aU aI bw,r3 = vS aU aI bw/\
 ∃(I1:IP) (M1:IM),I1 0 h5/\
 ∀(i1:Int),∀h6:ad,I1 i1 h6->
 bif(decide (i1<32))then(
 (0<=i1/\i1<(aK:Int))/\
 ae aH λp2=>
 ∃n3,cellOf h6 (p2.add (Int.toNat i1))=some (.int .u8 n3)/\
 (0<=i1/\i1<(aI:Int))/\
 ae aU λp3=>
 ∃n4,cellOf h6 (p3.add (Int.toNat i1))=some (.int .u8 n4)/\
 bif(n3 != n4)then(
 K (.tuple #[vI 0,.string (mkStr []),.bool false]) h6)else(
 I1 (wI (i1+1)) h6/\M1 (wI (i1+1)) h6<M1 i1 h6))else(
 K (.tuple #[vI n1,.string aW,.bool true]) h6)
def fL(aH:OA)(aK aR:Nat)(K:KT)(h1:ad):=
 C.iU aH aK aR h1 λr1 h2=>
 ∃n1,r1 = vI n1/\
 bif(n1 != 0)then(
 (0<=(4:Int)/\4<(aK:Int))/\
 ae aH λp1=>
 ∃n2,cellOf h2 (p1.add (Int.toNat 4))=some (.int .u8 n2)/\
 bif(decide ((wI (n2))>27))then(
 K (.tuple #[vI 0,.string (mkStr []),.bool false]) h2)else(
 (0<=(5:Int)/\(5:Int)<=(wI (5+(wI (n2))))/\(wI (5+(wI (n2))))<=(aR:Int))/\
 ∃Eb,av h2 (if aR=(Int.toNat 5)then aH else Option.map (Addr.add · (Int.toNat 5)) aH) ((Int.toNat (wI (5+(wI (n2)))))-(Int.toNat 5)) Eb/\
 C.cR (mkStr Eb) h2 λr2 h3=>
 ∃b1,r2 = .bool b1/\
 bif(!b1)then(
 K (.tuple #[vI 0,.string (mkStr []),.bool false]) h3)else(
 fL.k1 aH aK n1 (mkStr Eb) h3 K)))else(
 fL.k1 aH aK n1 (mkStr []) h2 K)
theorem fL.ok{aH aK aR K h}(x:fL aH aK aR K h):C.fL aH aK aR h K:=fk (fun|12=>([0,5,6,8],[(9,.int .i64)])|_=>([],[])) (fun|14=>(oS 0 8 (.op 8 [] .nil))|_=>.nil) Tryz.func184 x
def eW.k1(s1 gM:ByteArray)(bG:ad)(K:KT):=
 Po s1 bG λcu=>
 ∃(I2:HP) (M2:ad->Nat),I2  cu/\
 ∀bf:ad,I2  bf->
 Addr.off (bA bG)=0/\
 ∃(s2:ByteArray) (AX:Nat),bf[Addr.block (bA bG)]?=some (.stringIter s2 AX)/\
 (AX<ByteArray.size s2->∀bQ:ad,KD bf (Addr.block (bA bG)) s2 (AX+(Utf8.decode s2 AX).2) bQ->
 C.bZ gM (((Utf8.decode s2 AX).1:Nat):Int) bQ λr6 cX=>
 ∃n3,r6 = vI n3/\
 bif(decide (n3>=0))then(
 K (vI (AX:Int)) cX)else(
 I2  cX/\M2  cX<M2  bf))/\
 (¬AX<ByteArray.size s2->
 K (vI (-1)) bf)
def eW(s1 gM:ByteArray)(K:KT)(h1:ad):=
 bif(gM.toList==(mkStr []).toList)then(
 K (vI (-1)) h1)else(
 bif((gM.size:Int)==1)then(
 (0<=(0:Int)/\0<(gM.size:Int))/\
 ∃b1:UInt8,gM.toList[Int.toNat 0]?=some b1/\
 bif(decide ((IntKind.wrap .i32 (((UInt8.toNat b1:Nat):Int)))>=128))then(
 C.bZ s1 65533 h1 λr1 h2=>
 ∃n1,r1 = vI n1/\
 K (vI n1) h2)else(
 C.bZ s1 (IntKind.wrap .i32 (((UInt8.toNat b1:Nat):Int))) h1 λr2 h3=>
 ∃n2,r2 = vI n2/\
 K (vI n2) h3))else(
 C.eG (s1.size:Int) h1 λr3 h4=>
 ∃b2,r3 = .bool b2/\
 bif b2 then(
 C.fF gM h4 λr4 h5=>
 ∃br b3,r4 = .tuple #[.agg ⟨br⟩,.bool b3]/\
 aF ady 285 br 256 h5 λh7=>
 bif b3 then(
 ∃(I1:IP) (M1:IM),I1 0 h7/\
 ∀(i1:Int),∀h8:ad,I1 i1 h8->
 bif(decide (i1<(s1.size:Int)))then(
 (0<=i1/\i1<(s1.size:Int))/\
 ∃b4:UInt8,s1.toList[Int.toNat i1]?=some b4/\
 C.eI (some (bA h5)) ((UInt8.toNat b4:Nat):Int) h8 λr5 h9=>
 ∃b5,r5 = .bool b5/\
 bif b5 then(
 K (vI i1) h9)else(
 I1 (wI (i1+1)) h9/\M1 (wI (i1+1)) h9<M1 i1 h8))else(
 K (vI (-1)) h8))else(
 eW.k1 s1 gM h7 K))else(
 eW.k1 s1 gM h4 K)))
set_option maxRecDepth 1000000 in
set_option maxRecDepth 1000000 in
theorem eW.ok{s1 gM K h}(x:eW s1 gM K h):C.eW s1 gM h K:=fk (fun|12=>([0,6],[(8,.int .i64)])|18=>([1,45],[])|_=>([],[])) o0 Tryz.func187 x
def oz(i1:Int)(cw jb:OA)(K:KT)(h1:ad):=
 ae cw λp1=>
 ∃n1,cI h1 p1 n1/\
 ae cw λp2=>
 bD p2 (vI i1) h1 λh2=>
 bif(decide (i1<=n1))then(
 K (.bool true) h2)else(
 ae jb λp3=>
 ∃n2,cI h2 p3 n2/\
 K (.bool (decide (i1>=n2))) h2)
theorem oz.ok{i1 cw jb K h}(x:oz i1 cw jb K h):C.oz i1 cw jb h K:=fz Tryz.func188 x
def sj(aH:OA)(aK aR:Nat)(K:KT)(h1:ad):=
 ∃(I1:IP) (M1:IM),I1 0 h1/\
 ∀(n1:Int),∀h2:ad,I1 n1 h2->
 bif(decide (n1<(aK:Int)))then(
 (0<=n1/\n1<(aK:Int))/\
 ae aH λp1=>
 ∃n2,cellOf h2 (p1.add (Int.toNat n1))=some (.int .u8 n2)/\
 bif(n2==0)then(
 K (vI n1) h2)else(
 I1 (wI (n1+1)) h2/\M1 (wI (n1+1)) h2<M1 n1 h2))else(
 K (vI (aK:Int)) h2)
theorem sj.ok{aH aK aR K h}(x:sj aH aK aR K h):C.sj aH aK aR h K:=fk (fun|2=>([0,5,6],[(7,.int .i64)])|_=>([],[])) o0 Tryz.func189 x
def qV(aH:OA)(aK aR:Nat)(fU n1:Int)(K:KT)(h1:ad):=
 bif(decide (fU>=0))then(
 bif(decide (n1>=0))then(
 bif(decide (fU<=(aK:Int)))then(
 K (.bool (decide (n1<=(wI ((aK:Int)-fU))))) h1)else(
 K (.bool false) h1))else(
 K (.bool false) h1))else(
 K (.bool false) h1)
theorem qV.ok{aH aK aR fU n1 K h}(x:qV aH aK aR fU n1 K h):C.qV aH aK aR fU n1 h K:=fz Tryz.func190 x
def j9(n1:Int)(K:KT)(h1:ad):=
 bif(decide (n1>=0))then(
 bif(decide (n1<9))then(
 (0<=n1/\n1<(9:Int))/\
 ∃b1,cellOf h1 (Addr.add ⟨0,0,none⟩ (Int.toNat n1))=some (.bool b1)/\
 K (.bool b1) h1)else(
 K (.bool false) h1))else(
 K (.bool false) h1)
theorem j9.ok{n1 K h}(x:j9 n1 K h):C.j9 n1 h K:=fz Tryz.func191 x
def oA(aH:OA)(aK aR:Nat)(K:KT)(h1:ad):=
 bif(Option.isNone aH)then(
 K (vS none 0 0) h1)else(
 aC [] 5 h1 λh2=>
 ∃aM,List.length aM=aK*1/\ak h2 aH aM/\(∀v∈aM,v.oneCell'=true)/\
 aJ xd 5 (some (bA h1)) 0 0 aK aM h2 λaU aI bw h3=>
 K (vS aU aI bw) h3)
theorem oA.ok{aH aK aR K h}(x:oA aH aK aR K h):C.oA aH aK aR h K:=fz Tryz.func192 x
def yy(aH:OA)(aK aR:Nat)(K:KT)(h1:ad):=
 ∃(I1:Int->Int->ad->Prop) (M1:Int->Int->ad->Nat),I1 4294967295 0 h1/\
 ∀(v1:Int) (n1:Int),∀h2:ad,I1 v1 n1 h2->
 bif(decide (n1<(aK:Int)))then(
 (0<=n1/\n1<(aK:Int))/\
 ae aH λp1=>
 ∃n2,cellOf h2 (p1.add (Int.toNat n1))=some (.int .u8 n2)/\
 C.sY v1 n2 h2 λr1 h3=>
 ∃n3,r1 = .int .u32 n3/\
 I1 n3 (wI (n1+1)) h3/\M1 n3 (wI (n1+1)) h3<M1 v1 n1 h2)else(
 K (.int .u32 (bP .xor .u32 (IntKind.max .u32) v1)) h2)
theorem yy.ok{aH aK aR K h}(x:yy aH aK aR K h):C.yy aH aK aR h K:=fk (fun|3=>([6,7],[(3,.int .u32),(8,.int .i64)])|_=>([],[])) o0 Tryz.func193 x
def qW.k1(a1 b1 n1:Int)(h1:ad)(K:KT):=
 C.qf a1 n1 h1 λr1 h2=>
 ∃n2,r1 = .int .u32 n2/\
 K (.tuple #[.int .u32 (bP .xor .u32 n2 b1),vI 0]) h2
def qW(a1 b1 n1:Int)(K:KT)(h1:ad):=
 bif(decide (n1<0))then(
 K (.tuple #[.int .u32 0,vI 1]) h1)else(
 bif(decide (n1>1099511627776))then(
 K (.tuple #[.int .u32 0,vI 1]) h1)else(
 qW.k1 a1 b1 n1 h1 K))
theorem qW.ok{a1 b1 n1 K h}(x:qW a1 b1 n1 K h):C.qW a1 b1 n1 h K:=fz Tryz.func194 x
def iE(d1:OA)(yz:Value)(K:KT)(h1:ad):=
 ae d1 λp1=>
 ∃n1,cI h1 (p1.add 2) n1/\
 bif(decide (n1>0))then(
 ae d1 λp2=>
 ∃n2,cI h1 (p2.add 2) n2/\
 ae d1 λp3=>
 bD (p3.add 2) (vI (wI (n2-1))) h1 λh2=>
 ae d1 λp4=>
 ∃n3,cI h2 (p4.add 2) n3/\
 bif(n3==0)then(
 ae d1 λp5=>
 ∃aU aI bw,cS h2 (p5.add 3) aU aI bw/\
 C.kJ d1 aU aI bw h2 λr1 h3=>
 r1 = .tuple #[]/\
 K (vI 30) h3)else(
 IU yz=true/\
 bif(!(y' yz))then(
 gJ Tryz.prog yz [] h2 λr2 h4=>
 r2 = .tuple #[]/\
 K (vI 0) h4)else(
 K (vI 0) h2)))else(
 IU yz=true/\
 bif(!(y' yz))then(
 gJ Tryz.prog yz [] h1 λr3 h5=>
 r3 = .tuple #[]/\
 K (vI 0) h5)else(
 K (vI 0) h1))
theorem iE.ok{d1 yz K h}(x:iE d1 yz K h):C.iE d1 yz h K:=fz Tryz.func195 x
def ir(cw:OA)(K:KT)(h1:ad):=
 ae cw λp1=>
 ∃q1,cP h1 p1 q1/\
 ae q1 λp2=>
 ∃aU aI bw,cS h1 (p2.add 1) aU aI bw/\
 ∃(I1:IP) (M1:IM),I1 0 h1/\
 ∀(n1:Int),∀h2:ad,I1 n1 h2->
 bif(decide (n1<(aI:Int)))then(
 (0<=n1/\n1<(aI:Int))/\
 ae aU λp3=>
 ∃br,List.length br=513/\ai h2 (p3.add ((Int.toNat n1)*513)) br/\
 aF z183 183 br 513 h2 λh4=>
 ae cw λp4=>
 ∃q2,cP h4 p4 q2/\
 ae q2 λp5=>
 ∃eC dT fD,cS h4 (p5.add 0) eC dT fD/\
 ∃n2,cI h4 (aS h2 0) n2/\
 ∃cT,List.length cT=512/\ai h4 (aS h2 1) cT/\
 (0<=n2/\n2<(dT:Int))/\
 ae eC λp6=>
 az (p6.add ((Int.toNat n2)*512)) cT 512 h4 λh5=>
 I1 (wI (n1+1)) h5/\M1 (wI (n1+1)) h5<M1 n1 h2)else(
 ae cw λp7=>
 ∃q3,cP h2 p7 q3/\
 ae q3 λp8=>
 bD (p8.add 1) (vS none 0 0) h2 λh6=>
 ae cw λp9=>
 ∃q4,cP h6 p9 q4/\
 ae cw λOP=>
 ∃q5,cP h6 OP q5/\
 ae q5 λIk=>
 ∃kS kA lW,cS h6 (Ik.add 7) kS kA lW/\
 List.length ([vI 2,vI 0,vS none 0 0]:LV)=3/\
 aC [vI 2,vI 0,vS none 0 0] 146 h6 λh7=>
 (ae cw λJw=>cP h7 Jw q4)/\
 (ae cw λYM=>cP h7 YM q5)/\
 (cS h7 (Ik.add 7) kS kA lW)/\
 ∃aM,List.length aM=1*3/\ak h7 (some (bA h6)) aM/\(∀v∈aM,v.oneCell'=true)/\
 aJ xC 146 kS kA lW 1 aM h7 λtN tF uF h8=>
 (ae cw λZ4=>cP h8 Z4 q4)/\
 ae q4 λYL=>
 bD (YL.add 7) (vS tN tF uF) h8 λh9=>
 K (.tuple #[]) h9)
theorem ir.ok{cw K h}(x:ir cw K h):C.ir cw h K:=fk (fun|1=>([0,6,7],[(8,.int .i64)])|_=>([],[])) (fun|3=>(oS 0 9 (.op 9 [] .nil))|6=>(oS 0 6 (.op 6 [0,1,4] (.op 7 [0] (.op 8 [] (.op 9 [] (.op 10 [] .nil))))))|_=>.nil) Tryz.func196 x
def qe(t1:OA)(K:KT)(h1:ad):=
 aC [vP t1] 43 h1 λh2=>
 ∃q1,cP h2 ⟨h1.size,0,none⟩ q1/\
 C.hZ q1 h2 λr1 h3=>
 ∃n1 n2,r1 = .tuple #[vI n1,vI n2]/\
 aC z3 3 h3 λh4=>
 aC z36 36 h4 λh5=>
 bD ⟨h3.size,0,none⟩ (vI n1) h5 λh6=>
 bD ⟨h4.size,0,none⟩ (vI n2) h6 λh7=>
 K (.func (.func 229) #[] ⟨[vP (some ⟨h4.size,0,none⟩),vP (some ⟨h1.size,0,none⟩),vP (some ⟨h3.size,0,none⟩)]⟩) h7
theorem qe.ok{t1 K h}(x:qe t1 K h):C.qe t1 h K:=fz Tryz.func197 x
def eF(cw jb mY Dh:OA)(K:KT)(h1:ad):=
 ae cw λp1=>
 ∃v1,cellOf h1 p1=some (v1)/\
 ae jb λp2=>
 ∃n1,cI h1 p2 n1/\
 gJ Tryz.prog v1 [vI n1] h1 λr1 h2=>
 r1 = .tuple #[]/\
 ae jb λp3=>
 ∃n2,cI h2 p3 n2/\
 bif(n2 != 0)then(
 ae mY λp4=>
 az p4 z32 15 h2 λh3=>
 ae Dh λp5=>
 bD p5 (vI 0) h3 λh4=>
 K (.tuple #[]) h4)else(
 K (.tuple #[]) h2)
def eF.lo : Nat->List Nat×List (Nat×Ty):=λn=>match n with|_=>([],[])
def eF.od : Nat->Od:=λn=>match n with|_=>.nil
theorem eF.eq(cw:OA)(jb:OA)(mY:OA)(Dh:OA)(K:KT)(h:ad):fnX (cx eF.lo eF.od) Tryz.f198 (Tryz.f198.body.getD .skip) [vP cw,vP jb,vP mY,vP Dh] K h=eF cw jb mY Dh K h:=by kernel_rfl
theorem eF.Pv : Jr (cx eF.lo eF.od) Tryz.f198 (Tryz.f198.body.getD .skip) 4=true:=by kernel_rfl
theorem eF.FE{Dh:OA}(hx:eF cw jb mY Dh (λ_ h'=>K h') h):D.eF cw jb mY Dh h K:=
 K4 (Pq _ _) Tryz.func198 (by kernel_rfl) eF.Pv (by rw[eF.eq];exact hx)
def qu(s1:LV)(fU:Int)(aH:OA)(aK aR:Nat)(cw jb mY:OA)(K:KT)(h1:ad):=
 aC s1 192 h1 λh2=>
 ae cw λp1=>
 ∃q1,cP h2 p1 q1/\
 ae jb λp2=>
 ∃br,List.length br=5/\ai h2 p2 br/\
 C.oB q1 br h2 λr1 h3=>
 ∃n1 n2,r1 = .tuple #[vI n1,vI n2]/\
 bif(n2 != 0)then(
 K (.tuple #[vI 0,vI n2]) h3)else(
 ae mY λp3=>
 ∃q2,cP h3 p3 q2/\
 ∃cT,List.length cT=2/\ai h3 ⟨h1.size,0,none⟩ cT/\
 C.lP q2 cT fU aH aK aR n1 h3 λr2 h4=>
 ∃n3,r2 = vI n3/\
 K (.tuple #[vI n1,vI n3]) h4)
theorem qu.ok{s1 fU aH aK aR cw jb mY K h}(x:qu s1 fU aH aK aR cw jb mY K h):C.qu s1 fU aH aK aR cw jb mY h K:=fz Tryz.func199 x
def oB(t1:OA)(g1:LV)(K:KT)(h1:ad):=
 aC [vP t1] 43 h1 λh2=>
 aC g1 27 h2 λh3=>
 aC z36 36 h3 λh4=>
 aC z3 3 h4 λh5=>
 bD ⟨h4.size,0,none⟩ (vI 0) h5 λh6=>
 ∃q1,cP h6 ⟨h1.size,0,none⟩ q1/\
 ∃br,List.length br=5/\ai h6 ⟨h2.size,0,none⟩ br/\
 C.qg q1 br (Value.func (.func 231) #[] ⟨[vP (some ⟨h2.size,0,none⟩),vP (some ⟨h4.size,0,none⟩)]⟩) h6 λr1 h7=>
 ∃n1,r1 = vI n1/\
 bD ⟨h3.size,0,none⟩ (vI n1) h7 λh8=>
 ∃n2,cI h8 ⟨h3.size,0,none⟩ n2/\
 bif(n2 != 0)then(
 ∃n3,cI h8 ⟨h3.size,0,none⟩ n3/\
 bD ⟨h3.size,0,none⟩ (vI n3) h8 λh9=>
 ∃dq,cI h9 ⟨h3.size,0,none⟩ dq/\
 K (.tuple #[vI 0,vI dq]) h9)else(
 ∃n4,cI h8 ⟨h4.size,0,none⟩ n4/\
 bif(n4==0)then(
 bD ⟨h3.size,0,none⟩ (vI 90) h8 λbG=>
 ∃fV,cI bG ⟨h3.size,0,none⟩ fV/\
 K (.tuple #[vI 0,vI fV]) bG)else(
 ∃q2,cP h8 ⟨h1.size,0,none⟩ q2/\
 C.hZ q2 h8 λr2 cu=>
 ∃n5 n6,r2 = .tuple #[vI n5,vI n6]/\
 aC z3 3 cu λbf=>
 bD ⟨cu.size,0,none⟩ (vI n5) bf λbQ=>
 bD ⟨h3.size,0,none⟩ (vI n6) bQ λcX=>
 ∃n7,cI cX ⟨h3.size,0,none⟩ n7/\
 bif(n7 != 0)then(
 ∃n8,cI cX ⟨h3.size,0,none⟩ n8/\
 bD ⟨h3.size,0,none⟩ (vI n8) cX λfN=>
 ∃fY,cI fN ⟨h3.size,0,none⟩ fY/\
 K (.tuple #[vI 0,vI fY]) fN)else(
 ∃q3,cP cX ⟨h1.size,0,none⟩ q3/\
 ∃cT,List.length cT=5/\ai cX ⟨h2.size,0,none⟩ cT/\
 ∃n9,cI cX ⟨h4.size,0,none⟩ n9/\
 C.sv q3 cT n9 true cX λr3 gN=>
 ∃n10,r3 = vI n10/\
 bD ⟨h3.size,0,none⟩ (vI n10) gN λgO=>
 ∃n11,cI gO ⟨h3.size,0,none⟩ n11/\
 bif(n11 != 0)then(
 ∃n12,cI gO ⟨h3.size,0,none⟩ n12/\
 bD ⟨h3.size,0,none⟩ (vI n12) gO λjk=>
 D.bU (some ⟨h1.size,0,none⟩) (some ⟨cu.size,0,none⟩) (some ⟨h3.size,0,none⟩) jk λeX=>
 ∃kP,cI eX ⟨h3.size,0,none⟩ kP/\
 K (.tuple #[vI 0,vI kP]) eX)else(
 ∃q4,cP gO ⟨h1.size,0,none⟩ q4/\
 ∃n13,cI gO ⟨h4.size,0,none⟩ n13/\
 (0<=(512:Int)/\(512:Int)<=512/\(1:Int)*512<=281474976710656/\(512:Int)<=281474976710656)/\
 aC (aL z5 (Int.toNat 512)) 5 gO λiG=>
 (cP iG ⟨h1.size,0,none⟩ q4)/\
 (cI iG ⟨h4.size,0,none⟩ n13)/\
 C.aX q4 n13 (some ⟨gO.size,0,none⟩) (Int.toNat 512) (Int.toNat 512) iG λr4 oM=>
 ∃n14,r4 = vI n14/\
 bD ⟨h3.size,0,none⟩ (vI n14) oM λqD=>
 ∃n15,cI qD ⟨h3.size,0,none⟩ n15/\
 bif(n15 != 0)then(
 ∃n16,cI qD ⟨h3.size,0,none⟩ n16/\
 bD ⟨h3.size,0,none⟩ (vI n16) qD λpg=>
 D.bU (some ⟨h1.size,0,none⟩) (some ⟨cu.size,0,none⟩) (some ⟨h3.size,0,none⟩) pg λsX=>
 ∃uG,cI sX ⟨h3.size,0,none⟩ uG/\
 K (.tuple #[vI 0,vI uG]) sX)else(
 ∃n17,cI qD ⟨h4.size,0,none⟩ n17/\
 bD ⟨h3.size,0,none⟩ (vI 0) qD λqv=>
 D.bU (some ⟨h1.size,0,none⟩) (some ⟨cu.size,0,none⟩) (some ⟨h3.size,0,none⟩) qv λpJ=>
 ∃u4,cI pJ ⟨h3.size,0,none⟩ u4/\
 K (.tuple #[vI n17,vI u4]) pJ)))))
theorem oB.ok{t1 g1 K h}(x:oB t1 g1 K h):C.oB t1 g1 h K:=fk l0 (fun|4=>(.op 0 [] (.op 1 [] (.op 2 [] .nil)))|9=>(.op 0 [] (.op 1 [] (.op 2 [] .nil)))|13=>(.op 0 [] (.op 1 [] (.op 2 [] .nil)))|14=>(.op 0 [] (.op 1 [] (.op 2 [0,1] (.op 3 [] (.op 4 [] .nil)))))|16=>(.op 0 [] (.op 1 [] (.op 2 [] .nil)))|_=>.nil) Tryz.func200 x
def lP(f1:OA)(s1:LV)(fU:Int)(aH:OA)(aK aR:Nat)(wh:Int)(K:KT)(h1:ad):=
 aC s1 192 h1 λh2=>
 ∃n1,cI h2 (Addr.add ⟨h1.size,0,none⟩ 0) n1/\
 bif(n1 != 3)then(
 ∃br,List.length br=2/\ai h2 ⟨h1.size,0,none⟩ br/\
 C.kf f1 br h2 λr1 h3=>
 ∃q1,r1 = vP q1/\
 ae q1 λp1=>
 bD p1 (vI wh) h3 λh4=>
 K (vI 0) h4)else(
 ∃n2,cI h2 (Addr.add ⟨h1.size,0,none⟩ 1) n2/\
 C.ja aH aK aR (wI (4*n2)) 4 (IntKind.wrap .u64 (wh)) h2 λr2 h5=>
 ∃n3,r2 = vI n3/\
 ae f1 λp2=>
 ∃q2,cP h5 (p2.add 0) q2/\
 C.aX q2 fU aH aK aR h5 λr3 h6=>
 ∃n4,r3 = vI n4/\
 K (vI n4) h6)
theorem lP.ok{f1 s1 fU aH aK aR wh K h}(x:lP f1 s1 fU aH aK aR wh K h):C.lP f1 s1 fU aH aK aR wh h K:=fz Tryz.func201 x
def mP(x1:LV)(K:KT)(h1:ad):=
 aC x1 32 h1 λh2=>
 ∃br,List.length br=15/\ai h2 ⟨h1.size,0,none⟩ br/\
 C.qq br h2 λr1 h3=>
 ∃b1,r1 = .bool b1/\
 bif(!b1)then(
 K (.tuple #[vS none 0 0,vI 111]) h3)else(
 (0<=(64:Int)/\(64:Int)<=64/\(1:Int)*64<=281474976710656/\(64:Int)<=281474976710656)/\
 aC (aL z5 (Int.toNat 64)) 5 h3 λh4=>
 ∃n1,cI h4 (Addr.add ⟨h1.size,0,none⟩ 0) n1/\
 C.ja (some ⟨h3.size,0,none⟩) (Int.toNat 64) (Int.toNat 64) 0 1 (IntKind.wrap .u64 (n1)) h4 λr2 h5=>
 ∃n2,r2 = vI n2/\
 ∃n3,cI h5 (Addr.add ⟨h1.size,0,none⟩ 1) n3/\
 C.ja (some ⟨h3.size,0,none⟩) (Int.toNat 64) (Int.toNat 64) 2 2 (IntKind.wrap .u64 (n3)) h5 λr3 h6=>
 ∃n4,r3 = vI n4/\
 ∃n5,cI h6 (Addr.add ⟨h1.size,0,none⟩ 2) n5/\
 C.ja (some ⟨h3.size,0,none⟩) (Int.toNat 64) (Int.toNat 64) 4 4 (IntKind.wrap .u64 (n5)) h6 λr4 h7=>
 ∃n6,r4 = vI n6/\
 ∃cT,List.length cT=15/\ai h7 ⟨h1.size,0,none⟩ cT/\
 C.ke cT h7 λr5 h8=>
 ∃gG,r5 = .agg ⟨gG⟩/\
 ∃(I1:IP) (M1:IM),I1 0 h8/\
 ∀(n7:Int),∀h9:ad,I1 n7 h9->
 bif(decide (n7<12))then(
 (0<=n7/\n7<(12:Int))/\
 ∃n8,gG[(Int.toNat n7)]?=some (vI n8)/\
 C.ja (some ⟨h3.size,0,none⟩) (Int.toNat 64) (Int.toNat 64) (wI (8+(wI (4*n7)))) 4 (IntKind.wrap .u64 (n8)) h9 λr6 bG=>
 ∃n9,r6 = vI n9/\
 I1 (wI (n7+1)) bG/\M1 (wI (n7+1)) bG<M1 n7 h9)else(
 K (.tuple #[vS (some ⟨h3.size,0,none⟩) (Int.toNat 64) (Int.toNat 64),vI 0]) h9))
theorem mP.ok{x1 K h}(x:mP x1 K h):C.mP x1 h K:=fk (fun|8=>([4,27],[(28,.int .i64)])|_=>([],[])) o0 Tryz.func202 x
def fM.k1(t1:OA)(h1 h2 h3:ad)(aU:OA)(aI:Nat)(n6:Int)(bQ:ad)(K:KT):=
 ∃(I1:Int->Int->ad->Prop) (M1:Int->Int->ad->Nat),I1 n6 0 bQ/\
 ∀(n7:Int) (i1:Int),∀cX:ad,I1 n7 i1 cX->
 bif(decide (i1<(aI:Int)))then(
 C.ji t1 n7 cX λr6 fN=>
 ∃eC dT fD n8,r6 = .tuple #[vS eC dT fD,vI n8]/\
 bif(n8 != 0)then(
 ∃zU,List.length zU=15/\ai fN ⟨h2.size,0,none⟩ zU/\
 az ⟨h3.size,0,none⟩ zU 15 fN λgN=>
 ∃fY,List.length fY=15/\ai gN ⟨h3.size,0,none⟩ fY/\
 K (.tuple #[.agg ⟨fY⟩,vI 0,vI n8]) gN)else(
 (0<=i1/\i1<(aI:Int))/\
 ae aU λp1=>
 ∃n9,cI fN (p1.add (Int.toNat i1)) n9/\
 (0<=n9/\n9<(dT:Int))/\
 ae eC λp2=>
 ∃n10,cI fN (p2.add (Int.toNat n9)) n10/\
 ∃OR,List.length OR=5/\ai fN ⟨h1.size,0,none⟩ OR/\
 C.ig OR n10 fN λr7 gO=>
 ∃n11,r7 = vI n11/\
 bif(n11 != 0)then(
 ∃Gq,List.length Gq=15/\ai gO ⟨h2.size,0,none⟩ Gq/\
 az ⟨h3.size,0,none⟩ Gq 15 gO λjk=>
 ∃kP,List.length kP=15/\ai jk ⟨h3.size,0,none⟩ kP/\
 K (.tuple #[.agg ⟨kP⟩,vI 0,vI n11]) jk)else(
 bif(n10==0)then(
 ∃aeg,List.length aeg=5/\ai gO ⟨h1.size,0,none⟩ aeg/\
 C.cg t1 aeg gO λr8 eX=>
 ∃n12 n13,r8 = .tuple #[vI n12,vI n13]/\
 bif(n13 != 0)then(
 ∃aeh,List.length aeh=15/\ai eX ⟨h2.size,0,none⟩ aeh/\
 az ⟨h3.size,0,none⟩ aeh 15 eX λiG=>
 ∃uG,List.length uG=15/\ai iG ⟨h3.size,0,none⟩ uG/\
 K (.tuple #[.agg ⟨uG⟩,vI 0,vI n13]) iG)else(
 (0<=i1/\i1<(aI:Int))/\
 ae aU λp3=>
 ∃n14,cI eX (p3.add (Int.toNat i1)) n14/\
 (0<=n14/\n14<(dT:Int))/\
 ae eC λp4=>
 bD (p4.add (Int.toNat n14)) (vI n12) eX λoM=>
 C.jF eC dT fD oM λr9 qD=>
 ∃kS kA lW,r9 = vS kS kA lW/\
 C.aA t1 n7 kS kA lW qD λE1 pg=>
 ∃n15,E1 = vI n15/\
 bif(n15 != 0)then(
 ∃aei,List.length aei=15/\ai pg ⟨h2.size,0,none⟩ aei/\
 az ⟨h3.size,0,none⟩ aei 15 pg λsX=>
 ∃u4,List.length u4=15/\ai sX ⟨h3.size,0,none⟩ u4/\
 K (.tuple #[.agg ⟨u4⟩,vI 0,vI n15]) sX)else(
 I1 n12 (wI (i1+1)) pg/\M1 n12 (wI (i1+1)) pg<M1 n7 i1 cX)))else(
 I1 n10 (wI (i1+1)) gO/\M1 n10 (wI (i1+1)) gO<M1 n7 i1 cX))))else(
 ∃aej,List.length aej=15/\ai cX ⟨h2.size,0,none⟩ aej/\
 az ⟨h3.size,0,none⟩ aej 15 cX λqv=>
 ∃Gs,List.length Gs=15/\ai qv ⟨h3.size,0,none⟩ Gs/\
 K (.tuple #[.agg ⟨Gs⟩,vI n7,vI 0]) qv)
def fM(t1:OA)(g1 x1:LV)(k1:Int)(K:KT)(h1:ad):=
 aC g1 27 h1 λh2=>
 aC x1 32 h2 λh3=>
 aC z32 32 h3 λh4=>
 C.gD k1 h4 λr1 h5=>
 ∃n1 aU aI bw,r1 = .tuple #[vI n1,vS aU aI bw]/\
 ∃br,List.length br=15/\ai h5 ⟨h2.size,0,none⟩ br/\
 C.gE br n1 h5 λr2 h6=>
 ∃n2,r2 = vI n2/\
 ∃cT,List.length cT=5/\ai h6 ⟨h1.size,0,none⟩ cT/\
 C.ig cT n2 h6 λr3 h7=>
 ∃n3,r3 = vI n3/\
 bif(n3 != 0)then(
 ∃gG,List.length gG=15/\ai h7 ⟨h2.size,0,none⟩ gG/\
 az ⟨h3.size,0,none⟩ gG 15 h7 λh8=>
 ∃dq,List.length dq=15/\ai h8 ⟨h3.size,0,none⟩ dq/\
 K (.tuple #[.agg ⟨dq⟩,vI 0,vI n3]) h8)else(
 bif(n2==0)then(
 ∃nO,List.length nO=5/\ai h7 ⟨h1.size,0,none⟩ nO/\
 C.cg t1 nO h7 λr4 h9=>
 ∃n4 n5,r4 = .tuple #[vI n4,vI n5]/\
 bif(n5 != 0)then(
 ∃pI,List.length pI=15/\ai h9 ⟨h2.size,0,none⟩ pI/\
 az ⟨h3.size,0,none⟩ pI 15 h9 λbG=>
 ∃fV,List.length fV=15/\ai bG ⟨h3.size,0,none⟩ fV/\
 K (.tuple #[.agg ⟨fV⟩,vI 0,vI n5]) bG)else(
 ∃sB,List.length sB=15/\ai h9 ⟨h2.size,0,none⟩ sB/\
 C.kK sB n1 n4 h9 λr5 cu=>
 ∃wQ,r5 = .agg ⟨wQ⟩/\
 az ⟨h2.size,0,none⟩ wQ 15 cu λbf=>
 fM.k1 t1 h1 h2 h3 aU aI n4 bf K))else(
 fM.k1 t1 h1 h2 h3 aU aI n2 h7 K))
theorem fM.ok{t1 g1 x1 k1 K h}(x:fM t1 g1 x1 k1 K h):C.fM t1 g1 x1 k1 h K:=fk (fun|12=>([0,5,6,8,12],[(13,.int .i64),(15,.int .i64)])|_=>([],[])) o0 Tryz.func203 x
def iF(aH:OA)(aK aR:Nat)(dp:Int)(K:KT)(h1:ad):=
 bif((aK:Int) != 512)then(
 K (vI 32) h1)else(
 bif(decide (dp<0))then(
 K (vI 140) h1)else(
 bif(decide (dp>=16))then(
 K (vI 140) h1)else(
 (0<=(32:Int)/\(32:Int)<=32/\(1:Int)*32<=281474976710656/\(32:Int)<=281474976710656)/\
 aC (aL z5 (Int.toNat 32)) 5 h1 λh2=>
 C.jj aH aK aR dp (some (bA h1)) (Int.toNat 32) (Int.toNat 32) h2 λr1 h3=>
 r1 = .tuple #[]/\
 K (vI 0) h3)))
theorem iF.ok{aH aK aR dp K h}(x:iF aH aK aR dp K h):C.iF aH aK aR dp h K:=fz Tryz.func204 x
def gU.k1(aH:OA)(aK aR:Nat)(h1 h4:ad)(K:KT):=
 ∃n5,cI h4 (aS h1 2) n5/\
 ∃s2,cellOf h4 (aS h1 1)=some (.string s2)/\
 C.ij n5 s2 h4 λr2 h5=>
 ∃aU aI bw,r2 = vS aU aI bw/\
 ∃n6,cI h5 (aS h1 0) n6/\
 C.jj aH aK aR n6 aU aI bw h5 λr3 h6=>
 r3 = .tuple #[]/\
 K (vI 0) h6
def gU(aH:OA)(aK aR:Nat)(e1:LV)(K:KT)(h1:ad):=
 aC e1 79 h1 λh2=>
 bif((aK:Int) != 512)then(
 K (vI 32) h2)else(
 ∃n1,cI h2 (aS h1 0) n1/\
 bif(decide (n1<0))then(
 K (vI 140) h2)else(
 ∃n2,cI h2 (aS h1 0) n2/\
 bif(decide (n2>=16))then(
 K (vI 140) h2)else(
 ∃n3,cI h2 (aS h1 2) n3/\
 bif(decide (n3<1))then(
 K (vI 140) h2)else(
 ∃n4,cI h2 (aS h1 2) n4/\
 bif(decide (n4>4294967295))then(
 K (vI 140) h2)else(
 ∃s1,cellOf h2 (aS h1 1)=some (.string s1)/\
 C.cR s1 h2 λr1 h3=>
 ∃b1,r1 = .bool b1/\
 bif(!b1)then(
 K (vI 140) h3)else(
 gU.k1 aH aK aR h1 h3 K))))))
theorem gU.ok{aH aK aR e1 K h}(x:gU aH aK aR e1 K h):C.gU aH aK aR e1 h K:=fz Tryz.func205 x
def sk(aH:OA)(aK aR:Nat)(K:KT)(h1:ad):=
 ∃(I1:IP) (M1:IM),I1 0 h1/\
 ∀(n1:Int),∀h2:ad,I1 n1 h2->
 bif(decide (n1<(aK:Int)))then(
 (0<=n1/\n1<(aK:Int))/\
 ae aH λp1=>
 ∃n2,cellOf h2 (p1.add (Int.toNat n1))=some (.int .u8 n2)/\
 bif(n2 != 0)then(
 K (.bool false) h2)else(
 I1 (wI (n1+1)) h2/\M1 (wI (n1+1)) h2<M1 n1 h2))else(
 K (.bool true) h2)
theorem sk.ok{aH aK aR K h}(x:sk aH aK aR K h):C.sk aH aK aR h K:=fk (fun|2=>([5,6],[(7,.int .i64)])|_=>([],[])) o0 Tryz.func215 x
def ke(x1:LV)(K:KT)(h1:ad):=
 aC x1 32 h1 λh2=>
 aC adx 275 h2 λh3=>
 aC adx 275 h3 λh4=>
 xw ti3 (some ⟨h3.size,0,none⟩) 12 (vS (some (Addr.add ⟨h1.size,0,none⟩ 3)) 10 10) h4 λn1 h5=>
 ∃n2,cI h5 (Addr.add ⟨h1.size,0,none⟩ 13) n2/\
 ∃n3,cI h5 (Addr.add ⟨h1.size,0,none⟩ 14) n3/\
 (0<=(10:Int)/\10<(12:Int))/\
 bD (Addr.add ⟨h3.size,0,none⟩ (Int.toNat 10)) (vI n2) h5 λh6=>
 (0<=(11:Int)/\11<(12:Int))/\
 bD (Addr.add ⟨h3.size,0,none⟩ (Int.toNat 11)) (vI n3) h6 λh7=>
 ∃br,List.length br=12/\ai h7 ⟨h3.size,0,none⟩ br/\
 az ⟨h2.size,0,none⟩ br 12 h7 λh8=>
 ∃dq,List.length dq=12/\ai h8 ⟨h2.size,0,none⟩ dq/\
 K (.agg ⟨dq⟩) h8
theorem ke.ok{x1 K h}(x:ke x1 K h):C.ke x1 h K:=fk l0 (fun|2=>(.op 0 [] (.op 1 [] (.op 2 [] (.op 3 [] .nil))))|_=>.nil) Tryz.func216 x
def kf(f1:OA)(s1:LV)(K:KT)(h1:ad):=
 aC s1 192 h1 λh2=>
 ∃n1,cI h2 (Addr.add ⟨h1.size,0,none⟩ 0) n1/\
 bif(n1==0)then(
 ∃n2,cI h2 (Addr.add ⟨h1.size,0,none⟩ 1) n2/\
 ae f1 λp1=>
 (0<=n2/\n2<(10:Int))/\
 K (vP (some (Addr.add (Addr.add (p1.add 6) 3) (Int.toNat n2)))) h2)else(
 bif(n1==1)then(
 ae f1 λp2=>
 K (vP (some (Addr.add (p2.add 6) 13))) h2)else(
 ae f1 λp3=>
 K (vP (some (Addr.add (p3.add 6) 14))) h2))
theorem kf.ok{f1 s1 K h}(x:kf f1 s1 K h):C.kf f1 s1 h K:=fk l0 (fun|3=>(oS 0 7 (.op 7 [] .nil))|_=>.nil) Tryz.func217 x
def jE(aH:OA)(aK aR:Nat)(K:KT)(h1:ad):=
 ∃(I1:OA->Nat->Nat->Int->ad->Prop) (M1:OA->Nat->Nat->Int->ad->Nat),I1 none 0 0 0 h1/\
 ∀(jx:OA) (iA:Nat) (kR:Nat) (i1:Int),∀h2:ad,I1 jx iA kR i1 h2->
 bif(decide (i1<128))then(
 (0<=(wI (4*i1))/\(wI (4*i1))<(aK:Int))/\
 ae aH λp1=>
 ∃n1,cellOf h2 (p1.add (Int.toNat (wI (4*i1))))=some (.int .u8 n1)/\
 (0<=(wI ((wI (4*i1))+1))/\(wI ((wI (4*i1))+1))<(aK:Int))/\
 ae aH λp2=>
 ∃n2,cellOf h2 (p2.add (Int.toNat (wI ((wI (4*i1))+1))))=some (.int .u8 n2)/\
 (0<=(wI ((wI (4*i1))+2))/\(wI ((wI (4*i1))+2))<(aK:Int))/\
 ae aH λp3=>
 ∃n3,cellOf h2 (p3.add (Int.toNat (wI ((wI (4*i1))+2))))=some (.int .u8 n3)/\
 (0<=(wI ((wI (4*i1))+3))/\(wI ((wI (4*i1))+3))<(aK:Int))/\
 ae aH λp4=>
 ∃n4,cellOf h2 (p4.add (Int.toNat (wI ((wI (4*i1))+3))))=some (.int .u8 n4)/\
 aC [vI (wI ((wI ((wI ((wI (n1))+(wI ((wI (n2))*256))))+(wI ((wI (n3))*65536))))+(wI ((wI (n4))*16777216))))] 3 h2 λh3=>
 ∃aM,List.length aM=1*1/\ak h3 (some ⟨h2.size,0,none⟩) aM/\(∀v∈aM,v.oneCell'=true)/\
 aJ ti3 3 jx iA kR 1 aM h3 λaU aI bw h4=>
 I1 aU aI bw (wI (i1+1)) h4/\M1 aU aI bw (wI (i1+1)) h4<M1 jx iA kR i1 h2)else(
 K (vS jx iA kR) h2)
set_option maxRecDepth 1000000 in
set_option maxRecDepth 1000000 in
theorem jE.ok{aH aK aR K h}(x:jE aH aK aR K h):C.jE aH aK aR h K:=fk (fun|3=>([0],[(3,.slice),(4,.int .i64)])|_=>([],[])) (fun|5=>(oS 0 36 (.op 36 [] .nil))|_=>.nil) Tryz.func219 x
def iU(aH:OA)(aK aR:Nat)(K:KT)(h1:ad):=
 (0<=(0:Int)/\0<(aK:Int))/\
 ae aH λp1=>
 ∃n1,cellOf h1 (p1.add (Int.toNat 0))=some (.int .u8 n1)/\
 (0<=(1:Int)/\1<(aK:Int))/\
 ae aH λp2=>
 ∃n2,cellOf h1 (p2.add (Int.toNat 1))=some (.int .u8 n2)/\
 (0<=(2:Int)/\2<(aK:Int))/\
 ae aH λp3=>
 ∃n3,cellOf h1 (p3.add (Int.toNat 2))=some (.int .u8 n3)/\
 (0<=(3:Int)/\3<(aK:Int))/\
 ae aH λp4=>
 ∃n4,cellOf h1 (p4.add (Int.toNat 3))=some (.int .u8 n4)/\
 K (vI (wI ((wI ((wI ((wI (n1))+(wI (256*(wI (n2))))))+(wI (65536*(wI (n3))))))+(wI (16777216*(wI (n4))))))) h1
set_option maxRecDepth 1000000 in
set_option maxRecDepth 1000000 in
theorem iU.ok{aH aK aR K h}(x:iU aH aK aR K h):C.iU aH aK aR h K:=fk l0 (fun|1=>(oS 0 22 (.op 22 [] .nil))|_=>.nil) Tryz.func220 x
def ij(cN:Int)(aW:ByteArray)(K:KT)(h1:ad):=
 (0<=(32:Int)/\(32:Int)<=32/\(1:Int)*32<=281474976710656/\(32:Int)<=281474976710656)/\
 aC (aL z5 (Int.toNat 32)) 5 h1 λh2=>
 bif(cN==0)then(
 K (vS (some (bA h1)) (Int.toNat 32) (Int.toNat 32)) h2)else(
 ∃(I1:Int->Int->ad->Prop) (M1:Int->Int->ad->Nat),I1 cN 0 h2/\
 ∀(v1:Int) (i1:Int),∀h3:ad,I1 v1 i1 h3->
 bif(decide (i1<4))then(
 (0<=i1/\i1<((Int.toNat 32):Int))/\
 bD (Addr.add (bA h1) (Int.toNat i1)) (.int .u8 (IntKind.wrap .u8 ((Int.tmod v1 256)))) h3 λh4=>
 I1 (wI (Int.tdiv v1 256)) (wI (i1+1)) h4/\M1 (wI (Int.tdiv v1 256)) (wI (i1+1)) h4<M1 v1 i1 h3)else(
 (0<=(4:Int)/\4<((Int.toNat 32):Int))/\
 bD (Addr.add (bA h1) (Int.toNat 4)) (.int .u8 (IntKind.wrap .u8 ((aW.size:Int)))) h3 λh5=>
 ∃(I2:IP) (M2:IM),I2 0 h5/\
 ∀(i2:Int),∀h6:ad,I2 i2 h6->
 bif(decide (i2<(aW.size:Int)))then(
 (0<=i2/\i2<(aW.size:Int))/\
 ∃b1:UInt8,aW.toList[Int.toNat i2]?=some b1/\
 (0<=(wI (5+i2))/\(wI (5+i2))<((Int.toNat 32):Int))/\
 bD (Addr.add (bA h1) (Int.toNat (wI (5+i2)))) (.int .u8 ((UInt8.toNat b1:Nat):Int)) h6 λh7=>
 I2 (wI (i2+1)) h7/\M2 (wI (i2+1)) h7<M2 i2 h6)else(
 K (vS (some (bA h1)) (Int.toNat 32) (Int.toNat 32)) h6)))
theorem ij.ok{cN aW K h}(x:ij cN aW K h):C.ij cN aW h K:=fk (fun|6=>([1,5],[(6,.int .i64),(7,.int .i64)])|12=>([1,5],[(8,.int .i64)])|_=>([],[])) o0 Tryz.func221 x
def bZ.k1(s1:ByteArray)(r1 i2:Int)(h9:ad)(K:KT):=
 ∃(I3:IP) (M3:IM),I3 1 h9/\
 ∀(j1:Int),∀bG:ad,I3 j1 bG->
 bif(decide (j1<((Utf8.encode r1).size:Int)))then(
 (0<=(wI (i2-j1))/\(wI (i2-j1))<(s1.size:Int))/\
 ∃b5:UInt8,s1.toList[Int.toNat (wI (i2-j1))]?=some b5/\
 (0<=(wI ((wI (((Utf8.encode r1).size:Int)-1))-j1))/\(wI ((wI (((Utf8.encode r1).size:Int)-1))-j1))<((Utf8.encode r1).size:Int))/\
 ∃b6:UInt8,(Utf8.encode r1).toList[Int.toNat (wI ((wI (((Utf8.encode r1).size:Int)-1))-j1))]?=some b6/\
 bif(((UInt8.toNat b5:Nat):Int) != ((UInt8.toNat b6:Nat):Int))then(
 False)else(
 I3 (wI (j1+1)) bG/\M3 (wI (j1+1)) bG<M3 j1 bG))else(
 K (vI (wI (i2-(wI (((Utf8.encode r1).size:Int)-1))))) bG)
def bZ.k2(s1:ByteArray)(r1 i4:Int)(gO:ad)(K:KT):=
 ∃(I6:IP) (M6:IM),I6 1 gO/\
 ∀(j2:Int),∀jk:ad,I6 j2 jk->
 bif(decide (j2<((Utf8.encode r1).size:Int)))then(
 (0<=(wI (i4-j2))/\(wI (i4-j2))<(s1.size:Int))/\
 ∃b11:UInt8,s1.toList[Int.toNat (wI (i4-j2))]?=some b11/\
 (0<=(wI ((wI (((Utf8.encode r1).size:Int)-1))-j2))/\(wI ((wI (((Utf8.encode r1).size:Int)-1))-j2))<((Utf8.encode r1).size:Int))/\
 ∃b12:UInt8,(Utf8.encode r1).toList[Int.toNat (wI ((wI (((Utf8.encode r1).size:Int)-1))-j2))]?=some b12/\
 bif(((UInt8.toNat b11:Nat):Int) != ((UInt8.toNat b12:Nat):Int))then(
 False)else(
 I6 (wI (j2+1)) jk/\M6 (wI (j2+1)) jk<M6 j2 jk))else(
 K (vI (wI (i4-(wI (((Utf8.encode r1).size:Int)-1))))) jk)
def bZ(s1:ByteArray)(r1:Int)(K:KT)(h1:ad):=
 bif(decide ((0:Int)<=r1))then(
 bif(decide (r1<128))then(
 C.fA s1 (IntKind.wrap .u8 (r1)) h1 λr2 h2=>
 ∃n1,r2 = vI n1/\
 K (vI n1) h2)else(
 bif(r1==65533)then(
 Po s1 h1 λh3=>
 ∃(I1:HP) (M1:ad->Nat),I1  h3/\
 ∀h4:ad,I1  h4->
 Addr.off (bA h1)=0/\
 ∃(s2:ByteArray) (AX:Nat),h4[Addr.block (bA h1)]?=some (.stringIter s2 AX)/\
 (AX<ByteArray.size s2->∀h5:ad,KD h4 (Addr.block (bA h1)) s2 (AX+(Utf8.decode s2 AX).2) h5->
 bif((((Utf8.decode s2 AX).1:Nat):Int)==65533)then(
 K (vI (AX:Int)) h5)else(
 I1  h5/\M1  h5<M1  h4))/\
 (¬AX<ByteArray.size s2->
 K (vI (-1)) h4))else(
 C.dK r1 h1 λr3 h6=>
 ∃b1,r3 = .bool b1/\
 bif(!b1)then(
 K (vI (-1)) h6)else(
 ∃(I2:IP) (M2:IM),I2 (wI (((Utf8.encode r1).size:Int)-1)) h6/\
 ∀(i1:Int),∀h7:ad,I2 i1 h7->
 bif(decide (i1<(s1.size:Int)))then(
 (0<=i1/\i1<(s1.size:Int))/\
 ∃b2:UInt8,s1.toList[Int.toNat i1]?=some b2/\
 (0<=(wI (((Utf8.encode r1).size:Int)-1))/\(wI (((Utf8.encode r1).size:Int)-1))<((Utf8.encode r1).size:Int))/\
 ∃b3:UInt8,(Utf8.encode r1).toList[Int.toNat (wI (((Utf8.encode r1).size:Int)-1))]?=some b3/\
 bif(((UInt8.toNat b2:Nat):Int) != ((UInt8.toNat b3:Nat):Int))then(
 (0<=(wI (i1+1))/\(wI (i1+1))<=(s1.size:Int))/\
 (0<=(wI (((Utf8.encode r1).size:Int)-1))/\(wI (((Utf8.encode r1).size:Int)-1))<((Utf8.encode r1).size:Int))/\
 ∃b4:UInt8,(Utf8.encode r1).toList[Int.toNat (wI (((Utf8.encode r1).size:Int)-1))]?=some b4/\
 C.fA (ByteArray.extract s1 (Int.toNat (wI (i1+1))) s1.size) ((UInt8.toNat b4:Nat):Int) h7 λr4 h8=>
 ∃n2,r4 = vI n2/\
 bif(decide (n2<0))then(
 K (vI (-1)) h8)else(
 bZ.k1 s1 r1 (wI (i1+(wI (n2+1)))) h8 K))else(
 bZ.k1 s1 r1 i1 h7 K))else(
 K (vI (-1)) h7)))))else(
 bif(r1==65533)then(
 Po s1 h1 λcu=>
 ∃(I4:HP) (M4:ad->Nat),I4  cu/\
 ∀bf:ad,I4  bf->
 Addr.off (bA h1)=0/\
 ∃(s3:ByteArray) (Px:Nat),bf[Addr.block (bA h1)]?=some (.stringIter s3 Px)/\
 (Px<ByteArray.size s3->∀bQ:ad,KD bf (Addr.block (bA h1)) s3 (Px+(Utf8.decode s3 Px).2) bQ->
 bif((((Utf8.decode s3 Px).1:Nat):Int)==65533)then(
 K (vI (Px:Int)) bQ)else(
 I4  bQ/\M4  bQ<M4  bf))/\
 (¬Px<ByteArray.size s3->
 K (vI (-1)) bf))else(
 C.dK r1 h1 λr5 cX=>
 ∃b7,r5 = .bool b7/\
 bif(!b7)then(
 K (vI (-1)) cX)else(
 ∃(I5:IP) (M5:IM),I5 (wI (((Utf8.encode r1).size:Int)-1)) cX/\
 ∀(i3:Int),∀fN:ad,I5 i3 fN->
 bif(decide (i3<(s1.size:Int)))then(
 (0<=i3/\i3<(s1.size:Int))/\
 ∃b8:UInt8,s1.toList[Int.toNat i3]?=some b8/\
 (0<=(wI (((Utf8.encode r1).size:Int)-1))/\(wI (((Utf8.encode r1).size:Int)-1))<((Utf8.encode r1).size:Int))/\
 ∃b9:UInt8,(Utf8.encode r1).toList[Int.toNat (wI (((Utf8.encode r1).size:Int)-1))]?=some b9/\
 bif(((UInt8.toNat b8:Nat):Int) != ((UInt8.toNat b9:Nat):Int))then(
 (0<=(wI (i3+1))/\(wI (i3+1))<=(s1.size:Int))/\
 (0<=(wI (((Utf8.encode r1).size:Int)-1))/\(wI (((Utf8.encode r1).size:Int)-1))<((Utf8.encode r1).size:Int))/\
 ∃b10:UInt8,(Utf8.encode r1).toList[Int.toNat (wI (((Utf8.encode r1).size:Int)-1))]?=some b10/\
 C.fA (ByteArray.extract s1 (Int.toNat (wI (i3+1))) s1.size) ((UInt8.toNat b10:Nat):Int) fN λr6 gN=>
 ∃n3,r6 = vI n3/\
 bif(decide (n3<0))then(
 K (vI (-1)) gN)else(
 bZ.k2 s1 r1 (wI (i3+(wI (n3+1)))) gN K))else(
 bZ.k2 s1 r1 i3 fN K))else(
 K (vI (-1)) fN))))
set_option maxRecDepth 1000000 in
set_option maxRecDepth 1000000 in
theorem bZ.ok{s1 r1 K h}(x:bZ s1 r1 K h):C.bZ s1 r1 h K:=fk (fun|5=>([0,7,8],[(9,.int .i64)])|12=>([0,7,8,9],[(12,.int .i64)])|38=>([175],[])|_=>([],[])) (fun|6=>(oS 0 6 (.op 6 [] .nil))|7=>(oS 0 8 (.op 8 [] .nil))|14=>(oS 0 10 (.op 10 [] .nil))|31=>(oS 0 10 (.op 10 [] .nil))|_=>.nil) Tryz.func222 x
def eG(zk:Int)(K:KT)(h1:ad):=
 K (.bool (decide (zk>8))) h1
theorem eG.ok{zk K h}(x:eG zk K h):C.eG zk h K:=fz Tryz.func223 x
def fF(gM:ByteArray)(K:KT)(h1:ad):=
 aC ady 285 h1 λh2=>
 ∃(I1:IP) (M1:IM),I1 0 h2/\
 ∀(i1:Int),∀h3:ad,I1 i1 h3->
 bif(decide (i1<(gM.size:Int)))then(
 (0<=i1/\i1<(gM.size:Int))/\
 ∃b1:UInt8,gM.toList[Int.toNat i1]?=some b1/\
 bif(decide (((UInt8.toNat b1:Nat):Int)>=128))then(
 ∃br,List.length br=256/\ai h3 (bA h1) br/\
 az (bA h1) br 256 h3 λh4=>
 ∃dq,List.length dq=256/\ai h4 (bA h1) dq/\
 K (.tuple #[.agg ⟨dq⟩,.bool false]) h4)else(
 (0<=((UInt8.toNat b1:Nat):Int)/\((UInt8.toNat b1:Nat):Int)<(256:Int))/\
 bD (Addr.add (bA h1) (Int.toNat ((UInt8.toNat b1:Nat):Int))) (.bool true) h3 λh5=>
 I1 (wI (i1+1)) h5/\M1 (wI (i1+1)) h5<M1 i1 h3))else(
 ∃cT,List.length cT=256/\ai h3 (bA h1) cT/\
 az (bA h1) cT 256 h3 λh6=>
 ∃fV,List.length fV=256/\ai h6 (bA h1) fV/\
 K (.tuple #[.agg ⟨fV⟩,.bool true]) h6)
theorem fF.ok{gM K h}(x:fF gM K h):C.fF gM h K:=fk (fun|2=>([0,2],[(4,.int .i64)])|_=>([],[])) o0 Tryz.func224 x
end W
end Go.Proofs.YtlbckoblcdoceaaGreatDoor
