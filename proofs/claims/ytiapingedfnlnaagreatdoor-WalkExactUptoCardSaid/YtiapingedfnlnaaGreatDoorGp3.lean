/- walkExact_card -/
import Derived.Test.YtiapingedfnlnaaGreatDoorGp2
namespace Go.Proofs.YtiapingedfnlnaaGreatDoor
open Go Go.Proofs Wx
variable{h h' h3:ab}{F D':NP}{a d:OA}{l c b k o cb m:Nat}{n i:Int}{K:KT}{xs ys bs:LB}{R:List Int}{az bT:Nat->Nat}
namespace W
def fH(s1:ByteArray)(DD:Int)(K:KT)(h1:ab):Prop:=
 aC z60 60 h1 λh2=>
 aC z34 34 h2 λh3=>
 bif(decide ((s1.size:Int)>DD))then(
 bQ ⟨h1.size,0,none⟩ (.slice none 0 0) h3 λh4=>
 bQ ⟨h2.size,0,none⟩ (vI 130) h4 λh5=>
 ∃Xh Xi Xj,cellOf h5 ⟨h1.size,0,none⟩=some (.slice Xh Xi Xj)/\
 ∃bL,cellOf h5 ⟨h2.size,0,none⟩=some (vI bL)/\
 K (.tuple #[.slice Xh Xi Xj,vI bL]) h5)else(
 aC z60 60 h3 λh6=>
 C.jR s1 h6 λr1 h7=>
 ∃v1,r1=v1/\
 ∀(R1:Loop),
 (∀(s2:ByteArray),∀(h8:ab) (k1:KT),br h8 (h7.size+1) R1 .ready none->
 (
 br h8 (h7.size+1) R1 .ready none/\
 td h8 (h7.size+1) R1 .busy none λh9=>
 bif(s2.toList==(mkStr [46]).toList)then(
 br h9 (h7.size+1) R1 .busy none/\
 k1 (.bool true) (cZ h9 (h7.size+1) R1 .ready none))else(
 bif(decide ((s2.size:Int)>27))then(
 bQ ⟨h1.size,0,none⟩ (.slice none 0 0) h9 λh10=>
 bQ ⟨h2.size,0,none⟩ (vI 130) h10 λcg=>
 br cg (h7.size+1) R1 .busy none/\
 k1 (.bool false) (cZ cg (h7.size+1) R1 .done (some .ret)))else(
 ∃aX aK bJ,cellOf h9 ⟨h3.size,0,none⟩=some (.slice aX aK bJ)/\
 bif((aK:Int)==32)then(
 bQ ⟨h1.size,0,none⟩ (.slice none 0 0) h9 λbb=>
 bQ ⟨h2.size,0,none⟩ (vI 130) bb λbU=>
 br bU (h7.size+1) R1 .busy none/\
 k1 (.bool false) (cZ bU (h7.size+1) R1 .done (some .ret)))else(
 ∃fQ fj gT,cellOf h9 ⟨h3.size,0,none⟩=some (.slice fQ fj gT)/\
 aC [.string s2] 9 h9 λgh=>
 ∃aR,List.length aR=1*1/\ag gh (some ⟨h9.size,0,none⟩) aR/\(∀v∈aR,v.oneCell'=true)/\
 aw tN 9 fQ fj gT 1 aR gh λj9 jO kH fg=>
 bQ ⟨h3.size,0,none⟩ (.slice j9 jO kH) fg λiS=>
 br iS (h7.size+1) R1 .busy none/\
 k1 (.bool true) (cZ iS (h7.size+1) R1 .ready none)))))->
 mj Tryz.prog (h7.size+1) [.string s2] h8 k1)->
 rP Tryz.prog v1 [.func (.yield (h7.size+1)) #[] #[]] (bN h7 R1) λ_ eM=>
 ∃(st1:LoopState) (iP:Option Code),br eM (h7.size+1) R1 st1 iP/\st1≠.busy/\
 vz iP (
 td eM (h7.size+1) R1 .exhausted iP λh18=>
 ∃mL mJ mU,cellOf h18 ⟨h3.size,0,none⟩=some (.slice mL mJ mU)/\
 bQ ⟨h1.size,0,none⟩ (.slice mL mJ mU) h18 λfO=>
 bQ ⟨h2.size,0,none⟩ (vI 0) fO λgY=>
 qm h7.size gY λlx=>
 ∃Xk Xl Xm,cellOf lx ⟨h1.size,0,none⟩=some (.slice Xk Xl Xm)/\
 ∃di,cellOf lx ⟨h2.size,0,none⟩=some (vI di)/\
 K (.tuple #[.slice Xk Xl Xm,vI di]) lx) (
 td eM (h7.size+1) R1 .exhausted iP λjC=>
 qm h7.size jC λlu=>
 ∃G4 G5 G6,cellOf lu ⟨h1.size,0,none⟩=some (.slice G4 G5 G6)/\
 ∃fA,cellOf lu ⟨h2.size,0,none⟩=some (vI fA)/\
 K (.tuple #[.slice G4 G5 G6,vI fA]) lu) (λ_=>False))
theorem fH.ok{s1 DD K h}(x:fH s1 DD K h):C.fH s1 DD h K:=fk (fun|1000005=>([],[(14,.str)])|_=>([],[])) o0 Tryz.func91 x
def ja(t1:OA)(g1:LV)(n1:Int)(K:KT)(h1:ab):Prop:=
 aC g1 25 h1 λh2=>
 aC gC 123 h2 λh3=>
 ∃bV,List.length bV=5/\ai h3 ⟨h1.size,0,none⟩ bV/\
 C.jm bV n1 h3 λr1 h4=>
 ∃b1,r1 = .bool b1/\
 bif(!b1)then(
 ar ⟨h2.size,0,none⟩ gC 15 h4 λh5=>
 ∃bL,List.length bL=15/\ai h5 ⟨h2.size,0,none⟩ bL/\
 K (.tuple #[.agg ⟨bL⟩,vI 110]) h5)else(
 ∃eO,List.length eO=5/\ai h4 ⟨h1.size,0,none⟩ eO/\
 C.kQ t1 eO n1 h4 λr2 h6=>
 ∃n2 aX aK bJ n3 n4,r2 = .tuple #[vI n2,.slice aX aK bJ,vI n3,vI n4]/\
 bif(n4 != 0)then(
 ar ⟨h2.size,0,none⟩ gC 15 h6 λh7=>
 ∃di,List.length di=15/\ai h7 ⟨h2.size,0,none⟩ di/\
 K (.tuple #[.agg ⟨di⟩,vI n4]) h7)else(
 (0<=n3/\n3<=(IntKind.wrap .i64 (n3+64))/\(IntKind.wrap .i64 (n3+64))<=(bJ:Int))/\
 C.j3 (if bJ=(Int.toNat n3)then aX else Option.map (Addr.add · (Int.toNat n3)) aX) ((Int.toNat (IntKind.wrap .i64 (n3+64)))-(Int.toNat n3)) (bJ-(Int.toNat n3)) h6 λr3 h8=>
 ∃gV n5,r3 = .tuple #[.agg ⟨gV⟩,vI n5]/\
 ar ⟨h2.size,0,none⟩ gV 15 h8 λh9=>
 ∃fA,List.length fA=15/\ai h9 ⟨h2.size,0,none⟩ fA/\
 K (.tuple #[.agg ⟨fA⟩,vI n5]) h9))
theorem ja.ok{t1 g1 n1 K h}(x:ja t1 g1 n1 K h):C.ja t1 g1 n1 h K:=fz Tryz.func92 x
def dM(aX:OA)(aK:Nat)(bJ:Nat)(K:KT)(h1:ab):Prop:=
 bif(decide ((aK:Int)<2))then(
 K (.slice aX aK bJ) h1)else(
 ∃(I1:Int->ab->Prop) (M1:Int->ab->Nat),I1 1 h1/\
 ∀(k1:Int),∀h2:ab,I1 k1 h2->
 bif(decide (k1<(aK:Int)))then(
 (0<=k1/\k1<(aK:Int))/\
 ae aX λp1=>
 ∃n1,cellOf h2 (p1.add (Int.toNat k1))=some (vI n1)/\
 (0<=(IntKind.wrap .i64 (k1-1))/\(IntKind.wrap .i64 (k1-1))<(aK:Int))/\
 ae aX λp2=>
 ∃n2,cellOf h2 (p2.add (Int.toNat (IntKind.wrap .i64 (k1-1))))=some (vI n2)/\
 bif(n1==n2)then(
 (0<=k1/\k1<=(aK:Int))/\
 ∃(I2:Int->Int->ab->Prop) (M2:Int->Int->ab->Nat),I2 k1 1 h2/\
 ∀(k2:Int) (k3:Int),∀h3:ab,I2 k2 k3 h3->
 bif(decide (k3<(((aK-(Int.toNat k1)):Nat):Int)))then(
 (0<=k3/\k3<(((aK-(Int.toNat k1)):Nat):Int))/\
 ae (if bJ=(Int.toNat k1)then aX else Option.map (Addr.add · (Int.toNat k1)) aX) λp3=>
 ∃n3,cellOf h3 (p3.add (Int.toNat k3))=some (vI n3)/\
 (0<=(IntKind.wrap .i64 (k3-1))/\(IntKind.wrap .i64 (k3-1))<(((aK-(Int.toNat k1)):Nat):Int))/\
 ae (if bJ=(Int.toNat k1)then aX else Option.map (Addr.add · (Int.toNat k1)) aX) λp4=>
 ∃n4,cellOf h3 (p4.add (Int.toNat (IntKind.wrap .i64 (k3-1))))=some (vI n4)/\
 bif(n3 != n4)then(
 (0<=k3/\k3<(((aK-(Int.toNat k1)):Nat):Int))/\
 ae (if bJ=(Int.toNat k1)then aX else Option.map (Addr.add · (Int.toNat k1)) aX) λp5=>
 ∃n5,cellOf h3 (p5.add (Int.toNat k3))=some (vI n5)/\
 (0<=k2/\k2<(aK:Int))/\
 ae aX λp6=>
 bQ (p6.add (Int.toNat k2)) (vI n5) h3 λh4=>
 I2 (IntKind.wrap .i64 (k2+1)) (IntKind.wrap .i64 (k3+1)) h4/\M2 (IntKind.wrap .i64 (k2+1)) (IntKind.wrap .i64 (k3+1)) h4<M2 k2 k3 h3)else(
 I2 k2 (IntKind.wrap .i64 (k3+1)) h3/\M2 k2 (IntKind.wrap .i64 (k3+1)) h3<M2 k2 k3 h3))else(
 (0<=k2/\k2<=(aK:Int))/\
 EC qP (if bJ=(Int.toNat k2)then aX else Option.map (Addr.add · (Int.toNat k2)) aX) (aK-(Int.toNat k2)) h3 λh5=>
 (0<=k2/\k2<=(bJ:Int))/\
 K (.slice aX (Int.toNat k2) bJ) h5))else(
 I1 (IntKind.wrap .i64 (k1+1)) h2/\M1 (IntKind.wrap .i64 (k1+1)) h2<M1 k1 h2))else(
 K (.slice aX aK bJ) h2))
theorem dM.ok{aX aK bJ K h}(x:dM aX aK bJ K h):C.dM aX aK bJ h K:=fk (fun|4=>([0],[(3,.int .i64)])|9=>([0,4],[(3,.int .i64),(5,.int .i64)])|_=>([],[])) (fun|6=>(.op 0 [] (.op 1 [] (.op 2 [] (.op 3 [] (.op 4 [] (.op 5 [] (.op 6 [] (.op 7 [] (.op 8 [] (.op 9 [] .nil))))))))))|11=>(.op 0 [] (.op 1 [] (.op 2 [] (.op 3 [] (.op 4 [] (.op 5 [] (.op 6 [] (.op 7 [] (.op 8 [] (.op 9 [] .nil))))))))))|_=>.nil) Tryz.func94 x
def cO(s1:LV)(K:KT)(h1:ab):Prop:=
 aC s1 54 h1 λh2=>
 ∃n1,cellOf h2 (aS h1 0)=some (vI n1)/\
 K (vI (IntKind.wrap .i64 (128+(IntKind.wrap .i64 ((Int.tmod (IntKind.wrap .u64 (n1)) 1000)))))) h2
theorem cO.ok{s1 K h}(x:cO s1 K h):C.cO s1 h K:=fz Tryz.func95 x
def fD(cJ:OA)(dE:Nat)(df:Nat)(n1:Int)(K:KT)(h1:ab):Prop:=
 ∃(I1:Int->Int->ab->Prop) (M1:Int->Int->ab->Nat),I1 n1 0 h1/\
 ∀(n2:Int) (n3:Int),∀h2:ab,I1 n2 n3 h2->
 bif(decide (n3<(dE:Int)))then(
 (0<=n3/\n3<(dE:Int))/\
 ae cJ λp1=>
 bQ (p1.add (Int.toNat n3)) (.int .u8 (IntKind.wrap .u8 (n2))) h2 λh3=>
 I1 (IntKind.wrap .i64 (Int.tdiv n2 256)) (IntKind.wrap .i64 (n3+1)) h3/\M1 (IntKind.wrap .i64 (Int.tdiv n2 256)) (IntKind.wrap .i64 (n3+1)) h3<M1 n2 n3 h2)else(
 K (.tuple #[]) h2)
theorem fD.ok{cJ dE df n1 K h}(x:fD cJ dE df n1 K h):C.fD cJ dE df n1 h K:=fk (fun|1=>([0,6],[(1,.int .i64),(7,.int .i64)])|_=>([],[])) o0 Tryz.func96 x
def fh(cJ:OA)(dE:Nat)(df:Nat)(K:KT)(h1:ab):Prop:=
 ∃aR,List.length aR=dE*1/\ag h1 cJ aR/\(∀v∈aR,v.oneCell'=true)/\
 aw yx 5 none 0 0 dE aR h1 λaX aK bJ h2=>
 K (.slice aX aK bJ) h2
theorem fh.ok{cJ dE df K h}(x:fh cJ dE df K h):C.fh cJ dE df h K:=fz Tryz.func97 x
def dA.k1(s1:ByteArray)(h3:ab)(K:KT):Prop:=
 C.cT s1 h3 λr2 h4=>
 ∃aX aK bJ b3,r2 = .tuple #[.slice aX aK bJ,.bool b3]/\
 bif(!b3)then(
 K (.tuple #[.slice none 0 0,vI 130]) h4)else(
 bif(decide ((s1.size:Int)>1024))then(
 K (.tuple #[.slice none 0 0,vI 130]) h4)else(
 K (.tuple #[.slice aX aK bJ,vI 0]) h4))
def dA(s1:ByteArray)(K:KT)(h1:ab):Prop:=
 bif(s1.toList==(mkStr []).toList)then(
 K (.tuple #[.slice none 0 0,vI 1]) h1)else(
 (0<=(0:Int)/\0<(s1.size:Int))/\
 ∃b1:UInt8,s1.toList[Int.toNat 0]?=some b1/\
 bif(((UInt8.toNat b1:Nat):Int) != 47)then(
 K (.tuple #[.slice none 0 0,vI 1]) h1)else(
 C.gQ s1 h1 λr1 h2=>
 ∃b2,r1 = .bool b2/\
 bif b2 then(
 K (.tuple #[.slice none 0 0,vI 1]) h2)else(
 dA.k1 s1 h2 K)))
theorem dA.ok{s1 K h}(x:dA s1 K h):C.dA s1 h K:=fz Tryz.func98 x
def au.k4(w1:OA)(h1:ab)(s1:ByteArray)(n2:Int)(cG:Bool)(pz:ab)(K:KT):Prop:=
 bif cG then(
 ar ⟨h1.size,0,none⟩ [.slice none 0 0,.string (mkStr []),vI 0] 3 pz λjv=>
 ∃lG,List.length lG=3/\ai jv ⟨h1.size,0,none⟩ lG/\
 K (.tuple #[.agg ⟨lG⟩,vI 161]) jv)else(
 C.dx w1 pz λr6 jG=>
 ∃lN,r6 = .agg ⟨lN⟩/\
 ax VQ 98 lN 3 jG λog=>
 bQ (aS jG 1) (.string s1) og λAl=>
 bQ (aS jG 2) (vI n2) Al λnz=>
 ∃kx,List.length kx=3/\ai nz ⟨jG.size,0,none⟩ kx/\
 ar ⟨h1.size,0,none⟩ kx 3 nz λsT=>
 ∃tf,List.length tf=3/\ai sT ⟨h1.size,0,none⟩ tf/\
 K (.tuple #[.agg ⟨tf⟩,vI 0]) sT)
def au.k3(w1:OA)(h1:ab)(h3:ab)(I1:HP)(M1:ab->Nat)(s1:ByteArray)(n2:Int)(x1:OA)(cG:Bool)(fO:ab)(K:KT):Prop:=
 ae x1 λY8=>
 ∃n6,cellOf fO (Y8.add 0)=some (vI n6)/\
 bif(n6==3)then(
 bif cG then(
 C.dy w1 n2 fO λr4 gY=>
 ∃n7,r4 = vI n7/\
 bif(n7 != 0)then(
 ar ⟨h1.size,0,none⟩ [.slice none 0 0,.string (mkStr []),vI 0] 3 gY λlx=>
 ∃fA,List.length fA=3/\ai lx ⟨h1.size,0,none⟩ fA/\
 K (.tuple #[.agg ⟨fA⟩,vI n7]) lx)else(
 I1  gY/\M1  gY<M1  h3))else(
 ae w1 λY9=>
 ∃b2,cellOf fO (Y9.add 9)=some (.bool b2)/\
 bif b2 then(
 C.dy w1 n2 fO λr5 jC=>
 ∃n8,r5 = vI n8/\
 bif(n8 != 0)then(
 ar ⟨h1.size,0,none⟩ [.slice none 0 0,.string (mkStr []),vI 0] 3 jC λlu=>
 ∃jf,List.length jf=3/\ai lu ⟨h1.size,0,none⟩ jf/\
 K (.tuple #[.agg ⟨jf⟩,vI n8]) lu)else(
 I1  jC/\M1  jC<M1  h3))else(
 au.k4 w1 h1 s1 n2 cG fO K)))else(
 au.k4 w1 h1 s1 n2 cG fO K)
def au.k2(w1:OA)(h1:ab)(h3:ab)(I1:HP)(M1:ab->Nat)(s1:ByteArray)(n2:Int)(x1:OA)(bb:ab)(cG:Bool)(K:KT):Prop:=
 ae x1 λG2=>
 ∃n5,cellOf bb (G2.add 0)=some (vI n5)/\
 bif(n5==2)then(
 bif cG then(
 aC [] 3 bb λgh=>
 ae w1 λCT=>
 ∃MP MQ OI,cellOf gh (CT.add 6)=some (.slice MP MQ OI)/\
 ∃aR,List.length aR=MQ*1/\ag gh MP aR/\(∀v∈aR,v.oneCell'=true)/\
 aw qP 3 (some ⟨bb.size,0,none⟩) 0 0 MQ aR gh λRS RT RU fg=>
 aC [vI n2] 3 fg λiS=>
 ∃mW,List.length mW=1*1/\ag iS (some ⟨fg.size,0,none⟩) mW/\(∀v∈mW,v.oneCell'=true)/\
 aw qP 3 RS RT RU 1 mW iS λXf Un Y' eM=>
 ae w1 λCU=>
 bQ (CU.add 6) (.slice Xf Un Y') eM λh18=>
 I1  h18/\M1  h18<M1  h3)else(
 au.k3 w1 h1 h3 I1 M1 s1 n2 x1 cG bb K))else(
 au.k3 w1 h1 h3 I1 M1 s1 n2 x1 cG bb K)
def au.k1(w1:OA)(h1:ab)(h3:ab)(I1:HP)(M1:ab->Nat)(s1:ByteArray)(n2:Int)(e1:Int)(x1:OA)(bb:ab)(K:KT):Prop:=
 bif(e1 != 0)then(
 ar ⟨h1.size,0,none⟩ [.slice none 0 0,.string (mkStr []),vI 0] 3 bb λbU=>
 ∃di,List.length di=3/\ai bU ⟨h1.size,0,none⟩ di/\
 K (.tuple #[.agg ⟨di⟩,vI e1]) bU)else(
 ae w1 λG1=>
 ∃b1,cellOf bb (G1.add 8)=some (.bool b1)/\
 bif b1 then(
 au.k2 w1 h1 h3 I1 M1 s1 n2 x1 bb true K)else(
 ae w1 λp20=>
 ∃Jr G3 Jt,cellOf bb (p20.add 7)=some (.slice Jr G3 Jt)/\
 au.k2 w1 h1 h3 I1 M1 s1 n2 x1 bb (decide ((G3:Int)>0)) K))
def au(w1:OA)(K:KT)(h1:ab):Prop:=
 aC VQ 98 h1 λh2=>
 ∃(I1:HP) (M1:ab->Nat),I1  h2/\
 ∀h3:ab,I1  h3->
 ae w1 λp1=>
 ∃aX aK bJ,cellOf h3 (p1.add 7)=some (.slice aX aK bJ)/\
 bif(decide ((aK:Int)>0))then(
 ae w1 λp2=>
 ∃fQ fj gT,cellOf h3 (p2.add 7)=some (.slice fQ fj gT)/\
 (0<=(0:Int)/\0<(fj:Int))/\
 ae fQ λp3=>
 ∃s1,cellOf h3 (p3.add (Int.toNat 0))=some (.string s1)/\
 ae w1 λp4=>
 ∃j9 jO kH,cellOf h3 (p4.add 7)=some (.slice j9 jO kH)/\
 (0<=(1:Int)/\1<=(jO:Int))/\
 ae w1 λp5=>
 bQ (p5.add 7) (.slice (if kH=(Int.toNat 1)then j9 else Option.map (Addr.add · (Int.toNat 1)) j9) (jO-(Int.toNat 1)) (kH-(Int.toNat 1))) h3 λh4=>
 bif(s1.toList==(mkStr [46,46]).toList)then(
 ae w1 λp6=>
 ∃mL mJ mU,cellOf h4 (p6.add 6)=some (.slice mL mJ mU)/\
 bif(decide ((mJ:Int)>1))then(
 ae w1 λp7=>
 ∃Am zQ Ba,cellOf h4 (p7.add 6)=some (.slice Am zQ Ba)/\
 ae w1 λp8=>
 ∃MD GW ME,cellOf h4 (p8.add 6)=some (.slice MD GW ME)/\
 (0<=(IntKind.wrap .i64 ((GW:Int)-1))/\(IntKind.wrap .i64 ((GW:Int)-1))<=(Ba:Int))/\
 ae w1 λp9=>
 bQ (p9.add 6) (.slice Am (Int.toNat (IntKind.wrap .i64 ((GW:Int)-1))) Ba) h4 λh5=>
 I1  h5/\M1  h5<M1  h3)else(
 I1  h4/\M1  h4<M1  h3))else(
 ae w1 λOy=>
 ∃q1,cellOf h4 (Oy.add 0)=some (.pointer q1)/\
 ae w1 λJl=>
 ∃bV,List.length bV=5/\ai h4 (Jl.add 1) bV/\
 C.ey w1 h4 λr1 h6=>
 ∃n1,r1 = vI n1/\
 (cellOf h6 (Oy.add 0)=some (.pointer q1))/\
 (List.length (bV:LV)=5/\ai h6 (Jl.add 1) bV)/\
 C.gO q1 bV n1 s1 h6 λr2 h7=>
 ∃n2 n3,r2 = .tuple #[vI n2,vI n3]/\
 bif(n3 != 0)then(
 ar ⟨h1.size,0,none⟩ [.slice none 0 0,.string (mkStr []),vI 0] 3 h7 λh8=>
 ∃bL,List.length bL=3/\ai h8 ⟨h1.size,0,none⟩ bL/\
 K (.tuple #[.agg ⟨bL⟩,vI n3]) h8)else(
 ae w1 λsU=>
 ∃q2,cellOf h7 (sU.add 0)=some (.pointer q2)/\
 ae w1 λvq=>
 ∃eO,List.length eO=5/\ai h7 (vq.add 1) eO/\
 (
 C.eY q2 eO n2 h7 λr3 h9=>
 ∃gV n4,r3 = .tuple #[.agg ⟨gV⟩,vI n4]/\
 aC gC 123 h9 λh10=>
 (cellOf h10 (sU.add 0)=some (.pointer q2))/\
 (List.length (eO:LV)=5/\ai h10 (vq.add 1) eO)/\
 ar ⟨h9.size,0,none⟩ gV 15 h10 λcg=>
 au.k1 w1 h1 h3 I1 M1 s1 n2 n4 (some ⟨h9.size,0,none⟩) cg K)/\
 aC gC 123 h7 λpj=>
 (cellOf pj (sU.add 0)=some (.pointer q2))/\
 (List.length (eO:LV)=5/\ai pj (vq.add 1) eO)/\
 C.eY q2 eO n2 pj λr7 Aq=>
 ∃pB n9,r7 = .tuple #[.agg ⟨pB⟩,vI n9]/\
 ar ⟨h7.size,0,none⟩ pB 15 Aq λPz=>
 au.k1 w1 h1 h3 I1 M1 s1 n2 n9 (some ⟨h7.size,0,none⟩) Pz K)))else(
 C.dx w1 h3 λr8 OJ=>
 ∃GV,r8 = .agg ⟨GV⟩/\
 ar ⟨h1.size,0,none⟩ GV 3 OJ λzm=>
 ∃CV,List.length CV=3/\ai zm ⟨h1.size,0,none⟩ CV/\
 K (.tuple #[.agg ⟨CV⟩,vI 0]) zm)
theorem au.ok{w1 K h}(x:au w1 K h):C.au w1 h K:=fk (fun|1=>([0,2],[])|_=>([],[])) (fun|6=>(.op 0 [] (.op 1 [] (.op 2 [] (.op 3 [] (.op 4 [] (.op 5 [] (.op 6 [] (.op 7 [] (.op 8 [] (.op 9 [] (.op 10 [] (.op 11 [] (.op 12 [] (.op 13 [] (.op 14 [] .nil)))))))))))))))|7=>(.op 0 [] (.op 1 [] (.op 2 [] (.op 3 [] (.op 4 [] (.op 5 [] (.op 6 [] (.op 7 [] (.op 8 [] (.op 10 [] (.op 9 [3,7] (.op 11 [] (.op 12 [] (.op 13 [] (.op 14 [] (.op 15 [] (.op 16 [] .nil)))))))))))))))))|10=>(.op 0 [] (.op 1 [] (.op 2 [] (.op 3 [] (.op 4 [] (.op 5 [] (.op 6 [] (.op 7 [] (.op 8 [] (.alt 9 [] (.op 10 [] (.op 11 [] (.op 12 [] (.op 13 [3,7] (.op 14 [] (.op 15 [] .nil)))))) (.op 13 [3,7] (.op 9 [] (.op 10 [] (.op 11 [] (.op 12 [] (.op 14 [] (.op 15 [] .nil)))))))))))))))))|_=>.nil) Tryz.func99 x
def dQ.k1(s1:ByteArray)(h2:ab)(K:KT):Prop:=
 C.dA s1 h2 λr2 h3=>
 ∃fQ fj gT n1,r2 = .tuple #[.slice fQ fj gT,vI n1]/\
 bif(n1 != 0)then(
 K (.tuple #[.slice none 0 0,.string (mkStr []),vI n1]) h3)else(
 bif((fj:Int)==0)then(
 K (.tuple #[.slice none 0 0,.string (mkStr []),vI 0]) h3)else(
 (0<=(IntKind.wrap .i64 ((fj:Int)-1))/\(IntKind.wrap .i64 ((fj:Int)-1))<=(gT:Int))/\
 (0<=(IntKind.wrap .i64 ((fj:Int)-1))/\(IntKind.wrap .i64 ((fj:Int)-1))<(fj:Int))/\
 ae fQ λp3=>
 ∃s4,cellOf h3 (p3.add (Int.toNat (IntKind.wrap .i64 ((fj:Int)-1))))=some (.string s4)/\
 K (.tuple #[.slice fQ (Int.toNat (IntKind.wrap .i64 ((fj:Int)-1))) gT,.string s4,vI 0]) h3))
def dQ(s1:ByteArray)(K:KT)(h1:ab):Prop:=
 C.cw s1 h1 λr1 h2=>
 ∃aX aK bJ,r1 = .slice aX aK bJ/\
 bif(decide ((aK:Int)>0))then(
 (0<=(IntKind.wrap .i64 ((aK:Int)-1))/\(IntKind.wrap .i64 ((aK:Int)-1))<(aK:Int))/\
 ae aX λp1=>
 ∃s2,cellOf h2 (p1.add (Int.toNat (IntKind.wrap .i64 ((aK:Int)-1))))=some (.string s2)/\
 bif(s2.toList==(mkStr [46]).toList)then(
 K (.tuple #[.slice none 0 0,.string (mkStr []),vI 1]) h2)else(
 (0<=(IntKind.wrap .i64 ((aK:Int)-1))/\(IntKind.wrap .i64 ((aK:Int)-1))<(aK:Int))/\
 ae aX λp2=>
 ∃s3,cellOf h2 (p2.add (Int.toNat (IntKind.wrap .i64 ((aK:Int)-1))))=some (.string s3)/\
 bif(s3.toList==(mkStr [46,46]).toList)then(
 K (.tuple #[.slice none 0 0,.string (mkStr []),vI 1]) h2)else(
 dQ.k1 s1 h2 K)))else(
 dQ.k1 s1 h2 K)
theorem dQ.ok{s1 K h}(x:dQ s1 K h):C.dQ s1 h K:=fk l0 (fun|9=>(.op 0 [] (.op 1 [] (.op 2 [] (.op 3 [] (.op 4 [] (.op 5 [] (.op 6 [] (.op 7 [] (.op 8 [] (.op 9 [] (.op 10 [] (.op 11 [] (.op 12 [] (.op 13 [] .nil))))))))))))))|_=>.nil) Tryz.func100 x
def dx(w1:OA)(K:KT)(h1:ab):Prop:=
 aC VQ 98 h1 λh2=>
 aC [] 3 h2 λh3=>
 ae w1 λp1=>
 ∃aX aK bJ,cellOf h3 (p1.add 6)=some (.slice aX aK bJ)/\
 ∃aR,List.length aR=aK*1/\ag h3 aX aR/\(∀v∈aR,v.oneCell'=true)/\
 aw qP 3 (some ⟨h2.size,0,none⟩) 0 0 aK aR h3 λfQ fj gT h4=>
 C.ey w1 h4 λr1 h5=>
 ∃n1,r1 = vI n1/\
 ar ⟨h1.size,0,none⟩ [.slice fQ fj gT,.string (mkStr []),vI n1] 3 h5 λh6=>
 ∃bL,List.length bL=3/\ai h6 ⟨h1.size,0,none⟩ bL/\
 K (.agg ⟨bL⟩) h6
theorem dx.ok{w1 K h}(x:dx w1 K h):C.dx w1 h K:=fz Tryz.func101 x
def gO(t1:OA)(g1:LV)(n1:Int)(aZ:ByteArray)(K:KT)(h1:ab):Prop:=
 aC g1 25 h1 λh2=>
 C.dR aZ h2 λr1 h3=>
 ∃b1,r1 = .bool b1/\
 bif(!b1)then(
 K (.tuple #[vI 0,vI 1]) h3)else(
 ∃bV,List.length bV=5/\ai h3 ⟨h1.size,0,none⟩ bV/\
 C.iJ t1 bV n1 aZ h3 λr2 h4=>
 ∃eO gV n2,r2 = .tuple #[.agg ⟨eO⟩,.agg ⟨gV⟩,vI n2]/\
 aC gC 123 h4 λh5=>
 aC zP 113 h5 λh6=>
 ar ⟨h4.size,0,none⟩ eO 15 h6 λh7=>
 ar ⟨h5.size,0,none⟩ gV 3 h7 λh8=>
 ∃n3,cellOf h8 (aS h5 2)=some (vI n3)/\
 K (.tuple #[vI n3,vI n2]) h8)
theorem gO.ok{t1 g1 n1 aZ K h}(x:gO t1 g1 n1 aZ K h):C.gO t1 g1 n1 aZ h K:=fz Tryz.func102 x
def ey(w1:OA)(K:KT)(h1:ab):Prop:=
 ae w1 λp1=>
 ∃aX aK bJ,cellOf h1 (p1.add 6)=some (.slice aX aK bJ)/\
 ae w1 λp2=>
 ∃fQ fj gT,cellOf h1 (p2.add 6)=some (.slice fQ fj gT)/\
 (0<=(IntKind.wrap .i64 ((fj:Int)-1))/\(IntKind.wrap .i64 ((fj:Int)-1))<(aK:Int))/\
 ae aX λp3=>
 ∃n1,cellOf h1 (p3.add (Int.toNat (IntKind.wrap .i64 ((fj:Int)-1))))=some (vI n1)/\
 K (vI n1) h1
theorem ey.ok{w1 K h}(x:ey w1 K h):C.ey w1 h K:=fk l0 (fun|1=>(.op 0 [] (.op 1 [] (.op 2 [] (.op 3 [] (.op 4 [] (.op 5 [] (.op 6 [] (.op 7 [] (.op 8 [] (.op 9 [] (.op 10 [] (.op 11 [] (.op 12 [] .nil)))))))))))))|_=>.nil) Tryz.func103 x
def eY(t1:OA)(g1:LV)(n1:Int)(K:KT)(h1:ab):Prop:=
 aC g1 25 h1 λh2=>
 aC gC 123 h2 λh3=>
 ∃bV,List.length bV=5/\ai h3 ⟨h1.size,0,none⟩ bV/\
 C.dU bV n1 h3 λr1 h4=>
 ∃n2 n3 n4,r1 = .tuple #[vI n2,vI n3,vI n4]/\
 bif(n4 != 0)then(
 ar ⟨h2.size,0,none⟩ gC 15 h4 λh5=>
 ∃bL,List.length bL=15/\ai h5 ⟨h2.size,0,none⟩ bL/\
 K (.tuple #[.agg ⟨bL⟩,vI n4]) h5)else(
 C.bu t1 n2 h4 λr2 h6=>
 ∃aX aK bJ n5,r2 = .tuple #[.slice aX aK bJ,vI n5]/\
 bif(n5 != 0)then(
 ar ⟨h2.size,0,none⟩ gC 15 h6 λh7=>
 ∃di,List.length di=15/\ai h7 ⟨h2.size,0,none⟩ di/\
 K (.tuple #[.agg ⟨di⟩,vI n5]) h7)else(
 (0<=n3/\n3<=(IntKind.wrap .i64 (n3+64))/\(IntKind.wrap .i64 (n3+64))<=(bJ:Int))/\
 C.cy (if bJ=(Int.toNat n3)then aX else Option.map (Addr.add · (Int.toNat n3)) aX) ((Int.toNat (IntKind.wrap .i64 (n3+64)))-(Int.toNat n3)) (bJ-(Int.toNat n3)) h6 λr3 h8=>
 ∃eO n6,r3 = .tuple #[.agg ⟨eO⟩,vI n6]/\
 ar ⟨h2.size,0,none⟩ eO 15 h8 λh9=>
 ∃fA,List.length fA=15/\ai h9 ⟨h2.size,0,none⟩ fA/\
 K (.tuple #[.agg ⟨fA⟩,vI n6]) h9))
theorem eY.ok{t1 g1 n1 K h}(x:eY t1 g1 n1 K h):C.eY t1 g1 n1 h K:=fz Tryz.func104 x
def cQ.k1(gU:OA)(gz:Nat)(iV:Nat)(n4:Int)(h7:ab)(I1:OA->Nat->Nat->Int->ab->Prop)(M1:OA->Nat->Nat->Int->ab->Nat)(RV:Int)(cg:ab)(K:KT):Prop:=
 (0<=RV/\RV<=(iV:Int))/\
 ∃aR,List.length aR=(Int.toNat RV)*3/\ag cg gU aR/\(∀v∈aR,v.oneCell'=true)/\
 aw mB 113 none 0 0 (Int.toNat RV) aR cg λfQ fj gT bb=>
 ∃pB,List.length pB=3/\ai bb ⟨h7.size,0,none⟩ pB/\
 List.length (pB:LV)=3/\
 aC pB 113 bb λbU=>
 ∃mW,List.length mW=1*3/\ag bU (some ⟨bb.size,0,none⟩) mW/\(∀v∈mW,v.oneCell'=true)/\
 aw mB 113 fQ fj gT 1 mW bU λj9 jO kH gh=>
 (0<=RV/\RV<=(gz:Int))/\
 ∃sg,List.length sg=(gz-(Int.toNat RV))*3/\ag gh (if iV=(Int.toNat RV)then gU else Option.map (Addr.add · ((Int.toNat RV)*3)) gU) sg/\(∀v∈sg,v.oneCell'=true)/\
 aw mB 113 j9 jO kH (gz-(Int.toNat RV)) sg gh λmL mJ mU fg=>
 I1 mL mJ mU (IntKind.wrap .i64 (n4+1)) fg/\M1 mL mJ mU (IntKind.wrap .i64 (n4+1)) fg<M1 gU gz iV n4 h7
def cQ(t1:OA)(g1:LV)(n1:Int)(K:KT)(h1:ab):Prop:=
 aC g1 25 h1 λh2=>
 ∃bV,List.length bV=5/\ai h2 ⟨h1.size,0,none⟩ bV/\
 C.gR t1 bV n1 h2 λr1 h3=>
 ∃eO n2,r1 = .tuple #[.agg ⟨eO⟩,vI n2]/\
 ax gC 123 eO 15 h3 λh5=>
 bif(n2 != 0)then(
 K (.tuple #[.slice none 0 0,vI n2]) h5)else(
 ∃gV,List.length gV=5/\ai h5 ⟨h1.size,0,none⟩ gV/\
 ∃lN,List.length lN=15/\ai h5 ⟨h3.size,0,none⟩ lN/\
 C.iB t1 gV lN (mkStr []) h5 λr2 h6=>
 ∃aX aK bJ n3,r2 = .tuple #[.slice aX aK bJ,vI n3]/\
 bif(n3 != 0)then(
 K (.tuple #[.slice none 0 0,vI n3]) h6)else(
 ∃(I1:OA->Nat->Nat->Int->ab->Prop) (M1:OA->Nat->Nat->Int->ab->Nat),I1 none 0 0 0 h6/\
 ∀(gU:OA) (gz:Nat) (iV:Nat) (n4:Int),∀h7:ab,I1 gU gz iV n4 h7->
 bif(decide (n4<(aK:Int)))then(
 (0<=n4/\n4<(aK:Int))/\
 ae aX λp1=>
 ∃kx,List.length kx=3/\ai h7 (p1.add ((Int.toNat n4)*3)) kx/\
 ax zP 113 kx 3 h7 λh9=>
 ∃(I2:Int->ab->Prop) (M2:Int->ab->Nat),I2 0 h9/\
 ∀(gv:Int),∀h10:ab,I2 gv h10->
 bif(decide (gv<(gz:Int)))then(
 (0<=gv/\gv<(gz:Int))/\
 ae gU λp2=>
 ∃s1,cellOf h10 (Addr.add (p2.add ((Int.toNat gv)*3)) 1)=some (.string s1)/\
 ∃s2,cellOf h10 (aS h7 1)=some (.string s2)/\
 bif((Op.bytesLess s1.toList s2.toList) || (s1.toList==s2.toList))then(
 I2 (IntKind.wrap .i64 (gv+1)) h10/\M2 (IntKind.wrap .i64 (gv+1)) h10<M2 gv h10)else(
 cQ.k1 gU gz iV n4 h7 I1 M1 gv h10 K))else(
 cQ.k1 gU gz iV n4 h7 I1 M1 gv h10 K))else(
 K (.tuple #[.slice gU gz iV,vI 0]) h7)))
theorem cQ.ok{t1 g1 n1 K h}(x:cQ t1 g1 n1 K h):C.cQ t1 g1 n1 h K:=fk (fun|9=>([36,37],[(11,.slice),(38,.int .i64)])|12=>([11,13,36,37,38],[(14,.int .i64)])|_=>([],[])) (fun|12=>(.op 0 [] (.op 1 [] (.op 2 [] (.op 3 [] (.op 4 [] (.op 5 [] (.op 6 [] (.op 7 [] (.op 8 [] (.op 9 [] (.op 10 [] (.op 11 [] (.op 12 [] (.op 13 [] .nil))))))))))))))|_=>.nil) Tryz.func105 x
def bX(m1:Option Nat)(K:KT)(h1:ab):Prop:=
 aC [.map m1] 207 h1 λh2=>
 K (.func (.func 180) #[] ⟨[.pointer (some ⟨h1.size,0,none⟩)]⟩) h2
theorem bX.ok{m1 K h}(x:bX m1 K h):C.bX m1 h K:=fz Tryz.func107 x
def cL.k1(s1:ByteArray)(kF:OA)(jN:Nat)(kG:Nat)(iQ:Int)(i1:Int)(h2:ab)(I1:OA->Nat->Nat->Int->Int->ab->Prop)(M1:OA->Nat->Nat->Int->Int->ab->Nat)(K:KT):Prop:=
 bif(decide (i1>iQ))then(
 (0<=iQ/\iQ<=i1/\i1<=(s1.size:Int))/\
 bif(!((ByteArray.extract s1 (Int.toNat iQ) (Int.toNat i1)).toList==(mkStr [46]).toList))then(
 (0<=iQ/\iQ<=i1/\i1<=(s1.size:Int))/\
 aC [.string (ByteArray.extract s1 (Int.toNat iQ) (Int.toNat i1))] 9 h2 λh3=>
 ∃aR,List.length aR=1*1/\ag h3 (some ⟨h2.size,0,none⟩) aR/\(∀v∈aR,v.oneCell'=true)/\
 aw tN 9 kF jN kG 1 aR h3 λaX aK bJ h4=>
 I1 aX aK bJ (IntKind.wrap .i64 (i1+1)) (IntKind.wrap .i64 (i1+1)) h4/\M1 aX aK bJ (IntKind.wrap .i64 (i1+1)) (IntKind.wrap .i64 (i1+1)) h4<M1 kF jN kG iQ i1 h2)else(
 I1 kF jN kG (IntKind.wrap .i64 (i1+1)) (IntKind.wrap .i64 (i1+1)) h2/\M1 kF jN kG (IntKind.wrap .i64 (i1+1)) (IntKind.wrap .i64 (i1+1)) h2<M1 kF jN kG iQ i1 h2))else(
 I1 kF jN kG (IntKind.wrap .i64 (i1+1)) (IntKind.wrap .i64 (i1+1)) h2/\M1 kF jN kG (IntKind.wrap .i64 (i1+1)) (IntKind.wrap .i64 (i1+1)) h2<M1 kF jN kG iQ i1 h2)
def cL(s1:ByteArray)(K:KT)(h1:ab):Prop:=
 ∃(I1:OA->Nat->Nat->Int->Int->ab->Prop) (M1:OA->Nat->Nat->Int->Int->ab->Nat),I1 none 0 0 0 0 h1/\
 ∀(kF:OA) (jN:Nat) (kG:Nat) (iQ:Int) (i1:Int),∀h2:ab,I1 kF jN kG iQ i1 h2->
 bif(decide (i1<=(s1.size:Int)))then(
 bif(decide (i1<(s1.size:Int)))then(
 (0<=i1/\i1<(s1.size:Int))/\
 ∃b1:UInt8,s1.toList[Int.toNat i1]?=some b1/\
 bif(((UInt8.toNat b1:Nat):Int) != 47)then(
 I1 kF jN kG iQ (IntKind.wrap .i64 (i1+1)) h2/\M1 kF jN kG iQ (IntKind.wrap .i64 (i1+1)) h2<M1 kF jN kG iQ i1 h2)else(
 cL.k1 s1 kF jN kG iQ i1 h2 I1 M1 K))else(
 cL.k1 s1 kF jN kG iQ i1 h2 I1 M1 K))else(
 K (.slice kF jN kG) h2)
theorem cL.ok{s1 K h}(x:cL s1 K h):C.cL s1 h K:=fk (fun|4=>([0],[(3,.slice),(4,.int .i64),(5,.int .i64)])|_=>([],[])) o0 Tryz.func108 x
def jR(s1:ByteArray)(K:KT)(h1:ab):Prop:=
 aC [.string s1] 9 h1 λh2=>
 K (.func (.func 181) #[] ⟨[.pointer (some ⟨h1.size,0,none⟩)]⟩) h2
theorem jR.ok{s1 K h}(x:jR s1 K h):C.jR s1 h K:=fz Tryz.func109 x
def jb(s1:ByteArray)(K:KT)(h1:ab):Prop:=
 Mz h1 λh2=>
 ED .str h1.size (.s (ByteArray.toList (mkStr [46]))) (.func (.func 182) #[] ⟨[]⟩) h2 λh3=>
 ED .str h1.size (.s (ByteArray.toList (mkStr [46,46]))) (.func (.func 183) #[] ⟨[]⟩) h3 λh4=>
 Ku .str (some h1.size) h4 λmm1=>
 ∃(v1:Value),Option.getD (rQ mm1 (.s (ByteArray.toList s1))) (zeroV KU)=v1/\
 K (.tuple #[v1,.bool (Option.isSome (rQ mm1 (.s (ByteArray.toList s1))))]) h4
theorem jb.ok{s1 K h}(x:jb s1 K h):C.jb s1 h K:=fz Tryz.func110 x
def gD(x1:LV)(K:KT)(h1:ab):Prop:=
 aC x1 123 h1 λh2=>
 ∃bV,List.length bV=15/\ai h2 ⟨h1.size,0,none⟩ bV/\
 C.fP bV h2 λr1 h3=>
 ∃b1,r1 = .bool b1/\
 bif(!b1)then(
 K (.tuple #[.slice none 0 0,vI 111]) h3)else(
 ∃eO,List.length eO=15/\ai h3 ⟨h1.size,0,none⟩ eO/\
 C.iK eO h3 λr2 h4=>
 ∃aX aK bJ,r2 = .slice aX aK bJ/\
 K (.tuple #[.slice aX aK bJ,vI 0]) h4)
theorem gD.ok{x1 K h}(x:gD x1 K h):C.gD x1 h K:=fz Tryz.func119 x
def nI(n1:Int)(K:KT)(h1:ab):Prop:=
 bif(decide (n1<1))then(
 K (.tuple #[.pointer none,vI 32]) h1)else(
 bif(decide (n1>16384))then(
 K (.tuple #[.pointer none,vI 32]) h1)else(
 (0<=n1/\n1<=n1/\(512:Int)*n1<=281474976710656/\n1<=281474976710656)/\
 aC (aW Yt (Int.toNat n1)) 237 h1 λh2=>
 aC [.slice (some ⟨h1.size,0,none⟩) (Int.toNat n1) (Int.toNat n1),.slice none 0 0,vI 0,.slice none 0 0,.bool false,vI 0,vI 0,.slice none 0 0] 235 h2 λh3=>
 K (.tuple #[.pointer (some ⟨h2.size,0,none⟩),vI 0]) h3))
set_option maxRecDepth 1000000 in
set_option maxRecDepth 1000000 in
theorem nI.ok{n1 K h}(x:nI n1 K h):C.nI n1 h K:=fz Tryz.func120 x
def eA.k1(t1:OA)(i1:Int)(h3:ab)(K:KT):Prop:=
 ae t1 λp3=>
 ∃m1,cellOf h3 (p3.add 1)=some (.map m1)/\
 Ku (.int .i64) m1 h3 λmm1=>
 ∃(aX:OA) (aK:Nat) (bJ:Nat),Option.getD (rQ mm1 (.i i1)) (zeroV Ys) = .slice aX aK bJ/\
 bif(Option.isSome (rQ mm1 (.i i1)))then(
 C.cU aX aK bJ h3 λr2 h4=>
 ∃fQ fj gT,r2 = .slice fQ fj gT/\
 K (.tuple #[.slice fQ fj gT,vI 0]) h4)else(
 ae t1 λp4=>
 ∃q2,cellOf h3 (p4.add 0)=some (.pointer q2)/\
 C.gp q2 i1 h3 λr3 h5=>
 ∃j9 jO kH n2,r3 = .tuple #[.slice j9 jO kH,vI n2]/\
 K (.tuple #[.slice j9 jO kH,vI n2]) h5)
def eA(t1:OA)(i1:Int)(K:KT)(h1:ab):Prop:=
 ae t1 λp1=>
 ∃b1,cellOf h1 (p1.add 3)=some (.bool b1)/\
 bif b1 then(
 K (.tuple #[.slice none 0 0,vI 61]) h1)else(
 bif(decide (i1<0))then(
 K (.tuple #[.slice none 0 0,vI 31]) h1)else(
 ae t1 λp2=>
 ∃q1,cellOf h1 (p2.add 0)=some (.pointer q1)/\
 C.fy q1 h1 λr1 h2=>
 ∃n1,r1 = vI n1/\
 bif(decide (i1>=n1))then(
 K (.tuple #[.slice none 0 0,vI 31]) h2)else(
 eA.k1 t1 i1 h2 K)))
theorem eA.ok{t1 i1 K h}(x:eA t1 i1 K h):C.eA t1 i1 h K:=fz Tryz.func130 x
def bu.k1(t1:OA)(i1:Int)(h3:ab)(K:KT):Prop:=
 C.fU t1 i1 h3 λr2 h4=>
 ∃n2,r2 = vI n2/\
 bif(decide (n2>=0))then(
 ae t1 λp3=>
 ∃aX aK bJ,cellOf h4 (p3.add 1)=some (.slice aX aK bJ)/\
 (0<=n2/\n2<(aK:Int))/\
 ae aX λp4=>
 ∃s1,cellOf h4 (Addr.add (p4.add ((Int.toNat n2)*2)) 1)=some (.string s1)/\
 SH s1 5 h4 λiY h5=>
 K (.tuple #[.slice (some ⟨h4.size,0,none⟩) s1.size iY,vI 0]) h5)else(
 ae t1 λp5=>
 ∃q2,cellOf h4 (p5.add 0)=some (.pointer q2)/\
 C.bM q2 i1 h4 λr3 h6=>
 ∃fQ fj gT n3,r3 = .tuple #[.slice fQ fj gT,vI n3]/\
 K (.tuple #[.slice fQ fj gT,vI n3]) h6)
def bu(t1:OA)(i1:Int)(K:KT)(h1:ab):Prop:=
 ae t1 λp1=>
 ∃b1,cellOf h1 (p1.add 2)=some (.bool b1)/\
 bif b1 then(
 K (.tuple #[.slice none 0 0,vI 61]) h1)else(
 bif(decide (i1<0))then(
 K (.tuple #[.slice none 0 0,vI 31]) h1)else(
 ae t1 λp2=>
 ∃q1,cellOf h1 (p2.add 0)=some (.pointer q1)/\
 C.bS q1 h1 λr1 h2=>
 ∃n1,r1 = vI n1/\
 bif(decide (i1>=n1))then(
 K (.tuple #[.slice none 0 0,vI 31]) h2)else(
 bu.k1 t1 i1 h2 K)))
theorem bu.ok{t1 i1 K h}(x:bu t1 i1 K h):C.bu t1 i1 h K:=fz Tryz.func131 x
def fv(s1:ByteArray)(fN:ByteArray)(K:KT)(h1:ab):Prop:=
 C.dV s1 fN h1 λr1 h2=>
 ∃n1,r1 = vI n1/\
 K (.bool (decide (n1>=0))) h2
theorem fv.ok{s1 fN K h}(x:fv s1 fN K h):C.fv s1 fN h K:=fz Tryz.func134 x
def aD.k2(gu:Value)(iY:OA)(k1:Int)(h2:ab)(I1:Int->ab->Prop)(M1:Int->ab->Nat)(h3:ab)(bb:ab)(K:KT):Prop:=
 ∃fQ fj gT,cellOf bb (aS h3 2)=some (.slice fQ fj gT)/\
 C.mv fQ fj gT bb λr5 bU=>
 ∃j9 jO kH n8,r5 = .tuple #[.slice j9 jO kH,vI n8]/\
 bQ (aS h3 3) (.slice j9 jO kH) bU λgh=>
 ae iY λG2=>
 ∃Ap,cellOf gh G2=some (.pointer Ap)/\
 C.eB Ap n8 gh λr6 fg=>
 ∃b3,r6 = .bool b3/\
 bif b3 then(
 K (.tuple #[]) fg)else(
 ∃gV,List.length gV=4/\ai fg ⟨h3.size,0,none⟩ gV/\
 oV Tryz.prog gu [.agg ⟨gV⟩] fg λr7 iS=>
 ∃b4,r7 = .bool b4/\
 bif(!b4)then(
 K (.tuple #[]) iS)else(
 I1 (IntKind.wrap .i64 (k1+1)) iS/\M1 (IntKind.wrap .i64 (k1+1)) iS<M1 k1 h2))
def aD.k1(gu:Value)(iY:OA)(k1:Int)(h2:ab)(I1:Int->ab->Prop)(M1:Int->ab->Nat)(K:KT):Prop:=
 (0<=(512:Int)/\(512:Int)<=512/\(1:Int)*512<=281474976710656/\(512:Int)<=281474976710656)/\
 aC (aW z5 (Int.toNat 512)) 5 h2 λh3=>
 ax SJ 150 [vI k1,vI 0,.slice (some ⟨h2.size,0,none⟩) (Int.toNat 512) (Int.toNat 512),.slice none 0 0] 4 h3 λh5=>
 ae iY λp5=>
 ∃q3,cellOf h5 p5=some (.pointer q3)/\
 ae q3 λp6=>
 ∃q4,cellOf h5 (p6.add 0)=some (.pointer q4)/\
 ae iY λp7=>
 ∃q5,cellOf h5 p7=some (.pointer q5)/\
 ae q5 λp8=>
 ∃bV,List.length bV=5/\ai h5 (p8.add 1) bV/\
 ae iY λp9=>
 ∃q6,cellOf h5 p9=some (.pointer q6)/\
 ae q6 λOy=>
 ∃eO,List.length eO=15/\ai h5 (Oy.add 7) eO/\
 C.jK q4 bV eO k1 h5 λr1 h6=>
 ∃n3 n4,r1 = .tuple #[vI n3,vI n4]/\
 bQ (aS h3 1) (vI n3) h6 λh7=>
 ae iY λJl=>
 ∃q7,cellOf h7 Jl=some (.pointer q7)/\
 C.eB q7 n4 h7 λr2 h8=>
 ∃b1,r2 = .bool b1/\
 bif b1 then(
 K (.tuple #[]) h8)else(
 ∃n5,cellOf h8 (aS h3 1)=some (vI n5)/\
 bif(n5 != 0)then(
 ae iY λsU=>
 ∃q8,cellOf h8 sU=some (.pointer q8)/\
 ae q8 λvq=>
 ∃q9,cellOf h8 (vq.add 0)=some (.pointer q9)/\
 ∃n6,cellOf h8 (aS h3 1)=some (vI n6)/\
 C.eA q9 n6 h8 λr3 h9=>
 ∃aX aK bJ n7,r3 = .tuple #[.slice aX aK bJ,vI n7]/\
 bQ (aS h3 2) (.slice aX aK bJ) h9 λh10=>
 ae iY λG1=>
 ∃Oz,cellOf h10 G1=some (.pointer Oz)/\
 C.eB Oz n7 h10 λr4 cg=>
 ∃b2,r4 = .bool b2/\
 bif b2 then(
 K (.tuple #[]) cg)else(
 aD.k2 gu iY k1 h2 I1 M1 h3 cg K))else(
 aD.k2 gu iY k1 h2 I1 M1 h3 h8 K))
def aD(gu:Value)(iY:OA)(K:KT)(h1:ab):Prop:=
 ∃(I1:Int->ab->Prop) (M1:Int->ab->Nat),I1 0 h1/\
 ∀(k1:Int),∀h2:ab,I1 k1 h2->
 ae iY λp1=>
 ∃q1,cellOf h2 p1=some (.pointer q1)/\
 ae q1 λp2=>
 ∃n1,cellOf h2 (p2.add 22)=some (vI n1)/\
 bif(n1==0)then(
 ae iY λp3=>
 ∃q2,cellOf h2 p3=some (.pointer q2)/\
 ae q2 λp4=>
 ∃n2,cellOf h2 (Addr.add (p4.add 7) 2)=some (vI n2)/\
 bif(decide (k1<(IntKind.wrap .i64 (Int.tdiv n2 512))))then(
 aD.k1 gu iY k1 h2 I1 M1 K)else(
 K (.tuple #[]) h2))else(
 K (.tuple #[]) h2)
theorem aD.ok{gu iY K h}(x:aD gu iY K h):C.aD gu iY h K:=fk (fun|1=>([0,1],[(3,.int .i64)])|_=>([],[])) (fun|5=>(.op 0 [] (.op 1 [] (.op 2 [] (.op 3 [] (.op 4 [] (.op 5 [] (.op 6 [] (.op 7 [] (.op 8 [] (.op 9 [] (.op 10 [] (.op 11 [] (.op 12 [] (.op 13 [] (.op 14 [] (.op 15 [] (.op 16 [] (.op 17 [] (.op 18 [] (.op 19 [] .nil))))))))))))))))))))|8=>(.op 0 [] (.op 1 [] (.op 2 [] (.op 3 [] (.op 4 [] (.op 5 [] (.op 6 [] (.op 7 [] (.op 8 [] (.op 9 [] (.op 10 [] (.op 11 [] (.op 12 [] .nil)))))))))))))|_=>.nil) Tryz.func135 x
def jK.k1(t1:OA)(k1:Int)(h1:ab)(h2:ab)(h3:ab)(K:KT):Prop:=
 ∃bV,List.length bV=5/\ai h3 ⟨h1.size,0,none⟩ bV/\
 ∃eO,List.length eO=15/\ai h3 ⟨h2.size,0,none⟩ eO/\
 List.length (bV:LV)=5/\
 List.length (eO:LV)=15/\
 aC ([.pointer t1]++(bV++eO)) 263 h3 λh4=>
 C.dB (some ⟨h3.size,0,none⟩) k1 (Value.func (.func 204) #[] ⟨[]⟩) h4 λr1 h5=>
 ∃n1 n2,r1 = .tuple #[vI n1,vI n2]/\
 K (.tuple #[vI n1,vI n2]) h5
def jK(t1:OA)(g1:LV)(x1:LV)(k1:Int)(K:KT)(h1:ab):Prop:=
 aC g1 25 h1 λh2=>
 aC x1 123 h2 λh3=>
 bif(decide (k1<0))then(
 K (.tuple #[vI 0,vI 101]) h3)else(
 bif(decide (k1>=16522))then(
 K (.tuple #[vI 0,vI 101]) h3)else(
 jK.k1 t1 k1 h1 h2 h3 K))
set_option maxRecDepth 1000000 in
set_option maxRecDepth 1000000 in
theorem jK.ok{t1 g1 x1 k1 K h}(x:jK t1 g1 x1 k1 K h):C.jK t1 g1 x1 k1 h K:=fz Tryz.func136 x
def eB(r1:OA)(e1:Int)(K:KT)(h1:ab):Prop:=
 ae r1 λp1=>
 bQ (p1.add 22) (vI e1) h1 λh2=>
 K (.bool (e1 != 0)) h2
theorem eB.ok{r1 e1 K h}(x:eB r1 e1 K h):C.eB r1 e1 h K:=fz Tryz.func137 x
def mv(cJ:OA)(dE:Nat)(df:Nat)(K:KT)(h1:ab):Prop:=
 bif((dE:Int) != 512)then(
 K (.tuple #[.slice none 0 0,vI 32]) h1)else(
 ∃(I1:OA->Nat->Nat->Int->ab->Prop) (M1:OA->Nat->Nat->Int->ab->Nat),I1 none 0 0 0 h1/\
 ∀(kF:OA) (jN:Nat) (kG:Nat) (n1:Int),∀h2:ab,I1 kF jN kG n1 h2->
 bif(decide (n1<16))then(
 C.kP cJ dE df n1 h2 λr1 h3=>
 ∃aX aK bJ,r1 = .slice aX aK bJ/\
 C.jn aX aK bJ h3 λr2 h4=>
 ∃n2 s1 b1,r2 = .tuple #[vI n2,.string s1,.bool b1]/\
 bif(!b1)then(
 K (.tuple #[.slice none 0 0,vI 140]) h4)else(
 bif(n2 != 0)then(
 List.length ([vI n1,.string s1,vI n2]:LV)=3/\
 aC [vI n1,.string s1,vI n2] 113 h4 λh5=>
 ∃aR,List.length aR=1*3/\ag h5 (some ⟨h4.size,0,none⟩) aR/\(∀v∈aR,v.oneCell'=true)/\
 aw mB 113 kF jN kG 1 aR h5 λfQ fj gT h6=>
 I1 fQ fj gT (IntKind.wrap .i64 (n1+1)) h6/\M1 fQ fj gT (IntKind.wrap .i64 (n1+1)) h6<M1 kF jN kG n1 h2)else(
 I1 kF jN kG (IntKind.wrap .i64 (n1+1)) h4/\M1 kF jN kG (IntKind.wrap .i64 (n1+1)) h4<M1 kF jN kG n1 h2)))else(
 K (.tuple #[.slice kF jN kG,vI 0]) h2))
theorem mv.ok{cJ dE df K h}(x:mv cJ dE df K h):C.mv cJ dE df h K:=fk (fun|5=>([0],[(4,.slice),(12,.int .i64)])|_=>([],[])) o0 Tryz.func138 x
def kP(cJ:OA)(dE:Nat)(df:Nat)(k1:Int)(K:KT)(h1:ab):Prop:=
 (0<=(IntKind.wrap .i64 (32*k1))/\(IntKind.wrap .i64 (32*k1))<=(IntKind.wrap .i64 ((IntKind.wrap .i64 (32*k1))+32))/\(IntKind.wrap .i64 ((IntKind.wrap .i64 (32*k1))+32))<=(IntKind.wrap .i64 ((IntKind.wrap .i64 (32*k1))+32))/\(IntKind.wrap .i64 ((IntKind.wrap .i64 (32*k1))+32))<=(df:Int))/\
 K (.slice (if(Int.toNat (IntKind.wrap .i64 ((IntKind.wrap .i64 (32*k1))+32)))=(Int.toNat (IntKind.wrap .i64 (32*k1)))then cJ else Option.map (Addr.add · (Int.toNat (IntKind.wrap .i64 (32*k1)))) cJ) ((Int.toNat (IntKind.wrap .i64 ((IntKind.wrap .i64 (32*k1))+32)))-(Int.toNat (IntKind.wrap .i64 (32*k1)))) ((Int.toNat (IntKind.wrap .i64 ((IntKind.wrap .i64 (32*k1))+32)))-(Int.toNat (IntKind.wrap .i64 (32*k1))))) h1
theorem kP.ok{cJ dE df k1 K h}(x:kP cJ dE df k1 K h):C.kP cJ dE df k1 h K:=fz Tryz.func143 x
def iI(f1:OA)(te:Int)(K:KT)(h1:ab):Prop:=
 ae f1 λp1=>
 ∃n1,cellOf h1 (Addr.add (p1.add 1) 3)=some (vI n1)/\
 bif(decide (te<n1))then(
 K (vI 100) h1)else(
 ae f1 λp2=>
 ∃n2,cellOf h1 (Addr.add (p2.add 1) 0)=some (vI n2)/\
 bif(decide (te>=n2))then(
 K (vI 100) h1)else(
 K (vI 0) h1))
theorem iI.ok{f1 te K h}(x:iI f1 te K h):C.iI f1 te h K:=fz Tryz.func151 x
def iA(s1:ByteArray)(K:KT)(h1:ab):Prop:=
 ∃(I1:Int->ab->Prop) (M1:Int->ab->Nat),I1 0 h1/\
 ∀(i1:Int),∀h2:ab,I1 i1 h2->
 bif(decide (i1<(s1.size:Int)))then(
 (0<=i1/\i1<(s1.size:Int))/\
 ∃b1:UInt8,s1.toList[Int.toNat i1]?=some b1/\
 bif(((UInt8.toNat b1:Nat):Int)==47)then(
 K (.bool false) h2)else(
 (0<=i1/\i1<(s1.size:Int))/\
 ∃b2:UInt8,s1.toList[Int.toNat i1]?=some b2/\
 bif(((UInt8.toNat b2:Nat):Int)==0)then(
 K (.bool false) h2)else(
 I1 (IntKind.wrap .i64 (i1+1)) h2/\M1 (IntKind.wrap .i64 (i1+1)) h2<M1 i1 h2)))else(
 bif(decide ((s1.size:Int)>=1))then(
 bif(decide ((s1.size:Int)<=27))then(
 bif(!(s1.toList==(mkStr [46]).toList))then(
 K (.bool (!(s1.toList==(mkStr [46,46]).toList))) h2)else(
 K (.bool false) h2))else(
 K (.bool false) h2))else(
 K (.bool false) h2))
theorem iA.ok{s1 K h}(x:iA s1 K h):C.iA s1 h K:=fk (fun|2=>([0],[(3,.int .i64)])|_=>([],[])) o0 Tryz.func157 x
def cR(i1:Int)(K:KT)(h1:ab):Prop:=
 aC [.int .u8 (IntKind.wrap .u8 ((IntKind.wrap .i64 (97+(Int.tmod (IntKind.wrap .i64 (Int.tdiv i1 26)) 26))))),.int .u8 (IntKind.wrap .u8 ((IntKind.wrap .i64 (97+(Int.tmod i1 26)))))] 5 h1 λh2=>
 ∃CW,aJ h2 (some ⟨h1.size,0,none⟩) 2 CW/\
 (((mkStr [110]).size+(mkStr CW).size:Nat):Int)<=9223372036854775807/\
 K (.string ((mkStr [110])++(mkStr CW))) h2
theorem cR.ok{i1 K h}(x:cR i1 K h):C.cR i1 h K:=fz Tryz.func158 x
def gP(s1:ByteArray)(K:KT)(h1:ab):Prop:=
 C.cL s1 h1 λr1 h2=>
 ∃aX aK bJ,r1 = .slice aX aK bJ/\
 ∃(I1:Int->ab->Prop) (M1:Int->ab->Nat),I1 0 h2/\
 ∀(i1:Int),∀h3:ab,I1 i1 h3->
 bif(decide (i1<(s1.size:Int)))then(
 (0<=i1/\i1<(s1.size:Int))/\
 ∃b1:UInt8,s1.toList[Int.toNat i1]?=some b1/\
 bif(((UInt8.toNat b1:Nat):Int)==0)then(
 K (.bool false) h3)else(
 I1 (IntKind.wrap .i64 (i1+1)) h3/\M1 (IntKind.wrap .i64 (i1+1)) h3<M1 i1 h3))else(
 ∃(I2:Int->ab->Prop) (M2:Int->ab->Nat),I2 0 h3/\
 ∀(n1:Int),∀h4:ab,I2 n1 h4->
 bif(decide (n1<(aK:Int)))then(
 (0<=n1/\n1<(aK:Int))/\
 ae aX λp1=>
 ∃s2,cellOf h4 (p1.add (Int.toNat n1))=some (.string s2)/\
 bif(decide ((s2.size:Int)>27))then(
 K (.bool false) h4)else(
 I2 (IntKind.wrap .i64 (n1+1)) h4/\M2 (IntKind.wrap .i64 (n1+1)) h4<M2 n1 h4))else(
 bif(decide ((s1.size:Int)>=1))then(
 bif(decide ((s1.size:Int)<=1024))then(
 K (.bool (decide ((aK:Int)<=32))) h4)else(
 K (.bool false) h4))else(
 K (.bool false) h4)))
theorem gP.ok{s1 K h}(x:gP s1 K h):C.gP s1 h K:=fk (fun|3=>([0,3],[(4,.int .i64)])|8=>([0,3,19,20],[(21,.int .i64)])|_=>([],[])) o0 Tryz.func159 x
def fT(r1:OA)(K:KT)(h1:ab):Prop:=
 aC [vI 1] 3 h1 λh2=>
 ae r1 λp1=>
 bQ (p1.add 0) (.slice (some ⟨h1.size,0,none⟩) 1 1) h2 λh3=>
 K (.tuple #[]) h3
theorem fT.ok{r1 K h}(x:fT r1 K h):C.fT r1 h K:=fz Tryz.func160 x
def jS(r1:OA)(K:KT)(h1:ab):Prop:=
 ae r1 λp1=>
 ∃aX aK bJ,cellOf h1 (p1.add 0)=some (.slice aX aK bJ)/\
 bif(decide ((aK:Int)>1))then(
 ae r1 λp2=>
 ∃fQ fj gT,cellOf h1 (p2.add 0)=some (.slice fQ fj gT)/\
 ae r1 λp3=>
 ∃j9 jO kH,cellOf h1 (p3.add 0)=some (.slice j9 jO kH)/\
 (0<=(IntKind.wrap .i64 ((jO:Int)-1))/\(IntKind.wrap .i64 ((jO:Int)-1))<=(gT:Int))/\
 ae r1 λp4=>
 bQ (p4.add 0) (.slice fQ (Int.toNat (IntKind.wrap .i64 ((jO:Int)-1))) gT) h1 λh2=>
 K (.tuple #[]) h2)else(
 K (.tuple #[]) h1)
theorem jS.ok{r1 K h}(x:jS r1 K h):C.jS r1 h K:=fk l0 (fun|1=>(.op 0 [] (.op 1 [] (.op 2 [] (.op 3 [] (.op 4 [] (.op 5 [] (.op 6 [] (.op 7 [] (.op 8 [] (.op 9 [] (.op 10 [] (.op 11 [] (.op 12 [] (.op 13 [] (.op 14 [] .nil)))))))))))))))|_=>.nil) Tryz.func161 x
def jl(w1:OA)(zk:Int)(n1:Int)(K:KT)(h1:ab):Prop:=
 ax abP 331 [.func (.func 225) #[] ⟨[]⟩,.func (.func 225) #[] ⟨[]⟩,.func (.func 226) #[] ⟨[]⟩,.func (.func 227) #[] ⟨[]⟩] 4 h1 λh3=>
 (0<=zk/\zk<(4:Int))/\
 ∃v1,cellOf h3 (Addr.add ⟨h1.size,0,none⟩ (Int.toNat zk))=some (v1)/\
 oV Tryz.prog v1 [.pointer w1,vI n1] h3 λr1 h4=>
 ∃b1 n2,r1 = .tuple #[.bool b1,vI n2]/\
 K (.tuple #[.bool b1,vI n2]) h4
theorem jl.ok{w1 zk n1 K h}(x:jl w1 zk n1 K h):C.jl w1 zk n1 h K:=fz Tryz.func162 x
def eI(aX:OA)(aK:Nat)(bJ:Nat)(K:KT)(h1:ab):Prop:=
 bif(Option.isNone aX)then(
 K (.slice none 0 0) h1)else(
 aC [] 3 h1 λh2=>
 ∃aR,List.length aR=aK*1/\ag h2 aX aR/\(∀v∈aR,v.oneCell'=true)/\
 aw qP 3 (some ⟨h1.size,0,none⟩) 0 0 aK aR h2 λfQ fj gT h3=>
 K (.slice fQ fj gT) h3)
theorem eI.ok{aX aK bJ K h}(x:eI aX aK bJ K h):C.eI aX aK bJ h K:=fz Tryz.func163 x
def dF(s1:ByteArray)(c1:Int)(K:KT)(h1:ab):Prop:=
 C.cA s1 c1 h1 λr1 h2=>
 ∃n1,r1 = vI n1/\
 K (vI n1) h2
theorem dF.ok{s1 c1 K h}(x:dF s1 c1 K h):C.dF s1 c1 h K:=fz Tryz.func164 x
def jm(g1:LV)(n1:Int)(K:KT)(h1:ab):Prop:=
 aC g1 25 h1 λh2=>
 ∃n2,cellOf h2 (Addr.add ⟨h1.size,0,none⟩ 4)=some (vI n2)/\
 C.eC n1 1 (IntKind.wrap .i64 (n2-1)) h2 λr1 h3=>
 ∃b1,r1 = .bool b1/\
 K (.bool b1) h3
theorem jm.ok{g1 n1 K h}(x:jm g1 n1 K h):C.jm g1 n1 h K:=fz Tryz.func165 x
def kQ(t1:OA)(g1:LV)(n1:Int)(K:KT)(h1:ab):Prop:=
 aC g1 25 h1 λh2=>
 ∃bV,List.length bV=5/\ai h2 ⟨h1.size,0,none⟩ bV/\
 C.j4 bV n1 h2 λr1 h3=>
 ∃n2 n3 n4,r1 = .tuple #[vI n2,vI n3,vI n4]/\
 bif(n4 != 0)then(
 K (.tuple #[vI 0,.slice none 0 0,vI 0,vI n4]) h3)else(
 C.eA t1 n2 h3 λr2 h4=>
 ∃aX aK bJ n5,r2 = .tuple #[.slice aX aK bJ,vI n5]/\
 K (.tuple #[vI n2,.slice aX aK bJ,vI n3,vI n5]) h4)
theorem kQ.ok{t1 g1 n1 K h}(x:kQ t1 g1 n1 K h):C.kQ t1 g1 n1 h K:=fz Tryz.func166 x
def j3(cJ:OA)(dE:Nat)(df:Nat)(K:KT)(h1:ab):Prop:=
 aC [.slice cJ dE df] 86 h1 λh2=>
 aC gC 123 h2 λh3=>
 ∃aX aK bJ,cellOf h3 ⟨h1.size,0,none⟩=some (.slice aX aK bJ)/\
 bif((aK:Int) != 64)then(
 ar ⟨h2.size,0,none⟩ gC 15 h3 λh4=>
 ∃bL,List.length bL=15/\ai h4 ⟨h2.size,0,none⟩ bL/\
 K (.tuple #[.agg ⟨bL⟩,vI 32]) h4)else(
 C.cB 0 1 (some ⟨h1.size,0,none⟩) h3 λr1 h5=>
 ∃n1,r1 = vI n1/\
 C.cB 2 2 (some ⟨h1.size,0,none⟩) h5 λr2 h6=>
 ∃n2,r2 = vI n2/\
 C.cB 4 4 (some ⟨h1.size,0,none⟩) h6 λr3 h7=>
 ∃n3,r3 = vI n3/\
 C.cB 48 4 (some ⟨h1.size,0,none⟩) h7 λr4 h8=>
 ∃n4,r4 = vI n4/\
 C.cB 52 4 (some ⟨h1.size,0,none⟩) h8 λr5 h9=>
 ∃n5,r5 = vI n5/\
 ax gC 123 [vI n1,vI n2,vI n3,vI 0,vI 0,vI 0,vI 0,vI 0,vI 0,vI 0,vI 0,vI 0,vI 0,vI n4,vI n5] 15 h9 λcg=>
 ∃(I1:Int->ab->Prop) (M1:Int->ab->Nat),I1 0 cg/\
 ∀(n6:Int),∀bb:ab,I1 n6 bb->
 bif(decide (n6<10))then(
 C.cB (IntKind.wrap .i64 (8+(IntKind.wrap .i64 (4*n6)))) 4 (some ⟨h1.size,0,none⟩) bb λr6 bU=>
 ∃n7,r6 = vI n7/\
 (0<=n6/\n6<(10:Int))/\
 bQ (Addr.add (Addr.add ⟨h9.size,0,none⟩ 3) (Int.toNat n6)) (vI n7) bU λgh=>
 I1 (IntKind.wrap .i64 (n6+1)) gh/\M1 (IntKind.wrap .i64 (n6+1)) gh<M1 n6 bb)else(
 ∃fQ fj gT,cellOf bb ⟨h1.size,0,none⟩=some (.slice fQ fj gT)/\
 C.mf fQ fj gT 1 1 bb λr7 fg=>
 ∃b1 n8,r7 = .tuple #[.bool b1,vI n8]/\
 ∃j9 jO kH,cellOf fg ⟨h1.size,0,none⟩=some (.slice j9 jO kH)/\
 C.mf j9 jO kH 56 8 fg λr8 iS=>
 ∃b2 n9,r8 = .tuple #[.bool b2,vI n9]/\
 bif(!b1)then(
 ar ⟨h2.size,0,none⟩ gC 15 iS λeM=>
 ∃di,List.length di=15/\ai eM ⟨h2.size,0,none⟩ di/\
 K (.tuple #[.agg ⟨di⟩,vI 111]) eM)else(
 bif(!b2)then(
 ar ⟨h2.size,0,none⟩ gC 15 iS λh18=>
 ∃fA,List.length fA=15/\ai h18 ⟨h2.size,0,none⟩ fA/\
 K (.tuple #[.agg ⟨fA⟩,vI 111]) h18)else(
 ∃bV,List.length bV=15/\ai iS ⟨h9.size,0,none⟩ bV/\
 C.nJ bV iS λr9 fO=>
 ∃b3,r9 = .bool b3/\
 bif(!b3)then(
 ar ⟨h2.size,0,none⟩ gC 15 fO λgY=>
 ∃jf,List.length jf=15/\ai gY ⟨h2.size,0,none⟩ jf/\
 K (.tuple #[.agg ⟨jf⟩,vI 111]) gY)else(
 ∃eO,List.length eO=15/\ai fO ⟨h9.size,0,none⟩ eO/\
 ar ⟨h2.size,0,none⟩ eO 15 fO λlx=>
 ∃lG,List.length lG=15/\ai lx ⟨h2.size,0,none⟩ lG/\
 K (.tuple #[.agg ⟨lG⟩,vI 0]) lx)))))
theorem j3.ok{cJ dE df K h}(x:j3 cJ dE df K h):C.j3 cJ dE df h K:=fk (fun|6=>([1,2,4,5],[(27,.int .i64)])|_=>([],[])) o0 Tryz.func167 x
def gQ(s1:ByteArray)(K:KT)(h1:ab):Prop:=
 ∃(I1:Int->ab->Prop) (M1:Int->ab->Nat),I1 0 h1/\
 ∀(i1:Int),∀h2:ab,I1 i1 h2->
 bif(decide (i1<(s1.size:Int)))then(
 (0<=i1/\i1<(s1.size:Int))/\
 ∃b1:UInt8,s1.toList[Int.toNat i1]?=some b1/\
 bif(((UInt8.toNat b1:Nat):Int)==0)then(
 K (.bool true) h2)else(
 I1 (IntKind.wrap .i64 (i1+1)) h2/\M1 (IntKind.wrap .i64 (i1+1)) h2<M1 i1 h2))else(
 K (.bool false) h2)
theorem gQ.ok{s1 K h}(x:gQ s1 K h):C.gQ s1 h K:=fk (fun|2=>([0],[(3,.int .i64)])|_=>([],[])) o0 Tryz.func169 x
def cT(s1:ByteArray)(K:KT)(h1:ab):Prop:=
 C.cw s1 h1 λr1 h2=>
 ∃aX aK bJ,r1 = .slice aX aK bJ/\
 ∃(I1:OA->Nat->Nat->Int->ab->Prop) (M1:OA->Nat->Nat->Int->ab->Nat),I1 none 0 0 0 h2/\
 ∀(kF:OA) (jN:Nat) (kG:Nat) (n1:Int),∀h3:ab,I1 kF jN kG n1 h3->
 bif(decide (n1<(aK:Int)))then(
 (0<=n1/\n1<(aK:Int))/\
 ae aX λp1=>
 ∃s2,cellOf h3 (p1.add (Int.toNat n1))=some (.string s2)/\
 bif(s2.toList==(mkStr [46]).toList)then(
 I1 kF jN kG (IntKind.wrap .i64 (n1+1)) h3/\M1 kF jN kG (IntKind.wrap .i64 (n1+1)) h3<M1 kF jN kG n1 h3)else(
 bif(decide ((s2.size:Int)>27))then(
 K (.tuple #[.slice none 0 0,.bool false]) h3)else(
 aC [.string s2] 9 h3 λh4=>
 ∃aR,List.length aR=1*1/\ag h4 (some ⟨h3.size,0,none⟩) aR/\(∀v∈aR,v.oneCell'=true)/\
 aw tN 9 kF jN kG 1 aR h4 λfQ fj gT h5=>
 I1 fQ fj gT (IntKind.wrap .i64 (n1+1)) h5/\M1 fQ fj gT (IntKind.wrap .i64 (n1+1)) h5<M1 kF jN kG n1 h3)))else(
 K (.tuple #[.slice kF jN kG,.bool (decide ((jN:Int)<=32))]) h3)
theorem cT.ok{s1 K h}(x:cT s1 K h):C.cT s1 h K:=fk (fun|3=>([8,9],[(4,.slice),(10,.int .i64)])|_=>([],[])) o0 Tryz.func170 x
def dy(w1:OA)(n1:Int)(K:KT)(h1:ab):Prop:=
 ae w1 λp1=>
 ∃n2,cellOf h1 (p1.add 10)=some (vI n2)/\
 ae w1 λp2=>
 bQ (p2.add 10) (vI (IntKind.wrap .i64 (n2+1))) h1 λh2=>
 ae w1 λp3=>
 ∃n3,cellOf h2 (p3.add 10)=some (vI n3)/\
 bif(decide (n3>8))then(
 K (vI 162) h2)else(
 ae w1 λp4=>
 ∃q1,cellOf h2 (p4.add 0)=some (.pointer q1)/\
 ae w1 λp5=>
 ∃bV,List.length bV=5/\ai h2 (p5.add 1) bV/\
 C.aY q1 bV n1 0 1024 h2 λr1 h3=>
 ∃s1 n4,r1 = .tuple #[.string s1,vI n4]/\
 bif(n4 != 0)then(
 K (vI n4) h3)else(
 C.cV s1 h3 λr2 h4=>
 ∃aX aK bJ b1 n5,r2 = .tuple #[.slice aX aK bJ,.bool b1,vI n5]/\
 bif(n5 != 0)then(
 K (vI n5) h4)else(
 ae w1 λp6=>
 ∃fQ fj gT,cellOf h4 (p6.add 7)=some (.slice fQ fj gT)/\
 aC [] 9 h4 λh5=>
 (cellOf h5 (p6.add 7)=some (.slice fQ fj gT))/\
 ∃aR,List.length aR=aK*1/\ag h5 aX aR/\(∀v∈aR,v.oneCell'=true)/\
 aw tN 9 (some ⟨h4.size,0,none⟩) 0 0 aK aR h5 λj9 jO kH h6=>
 (cellOf h6 (p6.add 7)=some (.slice fQ fj gT))/\
 ∃mW,List.length mW=fj*1/\ag h6 fQ mW/\(∀v∈mW,v.oneCell'=true)/\
 aw tN 9 j9 jO kH fj mW h6 λmL mJ mU h7=>
 ae w1 λp7=>
 bQ (p7.add 7) (.slice mL mJ mU) h7 λh8=>
 bif b1 then(
 aC [vI 1] 3 h8 λh9=>
 ae w1 λp8=>
 bQ (p8.add 6) (.slice (some ⟨h8.size,0,none⟩) 1 1) h9 λh10=>
 K (vI 0) h10)else(
 K (vI 0) h8))))
theorem dy.ok{w1 n1 K h}(x:dy w1 n1 K h):C.dy w1 n1 h K:=fk l0 (fun|4=>(.op 0 [] (.op 1 [] (.op 2 [] (.op 3 [] (.op 4 [] (.op 5 [] (.op 6 [] (.op 7 [] (.op 8 [] (.op 9 [] (.op 10 [] (.op 11 [] (.op 12 [] (.op 13 [] (.op 14 [] .nil)))))))))))))))|10=>(.op 0 [] (.op 2 [] (.op 4 [] (.op 5 [] (.op 6 [] (.op 7 [] (.op 1 [7] (.op 3 [7] (.op 8 [] (.op 9 [] (.op 10 [] (.op 11 [] .nil))))))))))))|_=>.nil) Tryz.func171 x
def cw.k1(s1:ByteArray)(kF:OA)(jN:Nat)(kG:Nat)(iQ:Int)(i1:Int)(h2:ab)(I1:OA->Nat->Nat->Int->Int->ab->Prop)(M1:OA->Nat->Nat->Int->Int->ab->Nat)(K:KT):Prop:=
 bif(decide (i1>iQ))then(
 (0<=iQ/\iQ<=i1/\i1<=(s1.size:Int))/\
 aC [.string (ByteArray.extract s1 (Int.toNat iQ) (Int.toNat i1))] 9 h2 λh3=>
 ∃aR,List.length aR=1*1/\ag h3 (some ⟨h2.size,0,none⟩) aR/\(∀v∈aR,v.oneCell'=true)/\
 aw tN 9 kF jN kG 1 aR h3 λaX aK bJ h4=>
 I1 aX aK bJ (IntKind.wrap .i64 (i1+1)) (IntKind.wrap .i64 (i1+1)) h4/\M1 aX aK bJ (IntKind.wrap .i64 (i1+1)) (IntKind.wrap .i64 (i1+1)) h4<M1 kF jN kG iQ i1 h2)else(
 I1 kF jN kG (IntKind.wrap .i64 (i1+1)) (IntKind.wrap .i64 (i1+1)) h2/\M1 kF jN kG (IntKind.wrap .i64 (i1+1)) (IntKind.wrap .i64 (i1+1)) h2<M1 kF jN kG iQ i1 h2)
def cw(s1:ByteArray)(K:KT)(h1:ab):Prop:=
 ∃(I1:OA->Nat->Nat->Int->Int->ab->Prop) (M1:OA->Nat->Nat->Int->Int->ab->Nat),I1 none 0 0 0 0 h1/\
 ∀(kF:OA) (jN:Nat) (kG:Nat) (iQ:Int) (i1:Int),∀h2:ab,I1 kF jN kG iQ i1 h2->
 bif(decide (i1<=(s1.size:Int)))then(
 bif(decide (i1<(s1.size:Int)))then(
 (0<=i1/\i1<(s1.size:Int))/\
 ∃b1:UInt8,s1.toList[Int.toNat i1]?=some b1/\
 bif(((UInt8.toNat b1:Nat):Int) != 47)then(
 I1 kF jN kG iQ (IntKind.wrap .i64 (i1+1)) h2/\M1 kF jN kG iQ (IntKind.wrap .i64 (i1+1)) h2<M1 kF jN kG iQ i1 h2)else(
 cw.k1 s1 kF jN kG iQ i1 h2 I1 M1 K))else(
 cw.k1 s1 kF jN kG iQ i1 h2 I1 M1 K))else(
 K (.slice kF jN kG) h2)
theorem cw.ok{s1 K h}(x:cw s1 K h):C.cw s1 h K:=fk (fun|4=>([0],[(3,.slice),(4,.int .i64),(5,.int .i64)])|_=>([],[])) o0 Tryz.func172 x
def dR.k1(s1:ByteArray)(h1:ab)(K:KT):Prop:=
 ∃(I1:Int->ab->Prop) (M1:Int->ab->Nat),I1 0 h1/\
 ∀(i1:Int),∀h2:ab,I1 i1 h2->
 bif(decide (i1<(s1.size:Int)))then(
 (0<=i1/\i1<(s1.size:Int))/\
 ∃b1:UInt8,s1.toList[Int.toNat i1]?=some b1/\
 bif(((UInt8.toNat b1:Nat):Int)==47)then(
 K (.bool false) h2)else(
 (0<=i1/\i1<(s1.size:Int))/\
 ∃b2:UInt8,s1.toList[Int.toNat i1]?=some b2/\
 bif(((UInt8.toNat b2:Nat):Int)==0)then(
 K (.bool false) h2)else(
 I1 (IntKind.wrap .i64 (i1+1)) h2/\M1 (IntKind.wrap .i64 (i1+1)) h2<M1 i1 h2)))else(
 K (.bool true) h2)
def dR(s1:ByteArray)(K:KT)(h1:ab):Prop:=
 bif(decide ((s1.size:Int)<1))then(
 K (.bool false) h1)else(
 bif(decide ((s1.size:Int)>27))then(
 K (.bool false) h1)else(
 bif(s1.toList==(mkStr [46]).toList)then(
 K (.bool false) h1)else(
 bif(s1.toList==(mkStr [46,46]).toList)then(
 K (.bool false) h1)else(
 dR.k1 s1 h1 K))))
theorem dR.ok{s1 K h}(x:dR s1 K h):C.dR s1 h K:=fk (fun|4=>([0],[(3,.int .i64)])|_=>([],[])) o0 Tryz.func173 x
def iJ(t1:OA)(g1:LV)(n1:Int)(aZ:ByteArray)(K:KT)(h1:ab):Prop:=
 aC g1 25 h1 λh2=>
 aC gC 123 h2 λh3=>
 aC zP 113 h3 λh4=>
 ∃bV,List.length bV=5/\ai h4 ⟨h1.size,0,none⟩ bV/\
 C.gR t1 bV n1 h4 λr1 h5=>
 ∃eO n2,r1 = .tuple #[.agg ⟨eO⟩,vI n2]/\
 ax gC 123 eO 15 h5 λh7=>
 bif(n2 != 0)then(
 ∃gV,List.length gV=15/\ai h7 ⟨h5.size,0,none⟩ gV/\
 ar ⟨h2.size,0,none⟩ gV 15 h7 λh8=>
 ar ⟨h3.size,0,none⟩ [vI 0,.string (mkStr []),vI 0] 3 h8 λh9=>
 ∃bL,List.length bL=15/\ai h9 ⟨h2.size,0,none⟩ bL/\
 ∃di,List.length di=3/\ai h9 ⟨h3.size,0,none⟩ di/\
 K (.tuple #[.agg ⟨bL⟩,.agg ⟨di⟩,vI n2]) h9)else(
 ∃lN,List.length lN=5/\ai h7 ⟨h1.size,0,none⟩ lN/\
 ∃kx,List.length kx=15/\ai h7 ⟨h5.size,0,none⟩ kx/\
 C.iB t1 lN kx aZ h7 λr2 h10=>
 ∃aX aK bJ n3,r2 = .tuple #[.slice aX aK bJ,vI n3]/\
 bif(n3 != 0)then(
 ∃pB,List.length pB=15/\ai h10 ⟨h5.size,0,none⟩ pB/\
 ar ⟨h2.size,0,none⟩ pB 15 h10 λcg=>
 ar ⟨h3.size,0,none⟩ [vI 0,.string (mkStr []),vI 0] 3 cg λbb=>
 ∃fA,List.length fA=15/\ai bb ⟨h2.size,0,none⟩ fA/\
 ∃jf,List.length jf=3/\ai bb ⟨h3.size,0,none⟩ jf/\
 K (.tuple #[.agg ⟨fA⟩,.agg ⟨jf⟩,vI n3]) bb)else(
 ∃(I1:Int->ab->Prop) (M1:Int->ab->Nat),I1 0 h10/\
 ∀(n4:Int),∀bU:ab,I1 n4 bU->
 bif(decide (n4<(aK:Int)))then(
 (0<=n4/\n4<(aK:Int))/\
 ae aX λp1=>
 ∃GV,List.length GV=3/\ai bU (p1.add ((Int.toNat n4)*3)) GV/\
 ax zP 113 GV 3 bU λfg=>
 ∃s1,cellOf fg (aS bU 1)=some (.string s1)/\
 bif(s1.toList==aZ.toList)then(
 ∃RK,List.length RK=15/\ai fg ⟨h5.size,0,none⟩ RK/\
 ∃Ox,List.length Ox=3/\ai fg ⟨bU.size,0,none⟩ Ox/\
 ar ⟨h2.size,0,none⟩ RK 15 fg λiS=>
 (List.length (Ox:LV)=3/\ai iS ⟨bU.size,0,none⟩ Ox)/\
 ar ⟨h3.size,0,none⟩ Ox 3 iS λeM=>
 ∃lG,List.length lG=15/\ai eM ⟨h2.size,0,none⟩ lG/\
 ∃tf,List.length tf=3/\ai eM ⟨h3.size,0,none⟩ tf/\
 K (.tuple #[.agg ⟨lG⟩,.agg ⟨tf⟩,vI 0]) eM)else(
 I1 (IntKind.wrap .i64 (n4+1)) fg/\M1 (IntKind.wrap .i64 (n4+1)) fg<M1 n4 bU))else(
 ∃Jj,List.length Jj=15/\ai bU ⟨h5.size,0,none⟩ Jj/\
 ar ⟨h2.size,0,none⟩ Jj 15 bU λh18=>
 ar ⟨h3.size,0,none⟩ [vI 0,.string (mkStr []),vI 0] 3 h18 λfO=>
 ∃CV,List.length CV=15/\ai fO ⟨h2.size,0,none⟩ CV/\
 ∃MR,List.length MR=3/\ai fO ⟨h3.size,0,none⟩ MR/\
 K (.tuple #[.agg ⟨CV⟩,.agg ⟨MR⟩,vI 160]) fO)))
theorem iJ.ok{t1 g1 n1 aZ K h}(x:iJ t1 g1 n1 aZ K h):C.iJ t1 g1 n1 aZ h K:=fk (fun|8=>([3,8,9,11,41,42],[(43,.int .i64)])|_=>([],[])) (fun|11=>(.op 0 [] (.op 1 [] (.op 2 [1] (.op 3 [] (.op 4 [] .nil)))))|_=>.nil) Tryz.func174 x
def dU.k1(n1:Int)(h1:ab)(h2:ab)(K:KT):Prop:=
 ∃n3,cellOf h2 (aS h1 2)=some (vI n3)/\
 K (.tuple #[vI (IntKind.wrap .i64 (n3+(IntKind.wrap .i64 (Int.tdiv n1 8)))),vI (IntKind.wrap .i64 ((Int.tmod n1 8)*64)),vI 0]) h2
def dU(g1:LV)(n1:Int)(K:KT)(h1:ab):Prop:=
 aC g1 25 h1 λh2=>
 bif(decide (n1<1))then(
 K (.tuple #[vI 0,vI 0,vI 110]) h2)else(
 ∃n2,cellOf h2 (aS h1 4)=some (vI n2)/\
 bif(decide (n1>=n2))then(
 K (.tuple #[vI 0,vI 0,vI 110]) h2)else(
 dU.k1 n1 h1 h2 K))
theorem dU.ok{g1 n1 K h}(x:dU g1 n1 K h):C.dU g1 n1 h K:=fz Tryz.func175 x
def cy.k1(cJ:OA)(dE:Nat)(df:Nat)(h1:ab)(x1:OA)(h9:ab)(K:KT):Prop:=
 ∃(I1:Int->ab->Prop) (M1:Int->ab->Nat),I1 0 h9/\
 ∀(i1:Int),∀h10:ab,I1 i1 h10->
 bif(decide (i1<10))then(
 (0<=(IntKind.wrap .i64 (8+(IntKind.wrap .i64 (4*i1))))/\(IntKind.wrap .i64 (8+(IntKind.wrap .i64 (4*i1))))<=(IntKind.wrap .i64 (12+(IntKind.wrap .i64 (4*i1))))/\(IntKind.wrap .i64 (12+(IntKind.wrap .i64 (4*i1))))<=(df:Int))/\
 C.aO (if df=(Int.toNat (IntKind.wrap .i64 (8+(IntKind.wrap .i64 (4*i1)))))then cJ else Option.map (Addr.add · (Int.toNat (IntKind.wrap .i64 (8+(IntKind.wrap .i64 (4*i1)))))) cJ) ((Int.toNat (IntKind.wrap .i64 (12+(IntKind.wrap .i64 (4*i1)))))-(Int.toNat (IntKind.wrap .i64 (8+(IntKind.wrap .i64 (4*i1)))))) (df-(Int.toNat (IntKind.wrap .i64 (8+(IntKind.wrap .i64 (4*i1)))))) h10 λr4 cg=>
 ∃n4,r4 = vI n4/\
 ae x1 λp1=>
 (0<=i1/\i1<(10:Int))/\
 bQ (Addr.add (p1.add 3) (Int.toNat i1)) (vI n4) cg λbb=>
 I1 (IntKind.wrap .i64 (i1+1)) bb/\M1 (IntKind.wrap .i64 (i1+1)) bb<M1 i1 h10)else(
 (0<=(48:Int)/\(48:Int)<=(52:Int)/\(52:Int)<=(df:Int))/\
 C.aO (if df=(Int.toNat 48)then cJ else Option.map (Addr.add · (Int.toNat 48)) cJ) ((Int.toNat 52)-(Int.toNat 48)) (df-(Int.toNat 48)) h10 λr5 bU=>
 ∃n5,r5 = vI n5/\
 ae x1 λp2=>
 bQ (p2.add 13) (vI n5) bU λgh=>
 (0<=(52:Int)/\(52:Int)<=(56:Int)/\(56:Int)<=(df:Int))/\
 C.aO (if df=(Int.toNat 52)then cJ else Option.map (Addr.add · (Int.toNat 52)) cJ) ((Int.toNat 56)-(Int.toNat 52)) (df-(Int.toNat 52)) gh λr6 fg=>
 ∃n6,r6 = vI n6/\
 ae x1 λp3=>
 bQ (p3.add 14) (vI n6) fg λiS=>
 ae x1 λp4=>
 ∃bV,List.length bV=15/\ai iS p4 bV/\
 C.gD bV iS λr7 eM=>
 ∃aX aK bJ n7,r7 = .tuple #[.slice aX aK bJ,vI n7]/\
 bif(n7 != 0)then(
 ar ⟨h1.size,0,none⟩ gC 15 eM λh18=>
 ∃di,List.length di=15/\ai h18 ⟨h1.size,0,none⟩ di/\
 K (.tuple #[.agg ⟨di⟩,vI 111]) h18)else(
 ∃CW,aJ eM aX aK CW/\
 ∃bs2,aJ eM cJ dE bs2/\
 bif(!((mkStr CW).toList==(mkStr bs2).toList))then(
 ar ⟨h1.size,0,none⟩ gC 15 eM λfO=>
 ∃fA,List.length fA=15/\ai fO ⟨h1.size,0,none⟩ fA/\
 K (.tuple #[.agg ⟨fA⟩,vI 111]) fO)else(
 ae x1 λp5=>
 ∃eO,List.length eO=15/\ai eM p5 eO/\
 ar ⟨h1.size,0,none⟩ eO 15 eM λgY=>
 ∃jf,List.length jf=15/\ai gY ⟨h1.size,0,none⟩ jf/\
 K (.tuple #[.agg ⟨jf⟩,vI 0]) gY)))
def cy(cJ:OA)(dE:Nat)(df:Nat)(K:KT)(h1:ab):Prop:=
 aC gC 123 h1 λh2=>
 bif((dE:Int) != 64)then(
 ar ⟨h1.size,0,none⟩ gC 15 h2 λh3=>
 ∃bL,List.length bL=15/\ai h3 ⟨h1.size,0,none⟩ bL/\
 K (.tuple #[.agg ⟨bL⟩,vI 32]) h3)else(
 (0<=(0:Int)/\(0:Int)<=(1:Int)/\(1:Int)<=(df:Int))/\
 (0<=(2:Int)/\(2:Int)<=(4:Int)/\(4:Int)<=(df:Int))/\
 (0<=(4:Int)/\(4:Int)<=(8:Int)/\(8:Int)<=(df:Int))/\
 (
 C.aO (if df=(Int.toNat 0)then cJ else Option.map (Addr.add · (Int.toNat 0)) cJ) ((Int.toNat 1)-(Int.toNat 0)) (df-(Int.toNat 0)) h2 λr1 h4=>
 ∃n1,r1 = vI n1/\
 (
 C.aO (if df=(Int.toNat 2)then cJ else Option.map (Addr.add · (Int.toNat 2)) cJ) ((Int.toNat 4)-(Int.toNat 2)) (df-(Int.toNat 2)) h4 λr2 h5=>
 ∃n2,r2 = vI n2/\
 (
 C.aO (if df=(Int.toNat 4)then cJ else Option.map (Addr.add · (Int.toNat 4)) cJ) ((Int.toNat 8)-(Int.toNat 4)) (df-(Int.toNat 4)) h5 λr3 h6=>
 ∃n3,r3 = vI n3/\
 ax gC 123 [vI n1,vI n2,vI n3,vI 0,vI 0,vI 0,vI 0,vI 0,vI 0,vI 0,vI 0,vI 0,vI 0,vI 0,vI 0] 15 h6 λh8=>
 cy.k1 cJ dE df h1 (some ⟨h6.size,0,none⟩) h8 K)/\
 aC gC 123 h5 λlx=>
 C.aO (if df=(Int.toNat 4)then cJ else Option.map (Addr.add · (Int.toNat 4)) cJ) ((Int.toNat 8)-(Int.toNat 4)) (df-(Int.toNat 4)) lx λr8 jC=>
 ∃n8,r8 = vI n8/\
 ar ⟨h5.size,0,none⟩ [vI n1,vI n2,vI n8,vI 0,vI 0,vI 0,vI 0,vI 0,vI 0,vI 0,vI 0,vI 0,vI 0,vI 0,vI 0] 15 jC λlu=>
 cy.k1 cJ dE df h1 (some ⟨h5.size,0,none⟩) lu K)/\
 aC gC 123 h4 λpz=>
 C.aO (if df=(Int.toNat 2)then cJ else Option.map (Addr.add · (Int.toNat 2)) cJ) ((Int.toNat 4)-(Int.toNat 2)) (df-(Int.toNat 2)) pz λr9 jv=>
 ∃n9,r9 = vI n9/\
 C.aO (if df=(Int.toNat 4)then cJ else Option.map (Addr.add · (Int.toNat 4)) cJ) ((Int.toNat 8)-(Int.toNat 4)) (df-(Int.toNat 4)) jv λCL jG=>
 ∃n10,CL = vI n10/\
 ar ⟨h4.size,0,none⟩ [vI n1,vI n9,vI n10,vI 0,vI 0,vI 0,vI 0,vI 0,vI 0,vI 0,vI 0,vI 0,vI 0,vI 0,vI 0] 15 jG λsb=>
 cy.k1 cJ dE df h1 (some ⟨h4.size,0,none⟩) sb K)/\
 aC gC 123 h2 λog=>
 C.aO (if df=(Int.toNat 0)then cJ else Option.map (Addr.add · (Int.toNat 0)) cJ) ((Int.toNat 1)-(Int.toNat 0)) (df-(Int.toNat 0)) og λPu Al=>
 ∃n11,Pu = vI n11/\
 C.aO (if df=(Int.toNat 2)then cJ else Option.map (Addr.add · (Int.toNat 2)) cJ) ((Int.toNat 4)-(Int.toNat 2)) (df-(Int.toNat 2)) Al λwm nz=>
 ∃n12,wm = vI n12/\
 C.aO (if df=(Int.toNat 4)then cJ else Option.map (Addr.add · (Int.toNat 4)) cJ) ((Int.toNat 8)-(Int.toNat 4)) (df-(Int.toNat 4)) nz λr13 sT=>
 ∃n13,r13 = vI n13/\
 ar ⟨h2.size,0,none⟩ [vI n11,vI n12,vI n13,vI 0,vI 0,vI 0,vI 0,vI 0,vI 0,vI 0,vI 0,vI 0,vI 0,vI 0,vI 0] 15 sT λpj=>
 cy.k1 cJ dE df h1 (some ⟨h2.size,0,none⟩) pj K)
theorem cy.ok{cJ dE df K h}(x:cy cJ dE df K h):C.cy cJ dE df h K:=fk (fun|5=>([0,2,4],[(5,.int .i64)])|_=>([],[])) (fun|3=>(.op 0 [] (.op 1 [] (.op 3 [] (.op 4 [] (.op 6 [] (.op 7 [] (.alt 2 [] (.alt 5 [] (.alt 8 [] (.op 9 [] (.op 10 [] (.op 11 [] .nil))) (.op 10 [] (.op 8 [] (.op 9 [] (.op 11 [] .nil))))) (.op 10 [] (.op 5 [] (.op 8 [] (.op 9 [] (.op 11 [] .nil)))))) (.op 10 [] (.op 2 [] (.op 5 [] (.op 8 [] (.op 9 [] (.op 11 [] .nil)))))))))))))|_=>.nil) Tryz.func176 x
def gR(t1:OA)(g1:LV)(n1:Int)(K:KT)(h1:ab):Prop:=
 aC g1 25 h1 λh2=>
 aC gC 123 h2 λh3=>
 ∃bV,List.length bV=5/\ai h3 ⟨h1.size,0,none⟩ bV/\
 C.eY t1 bV n1 h3 λr1 h4=>
 ∃eO n2,r1 = .tuple #[.agg ⟨eO⟩,vI n2]/\
 ax gC 123 eO 15 h4 λh6=>
 bif(n2 != 0)then(
 ar ⟨h2.size,0,none⟩ gC 15 h6 λh7=>
 ∃bL,List.length bL=15/\ai h7 ⟨h2.size,0,none⟩ bL/\
 K (.tuple #[.agg ⟨bL⟩,vI n2]) h7)else(
 ∃n3,cellOf h6 (aS h4 0)=some (vI n3)/\
 bif(n3==0)then(
 ar ⟨h2.size,0,none⟩ gC 15 h6 λh8=>
 ∃di,List.length di=15/\ai h8 ⟨h2.size,0,none⟩ di/\
 K (.tuple #[.agg ⟨di⟩,vI 110]) h8)else(
 ∃n4,cellOf h6 (aS h4 0)=some (vI n4)/\
 bif(n4 != 2)then(
 ar ⟨h2.size,0,none⟩ gC 15 h6 λh9=>
 ∃fA,List.length fA=15/\ai h9 ⟨h2.size,0,none⟩ fA/\
 K (.tuple #[.agg ⟨fA⟩,vI 161]) h9)else(
 ∃gV,List.length gV=15/\ai h6 ⟨h4.size,0,none⟩ gV/\
 ar ⟨h2.size,0,none⟩ gV 15 h6 λh10=>
 ∃jf,List.length jf=15/\ai h10 ⟨h2.size,0,none⟩ jf/\
 K (.tuple #[.agg ⟨jf⟩,vI 0]) h10)))
theorem gR.ok{t1 g1 n1 K h}(x:gR t1 g1 n1 K h):C.gR t1 g1 n1 h K:=fz Tryz.func177 x
def iB(t1:OA)(g1:LV)(x1:LV)(aZ:ByteArray)(K:KT)(h1:ab):Prop:=
 aC g1 25 h1 λh2=>
 aC x1 123 h2 λh3=>
 ∃(I1:OA->Nat->Nat->Int->ab->Prop) (M1:OA->Nat->Nat->Int->ab->Nat),I1 none 0 0 0 h3/\
 ∀(kF:OA) (jN:Nat) (kG:Nat) (k1:Int),∀h4:ab,I1 kF jN kG k1 h4->
 ∃n1,cellOf h4 (aS h2 2)=some (vI n1)/\
 bif(decide (k1<(IntKind.wrap .i64 (Int.tdiv n1 512))))then(
 ∃bV,List.length bV=5/\ai h4 ⟨h1.size,0,none⟩ bV/\
 ∃eO,List.length eO=15/\ai h4 ⟨h2.size,0,none⟩ eO/\
 C.eZ t1 bV eO k1 h4 λr1 h5=>
 ∃aX aK bJ n2,r1 = .tuple #[.slice aX aK bJ,vI n2]/\
 bif(n2 != 0)then(
 K (.tuple #[.slice none 0 0,vI n2]) h5)else(
 ∃aR,List.length aR=aK*3/\ag h5 aX aR/\(∀v∈aR,v.oneCell'=true)/\
 aw mB 113 kF jN kG aK aR h5 λfQ fj gT h6=>
 ∃(I2:Int->ab->Prop) (M2:Int->ab->Nat),I2 0 h6/\
 ∀(n3:Int),∀h7:ab,I2 n3 h7->
 bif(decide (n3<(aK:Int)))then(
 (0<=n3/\n3<(aK:Int))/\
 ae aX λp1=>
 ∃gV,List.length gV=3/\ai h7 (p1.add ((Int.toNat n3)*3)) gV/\
 ax zP 113 gV 3 h7 λh9=>
 ∃s1,cellOf h9 (aS h7 1)=some (.string s1)/\
 bif(s1.toList==aZ.toList)then(
 K (.tuple #[.slice fQ fj gT,vI 0]) h9)else(
 I2 (IntKind.wrap .i64 (n3+1)) h9/\M2 (IntKind.wrap .i64 (n3+1)) h9<M2 n3 h7))else(
 I1 fQ fj gT (IntKind.wrap .i64 (k1+1)) h7/\M1 fQ fj gT (IntKind.wrap .i64 (k1+1)) h7<M1 kF jN kG k1 h4)))else(
 K (.tuple #[.slice kF jN kG,vI 0]) h4)
theorem iB.ok{t1 g1 x1 aZ K h}(x:iB t1 g1 x1 aZ K h):C.iB t1 g1 x1 aZ h K:=fk (fun|3=>([0,3,5,6],[(10,.slice),(11,.int .i64)])|10=>([0,3,5,6,10,11,37,38],[(39,.int .i64)])|_=>([],[])) o0 Tryz.func178 x
def dS.k1(gu:Value)(iY:OA)(gv:Int)(h2:ab)(I1:Int->ab->Prop)(M1:Int->ab->Nat)(PB:Int)(h4:ab)(K:KT):Prop:=
 ae iY λp5=>
 ∃s5,cellOf h4 p5=some (.string s5)/\
 (0<=gv/\gv<=PB/\PB<=(s5.size:Int))/\
 oV Tryz.prog gu [.string (ByteArray.extract s5 (Int.toNat gv) (Int.toNat PB))] h4 λr1 h5=>
 ∃b3,r1 = .bool b3/\
 bif(!b3)then(
 K (.tuple #[]) h5)else(
 I1 PB h5/\M1 PB h5<M1 gv h2)
def dS(gu:Value)(iY:OA)(K:KT)(h1:ab):Prop:=
 ∃(I1:Int->ab->Prop) (M1:Int->ab->Nat),I1 0 h1/\
 ∀(gv:Int),∀h2:ab,I1 gv h2->
 ae iY λp1=>
 ∃s1,cellOf h2 p1=some (.string s1)/\
 bif(decide (gv<(s1.size:Int)))then(
 ae iY λp2=>
 ∃s2,cellOf h2 p2=some (.string s2)/\
 (0<=gv/\gv<(s2.size:Int))/\
 ∃b1:UInt8,s2.toList[Int.toNat gv]?=some b1/\
 bif(((UInt8.toNat b1:Nat):Int)==47)then(
 I1 (IntKind.wrap .i64 (gv+1)) h2/\M1 (IntKind.wrap .i64 (gv+1)) h2<M1 gv h2)else(
 ∃(I2:Int->ab->Prop) (M2:Int->ab->Nat),I2 gv h2/\
 ∀(CX:Int),∀h3:ab,I2 CX h3->
 ae iY λp3=>
 ∃s3,cellOf h3 p3=some (.string s3)/\
 bif(decide (CX<(s3.size:Int)))then(
 ae iY λp4=>
 ∃s4,cellOf h3 p4=some (.string s4)/\
 (0<=CX/\CX<(s4.size:Int))/\
 ∃b2:UInt8,s4.toList[Int.toNat CX]?=some b2/\
 bif(((UInt8.toNat b2:Nat):Int) != 47)then(
 I2 (IntKind.wrap .i64 (CX+1)) h3/\M2 (IntKind.wrap .i64 (CX+1)) h3<M2 CX h3)else(
 dS.k1 gu iY gv h2 I1 M1 CX h3 K))else(
 dS.k1 gu iY gv h2 I1 M1 CX h3 K)))else(
 K (.tuple #[]) h2)
theorem dS.ok{gu iY K h}(x:dS gu iY K h):C.dS gu iY h K:=fk (fun|1=>([0,1],[(3,.int .i64)])|5=>([0,1,3],[(4,.int .i64)])|_=>([],[])) o0 Tryz.func181 x
def fy(d1:OA)(K:KT)(h1:ab):Prop:=
 ae d1 λp1=>
 ∃aX aK bJ,cellOf h1 (p1.add 0)=some (.slice aX aK bJ)/\
 K (vI (aK:Int)) h1
theorem fy.ok{d1 K h}(x:fy d1 K h):C.fy d1 h K:=fz Tryz.func187 x
def cU(aX:OA)(aK:Nat)(bJ:Nat)(K:KT)(h1:ab):Prop:=
 bif(Option.isNone aX)then(
 K (.slice none 0 0) h1)else(
 aC [] 5 h1 λh2=>
 ∃aR,List.length aR=aK*1/\ag h2 aX aR/\(∀v∈aR,v.oneCell'=true)/\
 aw yx 5 (some ⟨h1.size,0,none⟩) 0 0 aK aR h2 λfQ fj gT h3=>
 K (.slice fQ fj gT) h3)
theorem cU.ok{aX aK bJ K h}(x:cU aX aK bJ K h):C.cU aX aK bJ h K:=fz Tryz.func189 x
def fP.k1(h1:ab)(h7:ab)(K:KT):Prop:=
 ∃n4,cellOf h7 (aS h1 0)=some (vI n4)/\
 bif(n4==0)then(
 ∃bV,List.length bV=15/\ai h7 ⟨h1.size,0,none⟩ bV/\
 dv [(.int .i64),(.int .i64),(.int .i64),(.int .i64),(.int .i64),(.int .i64),(.int .i64),(.int .i64),(.int .i64),(.int .i64),(.int .i64),(.int .i64),(.int .i64),(.int .i64),(.int .i64)] bV gC=true/\
 K (.bool (dw bV gC)) h7)else(
 bif(n4==1)then(
 ∃n5,cellOf h7 (aS h1 1)=some (vI n5)/\
 C.bK n5 0 1000 h7 λr4 h8=>
 ∃b4,r4 = .bool b4/\
 bif b4 then(
 ∃n6,cellOf h8 (aS h1 2)=some (vI n6)/\
 C.bK n6 0 8459264 h8 λr5 h9=>
 ∃b5,r5 = .bool b5/\
 K (.bool b5) h9)else(
 K (.bool false) h8))else(
 bif(n4==2)then(
 ∃n7,cellOf h7 (aS h1 1)=some (vI n7)/\
 C.bK n7 2 65535 h7 λr6 h10=>
 ∃b6,r6 = .bool b6/\
 bif b6 then(
 ∃n8,cellOf h10 (aS h1 2)=some (vI n8)/\
 C.bK n8 0 8459264 h10 λr7 cg=>
 ∃b7,r7 = .bool b7/\
 bif b7 then(
 ∃n9,cellOf cg (aS h1 2)=some (vI n9)/\
 K (.bool ((Int.tmod n9 512)==0)) cg)else(
 K (.bool false) cg))else(
 K (.bool false) h10))else(
 bif(n4==3)then(
 ∃n10,cellOf h7 (aS h1 1)=some (vI n10)/\
 C.bK n10 1 1000 h7 λr8 bb=>
 ∃b8,r8 = .bool b8/\
 bif b8 then(
 ∃n11,cellOf bb (aS h1 2)=some (vI n11)/\
 C.bK n11 1 1024 bb λr9 bU=>
 ∃b9,r9 = .bool b9/\
 K (.bool b9) bU)else(
 K (.bool false) bb))else(
 K (.bool false) h7))))
def fP(x1:LV)(K:KT)(h1:ab):Prop:=
 aC x1 123 h1 λh2=>
 ∃(I1:Int->ab->Prop) (M1:Int->ab->Nat),I1 0 h2/\
 ∀(i1:Int),∀h3:ab,I1 i1 h3->
 bif(decide (i1<10))then(
 (0<=i1/\i1<(10:Int))/\
 ∃n1,cellOf h3 (Addr.add (Addr.add ⟨h1.size,0,none⟩ 3) (Int.toNat i1))=some (vI n1)/\
 C.bK n1 0 4294967295 h3 λr1 h4=>
 ∃b1,r1 = .bool b1/\
 bif(!b1)then(
 K (.bool false) h4)else(
 I1 (IntKind.wrap .i64 (i1+1)) h4/\M1 (IntKind.wrap .i64 (i1+1)) h4<M1 i1 h3))else(
 ∃n2,cellOf h3 (aS h1 13)=some (vI n2)/\
 C.bK n2 0 4294967295 h3 λr2 h5=>
 ∃b2,r2 = .bool b2/\
 bif(!b2)then(
 K (.bool false) h5)else(
 ∃n3,cellOf h5 (aS h1 14)=some (vI n3)/\
 C.bK n3 0 4294967295 h5 λr3 h6=>
 ∃b3,r3 = .bool b3/\
 bif(!b3)then(
 K (.bool false) h6)else(
 fP.k1 h1 h6 K)))
theorem fP.ok{x1 K h}(x:fP x1 K h):C.fP x1 h K:=fk (fun|2=>([1],[(3,.int .i64)])|_=>([],[])) o0 Tryz.func190 x
def iK(x1:LV)(K:KT)(h1:ab):Prop:=
 aC x1 123 h1 λh2=>
 ∃n1,cellOf h2 (aS h1 0)=some (vI n1)/\
 aC [.int .u8 (IntKind.wrap .u8 (n1)),.int .u8 0] 5 h2 λh3=>
 ∃n2,cellOf h3 (aS h1 1)=some (vI n2)/\
 C.fe n2 2 h3 λr1 h4=>
 ∃aX aK bJ,r1 = .slice aX aK bJ/\
 ∃aR,List.length aR=aK*1/\ag h4 aX aR/\(∀v∈aR,v.oneCell'=true)/\
 aw yx 5 (some ⟨h2.size,0,none⟩) 2 2 aK aR h4 λfQ fj gT h5=>
 ∃n3,cellOf h5 (aS h1 2)=some (vI n3)/\
 C.fe n3 4 h5 λr2 h6=>
 ∃j9 jO kH,r2 = .slice j9 jO kH/\
 ∃mW,List.length mW=jO*1/\ag h6 j9 mW/\(∀v∈mW,v.oneCell'=true)/\
 aw yx 5 fQ fj gT jO mW h6 λmL mJ mU h7=>
 ∃(I1:OA->Nat->Nat->Int->ab->Prop) (M1:OA->Nat->Nat->Int->ab->Nat),I1 mL mJ mU 0 h7/\
 ∀(cJ:OA) (dE:Nat) (df:Nat) (i1:Int),∀h8:ab,I1 cJ dE df i1 h8->
 bif(decide (i1<10))then(
 (0<=i1/\i1<(10:Int))/\
 ∃n4,cellOf h8 (Addr.add (Addr.add ⟨h1.size,0,none⟩ 3) (Int.toNat i1))=some (vI n4)/\
 C.fe n4 4 h8 λr3 h9=>
 ∃Am zQ Ba,r3 = .slice Am zQ Ba/\
 ∃sg,List.length sg=zQ*1/\ag h9 Am sg/\(∀v∈sg,v.oneCell'=true)/\
 aw yx 5 cJ dE df zQ sg h9 λMD GW ME h10=>
 I1 MD GW ME (IntKind.wrap .i64 (i1+1)) h10/\M1 MD GW ME (IntKind.wrap .i64 (i1+1)) h10<M1 cJ dE df i1 h8)else(
 ∃n5,cellOf h8 (aS h1 13)=some (vI n5)/\
 C.fe n5 4 h8 λr4 cg=>
 ∃MP MQ OI,r4 = .slice MP MQ OI/\
 ∃xq,List.length xq=MQ*1/\ag cg MP xq/\(∀v∈xq,v.oneCell'=true)/\
 aw yx 5 cJ dE df MQ xq cg λRS RT RU bb=>
 ∃n6,cellOf bb (aS h1 14)=some (vI n6)/\
 C.fe n6 4 bb λr5 bU=>
 ∃Xf Un Y',r5 = .slice Xf Un Y'/\
 ∃xr,List.length xr=Un*1/\ag bU Xf xr/\(∀v∈xr,v.oneCell'=true)/\
 aw yx 5 RS RT RU Un xr bU λJr G3 Jt gh=>
 aC [.int .u8 0,.int .u8 0,.int .u8 0,.int .u8 0,.int .u8 0,.int .u8 0,.int .u8 0,.int .u8 0] 5 gh λfg=>
 ∃xt,List.length xt=8*1/\ag fg (some ⟨gh.size,0,none⟩) xt/\(∀v∈xt,v.oneCell'=true)/\
 aw yx 5 Jr G3 Jt 8 xt fg λCM CN CO iS=>
 K (.slice CM CN CO) iS)
theorem iK.ok{x1 K h}(x:iK x1 K h):C.iK x1 h K:=fk (fun|5=>([1],[(3,.slice),(4,.int .i64)])|_=>([],[])) o0 Tryz.func191 x
def bS(d1:OA)(K:KT)(h1:ab):Prop:=
 ae d1 λp1=>
 ∃aX aK bJ,cellOf h1 (p1.add 0)=some (.slice aX aK bJ)/\
 K (vI (IntKind.wrap .i64 (Int.tdiv (aK:Int) 512))) h1
theorem bS.ok{d1 K h}(x:bS d1 K h):C.bS d1 h K:=fz Tryz.func192 x
def fU(t1:OA)(i1:Int)(K:KT)(h1:ab):Prop:=
 ∃(I1:Int->Int->ab->Prop) (M1:Int->Int->ab->Nat),I1 (-1) 0 h1/\
 ∀(gv:Int) (k1:Int),∀h2:ab,I1 gv k1 h2->
 ae t1 λp1=>
 ∃aX aK bJ,cellOf h2 (p1.add 1)=some (.slice aX aK bJ)/\
 bif(decide (k1<(aK:Int)))then(
 ae t1 λp2=>
 ∃fQ fj gT,cellOf h2 (p2.add 1)=some (.slice fQ fj gT)/\
 (0<=k1/\k1<(fj:Int))/\
 ae fQ λp3=>
 ∃n1,cellOf h2 (Addr.add (p3.add ((Int.toNat k1)*2)) 0)=some (vI n1)/\
 bif(n1==i1)then(
 I1 k1 (IntKind.wrap .i64 (k1+1)) h2/\M1 k1 (IntKind.wrap .i64 (k1+1)) h2<M1 gv k1 h2)else(
 I1 gv (IntKind.wrap .i64 (k1+1)) h2/\M1 gv (IntKind.wrap .i64 (k1+1)) h2<M1 gv k1 h2))else(
 K (vI gv) h2)
theorem fU.ok{t1 i1 K h}(x:fU t1 i1 K h):C.fU t1 i1 h K:=fk (fun|3=>([0,1],[(5,.int .i64),(6,.int .i64)])|_=>([],[])) o0 Tryz.func193 x
def gp(d1:OA)(i1:Int)(K:KT)(h1:ab):Prop:=
 ae d1 λp1=>
 ∃b1,cellOf h1 (p1.add 4)=some (.bool b1)/\
 bif b1 then(
 K (.tuple #[.slice none 0 0,vI 30]) h1)else(
 C.iL d1 i1 h1 λr1 h2=>
 ∃b2,r1 = .bool b2/\
 bif(!b2)then(
 K (.tuple #[.slice none 0 0,vI 31]) h2)else(
 ae d1 λp2=>
 ∃aX aK bJ,cellOf h2 (p2.add 0)=some (.slice aX aK bJ)/\
 (0<=i1/\i1<(aK:Int))/\
 ae aX λp3=>
 ∃bV,List.length bV=512/\ai h2 (p3.add ((Int.toNat i1)*512)) bV/\
 ax Yt 237 bV 512 h2 λh4=>
 ae d1 λp4=>
 ∃fQ fj gT,cellOf h4 (p4.add 1)=some (.slice fQ fj gT)/\
 ∃(I1:Int->ab->Prop) (M1:Int->ab->Nat),I1 0 h4/\
 ∀(n1:Int),∀h5:ab,I1 n1 h5->
 bif(decide (n1<(fj:Int)))then(
 (0<=n1/\n1<(fj:Int))/\
 ae fQ λp5=>
 ∃eO,List.length eO=513/\ai h5 (p5.add ((Int.toNat n1)*513)) eO/\
 ax abQ 358 eO 513 h5 λh7=>
 ∃n2,cellOf h7 (aS h5 0)=some (vI n2)/\
 bif(n2==i1)then(
 ∃gV,List.length gV=512/\ai h7 (aS h5 1) gV/\
 ar ⟨h2.size,0,none⟩ gV 512 h7 λh8=>
 I1 (IntKind.wrap .i64 (n1+1)) h8/\M1 (IntKind.wrap .i64 (n1+1)) h8<M1 n1 h5)else(
 I1 (IntKind.wrap .i64 (n1+1)) h7/\M1 (IntKind.wrap .i64 (n1+1)) h7<M1 n1 h5))else(
 K (.tuple #[.slice (some ⟨h2.size,0,none⟩) 512 512,vI 0]) h5)))
theorem gp.ok{d1 i1 K h}(x:gp d1 i1 K h):C.gp d1 i1 h K:=fk (fun|7=>([1,6,29,30],[(31,.int .i64)])|_=>([],[])) o0 Tryz.func199 x
def bM.k1(d1:OA)(i1:Int)(h3:ab)(K:KT):Prop:=
 ae d1 λp2=>
 ∃aX aK bJ,cellOf h3 (p2.add 1)=some (.slice aX aK bJ)/\
 ∃(I1:Int->ab->Prop) (M1:Int->ab->Nat),I1 (IntKind.wrap .i64 ((aK:Int)-1)) h3/\
 ∀(j1:Int),∀h4:ab,I1 j1 h4->
 bif(decide (j1>=0))then(
 ae d1 λp3=>
 ∃fQ fj gT,cellOf h4 (p3.add 1)=some (.slice fQ fj gT)/\
 (0<=j1/\j1<(fj:Int))/\
 ae fQ λp4=>
 ∃n2,cellOf h4 (Addr.add (p4.add ((Int.toNat j1)*3)) 0)=some (vI n2)/\
 bif(n2==1)then(
 ae d1 λp5=>
 ∃j9 jO kH,cellOf h4 (p5.add 1)=some (.slice j9 jO kH)/\
 (0<=j1/\j1<(jO:Int))/\
 ae j9 λp6=>
 ∃n3,cellOf h4 (Addr.add (p6.add ((Int.toNat j1)*3)) 1)=some (vI n3)/\
 bif(n3==i1)then(
 ae d1 λp7=>
 ∃mL mJ mU,cellOf h4 (p7.add 1)=some (.slice mL mJ mU)/\
 (0<=j1/\j1<(mJ:Int))/\
 ae mL λp8=>
 ∃Am zQ Ba,cellOf h4 (Addr.add (p8.add ((Int.toNat j1)*3)) 2)=some (.slice Am zQ Ba)/\
 C.fh Am zQ Ba h4 λr2 h5=>
 ∃MD GW ME,r2 = .slice MD GW ME/\
 K (.tuple #[.slice MD GW ME,vI 0]) h5)else(
 I1 (IntKind.wrap .i64 (j1-1)) h4/\M1 (IntKind.wrap .i64 (j1-1)) h4<M1 j1 h4))else(
 I1 (IntKind.wrap .i64 (j1-1)) h4/\M1 (IntKind.wrap .i64 (j1-1)) h4<M1 j1 h4))else(
 ae d1 λp9=>
 ∃MP MQ OI,cellOf h4 (p9.add 0)=some (.slice MP MQ OI)/\
 (0<=(IntKind.wrap .i64 (i1*512))/\(IntKind.wrap .i64 (i1*512))<=(IntKind.wrap .i64 ((IntKind.wrap .i64 (i1*512))+512))/\(IntKind.wrap .i64 ((IntKind.wrap .i64 (i1*512))+512))<=(OI:Int))/\
 C.fh (if OI=(Int.toNat (IntKind.wrap .i64 (i1*512)))then MP else Option.map (Addr.add · (Int.toNat (IntKind.wrap .i64 (i1*512)))) MP) ((Int.toNat (IntKind.wrap .i64 ((IntKind.wrap .i64 (i1*512))+512)))-(Int.toNat (IntKind.wrap .i64 (i1*512)))) (OI-(Int.toNat (IntKind.wrap .i64 (i1*512)))) h4 λr3 h6=>
 ∃RS RT RU,r3 = .slice RS RT RU/\
 K (.tuple #[.slice RS RT RU,vI 0]) h6)
def bM(d1:OA)(i1:Int)(K:KT)(h1:ab):Prop:=
 ae d1 λp1=>
 ∃b1,cellOf h1 (p1.add 4)=some (.bool b1)/\
 bif b1 then(
 K (.tuple #[.slice none 0 0,vI 30]) h1)else(
 bif(decide (i1<0))then(
 K (.tuple #[.slice none 0 0,vI 31]) h1)else(
 C.bS d1 h1 λr1 h2=>
 ∃n1,r1 = vI n1/\
 bif(decide (i1>=n1))then(
 K (.tuple #[.slice none 0 0,vI 31]) h2)else(
 bM.k1 d1 i1 h2 K)))
theorem bM.ok{d1 i1 K h}(x:bM d1 i1 K h):C.bM d1 i1 h K:=fk (fun|6=>([0,1],[(6,.int .i64)])|_=>([],[])) o0 Tryz.func200 x
def dV.k1(s1:ByteArray)(fN:ByteArray)(h10:ab)(K:KT):Prop:=
 Jh s1 h10 λcg=>
 ∃(I2:HP) (M2:ab->Nat),I2  cg/\
 ∀bb:ab,I2  bb->
 Addr.off ⟨h10.size,0,none⟩=0/\
 ∃(s2:ByteArray) (wq:Nat),bb[Addr.block ⟨h10.size,0,none⟩]?=some (.stringIter s2 wq)/\
 (wq<ByteArray.size s2->∀bU:ab,EF bb (Addr.block ⟨h10.size,0,none⟩) s2 (wq+(Utf8.decode s2 wq).2) bU->
 C.bE fN (((Utf8.decode s2 wq).1:Nat):Int) bU λr6 gh=>
 ∃n3,r6 = vI n3/\
 bif(decide (n3>=0))then(
 K (vI (wq:Int)) gh)else(
 I2  gh/\M2  gh<M2  bb))/\
 (¬wq<ByteArray.size s2->
 K (vI (-1)) bb)
def dV(s1:ByteArray)(fN:ByteArray)(K:KT)(h1:ab):Prop:=
 bif(fN.toList==(mkStr []).toList)then(
 K (vI (-1)) h1)else(
 bif((fN.size:Int)==1)then(
 (0<=(0:Int)/\0<(fN.size:Int))/\
 ∃b1:UInt8,fN.toList[Int.toNat 0]?=some b1/\
 bif(decide ((IntKind.wrap .i32 (((UInt8.toNat b1:Nat):Int)))>=128))then(
 C.bE s1 65533 h1 λr1 h2=>
 ∃n1,r1 = vI n1/\
 K (vI n1) h2)else(
 C.bE s1 (IntKind.wrap .i32 (((UInt8.toNat b1:Nat):Int))) h1 λr2 h3=>
 ∃n2,r2 = vI n2/\
 K (vI n2) h3))else(
 C.dK (s1.size:Int) h1 λr3 h4=>
 ∃b2,r3 = .bool b2/\
 bif b2 then(
 C.eJ fN h4 λr4 h5=>
 ∃bV b3,r4 = .tuple #[.agg ⟨bV⟩,.bool b3]/\
 ax Yu 361 bV 256 h5 λh7=>
 bif b3 then(
 ∃(I1:Int->ab->Prop) (M1:Int->ab->Nat),I1 0 h7/\
 ∀(i1:Int),∀h8:ab,I1 i1 h8->
 bif(decide (i1<(s1.size:Int)))then(
 (0<=i1/\i1<(s1.size:Int))/\
 ∃b4:UInt8,s1.toList[Int.toNat i1]?=some b4/\
 C.dL (some ⟨h5.size,0,none⟩) ((UInt8.toNat b4:Nat):Int) h8 λr5 h9=>
 ∃b5,r5 = .bool b5/\
 bif b5 then(
 K (vI i1) h9)else(
 I1 (IntKind.wrap .i64 (i1+1)) h9/\M1 (IntKind.wrap .i64 (i1+1)) h9<M1 i1 h8))else(
 K (vI (-1)) h8))else(
 dV.k1 s1 fN h7 K))else(
 dV.k1 s1 fN h4 K)))
set_option maxRecDepth 1000000 in
set_option maxRecDepth 1000000 in
theorem dV.ok{s1 fN K h}(x:dV s1 fN K h):C.dV s1 fN h K:=fk (fun|12=>([0,6],[(8,.int .i64)])|18=>([1,45],[])|_=>([],[])) o0 Tryz.func202 x
def dB.k1(f1:OA)(gv:Int)(n1:Int)(h3:ab)(I1:Int->Int->ab->Prop)(M1:Int->Int->ab->Nat)(te:Int)(e1:Int)(h8:ab)(K:KT):Prop:=
 bif(e1 != 0)then(
 K (.tuple #[vI 0,vI e1]) h8)else(
 bif(te==0)then(
 K (.tuple #[vI 0,vI 0]) h8)else(
 C.iI f1 te h8 λr4 h9=>
 ∃n6,r4 = vI n6/\
 bif(n6 != 0)then(
 K (.tuple #[vI 0,vI n6]) h9)else(
 I1 te (IntKind.wrap .i64 (n1+1)) h9/\M1 te (IntKind.wrap .i64 (n1+1)) h9<M1 gv n1 h3)))
def dB(f1:OA)(k1:Int)(DE:Value)(K:KT)(h1:ab):Prop:=
 C.pQ k1 h1 λr1 h2=>
 ∃aX aK bJ,r1 = .slice aX aK bJ/\
 ∃(I1:Int->Int->ab->Prop) (M1:Int->Int->ab->Nat),I1 0 0 h2/\
 ∀(gv:Int) (n1:Int),∀h3:ab,I1 gv n1 h3->
 bif(decide (n1<(aK:Int)))then(
 (0<=n1/\n1<(aK:Int))/\
 ae aX λp1=>
 ∃bV,List.length bV=2/\ai h3 (p1.add ((Int.toNat n1)*2)) bV/\
 ax abO 307 bV 2 h3 λh5=>
 ∃eO,List.length eO=2/\ai h5 ⟨h3.size,0,none⟩ eO/\
 C.gE f1 eO gv h5 λr2 h6=>
 ∃n2 fQ fj gT n3,r2 = .tuple #[vI n2,.slice fQ fj gT,vI n3]/\
 bif(n3==0)then(
 bif(n2==0)then(
 ∃gV,List.length gV=2/\ai h6 ⟨h3.size,0,none⟩ gV/\
 oV Tryz.prog DE [.agg ⟨gV⟩,vI gv,.slice fQ fj gT] h6 λr3 h7=>
 ∃n4 n5,r3 = .tuple #[vI n4,vI n5]/\
 dB.k1 f1 gv n1 h3 I1 M1 n4 n5 h7 K)else(
 dB.k1 f1 gv n1 h3 I1 M1 n2 n3 h6 K))else(
 dB.k1 f1 gv n1 h3 I1 M1 n2 n3 h6 K))else(
 K (.tuple #[vI gv,vI 0]) h3)
theorem dB.ok{f1 k1 DE K h}(x:dB f1 k1 DE K h):C.dB f1 k1 DE h K:=fk (fun|3=>([0,2,16,17],[(8,.int .i64),(18,.int .i64)])|_=>([],[])) o0 Tryz.func203 x
def lF(x1:LV)(x2:Int)(Ub:OA)(Uc:Nat)(Ud:Nat)(K:KT)(h1:ab):Prop:=
 aC x1 307 h1 λh2=>
 K (.tuple #[vI 0,vI 0]) h2
theorem lF.ok{x1 x2 Ub Uc Ud K h}(x:lF x1 x2 Ub Uc Ud K h):C.lF x1 x2 Ub Uc Ud h K:=fz Tryz.func204 x
def jn.k1(MB:OA)(Pt:Nat)(Ow:Nat)(n1:Int)(h3:ab)(n3:Int)(K:KT):Prop:=
 (0<=(5:Int)/\(5:Int)<=(IntKind.wrap .u64 (5+n3))/\(IntKind.wrap .u64 (5+n3))<=(IntKind.wrap .u64 (5+n3))/\(IntKind.wrap .u64 (5+n3))<=(Ow:Int))/\
 ∃CW,aJ h3 (if(Int.toNat (IntKind.wrap .u64 (5+n3)))=(Int.toNat 5)then MB else Option.map (Addr.add · (Int.toNat 5)) MB) ((Int.toNat (IntKind.wrap .u64 (5+n3)))-(Int.toNat 5)) CW/\
 C.mf MB Pt Ow (IntKind.wrap .i64 (5+(IntKind.wrap .i64 (n3)))) (IntKind.wrap .i64 (27-(IntKind.wrap .i64 (n3)))) h3 λr4 h5=>
 ∃b2 n6,r4 = .tuple #[.bool b2,vI n6]/\
 bif b2 then(
 C.mD (mkStr CW) h5 λr5 h6=>
 ∃b3,r5 = .bool b3/\
 K (.tuple #[vI (IntKind.wrap .i64 (n1)),.string (mkStr CW),.bool b3]) h6)else(
 K (.tuple #[vI (IntKind.wrap .i64 (n1)),.string (mkStr CW),.bool false]) h5)
def jn(MB:OA)(Pt:Nat)(Ow:Nat)(K:KT)(h1:ab):Prop:=
 C.n' MB Pt Ow 0 4 h1 λr1 h2=>
 ∃n1 n2,r1 = .tuple #[.int .u64 n1,vI n2]/\
 C.n' MB Pt Ow 4 1 h2 λr2 h3=>
 ∃n3 n4,r2 = .tuple #[.int .u64 n3,vI n4]/\
 bif(n1==0)then(
 C.mf MB Pt Ow 0 32 h3 λr3 h4=>
 ∃b1 n5,r3 = .tuple #[.bool b1,vI n5]/\
 K (.tuple #[vI 0,.string (mkStr []),.bool b1]) h4)else(
 bif(decide (n3<1))then(
 K (.tuple #[vI 0,.string (mkStr []),.bool false]) h3)else(
 bif(decide (n3>27))then(
 K (.tuple #[vI 0,.string (mkStr []),.bool false]) h3)else(
 jn.k1 MB Pt Ow n1 h3 n3 K)))
theorem jn.ok{MB Pt Ow K h}(x:jn MB Pt Ow K h):C.jn MB Pt Ow h K:=fz Tryz.func205 x
def kR(n1:Int)(K:KT)(h1:ab):Prop:=
 bif(decide (n1>=0))then(
 bif(decide (n1<9))then(
 (0<=n1/\n1<(9:Int))/\
 ∃b1,cellOf h1 (Addr.add ⟨0,0,none⟩ (Int.toNat n1))=some (.bool b1)/\
 K (.bool b1) h1)else(
 K (.bool false) h1))else(
 K (.bool false) h1)
theorem kR.ok{n1 K h}(x:kR n1 K h):C.kR n1 h K:=fz Tryz.func211 x
def qu(cJ:OA)(dE:Nat)(df:Nat)(gv:Int)(n1:Int)(K:KT)(h1:ab):Prop:=
 bif(decide (gv>=0))then(
 bif(decide (n1>=0))then(
 bif(decide (gv<=(dE:Int)))then(
 K (.bool (decide (n1<=(IntKind.wrap .i64 ((dE:Int)-gv))))) h1)else(
 K (.bool false) h1))else(
 K (.bool false) h1))else(
 K (.bool false) h1)
theorem qu.ok{cJ dE df gv n1 K h}(x:qu cJ dE df gv n1 K h):C.qu cJ dE df gv n1 h K:=fz Tryz.func212 x
def n'(cJ:OA)(dE:Nat)(df:Nat)(gv:Int)(n1:Int)(K:KT)(h1:ab):Prop:=
 C.kR n1 h1 λr1 h2=>
 ∃b1,r1 = .bool b1/\
 bif(!b1)then(
 K (.tuple #[.int .u64 0,vI 1]) h2)else(
 C.qu cJ dE df gv n1 h2 λr2 h3=>
 ∃b2,r2 = .bool b2/\
 bif(!b2)then(
 K (.tuple #[.int .u64 0,vI 20]) h3)else(
 ∃(I1:Int->Int->ab->Prop) (M1:Int->Int->ab->Nat),I1 0 0 h3/\
 ∀(v1:Int) (n2:Int),∀h4:ab,I1 v1 n2 h4->
 bif(decide (n2<n1))then(
 (0<=(IntKind.wrap .i64 (gv+n2))/\(IntKind.wrap .i64 (gv+n2))<(dE:Int))/\
 ae cJ λp1=>
 ∃n3,cellOf h4 (p1.add (Int.toNat (IntKind.wrap .i64 (gv+n2))))=some (.int .u8 n3)/\
 if(IntKind.wrap .i64 (8*n2))<0 then False else
 I1 (oo .or .u64 v1 (IntKind.wrap .u64 (((IntKind.wrap .u64 (n3))*2 ^ min (Int.toNat (IntKind.wrap .i64 (8*n2))) 64)))) (IntKind.wrap .i64 (n2+1)) h4/\M1 (oo .or .u64 v1 (IntKind.wrap .u64 (((IntKind.wrap .u64 (n3))*2 ^ min (Int.toNat (IntKind.wrap .i64 (8*n2))) 64)))) (IntKind.wrap .i64 (n2+1)) h4<M1 v1 n2 h4)else(
 K (.tuple #[.int .u64 v1,vI 0]) h4)))
theorem n'.ok{cJ dE df gv n1 K h}(x:n' cJ dE df gv n1 K h):C.n' cJ dE df gv n1 h K:=fk (fun|7=>([0,1,20],[(8,.int .u64),(21,.int .i64)])|_=>([],[])) o0 Tryz.func224 x
def jc(w1:OA)(x1:Int)(K:KT)(h1:ab):Prop:=
 C.fV w1 h1 λr1 h2=>
 ∃b1,r1 = .bool b1/\
 bif b1 then(
 K (.tuple #[.bool false,vI 161]) h2)else(
 K (.tuple #[.bool true,vI 0]) h2)
theorem jc.ok{w1 x1 K h}(x:jc w1 x1 K h):C.jc w1 x1 h K:=fz Tryz.func225 x
def ga(w1:OA)(n1:Int)(K:KT)(h1:ab):Prop:=
 C.fV w1 h1 λr1 h2=>
 ∃b1,r1 = .bool b1/\
 bif(!b1)then(
 K (.tuple #[.bool true,vI 0]) h2)else(
 ae w1 λp1=>
 C.iC (some (p1.add 0)) n1 h2 λr2 h3=>
 r2 = .tuple #[]/\
 K (.tuple #[.bool false,vI 0]) h3)
theorem ga.ok{w1 n1 K h}(x:ga w1 n1 K h):C.ga w1 n1 h K:=fz Tryz.func226 x
def fE.k1(w1:OA)(n1:Int)(h3:ab)(K:KT):Prop:=
 ae w1 λp2=>
 ∃n2,cellOf h3 (p2.add 8)=some (vI n2)/\
 bif(n2==8)then(
 K (.tuple #[.bool false,vI 162]) h3)else(
 ae w1 λp3=>
 ∃q1,cellOf h3 (p3.add 1)=some (.pointer q1)/\
 ae w1 λp4=>
 ∃bV,List.length bV=5/\ai h3 (p4.add 2) bV/\
 C.kv q1 bV n1 0 1024 h3 λr2 h4=>
 ∃s1 n3,r2 = .tuple #[.string s1,vI n3]/\
 bif(n3 != 0)then(
 K (.tuple #[.bool false,vI n3]) h4)else(
 C.nK s1 h4 λr3 h5=>
 ∃aX aK bJ b3 n4,r3 = .tuple #[.slice aX aK bJ,.bool b3,vI n4]/\
 bif(n4 != 0)then(
 K (.tuple #[.bool false,vI n4]) h5)else(
 ae w1 λp5=>
 ∃n5,cellOf h5 (p5.add 8)=some (vI n5)/\
 ae w1 λp6=>
 bQ (p6.add 8) (vI (IntKind.wrap .i64 (n5+1))) h5 λh6=>
 ae w1 λp7=>
 ∃fQ fj gT,cellOf h6 (p7.add 7)=some (.slice fQ fj gT)/\
 C.cC aX aK bJ h6 λr4 h7=>
 ∃j9 jO kH,r4 = .slice j9 jO kH/\
 (cellOf h7 (p7.add 7)=some (.slice fQ fj gT))/\
 ∃aR,List.length aR=fj*1/\ag h7 fQ aR/\(∀v∈aR,v.oneCell'=true)/\
 aw tN 9 j9 jO kH fj aR h7 λmL mJ mU h8=>
 ae w1 λp8=>
 bQ (p8.add 7) (.slice mL mJ mU) h8 λh9=>
 bif b3 then(
 ae w1 λp9=>
 C.fT (some (p9.add 0)) h9 λr5 h10=>
 r5 = .tuple #[]/\
 K (.tuple #[.bool false,vI 0]) h10)else(
 K (.tuple #[.bool false,vI 0]) h9))))
def fE(w1:OA)(n1:Int)(K:KT)(h1:ab):Prop:=
 C.fV w1 h1 λr1 h2=>
 ∃b1,r1 = .bool b1/\
 bif(!b1)then(
 ae w1 λp1=>
 ∃b2,cellOf h2 (p1.add 9)=some (.bool b2)/\
 bif(!b2)then(
 K (.tuple #[.bool true,vI 0]) h2)else(
 fE.k1 w1 n1 h2 K))else(
 fE.k1 w1 n1 h2 K)
theorem fE.ok{w1 n1 K h}(x:fE w1 n1 K h):C.fE w1 n1 h K:=fk l0 (fun|5=>(.op 0 [] (.op 1 [] (.op 2 [] (.op 3 [] (.op 4 [] (.op 5 [] (.op 6 [] (.op 7 [] (.op 8 [] (.op 9 [] (.op 10 [] (.op 11 [] (.op 12 [] (.op 13 [] (.op 14 [] .nil)))))))))))))))|12=>(.op 0 [] (.op 1 [] (.op 3 [] (.op 4 [] (.op 5 [] (.op 6 [] (.op 2 [6] (.op 7 [] (.op 8 [] (.op 9 [] (.op 10 [] .nil)))))))))))|_=>.nil) Tryz.func227 x
def cA(s1:ByteArray)(c1:Int)(K:KT)(h1:ab):Prop:=
 (IntKind.u8=IntKind.u8)/\
 K (vI (lO (ByteArray.toList s1) (UInt8.ofNat (Int.toNat c1)))) h1
theorem cA.ok{s1 c1 K h}(x:cA s1 c1 K h):C.cA s1 c1 h K:=fz Tryz.func228 x
def eC(v1:Int)(yy:Int)(rv:Int)(K:KT)(h1:ab):Prop:=
 bif(decide (v1>=yy))then(
 K (.bool (decide (v1<=rv))) h1)else(
 K (.bool false) h1)
theorem eC.ok{v1 yy rv K h}(x:eC v1 yy rv K h):C.eC v1 yy rv h K:=fz Tryz.func229 x
def j4.k1(n1:Int)(h1:ab)(h2:ab)(K:KT):Prop:=
 ∃n3,cellOf h2 (Addr.add ⟨h1.size,0,none⟩ 2)=some (vI n3)/\
 K (.tuple #[vI (IntKind.wrap .i64 (n3+(IntKind.wrap .i64 (Int.tdiv n1 8)))),vI (IntKind.wrap .i64 ((Int.tmod n1 8)*64)),vI 0]) h2
def j4(g1:LV)(n1:Int)(K:KT)(h1:ab):Prop:=
 aC g1 25 h1 λh2=>
 bif(decide (n1<1))then(
 K (.tuple #[vI 0,vI 0,vI 110]) h2)else(
 ∃n2,cellOf h2 (Addr.add ⟨h1.size,0,none⟩ 4)=some (vI n2)/\
 bif(decide (n1>=n2))then(
 K (.tuple #[vI 0,vI 0,vI 110]) h2)else(
 j4.k1 n1 h1 h2 K))
theorem j4.ok{g1 n1 K h}(x:j4 g1 n1 K h):C.j4 g1 n1 h K:=fz Tryz.func230 x
def cB(gv:Int)(n1:Int)(iY:OA)(K:KT)(h1:ab):Prop:=
 ae iY λp1=>
 ∃aX aK bJ,cellOf h1 p1=some (.slice aX aK bJ)/\
 C.n' aX aK bJ gv n1 h1 λr1 h2=>
 ∃n2 n3,r1 = .tuple #[.int .u64 n2,vI n3]/\
 K (vI (IntKind.wrap .i64 (n2))) h2
theorem cB.ok{gv n1 iY K h}(x:cB gv n1 iY K h):C.cB gv n1 iY h K:=fz Tryz.func231 x
def mf(cJ:OA)(dE:Nat)(df:Nat)(gv:Int)(n1:Int)(K:KT)(h1:ab):Prop:=
 bif(decide (n1<0))then(
 K (.tuple #[.bool false,vI 1]) h1)else(
 C.qu cJ dE df gv n1 h1 λr1 h2=>
 ∃b1,r1 = .bool b1/\
 bif(!b1)then(
 K (.tuple #[.bool false,vI 20]) h2)else(
 (0<=gv/\gv<=(IntKind.wrap .i64 (gv+n1))/\(IntKind.wrap .i64 (gv+n1))<=(df:Int))/\
 C.nL (if df=(Int.toNat gv)then cJ else Option.map (Addr.add · (Int.toNat gv)) cJ) ((Int.toNat (IntKind.wrap .i64 (gv+n1)))-(Int.toNat gv)) (df-(Int.toNat gv)) h2 λr2 h3=>
 ∃b2,r2 = .bool b2/\
 K (.tuple #[.bool b2,vI 0]) h3))
theorem mf.ok{cJ dE df gv n1 K h}(x:mf cJ dE df gv n1 K h):C.mf cJ dE df gv n1 h K:=fz Tryz.func232 x
def nJ(x1:LV)(K:KT)(h1:ab):Prop:=
 aC x1 123 h1 λh2=>
 ∃bV,List.length bV=15/\ai h2 ⟨h1.size,0,none⟩ bV/\
 C.jr bV h2 λr1 h3=>
 ∃eO,r1 = .agg ⟨eO⟩/\
 ∃(I1:Int->ab->Prop) (M1:Int->ab->Nat),I1 0 h3/\
 ∀(n1:Int),∀h4:ab,I1 n1 h4->
 bif(decide (n1<12))then(
 (0<=n1/\n1<(12:Int))/\
 ∃n2,eO[(Int.toNat n1)]?=some (vI n2)/\
 C.eC n2 0 4294967295 h4 λr2 h5=>
 ∃b1,r2 = .bool b1/\
 bif(!b1)then(
 K (.bool false) h5)else(
 I1 (IntKind.wrap .i64 (n1+1)) h5/\M1 (IntKind.wrap .i64 (n1+1)) h5<M1 n1 h4))else(
 ∃n3,cellOf h4 (Addr.add ⟨h1.size,0,none⟩ 0)=some (vI n3)/\
 bif(n3==0)then(
 ∃gV,List.length gV=15/\ai h4 ⟨h1.size,0,none⟩ gV/\
 dv [(.int .i64),(.int .i64),(.int .i64),(.int .i64),(.int .i64),(.int .i64),(.int .i64),(.int .i64),(.int .i64),(.int .i64),(.int .i64),(.int .i64),(.int .i64),(.int .i64),(.int .i64)] gV gC=true/\
 K (.bool (dw gV gC)) h4)else(
 bif(n3==1)then(
 ∃n4,cellOf h4 (Addr.add ⟨h1.size,0,none⟩ 1)=some (vI n4)/\
 C.eC n4 0 1000 h4 λr3 h6=>
 ∃b2,r3 = .bool b2/\
 bif b2 then(
 ∃n5,cellOf h6 (Addr.add ⟨h1.size,0,none⟩ 2)=some (vI n5)/\
 C.eC n5 0 8459264 h6 λr4 h7=>
 ∃b3,r4 = .bool b3/\
 K (.bool b3) h7)else(
 K (.bool false) h6))else(
 bif(n3==2)then(
 ∃n6,cellOf h4 (Addr.add ⟨h1.size,0,none⟩ 1)=some (vI n6)/\
 C.eC n6 2 65535 h4 λr5 h8=>
 ∃b4,r5 = .bool b4/\
 bif b4 then(
 ∃n7,cellOf h8 (Addr.add ⟨h1.size,0,none⟩ 2)=some (vI n7)/\
 C.eC n7 0 8459264 h8 λr6 h9=>
 ∃b5,r6 = .bool b5/\
 bif b5 then(
 ∃n8,cellOf h9 (Addr.add ⟨h1.size,0,none⟩ 2)=some (vI n8)/\
 K (.bool ((Int.tmod n8 512)==0)) h9)else(
 K (.bool false) h9))else(
 K (.bool false) h8))else(
 bif(n3==3)then(
 ∃n9,cellOf h4 (Addr.add ⟨h1.size,0,none⟩ 1)=some (vI n9)/\
 C.eC n9 1 1000 h4 λr7 h10=>
 ∃b6,r7 = .bool b6/\
 bif b6 then(
 ∃n10,cellOf h10 (Addr.add ⟨h1.size,0,none⟩ 2)=some (vI n10)/\
 C.eC n10 1 1024 h10 λr8 cg=>
 ∃b7,r8 = .bool b7/\
 K (.bool b7) cg)else(
 K (.bool false) h10))else(
 K (.bool false) h4)))))
set_option maxRecDepth 1000000 in
set_option maxRecDepth 1000000 in
theorem nJ.ok{x1 K h}(x:nJ x1 K h):C.nJ x1 h K:=fk (fun|2=>([1,6],[(7,.int .i64)])|_=>([],[])) o0 Tryz.func233 x
def aY.k3(jo:Int)(gU:OA)(gz:Nat)(iV:Nat)(cJ:OA)(dE:Nat)(df:Nat)(i1:Int)(h6:ab)(I1:OA->Nat->Nat->OA->Nat->Nat->Int->ab->Prop)(M1:OA->Nat->Nat->OA->Nat->Nat->Int->ab->Nat)(bA2:OA)(bL2:Nat)(bC2:Nat)(h10:ab)(K:KT):Prop:=
 (0<=(Int.tmod (IntKind.wrap .i64 (jo+i1)) 512)/\(Int.tmod (IntKind.wrap .i64 (jo+i1)) 512)<(bL2:Int))/\
 ae bA2 λp1=>
 ∃n7,cellOf h10 (p1.add (Int.toNat (Int.tmod (IntKind.wrap .i64 (jo+i1)) 512)))=some (.int .u8 n7)/\
 aC [.int .u8 n7] 5 h10 λcg=>
 ∃aR,List.length aR=1*1/\ag cg (some ⟨h10.size,0,none⟩) aR/\(∀v∈aR,v.oneCell'=true)/\
 aw yx 5 gU gz iV 1 aR cg λfQ fj gT bb=>
 I1 fQ fj gT bA2 bL2 bC2 (IntKind.wrap .i64 (i1+1)) bb/\M1 fQ fj gT bA2 bL2 bC2 (IntKind.wrap .i64 (i1+1)) bb<M1 gU gz iV cJ dE df i1 h6
def aY.k2(t1:OA)(jo:Int)(h1:ab)(h3:ab)(gU:OA)(gz:Nat)(iV:Nat)(cJ:OA)(dE:Nat)(df:Nat)(i1:Int)(h6:ab)(I1:OA->Nat->Nat->OA->Nat->Nat->Int->ab->Prop)(M1:OA->Nat->Nat->OA->Nat->Nat->Int->ab->Nat)(K:KT):Prop:=
 bif(i1==0)then(
 ∃gV,List.length gV=5/\ai h6 ⟨h1.size,0,none⟩ gV/\
 ∃lN,List.length lN=15/\ai h6 ⟨h3.size,0,none⟩ lN/\
 C.cE t1 gV lN (IntKind.wrap .i64 (Int.tdiv (IntKind.wrap .i64 (jo+i1)) 512)) h6 λr2 h7=>
 ∃n4 n5,r2 = .tuple #[vI n4,vI n5]/\
 bif(n5 != 0)then(
 K (.tuple #[.string (mkStr []),vI n5]) h7)else(
 (0<=(512:Int)/\(512:Int)<=512/\(1:Int)*512<=281474976710656/\(512:Int)<=281474976710656)/\
 aC (aW z5 (Int.toNat 512)) 5 h7 λh8=>
 bif(n4 != 0)then(
 C.bu t1 n4 h8 λr3 h9=>
 ∃aX aK bJ n6,r3 = .tuple #[.slice aX aK bJ,vI n6]/\
 bif(n6 != 0)then(
 K (.tuple #[.string (mkStr []),vI n6]) h9)else(
 aY.k3 jo gU gz iV cJ dE df i1 h6 I1 M1 aX aK bJ h9 K))else(
 aY.k3 jo gU gz iV cJ dE df i1 h6 I1 M1 (some ⟨h7.size,0,none⟩) (Int.toNat 512) (Int.toNat 512) h8 K)))else(
 bif((Int.tmod (IntKind.wrap .i64 (jo+i1)) 512)==0)then(
 ∃kx,List.length kx=5/\ai h6 ⟨h1.size,0,none⟩ kx/\
 ∃pB,List.length pB=15/\ai h6 ⟨h3.size,0,none⟩ pB/\
 C.cE t1 kx pB (IntKind.wrap .i64 (Int.tdiv (IntKind.wrap .i64 (jo+i1)) 512)) h6 λr4 bU=>
 ∃n8 n9,r4 = .tuple #[vI n8,vI n9]/\
 bif(n9 != 0)then(
 K (.tuple #[.string (mkStr []),vI n9]) bU)else(
 (0<=(512:Int)/\(512:Int)<=512/\(1:Int)*512<=281474976710656/\(512:Int)<=281474976710656)/\
 aC (aW z5 (Int.toNat 512)) 5 bU λgh=>
 bif(n8 != 0)then(
 C.bu t1 n8 gh λr5 fg=>
 ∃j9 jO kH n10,r5 = .tuple #[.slice j9 jO kH,vI n10]/\
 bif(n10 != 0)then(
 K (.tuple #[.string (mkStr []),vI n10]) fg)else(
 aY.k3 jo gU gz iV cJ dE df i1 h6 I1 M1 j9 jO kH fg K))else(
 aY.k3 jo gU gz iV cJ dE df i1 h6 I1 M1 (some ⟨bU.size,0,none⟩) (Int.toNat 512) (Int.toNat 512) gh K)))else(
 aY.k3 jo gU gz iV cJ dE df i1 h6 I1 M1 cJ dE df h6 K))
def aY.k1(t1:OA)(n1:Int)(jo:Int)(many1:Int)(h1:ab)(h2:ab)(K:KT):Prop:=
 ∃bV,List.length bV=5/\ai h2 ⟨h1.size,0,none⟩ bV/\
 C.jt t1 bV n1 h2 λr1 h3=>
 ∃eO n2,r1 = .tuple #[.agg ⟨eO⟩,vI n2]/\
 ax gC 123 eO 15 h3 λh5=>
 bif(n2 != 0)then(
 K (.tuple #[.string (mkStr []),vI n2]) h5)else(
 ∃(I1:OA->Nat->Nat->OA->Nat->Nat->Int->ab->Prop) (M1:OA->Nat->Nat->OA->Nat->Nat->Int->ab->Nat),I1 none 0 0 none 0 0 0 h5/\
 ∀(gU:OA) (gz:Nat) (iV:Nat) (cJ:OA) (dE:Nat) (df:Nat) (i1:Int),∀h6:ab,I1 gU gz iV cJ dE df i1 h6->
 bif(decide (i1<many1))then(
 ∃n3,cellOf h6 (aS h3 2)=some (vI n3)/\
 bif(decide (jo<(IntKind.wrap .i64 (n3-i1))))then(
 aY.k2 t1 jo h1 h3 gU gz iV cJ dE df i1 h6 I1 M1 K)else(
 ∃CW,aJ h6 gU gz CW/\
 K (.tuple #[.string (mkStr CW),vI 0]) h6))else(
 ∃bs2,aJ h6 gU gz bs2/\
 K (.tuple #[.string (mkStr bs2),vI 0]) h6))
def aY(t1:OA)(g1:LV)(n1:Int)(jo:Int)(many1:Int)(K:KT)(h1:ab):Prop:=
 aC g1 25 h1 λh2=>
 bif(decide (jo<0))then(
 K (.tuple #[.string (mkStr []),vI 1]) h2)else(
 bif(decide (many1<0))then(
 K (.tuple #[.string (mkStr []),vI 1]) h2)else(
 aY.k1 t1 n1 jo many1 h1 h2 K))
theorem aY.ok{t1 g1 n1 jo many1 K h}(x:aY t1 g1 n1 jo many1 K h):C.aY t1 g1 n1 jo many1 h K:=fk (fun|9=>([0,3,4,6,12],[(14,.slice),(15,.slice),(16,.int .i64)])|_=>([],[])) o0 Tryz.func243 x
def cV.k2(s1:ByteArray)(h4:ab)(aX:OA)(aK:Nat)(bJ:Nat)(K:KT):Prop:=
 (0<=(0:Int)/\0<(s1.size:Int))/\
 ∃b3:UInt8,s1.toList[Int.toNat 0]?=some b3/\
 K (.tuple #[.slice aX aK bJ,.bool (((UInt8.toNat b3:Nat):Int)==47),vI 0]) h4
def cV.k1(s1:ByteArray)(h3:ab)(K:KT):Prop:=
 C.cT s1 h3 λr2 h4=>
 ∃aX aK bJ b2,r2 = .tuple #[.slice aX aK bJ,.bool b2]/\
 bif(!b2)then(
 K (.tuple #[.slice none 0 0,.bool false,vI 130]) h4)else(
 bif(decide ((s1.size:Int)>1024))then(
 K (.tuple #[.slice none 0 0,.bool false,vI 130]) h4)else(
 cV.k2 s1 h4 aX aK bJ K))
def cV(s1:ByteArray)(K:KT)(h1:ab):Prop:=
 bif(s1.toList==(mkStr []).toList)then(
 K (.tuple #[.slice none 0 0,.bool false,vI 1]) h1)else(
 C.gQ s1 h1 λr1 h2=>
 ∃b1,r1 = .bool b1/\
 bif b1 then(
 K (.tuple #[.slice none 0 0,.bool false,vI 1]) h2)else(
 cV.k1 s1 h2 K))
theorem cV.ok{s1 K h}(x:cV s1 K h):C.cV s1 h K:=fk l0 (fun|6=>(.op 0 [] (.op 1 [] (.op 2 [] (.op 3 [] (.op 4 [] (.op 5 [] (.op 6 [] .nil)))))))|_=>.nil) Tryz.func244 x
def aO(cJ:OA)(dE:Nat)(df:Nat)(K:KT)(h1:ab):Prop:=
 ∃(I1:Int->Int->ab->Prop) (M1:Int->Int->ab->Nat),I1 0 (IntKind.wrap .i64 ((dE:Int)-1)) h1/\
 ∀(n1:Int) (i1:Int),∀h2:ab,I1 n1 i1 h2->
 bif(decide (i1>=0))then(
 (0<=i1/\i1<(dE:Int))/\
 ae cJ λp1=>
 ∃n2,cellOf h2 (p1.add (Int.toNat i1))=some (.int .u8 n2)/\
 I1 (IntKind.wrap .i64 ((IntKind.wrap .i64 (n1*256))+(IntKind.wrap .i64 (n2)))) (IntKind.wrap .i64 (i1-1)) h2/\M1 (IntKind.wrap .i64 ((IntKind.wrap .i64 (n1*256))+(IntKind.wrap .i64 (n2)))) (IntKind.wrap .i64 (i1-1)) h2<M1 n1 i1 h2)else(
 K (vI n1) h2)
theorem aO.ok{cJ dE df K h}(x:aO cJ dE df K h):C.aO cJ dE df h K:=fk (fun|3=>([0],[(3,.int .i64),(4,.int .i64)])|_=>([],[])) o0 Tryz.func245 x
def eZ.k1(t1:OA)(k1:Int)(h4:ab)(n1:Int)(K:KT):Prop:=
 C.bu t1 n1 h4 λr2 h5=>
 ∃aX aK bJ n3,r2 = .tuple #[.slice aX aK bJ,vI n3]/\
 bif(n3 != 0)then(
 K (.tuple #[.slice none 0 0,vI n3]) h5)else(
 C.iM aX aK bJ h5 λr3 h6=>
 ∃fQ fj gT n4,r3 = .tuple #[.slice fQ fj gT,vI n4]/\
 bif(n4 != 0)then(
 K (.tuple #[.slice none 0 0,vI n4]) h6)else(
 ∃(I1:OA->Nat->Nat->Int->ab->Prop) (M1:OA->Nat->Nat->Int->ab->Nat),I1 none 0 0 0 h6/\
 ∀(gU:OA) (gz:Nat) (iV:Nat) (n5:Int),∀h7:ab,I1 gU gz iV n5 h7->
 bif(decide (n5<(fj:Int)))then(
 (0<=n5/\n5<(fj:Int))/\
 ae fQ λp1=>
 ∃gV,List.length gV=3/\ai h7 (p1.add ((Int.toNat n5)*3)) gV/\
 ax zP 113 gV 3 h7 λh9=>
 ∃n6,cellOf h9 (aS h7 0)=some (vI n6)/\
 ∃s1,cellOf h9 (aS h7 1)=some (.string s1)/\
 ∃n7,cellOf h9 (aS h7 2)=some (vI n7)/\
 List.length ([vI (IntKind.wrap .i64 ((IntKind.wrap .i64 (16*k1))+n6)),.string s1,vI n7]:LV)=3/\
 aC [vI (IntKind.wrap .i64 ((IntKind.wrap .i64 (16*k1))+n6)),.string s1,vI n7] 113 h9 λh10=>
 ∃aR,List.length aR=1*3/\ag h10 (some ⟨h9.size,0,none⟩) aR/\(∀v∈aR,v.oneCell'=true)/\
 aw mB 113 gU gz iV 1 aR h10 λj9 jO kH cg=>
 I1 j9 jO kH (IntKind.wrap .i64 (n5+1)) cg/\M1 j9 jO kH (IntKind.wrap .i64 (n5+1)) cg<M1 gU gz iV n5 h7)else(
 K (.tuple #[.slice gU gz iV,vI 0]) h7)))
def eZ(t1:OA)(g1:LV)(x1:LV)(k1:Int)(K:KT)(h1:ab):Prop:=
 aC g1 25 h1 λh2=>
 aC x1 123 h2 λh3=>
 ∃bV,List.length bV=5/\ai h3 ⟨h1.size,0,none⟩ bV/\
 ∃eO,List.length eO=15/\ai h3 ⟨h2.size,0,none⟩ eO/\
 C.cE t1 bV eO k1 h3 λr1 h4=>
 ∃n1 n2,r1 = .tuple #[vI n1,vI n2]/\
 bif(n2 != 0)then(
 K (.tuple #[.slice none 0 0,vI n2]) h4)else(
 bif(n1==0)then(
 K (.tuple #[.slice none 0 0,vI n2]) h4)else(
 eZ.k1 t1 k1 h4 n1 K))
theorem eZ.ok{t1 g1 x1 k1 K h}(x:eZ t1 g1 x1 k1 K h):C.eZ t1 g1 x1 k1 h K:=fk (fun|12=>([3,50,51],[(15,.slice),(52,.int .i64)])|_=>([],[])) o0 Tryz.func246 x
def bK(n1:Int)(yy:Int)(rv:Int)(K:KT)(h1:ab):Prop:=
 bif(decide (n1>=yy))then(
 K (.bool (decide (n1<=rv))) h1)else(
 K (.bool false) h1)
theorem bK.ok{n1 yy rv K h}(x:bK n1 yy rv K h):C.bK n1 yy rv h K:=fz Tryz.func252 x
def fe(n1:Int)(yz:Int)(K:KT)(h1:ab):Prop:=
 ∃(I1:Int->OA->Nat->Nat->Int->ab->Prop) (M1:Int->OA->Nat->Nat->Int->ab->Nat),I1 n1 none 0 0 0 h1/\
 ∀(n2:Int) (cJ:OA) (dE:Nat) (df:Nat) (i1:Int),∀h2:ab,I1 n2 cJ dE df i1 h2->
 bif(decide (i1<yz))then(
 aC [.int .u8 (IntKind.wrap .u8 ((Int.tmod n2 256)))] 5 h2 λh3=>
 ∃aR,List.length aR=1*1/\ag h3 (some ⟨h2.size,0,none⟩) aR/\(∀v∈aR,v.oneCell'=true)/\
 aw yx 5 cJ dE df 1 aR h3 λaX aK bJ h4=>
 I1 (IntKind.wrap .i64 (Int.tdiv n2 256)) aX aK bJ (IntKind.wrap .i64 (i1+1)) h4/\M1 (IntKind.wrap .i64 (Int.tdiv n2 256)) aX aK bJ (IntKind.wrap .i64 (i1+1)) h4<M1 n2 cJ dE df i1 h2)else(
 K (.slice cJ dE df) h2)
theorem fe.ok{n1 yz K h}(x:fe n1 yz K h):C.fe n1 yz h K:=fk (fun|3=>([1],[(0,.int .i64),(5,.slice),(6,.int .i64)])|_=>([],[])) o0 Tryz.func253 x
def iL(d1:OA)(i1:Int)(K:KT)(h1:ab):Prop:=
 bif(decide (i1>=0))then(
 ae d1 λp1=>
 ∃aX aK bJ,cellOf h1 (p1.add 0)=some (.slice aX aK bJ)/\
 K (.bool (decide (i1<(aK:Int)))) h1)else(
 K (.bool false) h1)
theorem iL.ok{d1 i1 K h}(x:iL d1 i1 K h):C.iL d1 i1 h K:=fz Tryz.func268 x
def bE.k1(s1:ByteArray)(r1:Int)(i2:Int)(h9:ab)(K:KT):Prop:=
 ∃(I3:Int->ab->Prop) (M3:Int->ab->Nat),I3 1 h9/\
 ∀(j1:Int),∀h10:ab,I3 j1 h10->
 bif(decide (j1<((Utf8.encode r1).size:Int)))then(
 (0<=(IntKind.wrap .i64 (i2-j1))/\(IntKind.wrap .i64 (i2-j1))<(s1.size:Int))/\
 ∃b5:UInt8,s1.toList[Int.toNat (IntKind.wrap .i64 (i2-j1))]?=some b5/\
 (0<=(IntKind.wrap .i64 ((IntKind.wrap .i64 (((Utf8.encode r1).size:Int)-1))-j1))/\(IntKind.wrap .i64 ((IntKind.wrap .i64 (((Utf8.encode r1).size:Int)-1))-j1))<((Utf8.encode r1).size:Int))/\
 ∃b6:UInt8,(Utf8.encode r1).toList[Int.toNat (IntKind.wrap .i64 ((IntKind.wrap .i64 (((Utf8.encode r1).size:Int)-1))-j1))]?=some b6/\
 bif(((UInt8.toNat b5:Nat):Int) != ((UInt8.toNat b6:Nat):Int))then(
 False)else(
 I3 (IntKind.wrap .i64 (j1+1)) h10/\M3 (IntKind.wrap .i64 (j1+1)) h10<M3 j1 h10))else(
 K (vI (IntKind.wrap .i64 (i2-(IntKind.wrap .i64 (((Utf8.encode r1).size:Int)-1))))) h10)
def bE.k2(s1:ByteArray)(r1:Int)(i4:Int)(eM:ab)(K:KT):Prop:=
 ∃(I6:Int->ab->Prop) (M6:Int->ab->Nat),I6 1 eM/\
 ∀(j2:Int),∀h18:ab,I6 j2 h18->
 bif(decide (j2<((Utf8.encode r1).size:Int)))then(
 (0<=(IntKind.wrap .i64 (i4-j2))/\(IntKind.wrap .i64 (i4-j2))<(s1.size:Int))/\
 ∃b11:UInt8,s1.toList[Int.toNat (IntKind.wrap .i64 (i4-j2))]?=some b11/\
 (0<=(IntKind.wrap .i64 ((IntKind.wrap .i64 (((Utf8.encode r1).size:Int)-1))-j2))/\(IntKind.wrap .i64 ((IntKind.wrap .i64 (((Utf8.encode r1).size:Int)-1))-j2))<((Utf8.encode r1).size:Int))/\
 ∃b12:UInt8,(Utf8.encode r1).toList[Int.toNat (IntKind.wrap .i64 ((IntKind.wrap .i64 (((Utf8.encode r1).size:Int)-1))-j2))]?=some b12/\
 bif(((UInt8.toNat b11:Nat):Int) != ((UInt8.toNat b12:Nat):Int))then(
 False)else(
 I6 (IntKind.wrap .i64 (j2+1)) h18/\M6 (IntKind.wrap .i64 (j2+1)) h18<M6 j2 h18))else(
 K (vI (IntKind.wrap .i64 (i4-(IntKind.wrap .i64 (((Utf8.encode r1).size:Int)-1))))) h18)
def bE(s1:ByteArray)(r1:Int)(K:KT)(h1:ab):Prop:=
 bif(decide ((0:Int)<=r1))then(
 bif(decide (r1<128))then(
 C.dF s1 (IntKind.wrap .u8 (r1)) h1 λr2 h2=>
 ∃n1,r2 = vI n1/\
 K (vI n1) h2)else(
 bif(r1==65533)then(
 Jh s1 h1 λh3=>
 ∃(I1:HP) (M1:ab->Nat),I1  h3/\
 ∀h4:ab,I1  h4->
 Addr.off ⟨h1.size,0,none⟩=0/\
 ∃(s2:ByteArray) (wq:Nat),h4[Addr.block ⟨h1.size,0,none⟩]?=some (.stringIter s2 wq)/\
 (wq<ByteArray.size s2->∀h5:ab,EF h4 (Addr.block ⟨h1.size,0,none⟩) s2 (wq+(Utf8.decode s2 wq).2) h5->
 bif((((Utf8.decode s2 wq).1:Nat):Int)==65533)then(
 K (vI (wq:Int)) h5)else(
 I1  h5/\M1  h5<M1  h4))/\
 (¬wq<ByteArray.size s2->
 K (vI (-1)) h4))else(
 C.cW r1 h1 λr3 h6=>
 ∃b1,r3 = .bool b1/\
 bif(!b1)then(
 K (vI (-1)) h6)else(
 ∃(I2:Int->ab->Prop) (M2:Int->ab->Nat),I2 (IntKind.wrap .i64 (((Utf8.encode r1).size:Int)-1)) h6/\
 ∀(i1:Int),∀h7:ab,I2 i1 h7->
 bif(decide (i1<(s1.size:Int)))then(
 (0<=i1/\i1<(s1.size:Int))/\
 ∃b2:UInt8,s1.toList[Int.toNat i1]?=some b2/\
 (0<=(IntKind.wrap .i64 (((Utf8.encode r1).size:Int)-1))/\(IntKind.wrap .i64 (((Utf8.encode r1).size:Int)-1))<((Utf8.encode r1).size:Int))/\
 ∃b3:UInt8,(Utf8.encode r1).toList[Int.toNat (IntKind.wrap .i64 (((Utf8.encode r1).size:Int)-1))]?=some b3/\
 bif(((UInt8.toNat b2:Nat):Int) != ((UInt8.toNat b3:Nat):Int))then(
 (0<=(IntKind.wrap .i64 (i1+1))/\(IntKind.wrap .i64 (i1+1))<=(s1.size:Int))/\
 (0<=(IntKind.wrap .i64 (((Utf8.encode r1).size:Int)-1))/\(IntKind.wrap .i64 (((Utf8.encode r1).size:Int)-1))<((Utf8.encode r1).size:Int))/\
 ∃b4:UInt8,(Utf8.encode r1).toList[Int.toNat (IntKind.wrap .i64 (((Utf8.encode r1).size:Int)-1))]?=some b4/\
 C.dF (ByteArray.extract s1 (Int.toNat (IntKind.wrap .i64 (i1+1))) s1.size) ((UInt8.toNat b4:Nat):Int) h7 λr4 h8=>
 ∃n2,r4 = vI n2/\
 bif(decide (n2<0))then(
 K (vI (-1)) h8)else(
 bE.k1 s1 r1 (IntKind.wrap .i64 (i1+(IntKind.wrap .i64 (n2+1)))) h8 K))else(
 bE.k1 s1 r1 i1 h7 K))else(
 K (vI (-1)) h7)))))else(
 bif(r1==65533)then(
 Jh s1 h1 λcg=>
 ∃(I4:HP) (M4:ab->Nat),I4  cg/\
 ∀bb:ab,I4  bb->
 Addr.off ⟨h1.size,0,none⟩=0/\
 ∃(s3:ByteArray) (Ju:Nat),bb[Addr.block ⟨h1.size,0,none⟩]?=some (.stringIter s3 Ju)/\
 (Ju<ByteArray.size s3->∀bU:ab,EF bb (Addr.block ⟨h1.size,0,none⟩) s3 (Ju+(Utf8.decode s3 Ju).2) bU->
 bif((((Utf8.decode s3 Ju).1:Nat):Int)==65533)then(
 K (vI (Ju:Int)) bU)else(
 I4  bU/\M4  bU<M4  bb))/\
 (¬Ju<ByteArray.size s3->
 K (vI (-1)) bb))else(
 C.cW r1 h1 λr5 gh=>
 ∃b7,r5 = .bool b7/\
 bif(!b7)then(
 K (vI (-1)) gh)else(
 ∃(I5:Int->ab->Prop) (M5:Int->ab->Nat),I5 (IntKind.wrap .i64 (((Utf8.encode r1).size:Int)-1)) gh/\
 ∀(i3:Int),∀fg:ab,I5 i3 fg->
 bif(decide (i3<(s1.size:Int)))then(
 (0<=i3/\i3<(s1.size:Int))/\
 ∃b8:UInt8,s1.toList[Int.toNat i3]?=some b8/\
 (0<=(IntKind.wrap .i64 (((Utf8.encode r1).size:Int)-1))/\(IntKind.wrap .i64 (((Utf8.encode r1).size:Int)-1))<((Utf8.encode r1).size:Int))/\
 ∃b9:UInt8,(Utf8.encode r1).toList[Int.toNat (IntKind.wrap .i64 (((Utf8.encode r1).size:Int)-1))]?=some b9/\
 bif(((UInt8.toNat b8:Nat):Int) != ((UInt8.toNat b9:Nat):Int))then(
 (0<=(IntKind.wrap .i64 (i3+1))/\(IntKind.wrap .i64 (i3+1))<=(s1.size:Int))/\
 (0<=(IntKind.wrap .i64 (((Utf8.encode r1).size:Int)-1))/\(IntKind.wrap .i64 (((Utf8.encode r1).size:Int)-1))<((Utf8.encode r1).size:Int))/\
 ∃b10:UInt8,(Utf8.encode r1).toList[Int.toNat (IntKind.wrap .i64 (((Utf8.encode r1).size:Int)-1))]?=some b10/\
 C.dF (ByteArray.extract s1 (Int.toNat (IntKind.wrap .i64 (i3+1))) s1.size) ((UInt8.toNat b10:Nat):Int) fg λr6 iS=>
 ∃n3,r6 = vI n3/\
 bif(decide (n3<0))then(
 K (vI (-1)) iS)else(
 bE.k2 s1 r1 (IntKind.wrap .i64 (i3+(IntKind.wrap .i64 (n3+1)))) iS K))else(
 bE.k2 s1 r1 i3 fg K))else(
 K (vI (-1)) fg))))
set_option maxRecDepth 1000000 in
set_option maxRecDepth 1000000 in
theorem bE.ok{s1 r1 K h}(x:bE s1 r1 K h):C.bE s1 r1 h K:=fk (fun|5=>([0,7,8],[(9,.int .i64)])|12=>([0,7,8,9],[(12,.int .i64)])|38=>([175],[])|_=>([],[])) (fun|6=>(.op 0 [] (.op 1 [] (.op 2 [] (.op 3 [] (.op 4 [] (.op 5 [] (.op 6 [] .nil)))))))|7=>(.op 0 [] (.op 1 [] (.op 2 [] (.op 3 [] (.op 4 [] (.op 5 [] (.op 6 [] (.op 7 [] (.op 8 [] .nil)))))))))|14=>(.op 0 [] (.op 1 [] (.op 2 [] (.op 3 [] (.op 4 [] (.op 5 [] (.op 6 [] (.op 7 [] (.op 8 [] (.op 9 [] (.op 10 [] .nil)))))))))))|31=>(.op 0 [] (.op 1 [] (.op 2 [] (.op 3 [] (.op 4 [] (.op 5 [] (.op 6 [] (.op 7 [] (.op 8 [] (.op 9 [] (.op 10 [] .nil)))))))))))|_=>.nil) Tryz.func269 x
def dK(uO:Int)(K:KT)(h1:ab):Prop:=
 K (.bool (decide (uO>8))) h1
theorem dK.ok{uO K h}(x:dK uO K h):C.dK uO h K:=fz Tryz.func270 x
def eJ(fN:ByteArray)(K:KT)(h1:ab):Prop:=
 aC Yu 361 h1 λh2=>
 ∃(I1:Int->ab->Prop) (M1:Int->ab->Nat),I1 0 h2/\
 ∀(i1:Int),∀h3:ab,I1 i1 h3->
 bif(decide (i1<(fN.size:Int)))then(
 (0<=i1/\i1<(fN.size:Int))/\
 ∃b1:UInt8,fN.toList[Int.toNat i1]?=some b1/\
 bif(decide (((UInt8.toNat b1:Nat):Int)>=128))then(
 ∃bV,List.length bV=256/\ai h3 ⟨h1.size,0,none⟩ bV/\
 ar ⟨h1.size,0,none⟩ bV 256 h3 λh4=>
 ∃bL,List.length bL=256/\ai h4 ⟨h1.size,0,none⟩ bL/\
 K (.tuple #[.agg ⟨bL⟩,.bool false]) h4)else(
 (0<=((UInt8.toNat b1:Nat):Int)/\((UInt8.toNat b1:Nat):Int)<(256:Int))/\
 bQ (Addr.add ⟨h1.size,0,none⟩ (Int.toNat ((UInt8.toNat b1:Nat):Int))) (.bool true) h3 λh5=>
 I1 (IntKind.wrap .i64 (i1+1)) h5/\M1 (IntKind.wrap .i64 (i1+1)) h5<M1 i1 h3))else(
 ∃eO,List.length eO=256/\ai h3 ⟨h1.size,0,none⟩ eO/\
 ar ⟨h1.size,0,none⟩ eO 256 h3 λh6=>
 ∃di,List.length di=256/\ai h6 ⟨h1.size,0,none⟩ di/\
 K (.tuple #[.agg ⟨di⟩,.bool true]) h6)
theorem eJ.ok{fN K h}(x:eJ fN K h):C.eJ fN h K:=fk (fun|2=>([0,2],[(4,.int .i64)])|_=>([],[])) o0 Tryz.func271 x
def dL(as1:OA)(c1:Int)(K:KT)(h1:ab):Prop:=
 ae as1 λp1=>
 (0<=c1/\c1<(256:Int))/\
 ∃b1,cellOf h1 (p1.add (Int.toNat c1))=some (.bool b1)/\
 K (.bool b1) h1
theorem dL.ok{as1 c1 K h}(x:dL as1 c1 K h):C.dL as1 c1 h K:=fz Tryz.func272 x
def pQ(k1:Int)(K:KT)(h1:ab):Prop:=
 bif(decide (k1<10))then(
 List.length ([vI 0,vI k1]:LV)=2/\
 aC [vI 0,vI k1] 307 h1 λh2=>
 K (.slice (some ⟨h1.size,0,none⟩) 1 1) h2)else(
 bif(decide (k1<138))then(
 List.length ([vI 1,vI 0]:LV)=2/\
 List.length ([vI 3,vI (IntKind.wrap .i64 (k1-10))]:LV)=2/\
 aC [vI 1,vI 0,vI 3,vI (IntKind.wrap .i64 (k1-10))] 307 h1 λh3=>
 K (.slice (some ⟨h1.size,0,none⟩) 2 2) h3)else(
 List.length ([vI 2,vI 0]:LV)=2/\
 List.length ([vI 3,vI (IntKind.wrap .i64 (Int.tdiv (IntKind.wrap .i64 (k1-138)) 128))]:LV)=2/\
 List.length ([vI 3,vI (Int.tmod (IntKind.wrap .i64 (k1-138)) 128)]:LV)=2/\
 aC [vI 2,vI 0,vI 3,vI (IntKind.wrap .i64 (Int.tdiv (IntKind.wrap .i64 (k1-138)) 128)),vI 3,vI (Int.tmod (IntKind.wrap .i64 (k1-138)) 128)] 307 h1 λh4=>
 K (.slice (some ⟨h1.size,0,none⟩) 3 3) h4))
theorem pQ.ok{k1 K h}(x:pQ k1 K h):C.pQ k1 h K:=fz Tryz.func273 x
def gE(f1:OA)(s1:LV)(gv:Int)(K:KT)(h1:ab):Prop:=
 aC s1 307 h1 λh2=>
 ∃n1,cellOf h2 (Addr.add ⟨h1.size,0,none⟩ 0)=some (vI n1)/\
 bif(n1 != 3)then(
 ∃bV,List.length bV=2/\ai h2 ⟨h1.size,0,none⟩ bV/\
 C.jq f1 bV h2 λr1 h3=>
 ∃q1,r1 = .pointer q1/\
 ae q1 λp1=>
 ∃n2,cellOf h3 p1=some (vI n2)/\
 K (.tuple #[vI n2,.slice none 0 0,vI 0]) h3)else(
 ae f1 λp2=>
 ∃q2,cellOf h2 (p2.add 0)=some (.pointer q2)/\
 C.eA q2 gv h2 λr2 h4=>
 ∃aX aK bJ n3,r2 = .tuple #[.slice aX aK bJ,vI n3]/\
 bif(n3 != 0)then(
 K (.tuple #[vI 0,.slice none 0 0,vI n3]) h4)else(
 ∃n4,cellOf h4 (Addr.add ⟨h1.size,0,none⟩ 1)=some (vI n4)/\
 C.n' aX aK bJ (IntKind.wrap .i64 (4*n4)) 4 h4 λr3 h5=>
 ∃n5 n6,r3 = .tuple #[.int .u64 n5,vI n6]/\
 K (.tuple #[vI (IntKind.wrap .i64 (n5)),.slice aX aK bJ,vI 0]) h5))
theorem gE.ok{f1 s1 gv K h}(x:gE f1 s1 gv K h):C.gE f1 s1 gv h K:=fz Tryz.func274 x
def jq(f1:OA)(s1:LV)(K:KT)(h1:ab):Prop:=
 aC s1 307 h1 λh2=>
 ∃n1,cellOf h2 (Addr.add ⟨h1.size,0,none⟩ 0)=some (vI n1)/\
 bif(n1==0)then(
 ∃n2,cellOf h2 (Addr.add ⟨h1.size,0,none⟩ 1)=some (vI n2)/\
 ae f1 λp1=>
 (0<=n2/\n2<(10:Int))/\
 K (.pointer (some (Addr.add (Addr.add (p1.add 6) 3) (Int.toNat n2)))) h2)else(
 bif(n1==1)then(
 ae f1 λp2=>
 K (.pointer (some (Addr.add (p2.add 6) 13))) h2)else(
 ae f1 λp3=>
 K (.pointer (some (Addr.add (p3.add 6) 14))) h2))
theorem jq.ok{f1 s1 K h}(x:jq f1 s1 K h):C.jq f1 s1 h K:=fk l0 (fun|3=>(.op 0 [] (.op 1 [] (.op 2 [] (.op 3 [] (.op 4 [] (.op 5 [] (.op 6 [] (.op 7 [] .nil))))))))|_=>.nil) Tryz.func276 x
def jr(x1:LV)(K:KT)(h1:ab):Prop:=
 aC x1 123 h1 λh2=>
 aC Yv 371 h2 λh3=>
 aC Yv 371 h3 λh4=>
 qU qP (some ⟨h3.size,0,none⟩) 12 (.slice (some (Addr.add ⟨h1.size,0,none⟩ 3)) 10 10) h4 λn1 h5=>
 ∃n2,cellOf h5 (Addr.add ⟨h1.size,0,none⟩ 13)=some (vI n2)/\
 ∃n3,cellOf h5 (Addr.add ⟨h1.size,0,none⟩ 14)=some (vI n3)/\
 (0<=(10:Int)/\10<(12:Int))/\
 bQ (Addr.add ⟨h3.size,0,none⟩ (Int.toNat 10)) (vI n2) h5 λh6=>
 (0<=(11:Int)/\11<(12:Int))/\
 bQ (Addr.add ⟨h3.size,0,none⟩ (Int.toNat 11)) (vI n3) h6 λh7=>
 ∃bV,List.length bV=12/\ai h7 ⟨h3.size,0,none⟩ bV/\
 ar ⟨h2.size,0,none⟩ bV 12 h7 λh8=>
 ∃bL,List.length bL=12/\ai h8 ⟨h2.size,0,none⟩ bL/\
 K (.agg ⟨bL⟩) h8
theorem jr.ok{x1 K h}(x:jr x1 K h):C.jr x1 h K:=fk l0 (fun|2=>(.op 0 [] (.op 1 [] (.op 2 [] (.op 3 [] .nil))))|_=>.nil) Tryz.func277 x
def fV(w1:OA)(K:KT)(h1:ab):Prop:=
 ae w1 λp1=>
 ∃b1,cellOf h1 (p1.add 10)=some (.bool b1)/\
 bif b1 then(
 K (.bool true) h1)else(
 ae w1 λp2=>
 ∃aX aK bJ,cellOf h1 (p2.add 7)=some (.slice aX aK bJ)/\
 K (.bool (decide ((aK:Int)>0))) h1)
theorem fV.ok{w1 K h}(x:fV w1 K h):C.fV w1 h K:=fz Tryz.func283 x
def iC(r1:OA)(n1:Int)(K:KT)(h1:ab):Prop:=
 ae r1 λp1=>
 ∃aX aK bJ,cellOf h1 (p1.add 0)=some (.slice aX aK bJ)/\
 aC [vI n1] 3 h1 λh2=>
 ∃aR,List.length aR=1*1/\ag h2 (some ⟨h1.size,0,none⟩) aR/\(∀v∈aR,v.oneCell'=true)/\
 aw qP 3 aX aK bJ 1 aR h2 λfQ fj gT h3=>
 ae r1 λp2=>
 bQ (p2.add 0) (.slice fQ fj gT) h3 λh4=>
 K (.tuple #[]) h4
theorem iC.ok{r1 n1 K h}(x:iC r1 n1 K h):C.iC r1 n1 h K:=fz Tryz.func284 x
def kv.k1(n1:Int)(jo:Int)(sS:Int)(h1:ab)(h2:ab)(h3:ab)(h4:ab)(h10:ab)(K:KT):Prop:=
 ∃q1,cellOf h10 ⟨h1.size,0,none⟩=some (.pointer q1)/\
 ∃bV,List.length bV=5/\ai h10 ⟨h2.size,0,none⟩ bV/\
 C.pP q1 bV n1 h10 λr1 cg=>
 ∃eO n2,r1 = .tuple #[.agg ⟨eO⟩,vI n2]/\
 ax gC 123 eO 15 cg λbU=>
 bif(n2 != 0)then(
 bQ ⟨h3.size,0,none⟩ (.string (mkStr [])) bU λgh=>
 bQ ⟨h4.size,0,none⟩ (vI n2) gh λfg=>
 ∃lG,cellOf fg ⟨h3.size,0,none⟩=some (.string lG)/\
 ∃tf,cellOf fg ⟨h4.size,0,none⟩=some (vI tf)/\
 K (.tuple #[.string lG,vI tf]) fg)else(
 ∃n3,cellOf bU (Addr.add ⟨cg.size,0,none⟩ 2)=some (vI n3)/\
 bif(decide (jo>=n3))then(
 bQ ⟨h3.size,0,none⟩ (.string (mkStr [])) bU λiS=>
 bQ ⟨h4.size,0,none⟩ (vI 0) iS λeM=>
 ∃CV,cellOf eM ⟨h3.size,0,none⟩=some (.string CV)/\
 ∃MR,cellOf eM ⟨h4.size,0,none⟩=some (vI MR)/\
 K (.tuple #[.string CV,vI MR]) eM)else(
 aC abR 403 bU λh18=>
 ∃n4,cellOf h18 (Addr.add ⟨cg.size,0,none⟩ 2)=some (vI n4)/\
 C.nM jo (if(IntKind.wrap .i64 (n4-jo))<sS then(IntKind.wrap .i64 (n4-jo))else sS) h18 λr2 fO=>
 ∃v1,r2=v1/\
 ∀(R1:Loop),
 (∀(gV:LV),∀(gY:ab) (k1:KT),br gY (fO.size+1) R1 .ready none->
 (
 ax Yw 408 gV 4 gY λjC=>
 br jC (fO.size+1) R1 .ready none/\
 td jC (fO.size+1) R1 .busy none λlu=>
 ∃q2,cellOf lu ⟨h1.size,0,none⟩=some (.pointer q2)/\
 ∃lN,List.length lN=5/\ai lu ⟨h2.size,0,none⟩ lN/\
 ∃kx,List.length kx=15/\ai lu ⟨cg.size,0,none⟩ kx/\
 ∃n5,cellOf lu (Addr.add ⟨gY.size,0,none⟩ 0)=some (vI n5)/\
 C.mw q2 lN kx n5 lu λr3 pz=>
 ∃aX aK bJ n6,r3 = .tuple #[.slice aX aK bJ,vI n6]/\
 bif(n6 != 0)then(
 bQ ⟨h3.size,0,none⟩ (.string (mkStr [])) pz λjv=>
 bQ ⟨h4.size,0,none⟩ (vI n6) jv λjG=>
 br jG (fO.size+1) R1 .busy none/\
 k1 (.bool false) (cZ jG (fO.size+1) R1 .done (some .ret)))else(
 ∃n7,cellOf pz (Addr.add ⟨gY.size,0,none⟩ 1)=some (vI n7)/\
 ∃n8,cellOf pz (Addr.add ⟨gY.size,0,none⟩ 2)=some (vI n8)/\
 (0<=n7/\n7<=n8/\n8<=(bJ:Int))/\
 C.dX (some ⟨bU.size,0,none⟩) (if bJ=(Int.toNat n7)then aX else Option.map (Addr.add · (Int.toNat n7)) aX) ((Int.toNat n8)-(Int.toNat n7)) (bJ-(Int.toNat n7)) pz λr4 sb=>
 ∃n9 v2,r4 = .tuple #[vI n9,v2]/\
 br sb (fO.size+1) R1 .busy none/\
 k1 (.bool true) (cZ sb (fO.size+1) R1 .ready none)))->
 mj Tryz.prog (fO.size+1) [.agg ⟨gV⟩] gY k1)->
 rP Tryz.prog v1 [.func (.yield (fO.size+1)) #[] #[]] (bN fO R1) λ_ og=>
 ∃(st1:LoopState) (iP:Option Code),br og (fO.size+1) R1 st1 iP/\st1≠.busy/\
 vz iP (
 td og (fO.size+1) R1 .exhausted iP λAl=>
 C.mT (some ⟨bU.size,0,none⟩) Al λr5 nz=>
 ∃s1,r5 = .string s1/\
 bQ ⟨h3.size,0,none⟩ (.string s1) nz λsT=>
 bQ ⟨h4.size,0,none⟩ (vI 0) sT λpj=>
 qm fO.size pj λAq=>
 ∃PC,cellOf Aq ⟨h3.size,0,none⟩=some (.string PC)/\
 ∃G7,cellOf Aq ⟨h4.size,0,none⟩=some (vI G7)/\
 K (.tuple #[.string PC,vI G7]) Aq) (
 td og (fO.size+1) R1 .exhausted iP λPz=>
 qm fO.size Pz λOJ=>
 ∃Xn,cellOf OJ ⟨h3.size,0,none⟩=some (.string Xn)/\
 ∃Xo,cellOf OJ ⟨h4.size,0,none⟩=some (vI Xo)/\
 K (.tuple #[.string Xn,vI Xo]) OJ) (λ_=>False)))
def kv(t1:OA)(g1:LV)(n1:Int)(jo:Int)(sS:Int)(K:KT)(h1:ab):Prop:=
 aC [.pointer t1] 23 h1 λh2=>
 aC g1 25 h2 λh3=>
 aC z9 9 h3 λh4=>
 aC z34 34 h4 λh5=>
 bif(decide (jo<0))then(
 bQ ⟨h3.size,0,none⟩ (.string (mkStr [])) h5 λh6=>
 bQ ⟨h4.size,0,none⟩ (vI 1) h6 λh7=>
 ∃bL,cellOf h7 ⟨h3.size,0,none⟩=some (.string bL)/\
 ∃di,cellOf h7 ⟨h4.size,0,none⟩=some (vI di)/\
 K (.tuple #[.string bL,vI di]) h7)else(
 bif(decide (sS<0))then(
 bQ ⟨h3.size,0,none⟩ (.string (mkStr [])) h5 λh8=>
 bQ ⟨h4.size,0,none⟩ (vI 1) h8 λh9=>
 ∃fA,cellOf h9 ⟨h3.size,0,none⟩=some (.string fA)/\
 ∃jf,cellOf h9 ⟨h4.size,0,none⟩=some (vI jf)/\
 K (.tuple #[.string fA,vI jf]) h9)else(
 kv.k1 n1 jo sS h1 h2 h3 h4 h5 K))
theorem kv.ok{t1 g1 n1 jo sS K h}(x:kv t1 g1 n1 jo sS K h):C.kv t1 g1 n1 jo sS h K:=fk (fun|1000010=>([],[(46,.agg)])|_=>([],[])) o0 Tryz.func285 x
def nK(s1:ByteArray)(K:KT)(h1:ab):Prop:=
 C.jk s1 false h1 λr1 h2=>
 ∃b1,r1 = .bool b1/\
 bif b1 then(
 K (.tuple #[.slice none 0 0,.bool false,vI 1]) h2)else(
 C.fH s1 1024 h2 λr2 h3=>
 ∃aX aK bJ n1,r2 = .tuple #[.slice aX aK bJ,vI n1]/\
 bif(n1 != 0)then(
 K (.tuple #[.slice none 0 0,.bool false,vI n1]) h3)else(
 (0<=(0:Int)/\0<(s1.size:Int))/\
 ∃b2:UInt8,s1.toList[Int.toNat 0]?=some b2/\
 K (.tuple #[.slice aX aK bJ,.bool (((UInt8.toNat b2:Nat):Int)==47),vI 0]) h3))
theorem nK.ok{s1 K h}(x:nK s1 K h):C.nK s1 h K:=fk l0 (fun|6=>(.op 0 [] (.op 1 [] (.op 2 [] (.op 3 [] (.op 4 [] (.op 5 [] (.op 6 [] .nil)))))))|_=>.nil) Tryz.func286 x
def cC(aX:OA)(aK:Nat)(bJ:Nat)(K:KT)(h1:ab):Prop:=
 bif(Option.isNone aX)then(
 K (.slice none 0 0) h1)else(
 aC [] 9 h1 λh2=>
 ∃aR,List.length aR=aK*1/\ag h2 aX aR/\(∀v∈aR,v.oneCell'=true)/\
 aw tN 9 (some ⟨h1.size,0,none⟩) 0 0 aK aR h2 λfQ fj gT h3=>
 K (.slice fQ fj gT) h3)
theorem cC.ok{aX aK bJ K h}(x:cC aX aK bJ K h):C.cC aX aK bJ h K:=fz Tryz.func287 x
def nL(cJ:OA)(dE:Nat)(df:Nat)(K:KT)(h1:ab):Prop:=
 ∃(I1:Int->ab->Prop) (M1:Int->ab->Nat),I1 0 h1/\
 ∀(n1:Int),∀h2:ab,I1 n1 h2->
 bif(decide (n1<(dE:Int)))then(
 (0<=n1/\n1<(dE:Int))/\
 ae cJ λp1=>
 ∃n2,cellOf h2 (p1.add (Int.toNat n1))=some (.int .u8 n2)/\
 bif(n2 != 0)then(
 K (.bool false) h2)else(
 I1 (IntKind.wrap .i64 (n1+1)) h2/\M1 (IntKind.wrap .i64 (n1+1)) h2<M1 n1 h2))else(
 K (.bool true) h2)
theorem nL.ok{cJ dE df K h}(x:nL cJ dE df K h):C.nL cJ dE df h K:=fk (fun|2=>([5,6],[(7,.int .i64)])|_=>([],[])) o0 Tryz.func289 x
def jt(t1:OA)(g1:LV)(n1:Int)(K:KT)(h1:ab):Prop:=
 aC g1 25 h1 λh2=>
 aC gC 123 h2 λh3=>
 ∃bV,List.length bV=5/\ai h3 ⟨h1.size,0,none⟩ bV/\
 C.eY t1 bV n1 h3 λr1 h4=>
 ∃eO n2,r1 = .tuple #[.agg ⟨eO⟩,vI n2]/\
 ax gC 123 eO 15 h4 λh6=>
 bif(n2 != 0)then(
 ar ⟨h2.size,0,none⟩ gC 15 h6 λh7=>
 ∃bL,List.length bL=15/\ai h7 ⟨h2.size,0,none⟩ bL/\
 K (.tuple #[.agg ⟨bL⟩,vI n2]) h7)else(
 ∃n3,cellOf h6 (aS h4 0)=some (vI n3)/\
 bif(n3==0)then(
 ar ⟨h2.size,0,none⟩ gC 15 h6 λh8=>
 ∃di,List.length di=15/\ai h8 ⟨h2.size,0,none⟩ di/\
 K (.tuple #[.agg ⟨di⟩,vI 110]) h8)else(
 ∃gV,List.length gV=15/\ai h6 ⟨h4.size,0,none⟩ gV/\
 ar ⟨h2.size,0,none⟩ gV 15 h6 λh9=>
 ∃fA,List.length fA=15/\ai h9 ⟨h2.size,0,none⟩ fA/\
 K (.tuple #[.agg ⟨fA⟩,vI 0]) h9))
theorem jt.ok{t1 g1 n1 K h}(x:jt t1 g1 n1 K h):C.jt t1 g1 n1 h K:=fz Tryz.func293 x
def cE.k2(t1:OA)(aX:OA)(aK:Nat)(n3:Int)(i1:Int)(h6:ab)(I1:Int->Int->ab->Prop)(M1:Int->Int->ab->Nat)(h7:ab)(K:KT):Prop:=
 bif(i1==(aK:Int))then(
 K (.tuple #[vI n3,vI 0]) h7)else(
 C.iO t1 n3 h7 λr4 h8=>
 ∃fQ fj gT n5,r4 = .tuple #[.slice fQ fj gT,vI n5]/\
 bif(n5 != 0)then(
 K (.tuple #[vI 0,vI n5]) h8)else(
 (0<=i1/\i1<(aK:Int))/\
 ae aX λp1=>
 ∃n6,cellOf h8 (p1.add (Int.toNat i1))=some (vI n6)/\
 (0<=n6/\n6<(fj:Int))/\
 ae fQ λp2=>
 ∃n7,cellOf h8 (p2.add (Int.toNat n6))=some (vI n7)/\
 I1 n7 (IntKind.wrap .i64 (i1+1)) h8/\M1 n7 (IntKind.wrap .i64 (i1+1)) h8<M1 n3 i1 h6))
def cE.k1(t1:OA)(k1:Int)(h1:ab)(h2:ab)(h3:ab)(K:KT):Prop:=
 C.gF k1 h3 λr1 h4=>
 ∃n1 aX aK bJ,r1 = .tuple #[vI n1,.slice aX aK bJ]/\
 ∃bV,List.length bV=15/\ai h4 ⟨h2.size,0,none⟩ bV/\
 C.gG bV n1 h4 λr2 h5=>
 ∃n2,r2 = vI n2/\
 ∃(I1:Int->Int->ab->Prop) (M1:Int->Int->ab->Nat),I1 n2 0 h5/\
 ∀(n3:Int) (i1:Int),∀h6:ab,I1 n3 i1 h6->
 ∃eO,List.length eO=5/\ai h6 ⟨h1.size,0,none⟩ eO/\
 C.iN eO n3 h6 λr3 h7=>
 ∃n4,r3 = vI n4/\
 bif(n4 != 0)then(
 K (.tuple #[vI 0,vI n4]) h7)else(
 bif(n3==0)then(
 K (.tuple #[vI 0,vI n4]) h7)else(
 cE.k2 t1 aX aK n3 i1 h6 I1 M1 h7 K))
def cE(t1:OA)(g1:LV)(x1:LV)(k1:Int)(K:KT)(h1:ab):Prop:=
 aC g1 25 h1 λh2=>
 aC x1 123 h2 λh3=>
 bif(decide (k1<0))then(
 K (.tuple #[vI 0,vI 101]) h3)else(
 bif(decide (k1>=16522))then(
 K (.tuple #[vI 0,vI 101]) h3)else(
 cE.k1 t1 k1 h1 h2 h3 K))
set_option maxRecDepth 1000000 in
set_option maxRecDepth 1000000 in
theorem cE.ok{t1 g1 x1 k1 K h}(x:cE t1 g1 x1 k1 K h):C.cE t1 g1 x1 k1 h K:=fk (fun|7=>([0,5,11],[(12,.int .i64),(13,.int .i64)])|_=>([],[])) o0 Tryz.func294 x
def iM(cJ:OA)(dE:Nat)(df:Nat)(K:KT)(h1:ab):Prop:=
 bif((dE:Int) != 512)then(
 K (.tuple #[.slice none 0 0,vI 32]) h1)else(
 ∃(I1:OA->Nat->Nat->Int->ab->Prop) (M1:OA->Nat->Nat->Int->ab->Nat),I1 none 0 0 0 h1/\
 ∀(kF:OA) (jN:Nat) (kG:Nat) (k1:Int),∀h2:ab,I1 kF jN kG k1 h2->
 bif(decide (k1<16))then(
 (0<=(IntKind.wrap .i64 (32*k1))/\(IntKind.wrap .i64 (32*k1))<=(IntKind.wrap .i64 ((IntKind.wrap .i64 (32*k1))+32))/\(IntKind.wrap .i64 ((IntKind.wrap .i64 (32*k1))+32))<=(df:Int))/\
 C.ff (if df=(Int.toNat (IntKind.wrap .i64 (32*k1)))then cJ else Option.map (Addr.add · (Int.toNat (IntKind.wrap .i64 (32*k1)))) cJ) ((Int.toNat (IntKind.wrap .i64 ((IntKind.wrap .i64 (32*k1))+32)))-(Int.toNat (IntKind.wrap .i64 (32*k1)))) (df-(Int.toNat (IntKind.wrap .i64 (32*k1)))) h2 λr1 h3=>
 ∃n1 s1 b1,r1 = .tuple #[vI n1,.string s1,.bool b1]/\
 bif(!b1)then(
 K (.tuple #[.slice none 0 0,vI 140]) h3)else(
 bif(n1 != 0)then(
 List.length ([vI k1,.string s1,vI n1]:LV)=3/\
 aC [vI k1,.string s1,vI n1] 113 h3 λh4=>
 ∃aR,List.length aR=1*3/\ag h4 (some ⟨h3.size,0,none⟩) aR/\(∀v∈aR,v.oneCell'=true)/\
 aw mB 113 kF jN kG 1 aR h4 λaX aK bJ h5=>
 I1 aX aK bJ (IntKind.wrap .i64 (k1+1)) h5/\M1 aX aK bJ (IntKind.wrap .i64 (k1+1)) h5<M1 kF jN kG k1 h2)else(
 I1 kF jN kG (IntKind.wrap .i64 (k1+1)) h3/\M1 kF jN kG (IntKind.wrap .i64 (k1+1)) h3<M1 kF jN kG k1 h2)))else(
 K (.tuple #[.slice kF jN kG,vI 0]) h2))
theorem iM.ok{cJ dE df K h}(x:iM cJ dE df K h):C.iM cJ dE df h K:=fk (fun|5=>([0],[(4,.slice),(5,.int .i64)])|_=>([],[])) o0 Tryz.func295 x
def cW(r1:Int)(K:KT)(h1:ab):Prop:=
 bif(decide ((0:Int)<=r1))then(
 bif(decide (r1<55296))then(
 K (.bool true) h1)else(
 bif(decide ((57343:Int)<r1))then(
 bif(decide (r1<=1114111))then(
 K (.bool true) h1)else(
 K (.bool false) h1))else(
 K (.bool false) h1)))else(
 bif(decide ((57343:Int)<r1))then(
 bif(decide (r1<=1114111))then(
 K (.bool true) h1)else(
 K (.bool false) h1))else(
 K (.bool false) h1))
set_option maxRecDepth 1000000 in
set_option maxRecDepth 1000000 in
theorem cW.ok{r1 K h}(x:cW r1 K h):C.cW r1 h K:=fz Tryz.func311 x
def nM(jo:Int)(n1:Int)(K:KT)(h1:ab):Prop:=
 aC [vI jo] 3 h1 λh2=>
 aC [vI n1] 3 h2 λh3=>
 K (.func (.func 334) #[] ⟨[.pointer (some ⟨h2.size,0,none⟩),.pointer (some ⟨h1.size,0,none⟩)]⟩) h3
theorem nM.ok{jo n1 K h}(x:nM jo n1 K h):C.nM jo n1 h K:=fz Tryz.func315 x
def mw(t1:OA)(g1:LV)(x1:LV)(k1:Int)(K:KT)(h1:ab):Prop:=
 aC g1 25 h1 λh2=>
 aC x1 123 h2 λh3=>
 ∃bV,List.length bV=5/\ai h3 ⟨h1.size,0,none⟩ bV/\
 ∃eO,List.length eO=15/\ai h3 ⟨h2.size,0,none⟩ eO/\
 C.jK t1 bV eO k1 h3 λr1 h4=>
 ∃n1 n2,r1 = .tuple #[vI n1,vI n2]/\
 bif(n2 != 0)then(
 K (.tuple #[.slice none 0 0,vI n2]) h4)else(
 bif(n1==0)then(
 (0<=(512:Int)/\(512:Int)<=512/\(1:Int)*512<=281474976710656/\(512:Int)<=281474976710656)/\
 aC (aW z5 (Int.toNat 512)) 5 h4 λh5=>
 K (.tuple #[.slice (some ⟨h4.size,0,none⟩) (Int.toNat 512) (Int.toNat 512),vI 0]) h5)else(
 C.eA t1 n1 h4 λr2 h6=>
 ∃aX aK bJ n3,r2 = .tuple #[.slice aX aK bJ,vI n3]/\
 K (.tuple #[.slice aX aK bJ,vI n3]) h6))
theorem mw.ok{t1 g1 x1 k1 K h}(x:mw t1 g1 x1 k1 K h):C.mw t1 g1 x1 k1 h K:=fz Tryz.func316 x
def dX(b1:OA)(pA1:OA)(W3:Nat)(pC1:Nat)(K:KT)(h1:ab):Prop:=
 C.lM b1 h1 λr1 h2=>
 r1 = .tuple #[]/\
 ae b1 λp1=>
 ∃aX aK bJ,cellOf h2 (p1.add 1)=some (.slice aX aK bJ)/\
 ∃aR,List.length aR=W3*1/\ag h2 pA1 aR/\(∀v∈aR,v.oneCell'=true)/\
 aw yx 5 aX aK bJ W3 aR h2 λfQ fj gT h3=>
 ae b1 λp2=>
 bQ (p2.add 1) (.slice fQ fj gT) h3 λh4=>
 K (.tuple #[vI (W3:Int),.nilIface]) h4
theorem dX.ok{b1 pA1 W3 pC1 K h}(x:dX b1 pA1 W3 pC1 K h):C.dX b1 pA1 W3 pC1 h K:=fz Tryz.func317 x
def gF(k1:Int)(K:KT)(h1:ab):Prop:=
 bif(decide (k1<10))then(
 K (.tuple #[vI k1,.slice none 0 0]) h1)else(
 bif(decide (k1<138))then(
 aC [vI (IntKind.wrap .i64 (k1-10))] 3 h1 λh2=>
 K (.tuple #[vI 10,.slice (some ⟨h1.size,0,none⟩) 1 1]) h2)else(
 aC [vI (IntKind.wrap .i64 (Int.tdiv (IntKind.wrap .i64 ((IntKind.wrap .i64 (k1-10))-128)) 128)),vI (Int.tmod (IntKind.wrap .i64 ((IntKind.wrap .i64 (k1-10))-128)) 128)] 3 h1 λh3=>
 K (.tuple #[vI 11,.slice (some ⟨h1.size,0,none⟩) 2 2]) h3))
theorem gF.ok{k1 K h}(x:gF k1 K h):C.gF k1 h K:=fz Tryz.func320 x
def gG(x1:LV)(i1:Int)(K:KT)(h1:ab):Prop:=
 aC x1 123 h1 λh2=>
 bif(i1==10)then(
 ∃n1,cellOf h2 (Addr.add ⟨h1.size,0,none⟩ 13)=some (vI n1)/\
 K (vI n1) h2)else(
 bif(i1==11)then(
 ∃n2,cellOf h2 (Addr.add ⟨h1.size,0,none⟩ 14)=some (vI n2)/\
 K (vI n2) h2)else(
 (0<=i1/\i1<(10:Int))/\
 ∃n3,cellOf h2 (Addr.add (Addr.add ⟨h1.size,0,none⟩ 3) (Int.toNat i1))=some (vI n3)/\
 K (vI n3) h2))
theorem gG.ok{x1 i1 K h}(x:gG x1 i1 K h):C.gG x1 i1 h K:=fz Tryz.func321 x
def iN(g1:LV)(n1:Int)(K:KT)(h1:ab):Prop:=
 aC g1 25 h1 λh2=>
 bif(n1 != 0)then(
 ∃n2,cellOf h2 (Addr.add ⟨h1.size,0,none⟩ 3)=some (vI n2)/\
 bif(decide (n1<n2))then(
 K (vI 100) h2)else(
 ∃n3,cellOf h2 (Addr.add ⟨h1.size,0,none⟩ 0)=some (vI n3)/\
 bif(decide (n1>=n3))then(
 K (vI 100) h2)else(
 K (vI 0) h2)))else(
 K (vI 0) h2)
theorem iN.ok{g1 n1 K h}(x:iN g1 n1 K h):C.iN g1 n1 h K:=fz Tryz.func322 x
def iO(t1:OA)(n1:Int)(K:KT)(h1:ab):Prop:=
 C.bu t1 n1 h1 λr1 h2=>
 ∃aX aK bJ n2,r1 = .tuple #[.slice aX aK bJ,vI n2]/\
 bif(n2 != 0)then(
 K (.tuple #[.slice none 0 0,vI n2]) h2)else(
 C.hZ aX aK bJ h2 λr2 h3=>
 ∃fQ fj gT,r2 = .slice fQ fj gT/\
 K (.tuple #[.slice fQ fj gT,vI 0]) h3)
theorem iO.ok{t1 n1 K h}(x:iO t1 n1 K h):C.iO t1 n1 h K:=fz Tryz.func323 x
def ff.k1(cJ:OA)(dE:Nat)(n1:Int)(aZ:ByteArray)(h4:ab)(K:KT):Prop:=
 C.gS n1 aZ h4 λr3 h5=>
 ∃aX aK bJ,r3 = .slice aX aK bJ/\
 ∃(I1:Int->ab->Prop) (M1:Int->ab->Nat),I1 0 h5/\
 ∀(i1:Int),∀h6:ab,I1 i1 h6->
 bif(decide (i1<32))then(
 (0<=i1/\i1<(dE:Int))/\
 ae cJ λp2=>
 ∃n3,cellOf h6 (p2.add (Int.toNat i1))=some (.int .u8 n3)/\
 (0<=i1/\i1<(aK:Int))/\
 ae aX λp3=>
 ∃n4,cellOf h6 (p3.add (Int.toNat i1))=some (.int .u8 n4)/\
 bif(n3 != n4)then(
 K (.tuple #[vI 0,.string (mkStr []),.bool false]) h6)else(
 I1 (IntKind.wrap .i64 (i1+1)) h6/\M1 (IntKind.wrap .i64 (i1+1)) h6<M1 i1 h6))else(
 K (.tuple #[vI n1,.string aZ,.bool true]) h6)
def ff(cJ:OA)(dE:Nat)(df:Nat)(K:KT)(h1:ab):Prop:=
 C.gH cJ dE df h1 λr1 h2=>
 ∃n1,r1 = vI n1/\
 bif(n1 != 0)then(
 (0<=(4:Int)/\4<(dE:Int))/\
 ae cJ λp1=>
 ∃n2,cellOf h2 (p1.add (Int.toNat 4))=some (.int .u8 n2)/\
 bif(decide ((IntKind.wrap .i64 (n2))>27))then(
 K (.tuple #[vI 0,.string (mkStr []),.bool false]) h2)else(
 (0<=(5:Int)/\(5:Int)<=(IntKind.wrap .i64 (5+(IntKind.wrap .i64 (n2))))/\(IntKind.wrap .i64 (5+(IntKind.wrap .i64 (n2))))<=(df:Int))/\
 ∃CW,aJ h2 (if df=(Int.toNat 5)then cJ else Option.map (Addr.add · (Int.toNat 5)) cJ) ((Int.toNat (IntKind.wrap .i64 (5+(IntKind.wrap .i64 (n2)))))-(Int.toNat 5)) CW/\
 C.dR (mkStr CW) h2 λr2 h3=>
 ∃b1,r2 = .bool b1/\
 bif(!b1)then(
 K (.tuple #[vI 0,.string (mkStr []),.bool false]) h3)else(
 ff.k1 cJ dE n1 (mkStr CW) h3 K)))else(
 ff.k1 cJ dE n1 (mkStr []) h2 K)
theorem ff.ok{cJ dE df K h}(x:ff cJ dE df K h):C.ff cJ dE df h K:=fk (fun|12=>([0,5,6,8],[(9,.int .i64)])|_=>([],[])) (fun|14=>(.op 0 [] (.op 1 [] (.op 2 [] (.op 3 [] (.op 4 [] (.op 5 [] (.op 6 [] (.op 7 [] (.op 8 [] .nil)))))))))|_=>.nil) Tryz.func324 x
def ju(gu:Value)(iY:OA)(PD:OA)(K:KT)(h1:ab):Prop:=
 ∃(I1:Int->ab->Prop) (M1:Int->ab->Nat),I1 0 h1/\
 ∀(gv:Int),∀h2:ab,I1 gv h2->
 ae iY λp1=>
 ∃n1,cellOf h2 p1=some (vI n1)/\
 bif(decide (gv<n1))then(
 ae PD λp2=>
 ∃n2,cellOf h2 p2=some (vI n2)/\
 ae PD λp3=>
 ∃n3,cellOf h2 p3=some (vI n3)/\
 ax Yw 408 [vI (IntKind.wrap .i64 (Int.tdiv (IntKind.wrap .i64 (n2+gv)) 512)),vI (Int.tmod (IntKind.wrap .i64 (n3+gv)) 512),vI 0,vI gv] 4 h2 λh4=>
 ∃n4,cellOf h4 (Addr.add ⟨h2.size,0,none⟩ 1)=some (vI n4)/\
 ae iY λp4=>
 ∃n5,cellOf h4 p4=some (vI n5)/\
 bQ (Addr.add ⟨h2.size,0,none⟩ 2) (vI (if(IntKind.wrap .i64 ((IntKind.wrap .i64 (n4+n5))-gv))<512 then(IntKind.wrap .i64 ((IntKind.wrap .i64 (n4+n5))-gv))else 512)) h4 λh5=>
 ∃bV,List.length bV=4/\ai h5 ⟨h2.size,0,none⟩ bV/\
 oV Tryz.prog gu [.agg ⟨bV⟩] h5 λr1 h6=>
 ∃b1,r1 = .bool b1/\
 bif(!b1)then(
 K (.tuple #[]) h6)else(
 ∃n6,cellOf h6 (Addr.add ⟨h2.size,0,none⟩ 2)=some (vI n6)/\
 ∃n7,cellOf h6 (Addr.add ⟨h2.size,0,none⟩ 1)=some (vI n7)/\
 I1 (IntKind.wrap .i64 (gv+(IntKind.wrap .i64 (n6-n7)))) h6/\M1 (IntKind.wrap .i64 (gv+(IntKind.wrap .i64 (n6-n7)))) h6<M1 gv h2))else(
 K (.tuple #[]) h2)
theorem ju.ok{gu iY PD K h}(x:ju gu iY PD K h):C.ju gu iY PD h K:=fk (fun|1=>([0,1,2],[(4,.int .i64)])|_=>([],[])) o0 Tryz.func334 x
def hZ(cJ:OA)(dE:Nat)(df:Nat)(K:KT)(h1:ab):Prop:=
 ∃(I1:OA->Nat->Nat->Int->ab->Prop) (M1:OA->Nat->Nat->Int->ab->Nat),I1 none 0 0 0 h1/\
 ∀(kF:OA) (jN:Nat) (kG:Nat) (i1:Int),∀h2:ab,I1 kF jN kG i1 h2->
 bif(decide (i1<128))then(
 (0<=(IntKind.wrap .i64 (4*i1))/\(IntKind.wrap .i64 (4*i1))<(dE:Int))/\
 ae cJ λp1=>
 ∃n1,cellOf h2 (p1.add (Int.toNat (IntKind.wrap .i64 (4*i1))))=some (.int .u8 n1)/\
 (0<=(IntKind.wrap .i64 ((IntKind.wrap .i64 (4*i1))+1))/\(IntKind.wrap .i64 ((IntKind.wrap .i64 (4*i1))+1))<(dE:Int))/\
 ae cJ λp2=>
 ∃n2,cellOf h2 (p2.add (Int.toNat (IntKind.wrap .i64 ((IntKind.wrap .i64 (4*i1))+1))))=some (.int .u8 n2)/\
 (0<=(IntKind.wrap .i64 ((IntKind.wrap .i64 (4*i1))+2))/\(IntKind.wrap .i64 ((IntKind.wrap .i64 (4*i1))+2))<(dE:Int))/\
 ae cJ λp3=>
 ∃n3,cellOf h2 (p3.add (Int.toNat (IntKind.wrap .i64 ((IntKind.wrap .i64 (4*i1))+2))))=some (.int .u8 n3)/\
 (0<=(IntKind.wrap .i64 ((IntKind.wrap .i64 (4*i1))+3))/\(IntKind.wrap .i64 ((IntKind.wrap .i64 (4*i1))+3))<(dE:Int))/\
 ae cJ λp4=>
 ∃n4,cellOf h2 (p4.add (Int.toNat (IntKind.wrap .i64 ((IntKind.wrap .i64 (4*i1))+3))))=some (.int .u8 n4)/\
 aC [vI (IntKind.wrap .i64 ((IntKind.wrap .i64 ((IntKind.wrap .i64 ((IntKind.wrap .i64 (n1))+(IntKind.wrap .i64 ((IntKind.wrap .i64 (n2))*256))))+(IntKind.wrap .i64 ((IntKind.wrap .i64 (n3))*65536))))+(IntKind.wrap .i64 ((IntKind.wrap .i64 (n4))*16777216))))] 3 h2 λh3=>
 ∃aR,List.length aR=1*1/\ag h3 (some ⟨h2.size,0,none⟩) aR/\(∀v∈aR,v.oneCell'=true)/\
 aw qP 3 kF jN kG 1 aR h3 λaX aK bJ h4=>
 I1 aX aK bJ (IntKind.wrap .i64 (i1+1)) h4/\M1 aX aK bJ (IntKind.wrap .i64 (i1+1)) h4<M1 kF jN kG i1 h2)else(
 K (.slice kF jN kG) h2)
set_option maxRecDepth 1000000 in
set_option maxRecDepth 1000000 in
theorem hZ.ok{cJ dE df K h}(x:hZ cJ dE df K h):C.hZ cJ dE df h K:=fk (fun|3=>([0],[(3,.slice),(4,.int .i64)])|_=>([],[])) (fun|5=>(.op 0 [] (.op 1 [] (.op 2 [] (.op 3 [] (.op 4 [] (.op 5 [] (.op 6 [] (.op 7 [] (.op 8 [] (.op 9 [] (.op 10 [] (.op 11 [] (.op 12 [] (.op 13 [] (.op 14 [] (.op 15 [] (.op 16 [] (.op 17 [] (.op 18 [] (.op 19 [] (.op 20 [] (.op 21 [] (.op 22 [] (.op 23 [] (.op 24 [] (.op 25 [] (.op 26 [] (.op 27 [] (.op 28 [] (.op 29 [] (.op 30 [] (.op 31 [] (.op 32 [] (.op 33 [] (.op 34 [] (.op 35 [] (.op 36 [] .nil)))))))))))))))))))))))))))))))))))))|_=>.nil) Tryz.func336 x
def gH(cJ:OA)(dE:Nat)(df:Nat)(K:KT)(h1:ab):Prop:=
 (0<=(0:Int)/\0<(dE:Int))/\
 ae cJ λp1=>
 ∃n1,cellOf h1 (p1.add (Int.toNat 0))=some (.int .u8 n1)/\
 (0<=(1:Int)/\1<(dE:Int))/\
 ae cJ λp2=>
 ∃n2,cellOf h1 (p2.add (Int.toNat 1))=some (.int .u8 n2)/\
 (0<=(2:Int)/\2<(dE:Int))/\
 ae cJ λp3=>
 ∃n3,cellOf h1 (p3.add (Int.toNat 2))=some (.int .u8 n3)/\
 (0<=(3:Int)/\3<(dE:Int))/\
 ae cJ λp4=>
 ∃n4,cellOf h1 (p4.add (Int.toNat 3))=some (.int .u8 n4)/\
 K (vI (IntKind.wrap .i64 ((IntKind.wrap .i64 ((IntKind.wrap .i64 ((IntKind.wrap .i64 (n1))+(IntKind.wrap .i64 (256*(IntKind.wrap .i64 (n2))))))+(IntKind.wrap .i64 (65536*(IntKind.wrap .i64 (n3))))))+(IntKind.wrap .i64 (16777216*(IntKind.wrap .i64 (n4))))))) h1
set_option maxRecDepth 1000000 in
set_option maxRecDepth 1000000 in
theorem gH.ok{cJ dE df K h}(x:gH cJ dE df K h):C.gH cJ dE df h K:=fk l0 (fun|1=>(.op 0 [] (.op 1 [] (.op 2 [] (.op 3 [] (.op 4 [] (.op 5 [] (.op 6 [] (.op 7 [] (.op 8 [] (.op 9 [] (.op 10 [] (.op 11 [] (.op 12 [] (.op 13 [] (.op 14 [] (.op 15 [] (.op 16 [] (.op 17 [] (.op 18 [] (.op 19 [] (.op 20 [] (.op 21 [] (.op 22 [] .nil)))))))))))))))))))))))|_=>.nil) Tryz.func337 x
def gS(wk:Int)(aZ:ByteArray)(K:KT)(h1:ab):Prop:=
 (0<=(32:Int)/\(32:Int)<=32/\(1:Int)*32<=281474976710656/\(32:Int)<=281474976710656)/\
 aC (aW z5 (Int.toNat 32)) 5 h1 λh2=>
 bif(wk==0)then(
 K (.slice (some ⟨h1.size,0,none⟩) (Int.toNat 32) (Int.toNat 32)) h2)else(
 ∃(I1:Int->Int->ab->Prop) (M1:Int->Int->ab->Nat),I1 wk 0 h2/\
 ∀(v1:Int) (i1:Int),∀h3:ab,I1 v1 i1 h3->
 bif(decide (i1<4))then(
 (0<=i1/\i1<((Int.toNat 32):Int))/\
 bQ (Addr.add ⟨h1.size,0,none⟩ (Int.toNat i1)) (.int .u8 (IntKind.wrap .u8 ((Int.tmod v1 256)))) h3 λh4=>
 I1 (IntKind.wrap .i64 (Int.tdiv v1 256)) (IntKind.wrap .i64 (i1+1)) h4/\M1 (IntKind.wrap .i64 (Int.tdiv v1 256)) (IntKind.wrap .i64 (i1+1)) h4<M1 v1 i1 h3)else(
 (0<=(4:Int)/\4<((Int.toNat 32):Int))/\
 bQ (Addr.add ⟨h1.size,0,none⟩ (Int.toNat 4)) (.int .u8 (IntKind.wrap .u8 ((aZ.size:Int)))) h3 λh5=>
 ∃(I2:Int->ab->Prop) (M2:Int->ab->Nat),I2 0 h5/\
 ∀(i2:Int),∀h6:ab,I2 i2 h6->
 bif(decide (i2<(aZ.size:Int)))then(
 (0<=i2/\i2<(aZ.size:Int))/\
 ∃b1:UInt8,aZ.toList[Int.toNat i2]?=some b1/\
 (0<=(IntKind.wrap .i64 (5+i2))/\(IntKind.wrap .i64 (5+i2))<((Int.toNat 32):Int))/\
 bQ (Addr.add ⟨h1.size,0,none⟩ (Int.toNat (IntKind.wrap .i64 (5+i2)))) (.int .u8 ((UInt8.toNat b1:Nat):Int)) h6 λh7=>
 I2 (IntKind.wrap .i64 (i2+1)) h7/\M2 (IntKind.wrap .i64 (i2+1)) h7<M2 i2 h6)else(
 K (.slice (some ⟨h1.size,0,none⟩) (Int.toNat 32) (Int.toNat 32)) h6)))
theorem gS.ok{wk aZ K h}(x:gS wk aZ K h):C.gS wk aZ h K:=fk (fun|6=>([1,5],[(6,.int .i64),(7,.int .i64)])|12=>([1,5],[(8,.int .i64)])|_=>([],[])) o0 Tryz.func338 x
end W
namespace Re
open Hp W Su
def Fl : List Bool:=[false,true,true,false,true,false,false,false,true]
def MS(h:ab):Prop:=rd h 0=Fl.map .bool
theorem MS.lt(g:MS h):0<h.size:=vH (show(rd h 0)[0]?=some (.bool false) by rw[g];rfl)
theorem MS.fr(g:MS h)(f:Fr F h h')(hF:¬ F 0):MS h':=(f.rd g.lt hF).trans g
theorem G8{at_:Int}(hl:l<=140737488355328)(h0:0<=at_)(h1:0<=n)(h2:at_+n<=l)(hK:K (.bool true) h):C.qu a l c at_ n h K:=by
 refine qu.ok (ct (decide_eq_true h0) (ct (decide_eq_true h1) (ct (decide_eq_true (by omega)) ?_)));rw[wrap_i64 (by omega) (by omega),decide_eq_true (by omega)];exact hK
def lT : LB->Nat
 | []=>0
 | b::r=>b.toNat+256*lT r
theorem tV : ∀bs:LB,lT bs<256 ^ bs.length:=by
 intro bs
 induction bs with
 | nil=>exact Nat.one_pos
 | cons b r ih=>
  have hb:b.toNat<256:=b.toNat_lt;rw[lT,List.length_cons,Nat.pow_succ];omega
theorem PE(bs:LB)(b:UInt8):lT (bs++[b])=lT bs+b.toNat*256 ^ bs.length:=by
 induction bs with
 | nil=>simp[lT]
 | cons x r ih=>rw[List.cons_append,lT,ih,lT,List.length_cons,Nat.pow_succ,Nat.mul_add];simp only[Nat.mul_comm,Nat.mul_left_comm,Nat.mul_assoc,Nat.add_assoc]
theorem Fm(k:Nat):256 ^ k=2 ^ (8*k):=by rw[Nat.pow_mul]
theorem Uo{v:Nat}{b:UInt8}(hk:k<8)(hv:v<256 ^ k) :
  oo .or .u64 (v:Int) (IntKind.wrap .u64 ((IntKind.wrap .u64 (b.toNat:Int))*2 ^ min (Int.toNat (IntKind.wrap .i64 (8*(k:Int)))) 64))=((v+b.toNat*256 ^ k:Nat):Int):=by
 have hb:b.toNat<256:=b.toNat_lt
 have wu:∀n:Nat,n<18446744073709551616->IntKind.wrap .u64 (n:Int)=(n:Int):=λn h=>by
  show(n:Int)%18446744073709551616=n;exact Int.emod_eq_of_lt (by omega) (by omega)
 rw[wrap_i64 (by omega) (by omega),wu _ (by omega)];have e1:min (Int.toNat (8*(k:Int))) 64=8*k:=by omega
 rw[e1];have hp:256 ^ k<=256 ^ 7:=Nat.pow_le_pow_right (by decide) (by omega);have hp1:256 ^ (k+1)<=256 ^ 8:=Nat.pow_le_pow_right (by decide) (by omega)
 have hsum:v+b.toNat*256 ^ k<256 ^ (k+1):=by
  rw[Nat.pow_succ];have:b.toNat*256 ^ k<=255*256 ^ k:=Nat.mul_le_mul_right _ (by omega);omega
 have e8:(256:Nat) ^ 8=18446744073709551616:=by decide
 have e2:((b.toNat:Int)*2 ^ (8*k))=((b.toNat*256 ^ k:Nat):Int):=by rw[Fm];simp
 rw[e2,wu _ (by omega)];show IntKind.wrap .u64 (((BitVec.ofInt 64 (v:Int) ||| BitVec.ofInt 64 ((b.toNat*256 ^ k:Nat):Int)).toNat:Nat):Int)=_;rw[BitVec.toNat_or,BitVec.ofInt_natCast,BitVec.ofInt_natCast,BitVec.toNat_ofNat,BitVec.toNat_ofNat,Nat.mod_eq_of_lt (by omega),Nat.mod_eq_of_lt (by omega)]
 have e3:v ||| b.toNat*256 ^ k=v+b.toNat*256 ^ k:=by
  rw[Nat.or_comm,Fm,Nat.mul_comm,<-Nat.two_pow_add_eq_or_of_lt (by rw[<-Fm];exact hv)];omega
 rw[e3,wu _ (by omega)]
def gA(xs:LB)(o:Nat)(ys:LB):LB:=xs.take o++ys++xs.drop (o+ys.length)
theorem dW(h:o+ys.length<=xs.length):(gA xs o ys).length=xs.length:=by
 simp only[gA,List.length_append,List.length_take,List.length_drop];omega
theorem tW(h:o+ys.length<=xs.length):put (xs.map bv) o (ys.map bv)=(gA xs o ys).map bv:=by
 rw[put_eq _ _ _ (by rw[List.length_map,List.length_map];exact h)];simp only[gA,List.map_append,List.map_take,List.map_drop,List.length_map]
def bH(n v:Nat):LB:=(List.range n).map λk=>UInt8.ofNat (v/256 ^ k)
theorem aI(n v:Nat):(bH n v).length=n:=by rw[bH,List.length_map,List.length_range]
def fW(bs:LB):Bool:=bs.all (· == 0)
theorem Jv(B:aJ h a l bs)(hl:l<=140737488355328)(hK:K (.bool (fW bs)) h):C.nL a l c h K:=by
 have hb:=B.1;refine nL.ok ⟨λn hh=>0<=n/\n<=l/\h=hh/\fW bs=fW (bs.drop n.toNat),λn _=>((l:Int)-n).toNat,⟨by omega,by omega,rfl,rfl⟩,?_⟩;rintro n _ ⟨n0,n1,rfl,e⟩;refine cd (λhn=>?_) λhn=>?_
 ·have Gf:n.toNat<bs.length:=by omega
  obtain⟨_,B2⟩:=B;have ed:fW (bs.drop n.toNat)=(bs[n.toNat] == 0 && fW (bs.drop (n.toNat+1))):=by rw[List.drop_eq_getElem_cons Gf];rfl
  cases a with
  | none=>have B2:bs.map bv=[]:=B2;have:=List.map_eq_nil_iff.mp B2;rw[this]at Gf;exact absurd Gf (by simp)
  | some p=>
   refine⟨⟨n0,hn⟩,os ⟨_,B2 n.toNat (bv bs[n.toNat]) (by rw[List.getElem?_map,List.getElem?_eq_getElem Gf];rfl),cn (λx=>?_) λx=>?_⟩⟩
   ·have:(bs[n.toNat] == 0)=false:=by
     rw[beq_eq_false_iff_ne];intro e0;rw[e0]at x;exact x rfl
    rw[e,ed,this]at hK;exact hK
   ·have:(bs[n.toNat] == 0)=true:=by
     rw[beq_iff_eq];exact UInt8.toNat_inj.mp (by have x:((bs[n.toNat].toNat:Nat):Int)=0:=x;show _=0;omega)
    rw[wrap_i64 (by omega) (by omega)];exact⟨⟨by omega,by omega,rfl,by rw[e,ed,this,show(n+1).toNat=n.toNat+1 by omega];rfl⟩,j8 hn⟩
 ·rw[List.drop_of_length_le (by omega)]at e;rw[e]at hK;exact hK
theorem aJ.cut{i j:Nat}(B:aJ h a l bs)(wv:l<=c)(Iv:i<=j)(hj:j<=l):aJ h (if c=i then a else Option.map (Addr.add · i) a) (j-i) ((bs.drop i).take (j-i)):=by
 by_cases e:c=i
 ·rw[if_pos e];have:j-i=0:=by omega
  rw[this,List.take_zero];exact aJ.nil _ _
 ·rw[if_neg e];exact aJ.take (aJ.drop B i) (by omega)
theorem uP{at_:Int}(B:aJ h a l bs)(wv:l<=c)(hl:l<=140737488355328)(h0:0<=at_)(h1:0<=n)(h2:at_+n<=l)
  (hK:K (.tuple #[.bool (fW ((bs.drop at_.toNat).take n.toNat)),.int .i64 0]) h):C.mf a l c at_ n h K:=by
 refine mf.ok (cf (decide_eq_false (by omega)) (G8 hl h0 h1 h2 ⟨_,rfl,jj (ct rfl ?_)⟩));rw[wrap_i64 (by omega) (by omega)];have e:(at_+n).toNat-at_.toNat=n.toNat:=by omega
 refine⟨⟨h0,by omega,by omega⟩,Jv (bs:=(bs.drop at_.toNat).take n.toNat) ?_ (by omega) ⟨_,rfl,hK⟩⟩;have:=aJ.cut B wv (i:=at_.toNat) (j:=(at_+n).toNat) (by omega) (by omega);rw[e]at this;rw[e];exact this
end Re
namespace Hd
open Hp W Su Re
def ints(ns:List Int):LV:=ns.map λn=>.int .i64 n
theorem xu{ns:List Int}(c:ag h a (ints ns)){i:Nat}(hi:i<ns.length):∃p,a=some p/\cellOf h (p.add i)=some (.int .i64 ns[i]):=by
 cases a with
 | none=>have c:ints ns=[]:=c;have:=List.map_eq_nil_iff.mp c;rw[this]at hi;exact absurd hi (by simp)
 | some p=>exact⟨p,rfl,c i _ (by rw[ints,List.getElem?_map,List.getElem?_eq_getElem hi];rfl)⟩
def ij(n:Nat):LB:=List.replicate n 0
theorem Fo(n:Nat):(ij n).length=n:=List.length_replicate
def fL(ns:List Int):LB:=ns.flatMap λi=>bH 4 i.toNat
theorem lH(ns:List Int):(fL ns).length=4*ns.length:=by
 induction ns with
 | nil=>rfl
 | cons n r ih=>
  have e:fL (n::r)=bH 4 n.toNat++fL r:=rfl;rw[e,List.length_append,aI,ih,List.length_cons];omega
def gr(hd:LB)(o n:Nat):Nat:=lT ((hd.drop o).take n)
theorem PF(hd:LB)(o n:Nat):gr hd o n<256 ^ n:=by
 refine Nat.lt_of_lt_of_le (tV _) (Nat.pow_le_pow_right (by decide) ?_);rw[List.length_take];exact Nat.min_le_left _ _
theorem mX(n v:Nat):bH (n+1) v=UInt8.ofNat v::bH n (v/256):=by
 rw[bH,List.range_succ_eq_map,List.map_cons,List.map_map];congr 1
 ·rw[Nat.pow_zero,Nat.div_one]
 ·rw[bH];apply List.map_congr_left;intro k _;show UInt8.ofNat (v/256 ^ (k+1))=UInt8.ofNat (v/256/256 ^ k);rw[Nat.pow_succ,Nat.mul_comm,Nat.div_div_eq_div_mul]
theorem uQ : ∀(bs:LB),bH bs.length (lT bs)=bs:=by
 intro bs
 induction bs with
 | nil=>rfl
 | cons b r ih=>
  have hb:b.toNat<256:=b.toNat_lt;rw[List.length_cons,mX,lT,show(b.toNat+256*lT r)/256=lT r by omega,ih];congr 1;apply UInt8.toNat_inj.mp;rw[UInt8.toNat_ofNat'];omega
theorem uR : ∀(n v:Nat),v<256 ^ n->lT (bH n v)=v:=by
 intro n
 induction n with
 | zero=>
  intro v h;have e:v=0:=by simpa using h
  rw[e];rfl
 | succ n ih=>
  intro v h;rw[mX,lT,ih (v/256) (by rw[Nat.pow_succ]at h;omega),UInt8.toNat_ofNat'];omega
theorem CY(h:fW bs=true):bs=ij bs.length:=by
 induction bs with
 | nil=>rfl
 | cons b r ih=>
  rw[fW,List.all_cons,Bool.and_eq_true]at h;have hb:b=0:=by simpa using h.1
  have:=ih h.2;rw[List.length_cons,ij,List.replicate_succ,hb];exact congrArg _ this
theorem pS(xs:LB)(i n:Nat):xs.drop i=(xs.drop i).take n++xs.drop (i+n):=by
 have:=List.take_append_drop n (xs.drop i);rw[List.drop_drop]at this;exact this.symm
theorem tX{n:Nat}(h:xs.length=n):(xs++ys).drop n=ys:=by rw[<-h,List.drop_left]
theorem xv{n:Nat}(h:xs.length=n):(xs++ys).take n=xs:=by rw[<-h,List.take_left]
theorem Jw : ∀(ns:List Int) (i:Nat) (hi:i<ns.length) (zs:LB),((fL ns++zs).drop (4*i)).take 4=bH 4 ns[i].toNat:=by
 intro ns
 induction ns with
 | nil=>intro i hi;exact absurd hi (Nat.not_lt_zero _)
 | cons n r ih=>
  intro i hi zs;have e:fL (n::r)=bH 4 n.toNat++fL r:=rfl;rw[e,List.append_assoc]
  cases i with
  | zero=>rw[Nat.mul_zero,List.drop_zero];exact xv (aI _ _)
  | succ i=>
   rw[show 4*(i+1)=4+4*i by omega,<-List.drop_drop,tX (aI _ _)];exact ih i (by simpa using hi) zs
theorem Up(n:Int):(Value.int .u8 (IntKind.wrap .u8 n))=bv (UInt8.ofNat (n%256).toNat):=by
 show Value.int .u8 (n%256)=Value.int .u8 ((UInt8.ofNat (n%256).toNat).toNat:Int);rw[UInt8.toNat_ofNat'];congr 1;have:=Int.emod_nonneg n (show(256:Int)≠0 by decide);have:=Int.emod_lt_of_pos n (show(0:Int)<256 by decide);omega
end Hd
namespace In
open Go Go.Proofs Re Hd
def oO : List Int:=List.replicate 15 0
def kindOk(k l s:Int)(R:List Int):Bool:=
 if k=0 then decide (R=oO)else if k=1 then(decide (0<=l) && decide (l<=1000)) && (decide (0<=s) && decide (s<=8459264))
 else if k=2 then(decide (2<=l) && decide (l<=65535)) && ((decide (0<=s) && decide (s<=8459264)) && decide (s%512=0))
 else if k=3 then(decide (1<=l) && decide (l<=1000)) && (decide (1<=s) && decide (s<=1024))else false
def kB(n:Int):Bool:=decide (0<=n) && decide (n<=4294967295)
def lU(R:List Int):Bool:=(R.drop 3).all kB && kindOk (R.getD 0 0) (R.getD 1 0) (R.getD 2 0) R
def kU(R:List Int):LB:=bH 1 (R.getD 0 0).toNat++([0]++(bH 2 (R.getD 1 0).toNat++(bH 4 (R.getD 2 0).toNat++(fL (R.drop 3)++ij 8))))
def jD(bs:LB):List Int:=[(gr bs 0 1:Int),(gr bs 2 2:Int),(gr bs 4 4:Int)]++(List.range 12).map λi=>(gr bs (8+4*i) 4:Int)
theorem kV(bs:LB):(jD bs).length=15:=by rw[jD,List.length_append,List.length_map,List.length_range];rfl
def clean(bs:LB):Bool:=fW ((bs.drop 1).take 1) && fW ((bs.drop 56).take 8)
def nA(bs:LB):Bool:=clean bs && lU (jD bs)
def mY(bs:LB):List Int×Int:=if bs.length≠64 then(oO,32)else if nA bs then(jD bs,0)else(oO,111)
theorem Zb(h:R.length=15):R=[R.getD 0 0,R.getD 1 0,R.getD 2 0]++R.drop 3:=by
 match R,h with
 | [a,b,c,d0,d1,d2,d3,d4,d5,d6,d7,d8,d9,x,y],_=>rfl
theorem qv(h:R.length=15)(m:lU R=true):0<=R.getD 0 0/\R.getD 0 0<=3/\0<=R.getD 1 0/\R.getD 1 0<=65535/\0<=R.getD 2 0/\R.getD 2 0<=8459264/\∀n∈R.drop 3,0<=n/\n<=4294967295:=by
 rw[lU,Bool.and_eq_true]at m
 have hw:∀n∈R.drop 3,0<=n/\n<=4294967295:=λn hn=>by
  have:=List.all_eq_true.mp m.1 n hn;rw[kB,Bool.and_eq_true,decide_eq_true_eq,decide_eq_true_eq]at this;exact this
 have k:=m.2;unfold kindOk at k
 split at k
 ·rename_i h0;have e:=of_decide_eq_true k;subst e;refine⟨by decide,by decide,by decide,by decide,by decide,by decide,hw⟩
 ·split at k
  ·simp only[Bool.and_eq_true,decide_eq_true_eq]at k;exact⟨by omega,by omega,by omega,by omega,by omega,by omega,hw⟩
  ·split at k
   ·simp only[Bool.and_eq_true,decide_eq_true_eq]at k;exact⟨by omega,by omega,by omega,by omega,by omega,by omega,hw⟩
   ·split at k
    ·simp only[Bool.and_eq_true,decide_eq_true_eq]at k;exact⟨by omega,by omega,by omega,by omega,by omega,by omega,hw⟩
    ·cases k
theorem qw(h:R.length=15):(kU R).length=64:=by
 simp only[kU,List.length_append,aI,lH,Fo,List.length_drop,h,List.length_singleton]
theorem Be(h:R.length=15):(kU R).drop 1=[0]++(bH 2 (R.getD 1 0).toNat++(bH 4 (R.getD 2 0).toNat++(fL (R.drop 3)++ij 8)))/\(kU R).drop 2=bH 2 (R.getD 1 0).toNat++(bH 4 (R.getD 2 0).toNat++(fL (R.drop 3)++ij 8))/\
  (kU R).drop 4=bH 4 (R.getD 2 0).toNat++(fL (R.drop 3)++ij 8)/\(kU R).drop 8=fL (R.drop 3)++ij 8/\(kU R).drop 56=ij 8:=by
 have d1:(kU R).drop 1=[0]++(bH 2 (R.getD 1 0).toNat++(bH 4 (R.getD 2 0).toNat++(fL (R.drop 3)++ij 8))):=tX (aI 1 _);have d2:(kU R).drop 2=bH 2 (R.getD 1 0).toNat++(bH 4 (R.getD 2 0).toNat++(fL (R.drop 3)++ij 8)):=by rw[show 2=1+1 by rfl,<-List.drop_drop,d1];rfl
 have d4:(kU R).drop 4=bH 4 (R.getD 2 0).toNat++(fL (R.drop 3)++ij 8):=by rw[show 4=2+2 by rfl,<-List.drop_drop,d2];exact tX (aI 2 _)
 have d8:(kU R).drop 8=fL (R.drop 3)++ij 8:=by rw[show 8=4+4 by rfl,<-List.drop_drop,d4];exact tX (aI 4 _)
 refine⟨d1,d2,d4,d8,?_⟩;rw[show 56=8+48 by rfl,<-List.drop_drop,d8];exact tX (by rw[lH,List.length_drop,h])
theorem G9(h:R.length=15)(m:lU R=true):jD (kU R)=R/\clean (kU R)=true:=by
 obtain⟨k0,k1,l0,l1,s0,s1,hw⟩:=qv h m;obtain⟨d1,d2,d4,d8,d56⟩:=Be h;refine⟨?_,?_⟩
 ·conv=>rhs;rw[Zb h]
  have g0:gr (kU R) 0 1=(R.getD 0 0).toNat:=by
   rw[gr,List.drop_zero,kU,xv (aI 1 _),uR 1 _ (by omega)]
  have g1:gr (kU R) 2 2=(R.getD 1 0).toNat:=by
   rw[gr,d2,xv (aI 2 _),uR 2 _ (by omega)]
  have g2:gr (kU R) 4 4=(R.getD 2 0).toNat:=by
   rw[gr,d4,xv (aI 4 _),uR 4 _ (by omega)]
  rw[jD,g0,g1,g2,Int.toNat_of_nonneg k0,Int.toNat_of_nonneg l0,Int.toNat_of_nonneg s0];congr 1;apply List.ext_getElem
  ·rw[List.length_map,List.length_range,List.length_drop,h]
  ·intro i h1 h2;rw[List.length_map,List.length_range]at h1;rw[List.getElem_map,List.getElem_range,gr,<-List.drop_drop,d8,Jw _ i h2,uR 4 _ (by have:=(hw _ (List.getElem_mem h2)).2;have:=(hw _ (List.getElem_mem h2)).1;omega),Int.toNat_of_nonneg (hw _ (List.getElem_mem h2)).1]
 ·rw[clean,d1,d56];rfl
theorem MT(bs:LB):∀k,8+4*k<=bs.length->fL ((List.range k).map λi=>(gr bs (8+4*i) 4:Int))=(bs.drop 8).take (4*k):=by
 intro k
 induction k with
 | zero=>intro _;rfl
 | succ k ih=>
  intro hk;have e:=ih (by omega);rw[List.range_succ,List.map_append,fL,List.flatMap_append];rw[fL]at e;rw[e];have l4:((bs.drop (8+4*k)).take 4).length=4:=by rw[List.length_take,List.length_drop];omega
  have:bH 4 (gr bs (8+4*k) 4)=(bs.drop (8+4*k)).take 4:=by
   have:=uQ ((bs.drop (8+4*k)).take 4);rw[l4]at this;exact this
  show _++(bH 4 ((gr bs (8+4*k) 4:Int)).toNat++[])=_;rw[Int.toNat_natCast,this,List.append_nil,show 4*(k+1)=4*k+4 by omega,List.take_add,List.drop_drop]
theorem Lm(h:fW xs=true):xs=ij xs.length:=CY h
theorem G'(hb:bs.length=64):kU (jD bs)=bs↔clean bs=true:=by
 have g0:bH 1 (gr bs 0 1)=bs.take 1:=by
  have:=uQ (bs.take 1);rw[List.length_take,show min 1 bs.length=1 by omega]at this;rw[gr,List.drop_zero];exact this
 have g1:bH 2 (gr bs 2 2)=(bs.drop 2).take 2:=by
  have:=uQ ((bs.drop 2).take 2);rw[List.length_take,List.length_drop,show min 2 (bs.length-2)=2 by omega]at this;exact this
 have g2:bH 4 (gr bs 4 4)=(bs.drop 4).take 4:=by
  have:=uQ ((bs.drop 4).take 4);rw[List.length_take,List.length_drop,show min 4 (bs.length-4)=4 by omega]at this;exact this
 have g3:fL ((jD bs).drop 3)=(bs.drop 8).take 48:=by
  have:=MT bs 12 (by omega);exact this
 have ee:kU (jD bs)=bs.take 1++([0]++((bs.drop 2).take 2++((bs.drop 4).take 4++((bs.drop 8).take 48++ij 8)))):=by
  rw[kU,g3];show bH 1 ((gr bs 0 1:Nat):Int).toNat++([0]++(bH 2 ((gr bs 2 2:Nat):Int).toNat++(bH 4 ((gr bs 4 4:Nat):Int).toNat++_)))=_;rw[Int.toNat_natCast,Int.toNat_natCast,Int.toNat_natCast,g0,g1,g2]
 have eb:bs=bs.take 1++((bs.drop 1).take 1++((bs.drop 2).take 2++((bs.drop 4).take 4++((bs.drop 8).take 48++(bs.drop 56).take 8)))):=by
  have t8:(bs.drop 56).take 8=bs.drop 56:=List.take_of_length_le (by rw[List.length_drop];omega);rw[t8];have s1:=pS bs 8 48;have s2:=pS bs 4 4;have s3:=pS bs 2 2;have s4:=pS bs 1 1;have s5:=pS bs 0 1;rw[List.drop_zero]at s5
  conv=>lhs;rw[s5,s4,s3,s2,s1]
 have l1:((bs.drop 1).take 1).length=1:=by rw[List.length_take,List.length_drop];omega
 have l8:((bs.drop 56).take 8).length=8:=by rw[List.length_take,List.length_drop];omega
 constructor
 ·intro h;obtain⟨d1,_,_,_,d56⟩:=Be (kV bs);rw[<-congrArg clean h,clean,d1,d56];rfl
 ·intro h;rw[clean,Bool.and_eq_true]at h;have z1:=Lm h.1;have z2:=Lm h.2;rw[l1]at z1;rw[l8]at z2;rw[ee]
  conv=>rhs;rw[eb,z1,z2]
  rfl
end In
namespace In
open Hp W Su Re Hd
structure pq(h:ab):Prop where
 wide:MS h
theorem pq.fr{h h':ab}{F:NP}(g:pq h)(f:Fr F h h')(h1:∀ b,b<1->¬ F b):pq h':=⟨g.wide.fr f (h1 _ (by decide))⟩
theorem pq.no(g:pq h)(f:Fr No h h'):pq h':=g.fr f λ_ _ x=>x
theorem pq.lt{h:ab}(g:pq h):1<=h.size:=by have:=g.wide.lt;omega
theorem Fp(g:pq h)(hn:n=1∨n=2∨n=4∨n=8)(hK:K (.bool true) h):C.kR n h K:=by
 refine kR.ok (ct (decide_eq_true (by omega)) (ct (decide_eq_true (by omega)) ⟨⟨by omega,by omega⟩,true,bW g.wide ?_,hK⟩))
 rcases hn with rfl|rfl|rfl|rfl <;> rfl
theorem Ln{at_:Int}(g:pq h)(B:aJ h a l bs)(hl:l<=140737488355328)(hn:n=1∨n=2∨n=4∨n=8)(h0:0<=at_)(h2:at_+n<=l)
  (hK:K (.tuple #[.int .u64 (lT ((bs.drop at_.toNat).take n.toNat)),.int .i64 0]) h):C.n' a l c at_ n h K:=by
 have hb:=B.1;refine n'.ok (Fp g hn ⟨_,rfl,jj (ct rfl (G8 hl h0 (by omega) h2 ⟨_,rfl,jj (ct rfl ?_)⟩))⟩);have hlen:∀k:Nat,(k:Int)<=n->((bs.drop at_.toNat).take k).length=k:=λk hk=>by rw[List.length_take,List.length_drop];omega
 refine⟨λv k hh=>0<=k/\k<=n/\h=hh/\v=(lT ((bs.drop at_.toNat).take k.toNat):Nat),λ_ k _=>(n-k).toNat,⟨by omega,by omega,rfl,rfl⟩,?_⟩;rintro v k _ ⟨k0,k1,rfl,rfl⟩;refine cd (λhk=>?_) λhk=>?_
 ·rw[wrap_i64 (n:=at_+k) (by omega) (by omega)];obtain⟨_,B2⟩:=B;have hi:at_.toNat+k.toNat<bs.length:=by omega
  cases a with
  | none=>have B2:bs.map bv=[]:=B2;have:=List.map_eq_nil_iff.mp B2;rw[this]at hi;exact absurd hi (by simp)
  | some p=>
   refine⟨⟨by omega,by omega⟩,os ⟨_,B2 (at_+k).toNat (bv bs[at_.toNat+k.toNat]) (by rw[show(at_+k).toNat=at_.toNat+k.toNat by omega,List.getElem?_map,List.getElem?_eq_getElem hi];rfl),?_⟩⟩;have w8:IntKind.wrap .i64 (8*k)=8*k:=wrap_i64 (by omega) (by omega);rw[if_neg (by rw[w8];omega),wrap_i64 (n:=k+1) (by omega) (by omega)];have hlk:=hlen k.toNat (by omega);have dh:=tV ((bs.drop at_.toNat).take k.toNat);rw[hlk]at dh;have eo:=Uo (v:=lT ((bs.drop at_.toNat).take k.toNat)) (b:=bs[at_.toNat+k.toNat]) (k:=k.toNat) (by omega) dh;rw[show((k.toNat:Nat):Int)=k by omega]at eo;rw[eo];refine⟨⟨by omega,by omega,rfl,?_⟩,by show(n-(k+1)).toNat<(n-k).toNat;omega⟩;have hi2:k.toNat<(bs.drop at_.toNat).length:=(by rw[List.length_drop];omega);rw[show(k+1).toNat=k.toNat+1 by omega,List.take_succ_eq_append_getElem hi2,PE,hlk,List.getElem_drop]
 ·have:k=n:=by omega
  subst this;exact hK
theorem xw : ∀xs ys:List Int,dw (ints xs) (ints ys)=decide (xs=ys)
 | [],[]=>rfl
 | [],y::r=>rfl
 | x::r,[]=>rfl
 | x::r,y::s=>by
  show((x==y) && dw (ints r) (ints s))=_;rw[xw r s,Bool.eq_iff_iff,Bool.and_eq_true,beq_iff_eq,decide_eq_true_eq,decide_eq_true_eq,List.cons.injEq]
theorem av(ns:List Int):∀v∈ints ns,v.oneCell'=true:=by
 intro v hv;obtain⟨n,_,rfl⟩:=List.mem_map.mp hv;rfl
theorem ah(ns:List Int):(ints ns).length=ns.length:=List.length_map ..
theorem jT{v lo hi:Int}(hK:K (.bool (decide (lo<=v) && decide (v<=hi))) h):C.eC v lo hi h K:=by
 refine eC.ok (cd (λx=>?_) λx=>?_)
 ·rw[decide_eq_true (by omega)]at hK;exact hK
 ·rw[decide_eq_false (by omega)]at hK;exact hK
theorem Fs(hR:R.length=15)(hK:∀ h',Fr No h h'->K (.agg ⟨ints (R.drop 3)⟩) h'):C.jr (ints R) h K:=by
 match R,hR with
 | [k,l,s,d0,d1,d2,d3,d4,d5,d6,d7,d8,d9,x,y],_=>
  refine jr.ok (aC.intro λh2 n2=>aC.intro λh3 n3=>aC.intro λh4 n4=>?_);have s2:=n2.size;have s3:=n3.size;have s4:=n4.size;have r4:rd h4 h.size=ints [k,l,s,d0,d1,d2,d3,d4,d5,d6,d7,d8,d9,x,y]:=(n4.at_ (by omega)).trans ((n3.at_ (by omega)).trans n2.rd);refine qU.intro (new:=ints [d0,d1,d2,d3,d4,d5,d6,d7,d8,d9]) rfl (show ai h4 _ _ from lS r4 rfl) (av _) n4.own (by rw[n4.rd];show 10<=12;omega) λh5 q5=>?_;have r5:rd h5 h3.size=ints [d0,d1,d2,d3,d4,d5,d6,d7,d8,d9,0,0]:=q5.rd.trans (by rw[n4.rd];rfl);have r5x:=(q5.at_ (c:=h.size) (by omega) (by omega)).trans r4;refine⟨x,bW r5x rfl,y,bW r5x rfl,⟨by omega,by omega⟩,bQ.add q5.own (by rw[r5];show 0+10<12;omega) λh6 q6=>⟨⟨by omega,by omega⟩,bQ.add q6.own (by rw[q6.rd,r5];show 0+11<12;omega) λh7 q7=>?_⟩⟩;have r7:rd h7 h3.size=ints [d0,d1,d2,d3,d4,d5,d6,d7,d8,d9,x,y]:=q7.rd.trans (by rw[q6.rd,r5];rfl);have w2:du h7 h2.size:=q7.ow (q6.ow (q5.ow (n4.ow n3.own)))
  have e2:(rd h7 h2.size).length=12:=by
   rw[q7.at_ (by have:=q6.size;have:=q5.size;omega) (by omega),q6.at_ (by have:=q5.size;omega) (by omega),q5.at_ (by omega) (by omega),n4.at_ (by omega),n3.rd];rfl
  refine⟨_,rfl,aj r7,ar.intro w2 rfl (av _) (by rw[e2];omega) λh8 q8=>⟨ints [d0,d1,d2,d3,d4,d5,d6,d7,d8,d9,x,y],rfl,aj ?_,hK h8 ?_⟩⟩
  ·rw[q8.rd,cM _ _ (by rw[e2];rfl)]
  ·exact(((((n2.fr.new n3).new n4).did q5 λ_=>by omega).did q6 λ_=>by omega).did q7 λ_=>by omega).did q8 λ_=>by omega
theorem Ar{S:List Int}(hR:R.length=15)(hS:S.length=15):dv [(.int .i64),(.int .i64),(.int .i64),(.int .i64),(.int .i64),(.int .i64),(.int .i64),(.int .i64),(.int .i64),(.int .i64),(.int .i64),(.int .i64),(.int .i64),(.int .i64),(.int .i64)] (ints R) (ints S)=true:=by
 match R,hR,S,hS with
 | [_,_,_,_,_,_,_,_,_,_,_,_,_,_,_],_,[_,_,_,_,_,_,_,_,_,_,_,_,_,_,_],_=>rfl
theorem gw(r:rd h b=ints R){i:Nat}(hi:i<R.length):cellOf h (Addr.add ⟨b,0,none⟩ i)=some (.int .i64 (R.getD i 0)):=by
 refine bW r ?_;rw[Nat.zero_add,ints,List.getElem?_map,List.getD_eq_getElem?_getD,List.getElem?_eq_getElem hi];rfl
theorem Bf(hR:R.length=15)(hK:∀ h',Fr No h h'->K (.bool (lU R)) h'):C.nJ (ints R) h K:=by
 refine nJ.ok (aC.intro λh2 n2=>⟨ints R,by rw[ah,hR],aj n2.rd,Fs hR λh3 f3=>⟨_,rfl,?_⟩⟩);have s2:=n2.size;have F3:=n2.fr.no f3;have r3:rd h3 h.size=ints R:=(f3.rd n2.own.lt λx=>x).trans n2.rd;have ld:(R.drop 3).length=12:=by rw[List.length_drop,hR]
 have hK:=hK h3 F3;refine⟨λn hh=>0<=n/\n<=12/\h3=hh/\((R.drop 3).take n.toNat).all kB=true,λn _=>((12:Nat)-n).toNat,⟨by omega,by omega,rfl,rfl⟩,?_⟩;rintro n _ ⟨n0,n1,rfl,q⟩;refine cd (λhn=>?_) λhn=>?_
 ·have hn:n<12:=hn;have hi:n.toNat<(R.drop 3).length:=by omega
  refine⟨⟨n0,hn⟩,(R.drop 3)[n.toNat],by rw[ints,List.getElem?_map,List.getElem?_eq_getElem hi];rfl,jT ⟨_,rfl,jj ?_⟩⟩
  cases hw:kB (R.drop 3)[n.toNat]with
  | false=>
   have:lU R=false:=by
    have e:(R.drop 3).all kB=false:=by
     cases e:(R.drop 3).all kB with
     | false=>rfl
     | true=>have:=List.all_eq_true.mp e _ (List.getElem_mem hi);rw[hw]at this;cases this
    rw[lU,e];rfl
   rw[this]at hK;exact cf hw hK
  | true=>
   rw[wrap_i64 (by omega) (by omega)];refine ct hw ⟨⟨by omega,by omega,rfl,?_⟩,j8 (m:=12) hn⟩;rw[show(n+1).toNat=n.toNat+1 by omega,List.take_succ_eq_append_getElem hi,List.all_append,q,List.all_cons,hw];rfl
 ·have hn:¬n<12:=hn;rw[List.take_of_length_le (by omega)]at q;have em:lU R=kindOk (R.getD 0 0) (R.getD 1 0) (R.getD 2 0) R:=by rw[lU,q,Bool.true_and]
  rw[em]at hK;unfold kindOk at hK;refine⟨_,gw r3 (by omega),ce (λh0=>?_) λh0=>?_⟩
  ·rw[if_pos h0]at hK;refine⟨ints R,by rw[ah,hR],aj r3,Ar hR (S:=oO) List.length_replicate,?_⟩;rw[show(gC:LV)=ints oO from rfl,xw];exact hK
  ·rw[if_neg h0]at hK;refine ce (λh1=>?_) λh1=>?_
   ·rw[if_pos h1]at hK;refine⟨_,gw r3 (by omega),jT ⟨_,rfl,?_⟩⟩
    cases hb:(decide (0<=R.getD 1 0) && decide (R.getD 1 0<=1000))with
    | false=>rw[hb]at hK;exact hK
    | true=>rw[hb]at hK;exact⟨_,gw r3 (by omega),jT ⟨_,rfl,hK⟩⟩
   ·rw[if_neg h1]at hK;refine ce (λAa=>?_) λAa=>?_
    ·rw[if_pos Aa]at hK;refine⟨_,gw r3 (by omega),jT ⟨_,rfl,?_⟩⟩
     cases hb:(decide (2<=R.getD 1 0) && decide (R.getD 1 0<=65535))with
     | false=>rw[hb]at hK;exact hK
     | true=>
      rw[hb,Bool.true_and]at hK;refine⟨_,gw r3 (by omega),jT ⟨_,rfl,?_⟩⟩
      cases hc:(decide (0<=R.getD 2 0) && decide (R.getD 2 0<=8459264))with
      | false=>rw[hc]at hK;exact hK
      | true=>
       rw[hc,Bool.true_and]at hK;rw[Bool.and_eq_true,decide_eq_true_eq]at hc;refine⟨_,gw r3 (by omega),?_⟩;have e:(Int.tmod (R.getD 2 0) 512==0)=decide (R.getD 2 0%512=0):=(by rw[Int.tmod_eq_emod_of_nonneg hc.1];rfl);rw[e];exact hK
    ·rw[if_neg Aa]at hK;refine ce (λIQ=>?_) λIQ=>?_
     ·rw[if_pos IQ]at hK;refine⟨_,gw r3 (by omega),jT ⟨_,rfl,?_⟩⟩
      cases hb:(decide (1<=R.getD 1 0) && decide (R.getD 1 0<=1000))with
      | false=>rw[hb]at hK;exact hK
      | true=>rw[hb]at hK;exact⟨_,gw r3 (by omega),jT ⟨_,rfl,hK⟩⟩
     ·rw[if_neg IQ]at hK;exact hK
theorem As(v:Nat):bH 1 v=[UInt8.ofNat v]:=by rw[mX];rfl
theorem Lo(v:Nat):bH 2 v=[UInt8.ofNat v,UInt8.ofNat (v/256)]:=by rw[mX,As]
theorem PG(v:Nat):bH 4 v=[UInt8.ofNat v,UInt8.ofNat (v/256),UInt8.ofNat (v/256/256),UInt8.ofNat (v/256/256/256)]:=by rw[mX,mX,Lo]
theorem ab9(k l s:Nat):gA (gA (gA (ij 64) 0 (bH 1 k)) 2 (bH 2 l)) 4 (bH 4 s)=(bH 1 k++([0]++(bH 2 l++bH 4 s)))++ij 56:=by
 rw[As,Lo,PG];rfl
theorem Bg{at_:Int}(g:pq h)(B:aJ h a l bs)(hl:l<=140737488355328)(r:rd h cb=[.slice a l c])(hn:n=1∨n=2∨n=4)(h0:0<=at_)(h2:at_+n<=l)
  (hK:K (.int .i64 (gr bs at_.toNat n.toNat:Nat)) h):C.cB at_ n (some ⟨cb,0,none⟩) h K:=by
 have lt:=PF bs at_.toNat n.toNat
 have lt:gr bs at_.toNat n.toNat<4294967296:=by
  rcases hn with rfl|rfl|rfl
  ·exact Nat.lt_of_lt_of_le lt (by show 256 ^ 1<=_;decide)
  ·exact Nat.lt_of_lt_of_le lt (by show 256 ^ 2<=_;decide)
  ·exact lt
 refine cB.ok ?_;unfold cB;refine os ⟨_,_,_,nt r rfl,Ln g B hl (by omega) h0 h2 ⟨_,_,rfl,?_⟩⟩;have e:lT ((bs.drop at_.toNat).take n.toNat)=gr bs at_.toNat n.toNat:=rfl;rw[e,wrap_i64 (by omega) (by omega)];exact hK
theorem iv(f:Fr No h3 h)(hb:h3.size<=b)(w:du h b)(hl:(rd h b).length=15)(hK:∀ h',Fr No h3 h'->K (.tuple #[.agg ⟨ints oO⟩,.int .i64 n]) h') :
  ar ⟨b,0,none⟩ gC 15 h λh4=>
   ∃bL:LV,List.length bL=15/\ai h4 ⟨b,0,none⟩ bL/\K (.tuple #[.agg ⟨bL⟩,.int .i64 n]) h4:=by
 refine ar.intro w rfl (av oO) (by omega) λh4 d4=>⟨ints oO,rfl,aj ?_,hK h4 (f.did d4 λdh=>by omega)⟩;rw[d4.rd];exact cM _ _ (by rw[hl];rfl)
theorem DF(hR:R.length=15)(f:Fr No h3 h)(hb:h3.size<=b)(w:du h b)(hl:(rd h b).length=15)(r:rd h cb=ints R)(hK:∀ h',Fr No h3 h'->K (.tuple #[.agg ⟨ints R⟩,.int .i64 n]) h') :
  ∃cs:LV,List.length cs=15/\ai h ⟨cb,0,none⟩ cs/\ar ⟨b,0,none⟩ cs 15 h λh4=>∃bL:LV,List.length bL=15/\ai h4 ⟨b,0,none⟩ bL/\K (.tuple #[.agg ⟨bL⟩,.int .i64 n]) h4:=by
 have li:(ints R).length=15:=by rw[ah,hR]
 refine⟨ints R,li,aj r,ar.intro w li (av R) (by omega) λh4 d4=>⟨ints R,li,aj ?_,hK h4 (f.did d4 λdh=>by omega)⟩⟩;rw[d4.rd];exact cM _ _ (by rw[hl,li])
theorem Ha{α:Type}(xs:List α)(z:α)(ys:List α)(m n:Nat)(hm:m<xs.length)(hn:0<n):(xs.take m++(List.replicate n z++ys)).set m xs[m]=xs.take (m+1)++(List.replicate (n-1) z++ys):=by
 have l:(xs.take m).length=m:=by rw[List.length_take];omega
 rw[List.set_append_right _ _ (by omega),l,Nat.sub_self,show n=(n-1)+1 by omega,List.replicate_succ,List.cons_append,List.set_cons_zero,List.take_succ_eq_append_getElem hm,List.append_assoc];rfl
theorem xx(bs:LB){i:Nat}(hi:i<12)(h:3+i<(jD bs).length):(jD bs)[3+i]=(gr bs (8+4*i) 4:Nat):=by
 simp only[jD];rw[List.getElem_append_right (by show 3<=3+i;omega)];simp only[List.length_cons,List.length_nil,Nat.reduceAdd,Nat.add_sub_cancel_left,List.getElem_map,List.getElem_range]
theorem Hb(g:pq h)(B:aJ h a l bs)(wv:l<=c)(hK:∀ h',Fr No h h'->K (.tuple #[.agg ⟨ints (mY bs).1⟩,.int .i64 (mY bs).2]) h'):C.j3 a l c h K:=by
 have hb:=B.1;refine j3.ok (aC.intro λh2 n2=>aC.intro λh3 n3=>?_);have s2:=n2.size;have s3:=n3.size;have F3:=n2.fr.new n3;have r3:rd h3 h.size=[.slice a l c]:=(n3.at_ (by omega)).trans n2.rd;have w3:du h3 h2.size:=n3.own;have l3:(rd h3 h2.size).length=15:=by rw[n3.rd];rfl
 have g3:=g.no F3;have B3:=aJ.fr F3 B λ_ _ x=>x;refine⟨_,_,_,nt r3 rfl,cn (λhl=>?_) λhl=>?_⟩
 ·have e:mY bs=(oO,32):=by rw[mY,if_pos (by omega)]
  rw[e]at hK;exact iv F3 (by omega) w3 l3 hK
 have hl:l=64:=by omega
 have Zc:bs.length=64:=by omega
 have gg:∀{hq:ab} {K:KT} (at_ n:Int),Fr No h3 hq->(n=1∨n=2∨n=4)->0<=at_->at_+n<=64->K (.int .i64 (gr bs at_.toNat n.toNat:Nat)) hq->C.cB at_ n (some ⟨h.size,0,none⟩) hq K:=λat_ n fq h1 h2 h4 hk=>
  Bg (g3.no fq) (aJ.fr fq B3 λ_ _ x=>x) (by omega) ((fq.rd (by omega) λx=>x).trans r3) h1 h2 (by omega) hk
 refine gg 0 1 (Fr.refl _ _) (by omega) (by omega) (by omega) ⟨_,rfl,gg 2 2 (Fr.refl _ _) (by omega) (by omega) (by omega) ⟨_,rfl,gg 4 4 (Fr.refl _ _) (by omega) (by omega) (by omega) ⟨_,rfl,gg 48 4 (Fr.refl _ _) (by omega) (by omega) (by omega) ⟨_,rfl,gg 52 4 (Fr.refl _ _) (by omega) (by omega) (by omega) ⟨_,rfl,?_⟩⟩⟩⟩⟩;have gl:=kV bs;have e11:([.int .i64 (gr bs (Int.toNat 0) (Int.toNat 1):Nat),.int .i64 (gr bs (Int.toNat 2) (Int.toNat 2):Nat),.int .i64 (gr bs (Int.toNat 4) (Int.toNat 4):Nat),.int .i64 0,.int .i64 0,.int .i64 0,.int .i64 0,.int .i64 0,.int .i64 0,.int .i64 0,.int .i64 0,.int .i64 0,.int .i64 0,.int .i64 (gr bs (Int.toNat 48) (Int.toNat 4):Nat),.int .i64 (gr bs (Int.toNat 52) (Int.toNat 4):Nat)]:LV)
   = ints ((jD bs).take 3++(List.replicate 10 0++(jD bs).drop 13)):=rfl
 rw[e11];refine ax.intro (by rw[ah];rfl) (av _) rfl λcg n11=>?_;have s11:=n11.size
 refine⟨λn hh=>0<=n/\n<=10/\Fr No h3 hh/\h3.size<hh.size/\du hh h3.size/\rd hh h3.size=ints ((jD bs).take (3+n.toNat)++(List.replicate (10-n.toNat) 0++(jD bs).drop 13)),λn _=>((10:Nat)-n).toNat,
  ⟨by omega,by omega,n11.fr,by omega,n11.own,n11.rd⟩,?_⟩
 rintro n bb ⟨n0,n1,f12,Cw,PH,wm⟩
 have rl12:(rd bb h3.size).length=15:=by
  rw[wm,ah,List.length_append,List.length_append,List.length_take,List.length_replicate,List.length_drop,gl];omega
 refine cd (λhn=>?_) λhn=>?_
 ·have hn:n<10:=hn;rw[wrap_i64 (n:=4*n) (by omega) (by omega),wrap_i64 (n:=8+4*n) (by omega) (by omega),wrap_i64 (n:=n+1) (by omega) (by omega)];refine gg (8+4*n) 4 f12 (by omega) (by omega) (by omega) ⟨_,rfl,⟨n0,hn⟩,?_⟩;rw[cI];refine bQ.add PH (by omega) λgh d14=>⟨⟨by omega,by omega,f12.did d14 λdh=>by omega,by have:=d14.size;omega,d14.own,?_⟩,j8 (m:=10) hn⟩;have hi:3+n.toNat<(jD bs).length:=by omega
  have eg:(jD bs)[3+n.toNat]=(gr bs (8+4*n).toNat (Int.toNat 4):Nat):=by
   rw[xx bs (by omega) hi,show(8+4*n).toNat=8+4*n.toNat by omega];rfl
  have:=Ha (jD bs) 0 ((jD bs).drop 13) (3+n.toNat) (10-n.toNat) hi (by omega);rw[eg]at this;rw[d14.rd,wm,show 0+3+n.toNat=3+n.toNat by omega,show 3+(n+1).toNat=3+n.toNat+1 by omega,show 10-(n+1).toNat=10-n.toNat-1 by omega,<-this,ints,ints,List.map_set]
 ·have hn:¬n<10:=hn;have en:n.toNat=10:=by omega
  rw[en]at wm
  have wm:rd bb h3.size=ints (jD bs):=by
   rw[wm];show ints ((jD bs).take 13++([]++(jD bs).drop 13))=_;rw[List.nil_append,List.take_append_drop]
  have acb:rd bb h.size=[.slice a l c]:=(f12.rd (by omega) λx=>x).trans r3;have B12:=aJ.fr f12 B3 λ_ _ x=>x;have PI:du bb h2.size:=f12.own w3.lt (λx=>x) w3;have l12:(rd bb h2.size).length=15:=by rw[f12.rd w3.lt λx=>x];exact l3
  have xy:=F3.no f12;refine⟨_,_,_,nt acb rfl,uP B12 wv (by omega) (by omega) (by omega) (by omega) ⟨_,_,rfl,_,_,_,nt acb rfl,uP B12 wv (by omega) (by omega) (by omega) (by omega) ⟨_,_,rfl,?_⟩⟩⟩;have ec:clean bs=(fW ((bs.drop (Int.toNat 1)).take (Int.toNat 1)) && fW ((bs.drop (Int.toNat 56)).take (Int.toNat 8))):=rfl
  have bad:nA bs=false->∀h',Fr No h h'->K (.tuple #[.agg ⟨ints oO⟩,.int .i64 111]) h':=λe h' f=>by
   have:=hK h' f;rw[mY,if_neg (by omega),e]at this;exact this
  refine jj ?_
  cases h1:fW ((bs.drop (Int.toNat 1)).take (Int.toNat 1))with
  | false=>exact iv xy (by omega) PI l12 (bad (by rw[nA,ec,h1];rfl))
  | true=>
   refine ct rfl (jj ?_)
   cases Aa:fW ((bs.drop (Int.toNat 56)).take (Int.toNat 8))with
   | false=>exact iv xy (by omega) PI l12 (bad (by rw[nA,ec,h1,Aa];rfl))
   | true=>
    refine ct rfl ⟨ints (jD bs),by rw[ah,gl],aj wm,Bf gl λfO f19=>⟨_,rfl,jj ?_⟩⟩;have s19:=f19.size;have w19:du fO h2.size:=f19.own PI.lt (λx=>x) PI;have l19:(rd fO h2.size).length=15:=(by rw[f19.rd PI.lt λx=>x];exact l12);have Zd:rd fO h3.size=ints (jD bs):=(f19.rd PH.lt λx=>x).trans wm
    cases hm:lU (jD bs)with
    | false=>exact iv (xy.no f19) (by omega) w19 l19 (bad (by rw[nA,hm,Bool.and_false]))
    | true=>
     refine ct rfl (DF gl (xy.no f19) (by omega) w19 l19 Zd λh' f=>?_);have:=hK h' f;rw[mY,if_neg (by omega),show nA bs=true by rw[nA,ec,h1,Aa,hm];rfl]at this;exact this
end In
namespace Re
open Hp W
theorem Hc : ∀(ys:LV) (X:LV) (o:Nat) (y:Value),put X o (ys++[y])=(put X o ys).set (o+ys.length) y:=by
 intro ys
 induction ys with
 | nil=>intro X o y;rfl
 | cons v r ih=>
  intro X o y;show put (X.set o v) (o+1) (r++[y])=_;rw[ih,List.length_cons,show o+1+r.length=o+(r.length+1) by omega];rfl
theorem Lp : ∀(ys zs:LV) (X:LV) (o:Nat),put X o (ys++zs)=put (put X o ys) (o+ys.length) zs:=by
 intro ys
 induction ys with
 | nil=>intro zs X o;rfl
 | cons v r ih=>
  intro zs X o;show put (X.set o v) (o+1) (r++zs)=_;rw[ih,List.length_cons,show o+1+r.length=o+(r.length+1) by omega];rfl
end Re
namespace Sk
open Go Go.Proofs Re
theorem mX(n v:Nat):bH (n+1) v=UInt8.ofNat v::bH n (v/256):=by
 rw[bH,List.range_succ_eq_map,List.map_cons,List.map_map];congr 1
 ·rw[Nat.pow_zero,Nat.div_one]
 ·rw[bH];apply List.map_congr_left;intro k _;show UInt8.ofNat (v/256 ^ (k+1))=UInt8.ofNat (v/256/256 ^ k);rw[Nat.pow_succ,Nat.mul_comm,Nat.div_div_eq_div_mul]
theorem uQ : ∀(bs:LB),bH bs.length (lT bs)=bs:=by
 intro bs
 induction bs with
 | nil=>rfl
 | cons b r ih=>
  have hb:b.toNat<256:=b.toNat_lt;rw[List.length_cons,mX,lT,show(b.toNat+256*lT r)/256=lT r by omega,ih];congr 1;apply UInt8.toNat_inj.mp;rw[UInt8.toNat_ofNat'];omega
theorem uR : ∀(n v:Nat),v<256 ^ n->lT (bH n v)=v:=by
 intro n
 induction n with
 | zero=>
  intro v h;have e:v=0:=by simpa using h
  rw[e];rfl
 | succ n ih=>
  intro v h;rw[mX,lT,ih (v/256) (by rw[Nat.pow_succ]at h;omega),UInt8.toNat_ofNat'];omega
theorem tY(h:fW bs=true):bs=List.replicate bs.length 0:=by
 induction bs with
 | nil=>rfl
 | cons b r ih=>
  rw[fW,List.all_cons,Bool.and_eq_true]at h;have hb:b=0:=by simpa using h.1
  have:=ih h.2;rw[List.length_cons,List.replicate_succ,hb];exact congrArg _ this
theorem He(n:Nat):fW (List.replicate n 0)=true:=by
 rw[fW,List.all_eq_true];intro x hx;rw[List.eq_of_mem_replicate hx];rfl
abbrev ay :=LB
def bf(s:ay):Bool:=decide (1<=s.length) && decide (s.length<=27) && (s != [46]) && (s != [46,46]) && s.all (λb=>b != 47 && b != 0)
structure Jx(s:ay):Prop where
 pos:1<=s.length
 le:s.length<=27
 dot:s≠[46]
 acd:s≠[46,46]
 all:∀b∈s,b≠47/\b≠0
theorem fI{s:ay}:bf s=true↔Jx s:=by
 constructor
 ·intro h;simp only[bf,Bool.and_eq_true,decide_eq_true_eq,bne_iff_ne,ne_eq,List.all_eq_true]at h;obtain⟨⟨⟨⟨h1,h2⟩,h3⟩,h4⟩,h5⟩:=h;exact⟨h1,h2,h3,h4,h5⟩
 ·rintro⟨h1,h2,h3,h4,h5⟩;simp only[bf,Bool.and_eq_true,decide_eq_true_eq,bne_iff_ne,ne_eq,List.all_eq_true];exact⟨⟨⟨⟨h1,h2⟩,h3⟩,h4⟩,h5⟩
def form(i:Nat)(s:ay):LB:=if i=0 then List.replicate 32 0 else bH 4 i++(UInt8.ofNat s.length::(s++List.replicate (27-s.length) 0))
def Good(x:Nat×ay):Prop:=(x.1=0/\x.2=[])∨(1<=x.1/\x.1<4294967296/\bf x.2=true)
def one(c:LB):Option (Nat×ay):=
 if lT (c.take 4)=0 then(if fW c then some (0,[])else none)
 else if(c.getD 4 0).toNat<1∨27<(c.getD 4 0).toNat then none
 else if fW (c.drop (5+(c.getD 4 0).toNat)) && bf ((c.drop 5).take (c.getD 4 0).toNat)then some (lT (c.take 4),(c.drop 5).take (c.getD 4 0).toNat)else none
theorem kW{x:Nat×ay}(g:Good x):(form x.1 x.2).length=32:=by
 unfold form
 rcases g with⟨h1,_⟩|⟨h1,h2,h3⟩
 ·rw[if_pos h1,List.length_replicate]
 ·have:=(fI.mp h3).le;rw[if_neg (by omega),List.length_append,aI,List.length_cons,List.length_append,List.length_replicate];omega
theorem uS : Good (0,[]):=Or.inl ⟨rfl,rfl⟩
theorem Bh{x:Nat×ay}(g:Good x):one (form x.1 x.2)=some x:=by
 obtain⟨i,s⟩:=x
 rcases g with⟨h1,h2⟩|⟨h1,h2,h3⟩
 ·have h1:i=0:=h1;have h2:s=[]:=h2;subst h1;subst h2;decide +kernel
 ·have h1:1<=i:=h1;have h2:i<4294967296:=h2;have h3:bf s=true:=h3;have hn:=fI.mp h3;have hp:=hn.pos;have hl:=hn.le;have e0:form i s=bH 4 i++(UInt8.ofNat s.length::(s++List.replicate (27-s.length) 0)):=by rw[form,if_neg (by omega)]
  have l4:=aI 4 i;have e1:(form i s).take 4=bH 4 i:=by rw[e0,List.take_append_of_le_length (by omega),List.take_of_length_le (by omega)]
  have e2:(form i s).getD 4 0=UInt8.ofNat s.length:=by
   rw[e0,List.getD_eq_getElem?_getD,List.getElem?_append_right (by omega),l4];rfl
  have e3:(UInt8.ofNat s.length).toNat=s.length:=by rw[UInt8.toNat_ofNat'];omega
  have e4:(form i s).drop 5=s++List.replicate (27-s.length) 0:=by
   rw[e0,List.drop_append,l4];rw[List.drop_of_length_le (by omega)];rfl
  have e5:(form i s).drop (5+s.length)=List.replicate (27-s.length) 0:=by rw[<-List.drop_drop,e4,List.drop_left]
  show one (form i s)=some (i,s);unfold one;rw[e1,uR 4 i (by omega),if_neg (by omega),e2,e3,if_neg (by omega),e5,He,e4,List.take_left,h3];rfl
theorem Hf{c:LB}{x:Nat×ay}(hc:c.length=32)(h:one c=some x):Good x/\c=form x.1 x.2:=by
 unfold one at h;have lt:lT (c.take 4)<256 ^ (c.take 4).length:=tV _;have l4:(c.take 4).length=4:=by rw[List.length_take];omega
 rw[l4]at lt
 split at h
 ·split at h
  ·rename_i hz;obtain rfl:=Option.some.inj h;refine⟨uS,?_⟩;have:=tY hz;rw[hc]at this;exact this
  ·cases h
 ·rename_i h0
  split at h
  ·cases h
  ·rename_i h1
   split at h
   ·rename_i h2;rw[Bool.and_eq_true]at h2;obtain⟨hz,hn⟩:=h2;obtain rfl:=Option.some.inj h;refine⟨Or.inr ⟨by show 1<=lT _;omega,by show lT _<_;omega,hn⟩,?_⟩;have h4:4<c.length:=(by omega);generalize hN:(c.getD 4 0).toNat=n at *
    have en:UInt8.ofNat n=c[4]:=by
     rw[<-hN,List.getD_eq_getElem?_getD,List.getElem?_eq_getElem h4];apply UInt8.toNat_inj.mp;have:=(c[4]).toNat_lt;rw[UInt8.toNat_ofNat'];show(c[4]).toNat%256=_;omega
    have ls:((c.drop 5).take n).length=n:=(by rw[List.length_take,List.length_drop];omega);have hz:=tY hz;rw[List.length_drop,hc,show 32-(5+n)=27-n by omega]at hz;show c=form (lT (c.take 4)) ((c.drop 5).take n);rw[form,if_neg h0,ls,en,<-hz]
    have e1:bH 4 (lT (c.take 4))=c.take 4:=by
     have:=uQ (c.take 4);rw[l4]at this;exact this
    rw[e1,<-List.drop_drop,List.take_append_drop,<-List.drop_eq_getElem_cons h4,List.take_append_drop]
   ·cases h
def dec : Nat->LB->Option (List (Nat×ay))
 | 0,_=>some []
 | n+1,b=>match one (b.take 32)with
  | none=>none
  | some x=>(dec n (b.drop 32)).map (x :: ·)
def blk(hs:List (Nat×ay)):LB:=hs.flatMap λx=>form x.1 x.2
theorem pT(x:Nat×ay)(r:List (Nat×ay)):blk (x::r)=form x.1 x.2++blk r:=rfl
theorem pU{hs:List (Nat×ay)}(g:∀ x ∈ hs,Good x):(blk hs).length=32*hs.length:=by
 induction hs with
 | nil=>rfl
 | cons x r ih=>
  rw[pT,List.length_append,kW (g x (List.mem_cons_self ..)),ih λy hy=>g y (List.mem_cons_of_mem _ hy),List.length_cons];omega
theorem Lq{hs:List (Nat×ay)}(g:∀ x ∈ hs,Good x):dec hs.length (blk hs)=some hs:=by
 induction hs with
 | nil=>rfl
 | cons x r ih=>
  have gx:=g x (List.mem_cons_self ..);have l:=kW gx;rw[List.length_cons,dec,pT,show List.take 32 (form x.1 x.2++blk r)=form x.1 x.2 by rw[<-l,List.take_left],Bh gx];show(dec r.length (List.drop 32 (form x.1 x.2++blk r))).map _=_;rw[show List.drop 32 (form x.1 x.2++blk r)=blk r by rw[<-l,List.drop_left],ih λy hy=>g y (List.mem_cons_of_mem _ hy)];rfl
theorem Ft : ∀{n:Nat} {b:LB} {hs:List (Nat×ay)},b.length=32*n->dec n b=some hs->hs.length=n/\(∀x∈hs,Good x)/\b=blk hs:=by
 intro n
 induction n with
 | zero=>
  intro b hs hl h;obtain rfl:=Option.some.inj h;refine⟨rfl,λx hx=>absurd hx (by simp),?_⟩;exact List.length_eq_zero_iff.mp (by omega)
 | succ n ih=>
  intro b hs hl h;rw[dec]at h;have l1:(b.take 32).length=32:=by rw[List.length_take];omega
  cases ho:one (b.take 32)with
  | none=>rw[ho]at h;cases h
  | some x=>
   rw[ho]at h;obtain⟨r,hr,rfl⟩:=Option.map_eq_some_iff.mp h;obtain⟨a1,a2,a3⟩:=ih (by rw[List.length_drop];omega) hr;obtain⟨g,e⟩:=Hf l1 ho;refine⟨by rw[List.length_cons,a1],λy hy=>?_,?_⟩
   ·rcases List.mem_cons.mp hy with rfl|hy
    ·exact g
    ·exact a2 y hy
   ·rw[pT,<-e,<-a3,List.take_append_drop]
theorem Hg{b:LB}(hk:k<16):dec (16-k) (b.drop (32*k))=match one ((b.drop (32*k)).take 32)with
  | none=>none
  | some x=>(dec (16-(k+1)) (b.drop (32*(k+1)))).map (x :: ·):=by
 rw[show 16-k=(16-(k+1))+1 by omega,dec,List.drop_drop,show 32*k+32=32*(k+1) by omega]
structure E where
 place:Int
 name:ay
 fu:Int
deriving DecidableEq
def gW : Nat->List (Nat×ay)->List E
 | _,[]=>[]
 | k,x::r=>if x.1=0 then gW (k+1) r else⟨k,x.2,x.1⟩::gW (k+1) r
theorem tZ : ∀(a b:List (Nat×ay)) (k:Nat),gW k (a++b)=gW k a++gW (k+a.length) b:=by
 intro a
 induction a with
 | nil=>intro b k;rfl
 | cons x r ih=>
  intro b k;rw[List.cons_append,gW,gW,ih,List.length_cons,show k+1+r.length=k+(r.length+1) by omega]
  split <;> rfl
theorem wy : ∀(hs:List (Nat×ay)) (k:Nat) (e:E),e∈gW k hs->(k:Int)<=e.place/\e.place<k+hs.length/\∃x∈hs,x.1≠0/\e.name=x.2/\e.fu=x.1:=by
 intro hs
 induction hs with
 | nil=>intro k e h;exact absurd h (by simp[gW])
 | cons x r ih=>
  intro k e h;rw[gW]at h
  split at h
  ·obtain⟨h1,h2,y,h3,h4⟩:=ih _ _ h;rw[List.length_cons];exact⟨by omega,by omega,y,List.mem_cons_of_mem _ h3,h4⟩
  ·rename_i h0;rw[List.length_cons]
   rcases List.mem_cons.mp h with rfl|h
   ·refine⟨by show(k:Int)<=k;omega,by show(k:Int)<_;omega,x,List.mem_cons_self ..,h0,rfl,rfl⟩
   ·obtain⟨h1,h2,y,h3,h4⟩:=ih _ _ h;exact⟨by omega,by omega,y,List.mem_cons_of_mem _ h3,h4⟩
end Sk
namespace Ss
open Go Go.Proofs Re Sk
theorem Bi : ∀(hs:List (Nat×ay)) (k:Nat),(gW k hs).length<=hs.length:=by
 intro hs
 induction hs with
 | nil=>intro k;exact Nat.le_refl _
 | cons x r ih=>
  intro k;rw[gW]
  split
  ·have:=ih (k+1);rw[List.length_cons];omega
  ·have:=ih (k+1);rw[List.length_cons,List.length_cons];omega
def ry(bs:LB):List E×Int:=if bs.length≠512 then([],32)else match dec 16 bs with
 | none=>([],140)
 | some hs=>(gW 0 hs,0)
end Ss
namespace Ad
open Hp W
structure RD where
 dg:List LB
 lJ:List (Int×LB)
 left:Int
 gL:List Bool
 down:Bool
 writes:Int
 fX:Int
 tape:List (Int×Int×LB)
def blk(b:LB):LV:=b.map bv
def xz(p:Int×LB):LV:=.int .i64 p.1::p.2.map bv
structure wQ where
 kind:Int
 at_:Int
 a:OA
 l:Nat
 c:Nat
def wQ.cells(e:wQ):LV:=[.int .i64 e.kind,.int .i64 e.at_,.slice e.a e.l e.c]
def vt(h:ab)(az:Nat->Nat)(k:Nat):List wQ->List (Int×Int×LB)->Prop
 | [],[]=>True
 | e::r,t::s=>e.kind=t.1/\e.at_=t.2.1/\aJ h e.a e.l t.2.2/\(∀p,e.a=some p->p.block<h.size/\az p.block=k)/\vt h az k r s
 | _,_=>False
theorem vt.gL(f:Fr F h h')(g:Ag h.size az bT)(hF:∀ b,az b=k->¬ F b) :
  ∀{es:List wQ} {ts:List (Int×Int×LB)},vt h az k es ts->vt h' bT k es ts:=by
 intro es
 induction es with
 | nil=>intro ts e;cases ts with
  | nil=>trivial
  | cons _ _=>exact e.elim
 | cons x r ih=>intro ts e;cases ts with
  | nil=>exact e.elim
  | cons t s=>
   obtain⟨h1,h2,h3,h4,h5⟩:=e;exact⟨h1,h2,aJ.fr f h3 (λp hp=>hF _ (h4 p hp).2),λp hp=>⟨Nat.lt_of_lt_of_le (h4 p hp).1 f.size,(g _ (h4 p hp).1).trans (h4 p hp).2⟩,ih h5⟩
theorem vt.length{h:ab}{az:Nat->Nat}{k:Nat}:∀{es:List wQ} {ts:List (Int×Int×LB)},vt h az k es ts->es.length=ts.length:=by
 intro es
 induction es with
 | nil=>intro ts e;cases ts with
  | nil=>rfl
  | cons _ _=>exact e.elim
 | cons x r ih=>intro ts e;cases ts with
  | nil=>exact e.elim
  | cons t s=>simp[ih e.2.2.2.2]
structure Raw where
 la:OA
 ln:Nat
 lc:Nat
 pa:OA
 pn:Nat
 pc:Nat
 left:Int
 ka:OA
 kn:Nat
 kc:Nat
 down:Bool
 writes:Int
 fX:Int
 ta:OA
 tn:Nat
 tc:Nat
def Raw.cells(r:Raw):LV:=
 [.slice r.la r.ln r.lc,.slice r.pa r.pn r.pc,.int .i64 r.left,.slice r.ka r.kn r.kc,.bool r.down,.int .i64 r.writes,.int .i64 r.fX,.slice r.ta r.tn r.tc]
structure Parts(h:ab)(S:RD)(az:Nat->Nat)(m:Nat)(r:Raw)(es:List wQ):Prop where
 left:r.left=S.left
 PJ:0<=S.left/\S.left<=9223372036854775807
 down:r.down=S.down
 writes:r.writes=S.writes
 fX:r.fX=S.fX
 l:Sl h 512 r.la r.ln r.lc (S.dg.flatMap blk) (On az (m+1))
 lw:∀x∈S.dg,x.length=512
 ln:r.ln=S.dg.length
 Ze:S.dg.length<=16384
 p:Sl h 513 r.pa r.pn r.pc (S.lJ.flatMap xz) (On az (m+2))
 pw:∀x∈S.lJ,x.2.length=512
 pn:r.pn=S.lJ.length
 pi:∀x∈S.lJ,0<=x.1/\x.1<S.dg.length
 Zf:S.lJ.length<=140737488355328
 k:Sl h 1 r.ka r.kn r.kc (S.gL.map .bool) (On az (m+3))
 kn:r.kn=S.gL.length
 t:Sl h 3 r.ta r.tn r.tc (es.flatMap wQ.cells) (On az (m+4))
 tn:r.tn=es.length
 ace:es.length<=140737488355328
 ts:vt h az (m+5) es S.tape
structure nN(h:ab)(b:Nat)(S:RD)(az:Nat->Nat)(m:Nat)(r:Raw)(es:List wQ):Prop extends Parts h S az m r es where
 sc:az b=m
 so:du h b
 sr:rd h b=r.cells
def qH(h:ab)(d:OA)(S:RD)(az:Nat->Nat)(m:Nat):Prop:=∃b r es,d=some ⟨b,0,none⟩/\nN h b S az m r es
theorem Parts.gL{h h':ab}{S:RD}{az bT:Nat->Nat}{m:Nat}{r:Raw}{es:List wQ}{F:NP}(d:Parts h S az m r es)(f:Fr F h h')(g:Ag h.size az bT)
  (hF:∀b,m+1<=az b->az b<=m+5->¬F b):Parts h' S bT m r es:=
 ⟨d.left,d.PJ,d.down,d.writes,d.fX,d.l.gL f g (λb e=>hF b (by omega) (by omega)),d.lw,d.ln,d.Ze,
  d.p.gL f g (λb e=>hF b (by omega) (by omega)),d.pw,d.pn,d.pi,d.Zf,d.k.gL f g (λb e=>hF b (by omega) (by omega)),d.kn,d.t.gL f g (λb e=>hF b (by omega) (by omega)),d.tn,d.ace,
  vt.gL f g (λb e=>hF b (by omega) (by omega)) d.ts⟩
theorem nN.DG{S:RD}{r:Raw}{es:List wQ}(d:nN h b S az m r es)(f:Fr F h h')(g:Ag h.size az bT)
  (hF:∀b,m<=az b->az b<=m+5->¬F b):nN h' b S bT m r es:=by
 have hb:=d.so.lt;have hs:¬F b:=hF b (by have:=d.sc;omega) (by have:=d.sc;omega);exact⟨d.toParts.gL f g (λb h1 h2=>hF b (by omega) h2),(g _ hb).trans d.sc,f.own hb hs d.so,(f.rd hb hs).trans d.sr⟩
theorem qH.gL{S:RD}(D:qH h d S az m)(f:Fr F h h')(g:Ag h.size az bT)
  (hF:∀b,m<=az b->az b<=m+5->¬F b):qH h' d S bT m:=by
 obtain⟨b,r,es,e,D⟩:=D;exact⟨b,r,es,e,D.DG f g hF⟩
def fresh(ls:List LB):RD:=⟨ls,[],0,[],false,0,0,[]⟩
def mi : LB:=List.replicate 512 0
theorem CZ(z:LV)(hz:z=List.replicate 512 (.int .u8 0))(n:Nat):aW z n=(List.replicate n mi).flatMap blk:=by
 rw[ot,List.flatMap_replicate];subst hz;have:blk mi=List.replicate 512 (.int .u8 0):=by simp only[blk,mi,List.map_replicate];rfl
 rw[this]
theorem PK(az:Nat->Nat)(m:Nat)
  (h1:n<1∨16384<n->K (.tuple #[.pointer none,.int .i64 32]) h)
  (h2:1<=n->n<=16384->∀q h' bT,Fr No h h'->Ag h.size az bT->qH h' (some q) (fresh (List.replicate n.toNat mi)) bT m->K (.tuple #[.pointer (some q),.int .i64 0]) h') :
  C.nI n h K:=by
 refine nI.ok ?_;refine cd (λa=>h1 (Or.inl a)) λa=>cd (λb=>h1 (Or.inr b)) λb=>⟨by omega,?_⟩;refine aC.intro λAa n2=>aC.intro λh3 n3=>?_;refine h2 (by omega) (by omega) _ _ (RJ (RJ az h.size (m+1)) (h.size+1) m) (n2.fr.new n3) ((A' _ _ _).trans (A' _ _ _) (by omega)) ?_;refine⟨_,⟨some ⟨h.size,0,none⟩,n.toNat,n.toNat,none,0,0,0,none,0,0,false,0,0,none,0,0⟩,[],rfl,?_⟩;have hl:=bw blk 512 (List.replicate n.toNat mi) (by intro x hx;rw[List.eq_of_mem_replicate hx];simp only[blk,mi,List.length_map,List.length_replicate]);rw[List.length_replicate]at hl;have e2:rd Aa h.size=(List.replicate n.toNat mi).flatMap blk:=n2.rd.trans (CZ _ rfl _);refine⟨⟨rfl,⟨by simp[fresh],by simp[fresh]⟩,rfl,rfl,rfl,?_,?_,?_,?_,Sl.nil _ _ _,?_,rfl,?_,by simp[fresh],Sl.nil _ _ _,rfl,Sl.nil _ _ _,rfl,by simp,trivial⟩,E3 (by rw[n2.size];omega),n3.own,n3.rd⟩
 ·refine⟨hl,rfl,?_,n3.ow n2.own,Nat.le_refl _,?_,?_⟩
  ·show RJ (RJ az h.size (m+1)) (h.size+1) m h.size=m+1;rw[Yr (by omega),E3 (Nat.le_refl _)]
  ·show((rd h3 h.size).drop 0).take _=_;rw[n3.at_ n2.own.lt,e2,List.drop_zero];exact List.take_length
  ·show 0+n.toNat*512<=(rd h3 h.size).length;rw[n3.at_ n2.own.lt,e2,hl];omega
 ·intro x hx;rw[List.eq_of_mem_replicate hx];simp only[mi,List.length_replicate]
 ·simp[fresh]
 ·simp only[fresh,List.length_replicate];omega
 ·intro x hx;simp[fresh]at hx
 ·intro x hx;simp[fresh]at hx
theorem nN.field{S:RD}{r:Raw}{es:List wQ}(d:nN h b S az m r es)(k:Nat):cellOf h (Addr.add ⟨b,0,none⟩ k)=r.cells[k]?:=by
 rw[cI,ko,d.sr,Nat.zero_add]
theorem xA{S:RD}(D:qH h d S az m)
  (hK:K (.bool (decide (0<=i/\i<S.dg.length))) h):C.iL d i h K:=by
 obtain⟨b,r,es,rfl,D⟩:=D;refine iL.ok (cd (λa=>⟨_,_,_,D.field 0,?_⟩) λa=>?_)
 ·rw[D.ln];have e:(0<=i/\i<S.dg.length)=(i<S.dg.length):=by rw[eq_true (show 0<=i from a),true_and]
  simpa only[e]using hK
 ·have:¬(0<=i/\i<S.dg.length):=by omega
  simpa only[this,decide_false]using hK
theorem mF{S:RD}(D:qH h d S az m)
  (hK:K (.int .i64 S.dg.length) h):C.fy d h K:=by
 obtain⟨b,r,es,rfl,D⟩:=D;refine fy.ok ⟨_,_,_,D.field 0,?_⟩;rw[D.ln];exact hK
def ik(b:LB)(i:Int)(ps:List (Int×LB)):LB:=ps.foldl (λb p=>if p.1=i then p.2 else b) b
def j5(S:RD)(i:Nat):LB:=ik (S.dg.getD i []) i S.lJ
theorem DH{p:Int×LB}(h:p.2.length=512):(xz p).length=513:=by simp only[xz,List.length_cons,List.length_map,h]
theorem si{b:LB}(h:b.length=512):(blk b).length=512:=by simp only[blk,List.length_map,h]
theorem Jy(p:Int×LB):((xz p).drop (0+1)).take (blk p.2).length=blk p.2:=by
 simp only[xz,blk,Nat.zero_add,List.drop_succ_cons,List.drop_zero];exact List.take_length
theorem MU(p:Int×LB):∀v∈xz p,v.oneCell'=true:=by
 intro v hv
 rcases List.mem_cons.mp hv with rfl|hv
 ·rfl
 ·exact pM _ v hv
theorem nN.MV{S:RD}{r:Raw}{es:List wQ}(d:nN h b S az m r es){h':ab}{bT:Nat->Nat}{i:Nat}(hi:i<S.lJ.length)
  (s:Sl h' 513 r.pa r.pn r.pc (S.lJ.flatMap xz) (On bT (m+2))):∃p,r.pa=some p/\ai h' (p.add (i*513)) (xz S.lJ[i]):=by
 obtain⟨p,e,c⟩:=s.get (by rw[d.pn];omega);refine⟨p,e,?_⟩;have:=ai.part c (i*513) 513;rw[kq xz 513 S.lJ (λx hx=>DH (d.pw x hx)) i hi]at this;exact this
theorem nN.MW{S:RD}{r:Raw}{es:List wQ}(d:nN h b S az m r es){h':ab}{bT:Nat->Nat}{i:Nat}(hi:i<S.dg.length)
  (s:Sl h' 512 r.la r.ln r.lc (S.dg.flatMap blk) (On bT (m+1))):∃p,r.la=some p/\ai h' (p.add (i*512)) (blk S.dg[i]):=by
 obtain⟨p,e,c⟩:=s.get (by rw[d.ln];omega);refine⟨p,e,?_⟩;have:=ai.part c (i*512) 512;rw[kq blk 512 S.dg (λx hx=>si (d.lw x hx)) i hi]at this;exact this
theorem oh{b:LB}{ps:List (Int×LB)}{n:Nat}(hn:n<ps.length):ik b i (ps.take (n+1))=if ps[n].1=i then ps[n].2 else ik b i (ps.take n):=by
 rw[ik,List.take_add_one,List.foldl_append,List.getElem?_eq_getElem hn];rfl
theorem fM{S:RD}(D:qH h d S az m)
  (h1:S.down=true->K (.tuple #[.slice none 0 0,.int .i64 30]) h)
  (h2:S.down=false->¬(0<=i/\i<S.dg.length)->K (.tuple #[.slice none 0 0,.int .i64 31]) h)
  (h3:S.down=false->0<=i->i<S.dg.length->∀b h',Fr No h h'->h.size<=b->du h' b->rd h' b=(j5 S i.toNat).map bv->(j5 S i.toNat).length=512->
   K (.tuple #[.slice (some ⟨b,0,none⟩) 512 512,.int .i64 0]) h') :
  C.gp d i h K:=by
 have D0:=D;obtain⟨b,r,es,rfl,D⟩:=D;refine gp.ok ⟨_,D.field 4,?_⟩;rw[D.down];refine cs h1 λhd=>xA D0 ⟨_,rfl,jj (cd (λa=>?_) (h2 hd))⟩;have hi:i.toNat<S.dg.length:=by omega
 obtain⟨p,e,c⟩:=D.MW hi D.l;refine⟨_,_,_,D.field 0,⟨a.1,by rw[D.ln];exact a.2⟩,?_⟩;rw[e];have hlen:=si (D.lw _ (List.getElem_mem hi));refine⟨_,hlen,c,ax.intro hlen (pM _) List.length_replicate λh4 n4=>?_⟩;have D4:=D.DG n4.fr (Ag.refl _ _) (λ_ _ _ x=>x);refine⟨_,_,_,D4.field 1,?_⟩
 refine⟨λn hh=>0<=n/\n<=S.lJ.length/\Fr No h hh/\du hh h.size/\rd hh h.size=(ik S.dg[i.toNat] i (S.lJ.take n.toNat)).map bv/\(ik S.dg[i.toNat] i (S.lJ.take n.toNat)).length=512,
  λn _=>(S.lJ.length-n).toNat,⟨by omega,by omega,n4.fr,n4.own,n4.rd,D.lw _ (List.getElem_mem hi)⟩,?_⟩
 rintro n h5 ⟨n0,n1,f5,o5,r5,l5⟩;have D5:=D.DG f5 (Ag.refl _ _) (λ_ _ _ x=>x);rw[D.pn];refine cd (λhn=>?_) λhn=>?_
 rotate_left
 ·have:j5 S i.toNat=ik S.dg[i.toNat] i (S.lJ.take n.toNat):=by
   rw[List.take_of_length_le (by omega),j5,List.getD_eq_getElem?_getD,List.getElem?_eq_getElem hi,Option.getD_some,Int.toNat_of_nonneg a.1]
  exact h3 hd a.1 a.2 _ _ f5 (Nat.le_refl _) o5 (by rw[this];exact r5) (by rw[this];exact l5)
 have Gf:n.toNat<S.lJ.length:=by omega
 obtain⟨q,e',c'⟩:=D5.MV Gf D5.p;refine⟨⟨n0,hn⟩,?_⟩;rw[e'];have hp2:=D.pw _ (List.getElem_mem Gf);have hpl:=DH hp2;refine⟨_,hpl,c',ax.intro hpl (MU _) (List.length_cons.trans (congrArg (· + 1) List.length_replicate)) λh7 n7=>?_⟩;have f7:=f5.new n7;have hs5:=f5.size;have hw:IntKind.wrap .i64 (n+1)=n+1:=wrap_i64 (by omega) (by have:=D.Zf;omega);have ht:(n+1).toNat=n.toNat+1:=by omega
 refine⟨_,bW n7.rd rfl,?_⟩;rw[hw];refine ce (λhq=>?_) λhq=>?_
 ·have hb:=si hp2;have r7:=n7.at_ o5.lt;refine⟨_,hb,lS n7.rd (Jy _),ar.intro (n7.ow o5) hb (pM _) (by rw[r7,r5,List.length_map,l5];omega) λh8 n8=>⟨⟨by omega,by omega,f7.did n8 (λx=>by omega),n8.own,?_,?_⟩,j8 hn⟩⟩
  ·rw[n8.rd,r7,r5,cM _ _ (by rw[hb,List.length_map,l5]),ht,oh Gf,if_pos hq];rfl
  ·rw[ht,oh Gf,if_pos hq];exact hp2
 ·refine⟨⟨by omega,by omega,f7,n7.ow o5,?_,?_⟩,j8 hn⟩
  ·rw[n7.at_ o5.lt,r5,ht,oh Gf,if_neg hq]
  ·rw[ht,oh Gf,if_neg hq];exact l5
theorem nN.Uq{S:RD}{r:Raw}{es:List wQ}(d:nN h b S az m r es){lb lo i:Nat}{y:LB}(hi:i<S.dg.length)(hy:y.length=512)
  (e:r.la=some ⟨lb,lo,none⟩) (D:yw lb h h' (put (rd h lb) (lo+i*512) (blk y))):nN h' b { S with dg:=S.dg.set i y } az m r es:=by
 have L:=d.l;rw[e]at L;have hc:az lb=m+1:=L.2.2.1;have K:=d.DG (F:=λx=>x=lb/\False) (h':=h) ⟨Nat.le_refl _,λ_ _ _=>rfl⟩ (Ag.refl _ _) (λ_ _ _ x=>x.2);have hs:b≠lb:=by intro x;have:=d.sc;rw[x]at this;omega
 have g:Ag h.size az az:=Ag.refl _ _;have hk:∀k,k≠m+1->∀x,az x=k->¬(x=lb):=by intro k hk x hx e;rw[e]at hx;omega
 exact⟨⟨d.left,d.PJ,d.down,d.writes,d.fX,by rw[e];exact L.SI (λx hx=>si (d.lw x hx)) hi (si hy) D,
  λx hx=>by rcases List.mem_or_eq_of_mem_set hx with hx|rfl;exact d.lw x hx;exact hy,by simp only[List.length_set];exact d.ln,by simp only[List.length_set];exact d.Ze,
  d.p.gL D.fr g (hk _ (by omega)),d.pw,d.pn,by simp only[List.length_set];exact d.pi,d.Zf,d.k.gL D.fr g (hk _ (by omega)),d.kn,d.t.gL D.fr g (hk _ (by omega)),d.tn,d.ace,vt.gL D.fr g (hk _ (by omega)) d.ts⟩,d.sc,D.ow d.so,(D.at_ d.so.lt hs).trans d.sr⟩
theorem uT{α:Type}(xs:List α)(n:Nat)(h:n<xs.length):xs.take (n+1)=xs.take n++[xs[n]]:=by
 rw[List.take_add_one,List.getElem?_eq_getElem h];rfl
def chunks(bs:LB):List LB:=(List.range (bs.length/512)).map λi=>(bs.drop (i*512)).take 512
theorem mg(bs:LB):(chunks bs).length=bs.length/512:=by simp only[chunks,List.length_map,List.length_range]
theorem sj(bs:LB){i:Nat}(h:i<(chunks bs).length):(chunks bs)[i]=(bs.drop (i*512)).take 512:=by simp only[chunks,List.getElem_map,List.getElem_range]
theorem Jz(bs:LB):∀x∈chunks bs,x.length=512:=by
 intro x hx;obtain⟨i,hi,rfl⟩:=List.getElem_of_mem hx;rw[mg]at hi;rw[sj,List.length_take,List.length_drop];omega
theorem uU(az:Nat->Nat)(m:Nat)(hf:Yq h az m)(B:aJ h a l bs)(wv:l<=c)(hl:l<=140737488355328)
  (h1:l%512≠0∨l=0∨16384<l/512->K (.tuple #[.pointer none,.int .i64 32]) h)
  (h2:l%512=0->0<l->l/512<=16384->∀q h' bT,Fr No h h'->Ag h.size az bT->qH h' (some q) (fresh (chunks bs)) bT m->K (.tuple #[.pointer (some q),.int .i64 0]) h') :
  C.kN a l c h K:=by
 have C1:=B.1;have hd:Int.tdiv (l:Int) 512=((l/512:Nat):Int):=by rw[Int.tdiv_eq_ediv_of_nonneg (by omega)];omega
 have hmd:Int.tmod (l:Int) 512=((l%512:Nat):Int):=by rw[Int.tmod_eq_emod_of_nonneg (by omega)];omega
 have hw:IntKind.wrap .i64 (Int.tdiv (l:Int) 512)=((l/512:Nat):Int):=by rw[hd];exact wrap_i64 (by omega) (by omega)
 refine kN.ok (cn (λx=>h1 (Or.inl (by omega))) λx=>?_);rw[hw];refine PK az m (λy=>⟨_,_,rfl,cn (λ_=>h1 (by omega)) (λz=>absurd z (by omega))⟩) λy1 y2 q h' bT f1 g1 D1=>⟨_,_,rfl,cn (λz=>absurd rfl z) λ_=>?_⟩;obtain⟨b,r,es,hq,D1⟩:=D1;have hq:q=⟨b,0,none⟩:=by simpa using hq
 subst hq;rw[Int.toNat_natCast]at D1;have hN:=D1.ln;simp only[fresh,List.length_replicate]at hN;refine⟨_,_,_,D1.field 0,?_⟩
 refine⟨λn hh=>0<=n/\n<=(l/512:Nat)/\Fr No h hh/\nN hh b (fresh ((chunks bs).take n.toNat++List.replicate (l/512-n.toNat) mi)) bT m r es,λn _=>((l/512:Nat)-n).toNat,
  ⟨by omega,by omega,f1,by rw[show(0:Int).toNat=0 from rfl,List.take_zero,List.nil_append,Nat.sub_zero];exact D1⟩,?_⟩
 rintro n h3 ⟨n0,n1,f3,D3⟩;rw[hN];have Gg:=mg bs;refine cd (λhn=>?_) λhn=>?_
 rotate_left
 ·have e:n.toNat=l/512:=by omega
  rw[e,List.take_of_length_le (by rw[Gg,C1];omega),Nat.sub_self,List.replicate_zero,List.append_nil]at D3;exact h2 (by omega) (by omega) (by omega) _ _ _ f3 g1 ⟨b,r,es,rfl,D3⟩
 have Gf:n.toNat<l/512:=by omega
 refine⟨_,_,_,D3.field 0,⟨n0,by rw[hN];exact hn⟩,?_⟩;obtain⟨p,e,_⟩:=D3.l.get (by rw[hN];omega);rw[e];have L:=D3.l;rw[e]at L;obtain⟨lb,lo,sp⟩:=p;have RE:sp=none:=L.2.1;subst RE;have hw3:IntKind.wrap .i64 (n*512)=((n.toNat*512:Nat):Int):=by rw[wrap_i64 (by omega) (by omega)];omega
 have hw2:IntKind.wrap .i64 (n+1)=n+1:=wrap_i64 (by omega) (by omega);simp only[hw3,hw2,Int.toNat_natCast];refine⟨by omega,?_⟩;rw[if_neg (by omega),cI];have B3:=aJ.take (aJ.drop (aJ.fr f3 B (λ_ _ x=>x)) (n.toNat*512)) (n:=512) (by omega);obtain⟨w1,w2⟩:=L.wr;rw[hN]at w2;have hy:((bs.drop (n.toNat*512)).take 512).length=512:=B3.1;have hm:min (l-n.toNat*512) 512=512:=by omega
 refine qU.intro (new:=blk ((bs.drop (n.toNat*512)).take 512)) (by rw[si hy,hm];rfl) B3.2 (pM _) w1 (by rw[si hy];omega) λh4 d4=>?_;have hi:n.toNat<((chunks bs).take n.toNat++List.replicate (l/512-n.toNat) mi).length:=by rw[List.length_append,List.length_take,List.length_replicate,Gg,C1];omega
 have D4:=D3.Uq (i:=n.toNat) hi hy e d4;refine⟨⟨by omega,by omega,?_,?_⟩,j8 hn⟩
 ·refine f3.did d4 λx=>?_;have hc:bT lb=m+1:=L.2.2.1;have:=hf.new g1 (b:=lb) (by omega) (by omega);omega
 ·have ht:(n+1).toNat=n.toNat+1:=by omega
  have hx:n.toNat<(chunks bs).length:=by rw[Gg,C1];omega
  have e1:((chunks bs).take n.toNat++List.replicate (l/512-n.toNat) mi).set n.toNat ((bs.drop (n.toNat*512)).take 512)=(chunks bs).take (n+1).toNat++List.replicate (l/512-(n+1).toNat) mi:=by
   have h1:((chunks bs).take n.toNat).length=n.toNat:=(by rw[List.length_take];omega);rw[List.set_append_right _ _ (by omega),h1,Nat.sub_self,show l/512-n.toNat=(l/512-(n+1).toNat)+1 by omega,List.replicate_succ,List.set_cons_zero,ht,uT _ _ hx,sj,List.append_assoc];rfl
  rw[<-e1];exact D4
theorem JA(B:aJ h a l bs)(hl:l<=140737488355328)
  (hK:∀a' c' h',Fr No h h'->Sl h' 1 a' l c' (bs.map bv) (bZ h.size)->K (.slice a' l c') h'):C.cU a l c h K:=by
 have C1:=B.1;refine cU.ok (cs (λe=>?_) λ_=>aC.intro λh2 n2=>?_)
 ·cases a with
  | none=>
   have e1:=B.2;have e2:bs.map bv=[]:=e1;have e2:bs=[]:=List.map_eq_nil_iff.mp e2;subst e2;have:l=0:=C1.symm;subst this;exact hK none 0 h (Fr.refl _ _) (Sl.nil _ _ _)
  | some p=>simp at e
 ·obtain⟨s1,s2,s3⟩:=aJ.src (aJ.fr n2.fr B (λ_ _ x=>x));refine⟨_,s1,s2,s3,?_⟩;refine aT (xs:=[]) (F:=bZ h.size) (Sl.made n2 rfl (Nat.le_refl _) rfl (Nat.le_refl _) rfl) s1 rfl (by show(0+l)*1<=_;omega) (by omega) λa' c' h' f s=>?_;rw[Nat.zero_add,List.nil_append]at s;rw[Nat.zero_add];have:=n2.size;exact hK a' c' h' (n2.fr.trans f λb hb e=>by have:h.size<=b:=e;omega) (s.mono λb hb=>by rcases hb with hb|hb;exact hb;show h.size<=b;omega)
structure Gw(h:ab)(D:NP)(h':ab)(D':NP):Prop where
 Db:∀b,b<h.size->(D' b↔D b)
 lt:∀b,D' b->b<h'.size
theorem Gw.new{D:NP}(g:Gw h D h' D'){b:Nat}(hb:D' b):D b∨h.size<=b:=by
 rcases Nat.lt_or_ge b h.size with h1|h1
 ·exact .inl ((g.Db b h1).mp hb)
 ·exact .inr h1
def trim(az:Nat->Nat)(n:Nat):Nat->Nat:=λb=>if b<n then az b else 0
theorem Au{n:Nat}(h:b<n):trim az n b=az b:=if_pos h
theorem Aw{n:Nat}(h:n<=b):trim az n b=0:=if_neg (by omega)
theorem Lr(az:Nat->Nat)(n:Nat):Ag n az (trim az n):=λ_ hb=>if_pos hb
def jB(h:ab)(D:NP)(d:OA)(S:RD):Prop:=∃az,qH h d S az 1/\(∀b,h.size<=b->az b=0)/\∀b,D b↔1<=az b/\az b<=6
theorem jB.mk{S:RD}(a:qH h d S az 1):jB h (λb=>b<h.size/\1<=az b/\az b<=6) d S:=by
 refine⟨trim az h.size,a.gL (F:=No) (Fr.refl _ h) (Lr _ _) λ_ _ _ x=>x,λb hb=>Aw hb,λb=>⟨λhb=>by rw[Au hb.1];exact hb.2,λhb=>?_⟩⟩
 rcases Nat.lt_or_ge b h.size with h1|h1
 ·rw[Au h1]at hb;exact⟨h1,hb⟩
 ·rw[Aw h1]at hb;omega
theorem jB.lt{D:NP}{S:RD}(a:jB h D d S){b:Nat}(hb:D b):b<h.size:=by
 obtain⟨az,_,hz,hD⟩:=a
 rcases Nat.lt_or_ge b h.size with h1|h1
 ·exact h1
 ·have:=(hD b).mp hb;rw[hz b h1]at this;omega
theorem jB.fr{D:NP}{S:RD}(a:jB h D d S)(f:Fr F h h')(hF:∀ b,D b->¬ F b):jB h' D d S:=by
 obtain⟨az,a,hz,hD⟩:=a;have:=f.size;exact⟨az,a.gL f (Ag.refl _ _) λb h1 h2=>hF b ((hD b).mpr ⟨h1,h2⟩),λb hb=>hz b (by omega),hD⟩
theorem jB.no{D:NP}{S:RD}(a:jB h D d S)(f:Fr No h h'):jB h' D d S:=a.fr f λ_ _ x=>x
theorem jB.iff{D:NP}{S:RD}(a:jB h D d S)(e:∀ b,D' b↔D b):jB h D' d S:=by
 obtain⟨az,a,hz,hD⟩:=a;exact⟨az,a,hz,λb=>(e b).trans (hD b)⟩
theorem jB.blocks{D:NP}{S:RD}(a:jB h D d S)(hK:K (.int .i64 S.dg.length) h):C.fy d h K:=by
 obtain⟨az,a,_⟩:=a;exact mF a hK
theorem jB.max{D:NP}{S:RD}(a:jB h D d S):S.dg.length<=16384/\∀x∈S.dg,x.length=512:=by
 obtain⟨az,⟨b,r,es,_,D⟩,_⟩:=a;exact⟨D.Ze,D.lw⟩
theorem jB.read{D:NP}{S:RD}(a:jB h D d S)
  (h1:S.down=true->K (.tuple #[.slice none 0 0,.int .i64 30]) h)
  (h2:S.down=false->¬(0<=i/\i<S.dg.length)->K (.tuple #[.slice none 0 0,.int .i64 31]) h)
  (h3:S.down=false->0<=i->i<S.dg.length->∀b h',Fr No h h'->Sl h' 1 (some ⟨b,0,none⟩) 512 512 ((j5 S i.toNat).map bv) (bZ h.size)->(j5 S i.toNat).length=512->
   K (.tuple #[.slice (some ⟨b,0,none⟩) 512 512,.int .i64 0]) h') :
  C.gp d i h K:=by
 obtain⟨az,a,_⟩:=a;refine fM a h1 h2 λe i0 i1 b h' f hb o r l=>h3 e i0 i1 b h' f ⟨by rw[List.length_map,l],rfl,hb,o,Nat.le_refl _,?_,?_⟩ l
 ·show((rd h' b).drop 0).take _=_;rw[r,List.drop_zero,List.take_length]
 ·show 0+512*1<=(rd h' b).length;rw[r,List.length_map,l];exact Nat.le_refl _
theorem JB(B:aJ h a l bs)(wv:l<=c)(hl:l<=140737488355328)
  (h1:l%512≠0∨l=0∨16384<l/512->K (.tuple #[.pointer none,.int .i64 32]) h)
  (h2:l%512=0->0<l->l/512<=16384->∀q h' D,Fr No h h'->(∀b,D b->h.size<=b)->jB h' D (some q) (fresh (chunks bs))->K (.tuple #[.pointer (some q),.int .i64 0]) h') :
  C.kN a l c h K:=by
 refine uU (λ_=>0) 1 (λ_ _ h1 _=>absurd h1 (by show ¬(1<=0);omega)) B wv hl h1 λy1 y2 y3 q h' bT f g a=>?_;refine h2 y1 y2 y3 q h' _ f (λb hb=>?_) (jB.mk a)
 rcases Nat.lt_or_ge b h.size with h1|h1
 ·have e:bT b=0:=g b h1;omega
 ·exact h1
end Ad
end Go.Proofs.YtiapingedfnlnaaGreatDoor
