/- dirPlays_card -/
import Derived.RecoverIn
import Derived.WalkKit
import Derived.WalkLawsBesides
import Derived.Test.YtlbckoblcdoceaaGreatDoorGp3
namespace Go.Proofs.YtlbckoblcdoceaaGreatDoor
open Go Go.Proofs Wx
variable{K:KT}{h h' hh:ad}{n i:Int}{F D' R:NP}{b l c m k o r tb kl kc dl dc n0 sb e w al ac:Nat}{a d t ka da aa:OA}{bs ys:LB}{p:Addr}{xs:LV}{ao aB:Nat->Nat}{ns:List Int}
open _root_.Int renaming emod_eq_of_lt->Wz,emod_nonneg->Jy,emod_lt_of_pos->Jz,fdiv_eq_ediv_of_nonneg->vf,tdiv_eq_ediv_of_nonneg->nL,tmod_eq_emod_of_nonneg->rL,toNat_natCast->cA
open _root_.Nat renaming le_trans->k9,zero_add->wR,pow_succ->wk,le_refl->bE,sub_self->uH,mul_comm->BU,pow_le_pow_right->Ec,mod_eq_of_lt->vg,mul_one->ph,not_lt_zero->wm,lt_of_lt_of_le->mV,one_mul->OU,lt_or_ge->rI,min_eq_left->xL,mul_le_mul->WA,min_le_left->abG,zero_le->bN,le_succ->qw,le_of_ble_eq_true->xS,lt_of_succ_lt_succ->abH
open _root_.BitVec renaming ofInt_natCast->Ah,toNat_ofNat->Ed
open _root_.List renaming getElem?_map->jH,getElem?_eq_getElem->fg,getD_eq_getElem?_getD->gh,map_eq_nil_iff->qx,take_succ_eq_append_getElem->jJ,foldl_append->vh,take_of_length_le->gL,mem_map->jc,length_map->aP,length_replicate->dU,length_take->dL,set_append_right->JA,replicate_succ->uW,set_cons_zero->JB,map_append->eT,append_assoc->iW,getElem_mem->ff,length_append->bg,getElem_map->mu,take_length->mZ,replicate_zero->WB,append_nil->gi,length_range->xE,getElem_range->yB,length_cons->pA,length_drop->jM,map_take->WC,take_left->tL,drop_left->Ae,take_zero->vi,length_singleton->ik,map_singleton->BV,drop_eq_getElem_cons->lh,drop_of_length_le->qY,drop_zero->mW,map_replicate->Gu,eq_of_mem_replicate->VA,mem_cons->fO,take_add_one->WD,mem_or_eq_of_mem_set->OX,length_set->pL,flatten_append->abI,nil_append->tP,mem_cons_self->kj,mem_cons_of_mem->gV,mem_singleton->kU,mem_append->nB,mem_of_mem_take->Jk,flatMap_append->iy,flatMap_singleton->RE,not_mem_nil->nT,all_cons->Mc,map_cons->lI,map_map->qJ,any_cons->wo
open _root_.UInt8 renaming toNat_ofNat'->lX,toNat_inj->sZ
open _root_.Array renaming getElem?_push->zT
open _root_.Iff renaming rfl->yC
open _root_.Bool renaming false_ne_true->Ee,and_eq_true->dB
namespace W
def eI(as1:OA)(c1:Int)(K:KT)(h1:ad):=
 ae as1 λp1=>
 (0<=c1/\c1<(256:Int))/\
 ∃b1,cellOf h1 (p1.add (Int.toNat c1))=some (.bool b1)/\
 K (.bool b1) h1
theorem eI.ok{as1 c1 K h}(x:eI as1 c1 K h):C.eI as1 c1 h K:=fz Tryz.func225 x
def sY(v1 b1:Int)(K:KT)(h1:ad):=
 (0<=(bP .and .u32 (bP .xor .u32 v1 (IntKind.wrap .u32 (b1))) 15)/\(bP .and .u32 (bP .xor .u32 v1 (IntKind.wrap .u32 (b1))) 15)<(16:Int))/\
 ∃n1,cellOf h1 (Addr.add ⟨1,0,none⟩ (Int.toNat (bP .and .u32 (bP .xor .u32 v1 (IntKind.wrap .u32 (b1))) 15)))=some (.int .u32 n1)/\
 (0<=(bP .and .u32 (bP .xor .u32 n1 (Int.fdiv (bP .xor .u32 v1 (IntKind.wrap .u32 (b1))) (2 ^ min (Int.toNat 4) 32))) 15)/\(bP .and .u32 (bP .xor .u32 n1 (Int.fdiv (bP .xor .u32 v1 (IntKind.wrap .u32 (b1))) (2 ^ min (Int.toNat 4) 32))) 15)<(16:Int))/\
 ∃n2,cellOf h1 (Addr.add ⟨1,0,none⟩ (Int.toNat (bP .and .u32 (bP .xor .u32 n1 (Int.fdiv (bP .xor .u32 v1 (IntKind.wrap .u32 (b1))) (2 ^ min (Int.toNat 4) 32))) 15)))=some (.int .u32 n2)/\
 K (.int .u32 (bP .xor .u32 n2 (Int.fdiv (bP .xor .u32 n1 (Int.fdiv (bP .xor .u32 v1 (IntKind.wrap .u32 (b1))) (2 ^ min (Int.toNat 4) 32))) (2 ^ min (Int.toNat 4) 32)))) h1
theorem sY.ok{v1 b1 K h}(x:sY v1 b1 K h):C.sY v1 b1 h K:=fz Tryz.func226 x
def qf(v1 n1:Int)(K:KT)(h1:ad):=
 aC Zv 310 h1 λh2=>
 ∃(I1:IP) (M1:IM),I1 0 h2/\
 ∀(n2:Int),∀h3:ad,I1 n2 h3->
 bif(decide (n2<32))then(
 if n2<0 then False else
 C.sY (IntKind.wrap .u32 ((1*2 ^ min (Int.toNat n2) 32))) 0 h3 λr1 h4=>
 ∃n3,r1 = .int .u32 n3/\
 (0<=n2/\n2<(32:Int))/\
 bD (Addr.add (bA h1) (Int.toNat n2)) (.int .u32 n3) h4 λh5=>
 I1 (wI (n2+1)) h5/\M1 (wI (n2+1)) h5<M1 n2 h3)else(
 ∃(I2:Int->Int->ad->Prop) (M2:Int->Int->ad->Nat),I2 v1 n1 h3/\
 ∀(v2:Int) (n4:Int),∀h6:ad,I2 v2 n4 h6->
 bif(decide (n4>0))then(
 bif((bP .and .i64 n4 1)==1)then(
 C.gF (some (bA h1)) v2 h6 λr2 h7=>
 ∃n5,r2 = .int .u32 n5/\
 C.gf (some (bA h1)) h7 λr3 h8=>
 ∃br,r3 = .agg ⟨br⟩/\
 az (bA h1) br 32 h8 λh9=>
 I2 n5 (Int.fdiv n4 (2 ^ min (Int.toNat 1) 64)) h9/\M2 n5 (Int.fdiv n4 (2 ^ min (Int.toNat 1) 64)) h9<M2 v2 n4 h6)else(
 C.gf (some (bA h1)) h6 λr4 bG=>
 ∃cT,r4 = .agg ⟨cT⟩/\
 az (bA h1) cT 32 bG λcu=>
 I2 v2 (Int.fdiv n4 (2 ^ min (Int.toNat 1) 64)) cu/\M2 v2 (Int.fdiv n4 (2 ^ min (Int.toNat 1) 64)) cu<M2 v2 n4 h6))else(
 K (.int .u32 v2) h6))
theorem qf.ok{v1 n1 K h}(x:qf v1 n1 K h):C.qf v1 n1 h K:=fk (fun|3=>([0,1,5],[(7,.int .i64)])|7=>([5],[(0,.int .u32),(1,.int .i64)])|_=>([],[])) o0 Tryz.func227 x
def kJ(d1 kD:OA)(jd nH:Nat)(K:KT)(h1:ad):=
 ae d1 λp1=>
 ∃aU aI bw,cS h1 (p1.add 1) aU aI bw/\
 ∃(I1:IP) (M1:IM),I1 0 h1/\
 ∀(n1:Int),∀h2:ad,I1 n1 h2->
 bif(decide (n1<(if(aI:Int)<(jd:Int)then(aI:Int)else(jd:Int))))then(
 ae d1 λp2=>
 ∃eC dT fD,cS h2 (p2.add 1) eC dT fD/\
 (0<=n1/\n1<(dT:Int))/\
 ae eC λp3=>
 ∃br,List.length br=513/\ai h2 (p3.add ((Int.toNat n1)*513)) br/\
 aF z183 183 br 513 h2 λh4=>
 (0<=n1/\n1<(jd:Int))/\
 ae kD λp4=>
 ∃b1,cellOf h4 (p4.add (Int.toNat n1))=some (.bool b1)/\
 bif b1 then(
 ae d1 λp5=>
 ∃kS kA lW,cS h4 (p5.add 0) kS kA lW/\
 ∃n2,cI h4 (aS h2 0) n2/\
 ∃cT,List.length cT=512/\ai h4 (aS h2 1) cT/\
 (0<=n2/\n2<(kA:Int))/\
 ae kS λp6=>
 az (p6.add ((Int.toNat n2)*512)) cT 512 h4 λh5=>
 I1 (wI (n1+1)) h5/\M1 (wI (n1+1)) h5<M1 n1 h2)else(
 I1 (wI (n1+1)) h4/\M1 (wI (n1+1)) h4<M1 n1 h2))else(
 ae d1 λp7=>
 bD (p7.add 1) (vS none 0 0) h2 λh6=>
 ae d1 λp8=>
 bD (p8.add 3) (vS none 0 0) h6 λh7=>
 ae d1 λp9=>
 bD (p9.add 2) (vI 0) h7 λh8=>
 ae d1 λOP=>
 bD (OP.add 4) (.bool true) h8 λh9=>
 K (.tuple #[]) h9)
theorem kJ.ok{d1 kD jd nH K h}(x:kJ d1 kD jd nH K h):C.kJ d1 kD jd nH h K:=fk (fun|1=>([0,1,13],[(14,.int .i64)])|_=>([],[])) (fun|5=>(oS 0 9 (.op 9 [] .nil))|_=>.nil) Tryz.func228 x
def nw(e1:Int)(cw jb mY:OA)(K:KT)(h1:ad):=
 bif(e1 != 0)then(
 ae cw λp1=>
 ∃n1,cI h1 p1 n1/\
 bif(n1==0)then(
 ae jb λp2=>
 ∃q1,cP h1 p2 q1/\
 ae mY λp3=>
 ∃n2,cI h1 p3 n2/\
 C.fS q1 n2 h1 λr1 h2=>
 ∃n3,r1 = vI n3/\
 K (.tuple #[]) h2)else(
 K (.tuple #[]) h1))else(
 K (.tuple #[]) h1)
theorem nw.ok{e1 cw jb mY K h}(x:nw e1 cw jb mY K h):C.nw e1 cw jb mY h K:=fz Tryz.func229 x
def qg(t1:OA)(g1:LV)(CR:Value)(K:KT)(h1:ad):=
 aC g1 27 h1 λh2=>
 ∃n1,cI h2 (Addr.add ⟨h1.size,0,none⟩ 1) n1/\
 ∃(I1:IP) (M1:IM),I1 n1 h2/\
 ∀(k1:Int),∀h3:ad,I1 k1 h3->
 ∃n2,cI h3 (Addr.add ⟨h1.size,0,none⟩ 2) n2/\
 bif(decide (k1<n2))then(
 C.dF t1 k1 h3 λr1 h4=>
 ∃aU aI bw n3,r1 = .tuple #[vS aU aI bw,vI n3]/\
 bif(n3 != 0)then(
 K (vI n3) h4)else(
 ∃n4,cI h4 (Addr.add ⟨h1.size,0,none⟩ 1) n4/\
 gJ Tryz.prog CR [vI (wI (4096*(wI (k1-n4)))),vS aU aI bw] h4 λr2 h5=>
 ∃b1,r2 = .bool b1/\
 bif(!b1)then(
 K (vI 0) h5)else(
 I1 (wI (k1+1)) h5/\M1 (wI (k1+1)) h5<M1 k1 h3)))else(
 K (vI 0) h3)
theorem qg.ok{t1 g1 CR K h}(x:qg t1 g1 CR K h):C.qg t1 g1 CR h K:=fk (fun|2=>([0,2,4],[(7,.int .i64)])|_=>([],[])) o0 Tryz.func230 x
def nA(su:Int)(aH:OA)(aK aR:Nat)(cw jb:OA)(K:KT)(h1:ad):=
 ae cw λp1=>
 ∃br,List.length br=5/\ai h1 p1 br/\
 C.qh br su aH aK aR (Value.func (.func 233) #[] ⟨[vP jb]⟩) h1 λr1 h2=>
 r1 = .tuple #[]/\
 ae jb λp2=>
 ∃n1,cI h2 p2 n1/\
 K (.bool (n1==0)) h2
theorem nA.ok{su aH aK aR cw jb K h}(x:nA su aH aK aR cw jb K h):C.nA su aH aK aR cw jb h K:=fz Tryz.func231 x
def qh(g1:LV)(su:Int)(aH:OA)(aK aR:Nat)(CR:Value)(K:KT)(h1:ad):=
 aC g1 27 h1 λh2=>
 aC [vI su] 3 h2 λh3=>
 aC (mi CR) 271 h3 λh4=>
 C.sx aH aK aR h4 λr1 h5=>
 ∃v1,r1=v1/\
 ∀(R1:Loop),
 (∀(n1:Int) (n2:Int),∀(h6:ad) (k1:KT),bO h6 (h5.size+1) R1 .ready none->
 (
 bO h6 (h5.size+1) R1 .ready none/\
 xM h6 (h5.size+1) R1 .busy none λh7=>
 ∃n3,cI h7 ⟨h2.size,0,none⟩ n3/\
 ∃n4,cI h7 (Addr.add ⟨h1.size,0,none⟩ 3) n4/\
 ∃n5,cI h7 ⟨h2.size,0,none⟩ n5/\
 ∃n6,cI h7 (Addr.add ⟨h1.size,0,none⟩ 0) n6/\
 bif(decide ((if n4>(wI (n3+n1))then n4 else(wI (n3+n1)))<(if n6<(wI ((wI (n5+n1))+n2))then n6 else(wI ((wI (n5+n1))+n2)))))then(
 ∃v2,cellOf h7 ⟨h3.size,0,none⟩=some (v2)/\
 gJ Tryz.prog v2 [vI (if n4>(wI (n3+n1))then n4 else(wI (n3+n1))),vI (if n6<(wI ((wI (n5+n1))+n2))then n6 else(wI ((wI (n5+n1))+n2)))] h7 λr2 h8=>
 ∃b1,r2 = .bool b1/\
 bif(!b1)then(
 bO h8 (h5.size+1) R1 .busy none/\
 k1 (.bool false) (dz h8 (h5.size+1) R1 .done (some .ret)))else(
 bO h8 (h5.size+1) R1 .busy none/\
 k1 (.bool true) (dz h8 (h5.size+1) R1 .ready none)))else(
 bO h7 (h5.size+1) R1 .busy none/\
 k1 (.bool true) (dz h7 (h5.size+1) R1 .ready none)))->
 rQ Tryz.prog (h5.size+1) [vI n1,vI n2] h6 k1)->
 za Tryz.prog v1 [.func (.yield (h5.size+1)) #[] #[]] (dw h5 R1) λ_ h9=>
 ∃(st1:LoopState) (jo:Option Code),bO h9 (h5.size+1) R1 st1 jo/\st1≠.busy/\
 xU jo (
 xM h9 (h5.size+1) R1 .exhausted jo λbG=>
 rU h5.size bG λcu=>
 K (.tuple #[]) cu) (
 xM h9 (h5.size+1) R1 .exhausted jo λbf=>
 rU h5.size bf λbQ=>
 K (.tuple #[]) bQ) (λ_=>False)
theorem qh.ok{g1 su aH aK aR CR K h}(x:qh g1 su aH aK aR CR K h):C.qh g1 su aH aK aR CR h K:=fk (fun|1000002=>([],[(14,.int .i64),(15,.int .i64)])|_=>([],[])) (fun|4=>(oS 0 15 (.op 15 [] .nil))|_=>.nil) Tryz.func232 x
def ky(Jv x1:Int)(cw:OA)(K:KT)(h1:ad):=
 ae cw λp1=>
 bD p1 (vI Jv) h1 λh2=>
 K (.bool false) h2
theorem ky.ok{Jv x1 cw K h}(x:ky Jv x1 cw K h):C.ky Jv x1 cw h K:=fz Tryz.func233 x
def bU(cw jb mY:OA)(K:KT)(h1:ad):=
 ae cw λp1=>
 ∃q1,cP h1 p1 q1/\
 ae jb λp2=>
 ∃n1,cI h1 p2 n1/\
 C.qi q1 n1 mY h1 λr1 h2=>
 r1 = .tuple #[]/\
 K (.tuple #[]) h2
def bU.lo : Nat->List Nat×List (Nat×Ty):=λn=>match n with|_=>([],[])
def bU.od : Nat->Od:=λn=>match n with|_=>.nil
theorem bU.eq(cw:OA)(jb:OA)(mY:OA)(K:KT)(h:ad):fnX (cx bU.lo bU.od) Tryz.f234 (Tryz.f234.body.getD .skip) [vP cw,vP jb,vP mY] K h=bU cw jb mY K h:=by kernel_rfl
theorem bU.Pv : Jr (cx bU.lo bU.od) Tryz.f234 (Tryz.f234.body.getD .skip) 3=true:=by kernel_rfl
theorem bU.FE{cw:OA}{jb:OA}{mY:OA}{K:HP}(hx:bU cw jb mY (λ_ h'=>K h') h):D.bU cw jb mY h K:=
 K4 (Pq _ _) Tryz.func234 (by kernel_rfl) bU.Pv (by rw[bU.eq];exact hx)
def qi(t1:OA)(jy:Int)(e1:OA)(K:KT)(h1:ad):=
 ae e1 λp1=>
 ∃n1,cI h1 p1 n1/\
 bif(n1 != 0)then(
 C.fS t1 jy h1 λr1 h2=>
 ∃n2,r1 = vI n2/\
 K (.tuple #[]) h2)else(
 K (.tuple #[]) h1)
theorem qi.ok{t1 jy e1 K h}(x:qi t1 jy e1 K h):C.qi t1 jy e1 h K:=fz Tryz.func235 x
def sv(t1:OA)(g1:LV)(i1:Int)(on1:Bool)(K:KT)(h1:ad):=
 aC g1 27 h1 λh2=>
 ∃br,List.length br=5/\ai h2 ⟨h1.size,0,none⟩ br/\
 C.sy t1 br i1 h2 λr1 h3=>
 ∃n1 aU aI bw n2 n3,r1 = .tuple #[vI n1,vS aU aI bw,vI n2,vI n3]/\
 bif(n3 != 0)then(
 K (vI n3) h3)else(
 C.uE aU aI bw n2 on1 h3 λr2 h4=>
 ∃n4,r2 = vI n4/\
 bif(n4 != 0)then(
 K (vI n4) h4)else(
 C.aX t1 n1 aU aI bw h4 λr3 h5=>
 ∃n5,r3 = vI n5/\
 K (vI n5) h5))
theorem sv.ok{t1 g1 i1 on1 K h}(x:sv t1 g1 i1 on1 K h):C.sv t1 g1 i1 on1 h K:=fz Tryz.func236 x
def cg.k2(t1:OA)(i1 n9 e1:Int)(bf:ad)(K:KT):=
 bif(e1 != 0)then(
 C.cH t1 n9 bf λr7 bQ=>
 ∃n13,r7 = vI n13/\
 K (.tuple #[vI 0,vI e1]) bQ)else(
 K (.tuple #[vI i1,vI 0]) bf)
def cg.k1(t1:OA)(h1:ad)(aH:OA)(aK aR:Nat)(i1:Int)(h4:ad)(I1:OA->Nat->Nat->Int->ad->Prop)(M1:OA->Nat->Nat->Int->ad->Nat)(bA2:OA)(bL2 bC2:Nat)(h6:ad)(K:KT):=
 (0<=(wI (Int.tdiv (Int.tmod i1 4096) 8))/\(wI (Int.tdiv (Int.tmod i1 4096) 8))<(bL2:Int))/\
 ae bA2 λp1=>
 ∃n7,cellOf h6 (p1.add (Int.toNat (wI (Int.tdiv (Int.tmod i1 4096) 8))))=some (.int .u8 n7)/\
 bif(n7==255)then(
 I1 bA2 bL2 bC2 (wI (i1+1)) h6/\M1 bA2 bL2 bC2 (wI (i1+1)) h6<M1 aH aK aR i1 h4)else(
 ∃br,List.length br=5/\ai h6 (bA h1) br/\
 C.lQ t1 br i1 h6 λr3 h7=>
 ∃b1 n8,r3 = .tuple #[.bool b1,vI n8]/\
 bif(n8 != 0)then(
 K (.tuple #[vI 0,vI n8]) h7)else(
 bif b1 then(
 I1 bA2 bL2 bC2 (wI (i1+1)) h7/\M1 bA2 bL2 bC2 (wI (i1+1)) h7<M1 aH aK aR i1 h4)else(
 C.dM t1 h7 λr4 h8=>
 ∃n9 n10,r4 = .tuple #[vI n9,vI n10]/\
 ∃cT,List.length cT=5/\ai h8 (bA h1) cT/\
 C.lS t1 cT i1 h8 λr5 h9=>
 ∃n11,r5 = vI n11/\
 bif(n11==0)then(
 (0<=(512:Int)/\(512:Int)<=512/\(1:Int)*512<=281474976710656/\(512:Int)<=281474976710656)/\
 aC (aL z5 (Int.toNat 512)) 5 h9 λbG=>
 C.aA t1 i1 (some (bA h9)) (Int.toNat 512) (Int.toNat 512) bG λr6 cu=>
 ∃n12,r6 = vI n12/\
 cg.k2 t1 i1 n9 n12 cu K)else(
 cg.k2 t1 i1 n9 n11 h9 K))))
def cg(t1:OA)(g1:LV)(K:KT)(h1:ad):=
 aC g1 27 h1 λh2=>
 ∃n1,cI h2 (aS h1 1) n1/\
 C.aT t1 n1 h2 λr1 h3=>
 ∃aU aI bw n2,r1 = .tuple #[vS aU aI bw,vI n2]/\
 bif(n2 != 0)then(
 K (.tuple #[vI 0,vI n2]) h3)else(
 ∃n3,cI h3 (aS h1 3) n3/\
 ∃(I1:OA->Nat->Nat->Int->ad->Prop) (M1:OA->Nat->Nat->Int->ad->Nat),I1 aU aI bw n3 h3/\
 ∀(aH:OA) (aK:Nat) (aR:Nat) (i1:Int),∀h4:ad,I1 aH aK aR i1 h4->
 ∃n4,cI h4 (aS h1 0) n4/\
 bif(decide (i1<n4))then(
 bif((Int.tmod i1 4096)==0)then(
 ∃n5,cI h4 (aS h1 1) n5/\
 C.aT t1 (wI (n5+(wI (Int.tdiv i1 4096)))) h4 λr2 h5=>
 ∃eC dT fD n6,r2 = .tuple #[vS eC dT fD,vI n6]/\
 bif(n6 != 0)then(
 K (.tuple #[vI 0,vI n6]) h5)else(
 cg.k1 t1 h1 aH aK aR i1 h4 I1 M1 eC dT fD h5 K))else(
 ∃n14,cI h4 (aS h1 3) n14/\
 bif(i1==n14)then(
 ∃n15,cI h4 (aS h1 1) n15/\
 C.aT t1 (wI (n15+(wI (Int.tdiv i1 4096)))) h4 λr8 cX=>
 ∃kS kA lW n16,r8 = .tuple #[vS kS kA lW,vI n16]/\
 bif(n16 != 0)then(
 K (.tuple #[vI 0,vI n16]) cX)else(
 cg.k1 t1 h1 aH aK aR i1 h4 I1 M1 kS kA lW cX K))else(
 cg.k1 t1 h1 aH aK aR i1 h4 I1 M1 aH aK aR h4 K)))else(
 K (.tuple #[vI 0,vI 90]) h4))
theorem cg.ok{t1 g1 K h}(x:cg t1 g1 K h):C.cg t1 g1 h K:=fk (fun|5=>([0,3],[(6,.slice),(8,.int .i64)])|_=>([],[])) o0 Tryz.func237 x
def kK(x1:LV)(i1 n1:Int)(K:KT)(h1:ad):=
 aC x1 32 h1 λh2=>
 aC z32 32 h2 λh3=>
 bif(i1==10)then(
 bD (Addr.add ⟨h1.size,0,none⟩ 13) (vI n1) h3 λh4=>
 ∃br,List.length br=15/\ai h4 ⟨h1.size,0,none⟩ br/\
 az ⟨h2.size,0,none⟩ br 15 h4 λh5=>
 ∃dq,List.length dq=15/\ai h5 ⟨h2.size,0,none⟩ dq/\
 K (.agg ⟨dq⟩) h5)else(
 bif(i1==11)then(
 bD (Addr.add ⟨h1.size,0,none⟩ 14) (vI n1) h3 λh6=>
 ∃cT,List.length cT=15/\ai h6 ⟨h1.size,0,none⟩ cT/\
 az ⟨h2.size,0,none⟩ cT 15 h6 λh7=>
 ∃fV,List.length fV=15/\ai h7 ⟨h2.size,0,none⟩ fV/\
 K (.agg ⟨fV⟩) h7)else(
 (0<=i1/\i1<(10:Int))/\
 bD (Addr.add (Addr.add ⟨h1.size,0,none⟩ 3) (Int.toNat i1)) (vI n1) h3 λh8=>
 ∃gG,List.length gG=15/\ai h8 ⟨h1.size,0,none⟩ gG/\
 az ⟨h2.size,0,none⟩ gG 15 h8 λh9=>
 ∃fY,List.length fY=15/\ai h9 ⟨h2.size,0,none⟩ fY/\
 K (.agg ⟨fY⟩) h9))
theorem kK.ok{x1 i1 n1 K h}(x:kK x1 i1 n1 K h):C.kK x1 i1 n1 h K:=fz Tryz.func238 x
def jF(jx:OA)(iA kR:Nat)(K:KT)(h1:ad):=
 ∃(I1:OA->Nat->Nat->Int->ad->Prop) (M1:OA->Nat->Nat->Int->ad->Nat),I1 none 0 0 0 h1/\
 ∀(aH:OA) (aK:Nat) (aR:Nat) (i1:Int),∀h2:ad,I1 aH aK aR i1 h2->
 bif(decide (i1<(iA:Int)))then(
 (0<=i1/\i1<(iA:Int))/\
 ae jx λp1=>
 ∃n1,cI h2 (p1.add (Int.toNat i1)) n1/\
 (0<=i1/\i1<(iA:Int))/\
 ae jx λp2=>
 ∃n2,cI h2 (p2.add (Int.toNat i1)) n2/\
 (0<=i1/\i1<(iA:Int))/\
 ae jx λp3=>
 ∃n3,cI h2 (p3.add (Int.toNat i1)) n3/\
 (0<=i1/\i1<(iA:Int))/\
 ae jx λp4=>
 ∃n4,cI h2 (p4.add (Int.toNat i1)) n4/\
 aC [.int .u8 (IntKind.wrap .u8 (n1)),.int .u8 (IntKind.wrap .u8 ((Int.fdiv n2 (2 ^ min (Int.toNat 8) 64)))),.int .u8 (IntKind.wrap .u8 ((Int.fdiv n3 (2 ^ min (Int.toNat 16) 64)))),.int .u8 (IntKind.wrap .u8 ((Int.fdiv n4 (2 ^ min (Int.toNat 24) 64))))] 5 h2 λh3=>
 ∃aM,List.length aM=4*1/\ak h3 (some ⟨h2.size,0,none⟩) aM/\(∀v∈aM,v.oneCell'=true)/\
 aJ xd 5 aH aK aR 4 aM h3 λaU aI bw h4=>
 I1 aU aI bw (wI (i1+1)) h4/\M1 aU aI bw (wI (i1+1)) h4<M1 aH aK aR i1 h2)else(
 K (vS aH aK aR) h2)
theorem jF.ok{jx iA kR K h}(x:jF jx iA kR K h):C.jF jx iA kR h K:=fk (fun|3=>([0],[(3,.slice),(4,.int .i64)])|_=>([],[])) (fun|5=>(oS 0 26 (.op 26 [] .nil))|_=>.nil) Tryz.func239 x
def jj(aH:OA)(aK aR:Nat)(dp:Int)(jx:OA)(iA kR:Nat)(K:KT)(h1:ad):=
 ∃(I1:IP) (M1:IM),I1 0 h1/\
 ∀(i1:Int),∀h2:ad,I1 i1 h2->
 bif(decide (i1<32))then(
 (0<=i1/\i1<(iA:Int))/\
 ae jx λp1=>
 ∃n1,cellOf h2 (p1.add (Int.toNat i1))=some (.int .u8 n1)/\
 (0<=(wI ((wI (32*dp))+i1))/\(wI ((wI (32*dp))+i1))<(aK:Int))/\
 ae aH λp2=>
 bD (p2.add (Int.toNat (wI ((wI (32*dp))+i1)))) (.int .u8 n1) h2 λh3=>
 I1 (wI (i1+1)) h3/\M1 (wI (i1+1)) h3<M1 i1 h2)else(
 K (.tuple #[]) h2)
theorem jj.ok{aH aK aR dp jx iA kR K h}(x:jj aH aK aR dp jx iA kR K h):C.jj aH aK aR dp jx iA kR h K:=fk (fun|1=>([0,1,2],[(6,.int .i64)])|_=>([],[])) o0 Tryz.func240 x
def fA(s1:ByteArray)(c1:Int)(K:KT)(h1:ad):=
 C.dd s1 c1 h1 λr1 h2=>
 ∃n1,r1 = vI n1/\
 K (vI n1) h2
theorem fA.ok{s1 c1 K h}(x:fA s1 c1 K h):C.fA s1 c1 h K:=fz Tryz.func244 x
def dK(r1:Int)(K:KT)(h1:ad):=
 bif(decide ((0:Int)<=r1))then(
 bif(decide (r1<55296))then(
 K (.bool true) h1)else(
 bif(decide ((57343:Int)<r1))then(
 bif(decide (r1<=1114111))then(
 K (.bool true) h1)else(
 K (.bool false) h1))else(
 K (.bool false) h1)))else(
 bif(decide ((57343:Int)<r1))then(
 bif(decide (r1<=1114111))then(
 K (.bool true) h1)else(
 K (.bool false) h1))else(
 K (.bool false) h1))
set_option maxRecDepth 1000000 in
set_option maxRecDepth 1000000 in
theorem dK.ok{r1 K h}(x:dK r1 K h):C.dK r1 h K:=fz Tryz.func245 x
def gF(m1:OA)(v1:Int)(K:KT)(h1:ad):=
 ∃(I1:Int->Int->Int->ad->Prop) (M1:Int->Int->Int->ad->Nat),I1 v1 0 0 h1/\
 ∀(v2:Int) (r1:Int) (i1:Int),∀h2:ad,I1 v2 r1 i1 h2->
 bif(v2 != 0)then(
 bif((bP .and .u32 v2 1)==1)then(
 ae m1 λp1=>
 (0<=i1/\i1<(32:Int))/\
 ∃n1,cellOf h2 (p1.add (Int.toNat i1))=some (.int .u32 n1)/\
 I1 (Int.fdiv v2 (2 ^ min (Int.toNat 1) 32)) (bP .xor .u32 r1 n1) (wI (i1+1)) h2/\M1 (Int.fdiv v2 (2 ^ min (Int.toNat 1) 32)) (bP .xor .u32 r1 n1) (wI (i1+1)) h2<M1 v2 r1 i1 h2)else(
 I1 (Int.fdiv v2 (2 ^ min (Int.toNat 1) 32)) r1 (wI (i1+1)) h2/\M1 (Int.fdiv v2 (2 ^ min (Int.toNat 1) 32)) r1 (wI (i1+1)) h2<M1 v2 r1 i1 h2))else(
 K (.int .u32 r1) h2)
theorem gF.ok{m1 v1 K h}(x:gF m1 v1 K h):C.gF m1 v1 h K:=fk (fun|3=>([0],[(1,.int .u32),(5,.int .u32),(6,.int .i64)])|_=>([],[])) o0 Tryz.func248 x
def gf(m1:OA)(K:KT)(h1:ad):=
 aC Zv 310 h1 λh2=>
 aC Zv 310 h2 λh3=>
 ∃(I1:IP) (M1:IM),I1 0 h3/\
 ∀(n1:Int),∀h4:ad,I1 n1 h4->
 bif(decide (n1<32))then(
 ae m1 λp1=>
 (0<=n1/\n1<(32:Int))/\
 ∃n2,cellOf h4 (p1.add (Int.toNat n1))=some (.int .u32 n2)/\
 C.gF m1 n2 h4 λr1 h5=>
 ∃n3,r1 = .int .u32 n3/\
 (0<=n1/\n1<(32:Int))/\
 bD (Addr.add (bA h2) (Int.toNat n1)) (.int .u32 n3) h5 λh6=>
 I1 (wI (n1+1)) h6/\M1 (wI (n1+1)) h6<M1 n1 h4)else(
 ∃br,List.length br=32/\ai h4 (bA h2) br/\
 az (bA h1) br 32 h4 λh7=>
 ∃dq,List.length dq=32/\ai h7 (bA h1) dq/\
 K (.agg ⟨dq⟩) h7)
theorem gf.ok{m1 K h}(x:gf m1 K h):C.gf m1 h K:=fk (fun|3=>([0,2,3],[(5,.int .i64)])|_=>([],[])) o0 Tryz.func249 x
def sx(aH:OA)(aK aR:Nat)(K:KT)(h1:ad):=
 aC [] 5 h1 λh2=>
 ∃aM,List.length aM=aK*1/\ak h2 aH aM/\(∀v∈aM,v.oneCell'=true)/\
 aJ xd 5 (some ⟨h1.size,0,none⟩) 0 0 aK aM h2 λaU aI bw h3=>
 aC z33 33 h3 λh4=>
 bD ⟨h3.size,0,none⟩ (vS aU aI bw) h4 λh5=>
 K (.func (.func 257) #[] ⟨[vP (some ⟨h3.size,0,none⟩)]⟩) h5
theorem sx.ok{aH aK aR K h}(x:sx aH aK aR K h):C.sx aH aK aR h K:=fz Tryz.func250 x
def sy(t1:OA)(g1:LV)(i1:Int)(K:KT)(h1:ad):=
 aC g1 27 h1 λh2=>
 ∃br,List.length br=5/\ai h2 ⟨h1.size,0,none⟩ br/\
 C.tX br i1 h2 λr1 h3=>
 ∃n1 n2 n3,r1 = .tuple #[vI n1,vI n2,vI n3]/\
 bif(n3 != 0)then(
 K (.tuple #[vI 0,vS none 0 0,vI 0,vI n3]) h3)else(
 C.dF t1 n1 h3 λr2 h4=>
 ∃aU aI bw n4,r2 = .tuple #[vS aU aI bw,vI n4]/\
 K (.tuple #[vI n1,vS aU aI bw,vI n2,vI n4]) h4)
theorem sy.ok{t1 g1 i1 K h}(x:sy t1 g1 i1 K h):C.sy t1 g1 i1 h K:=fz Tryz.func251 x
def uE(aH:OA)(aK aR:Nat)(i1:Int)(is1:Bool)(K:KT)(h1:ad):=
 C.qX aH aK aR i1 h1 λr1 h2=>
 ∃b1,r1 = .bool b1/\
 bif(!b1)then(
 K (vI 80) h2)else(
 bif is1 then(
 (0<=(wI (Int.tdiv i1 8))/\(wI (Int.tdiv i1 8))<(aK:Int))/\
 ae aH λp1=>
 ∃n1,cellOf h2 (p1.add (Int.toNat (wI (Int.tdiv i1 8))))=some (.int .u8 n1)/\
 if(Int.tmod i1 8)<0 then False else
 (0<=(wI (Int.tdiv i1 8))/\(wI (Int.tdiv i1 8))<(aK:Int))/\
 ae aH λp2=>
 bD (p2.add (Int.toNat (wI (Int.tdiv i1 8)))) (.int .u8 (bP .or .u8 n1 (IntKind.wrap .u8 ((1*2 ^ min (Int.toNat (Int.tmod i1 8)) 8))))) h2 λh3=>
 K (vI 0) h3)else(
 (0<=(wI (Int.tdiv i1 8))/\(wI (Int.tdiv i1 8))<(aK:Int))/\
 ae aH λp3=>
 ∃n2,cellOf h2 (p3.add (Int.toNat (wI (Int.tdiv i1 8))))=some (.int .u8 n2)/\
 if(Int.tmod i1 8)<0 then False else
 (0<=(wI (Int.tdiv i1 8))/\(wI (Int.tdiv i1 8))<(aK:Int))/\
 ae aH λp4=>
 bD (p4.add (Int.toNat (wI (Int.tdiv i1 8)))) (.int .u8 (bP .andNot .u8 n2 (IntKind.wrap .u8 ((1*2 ^ min (Int.toNat (Int.tmod i1 8)) 8))))) h2 λh4=>
 K (vI 0) h4))
theorem uE.ok{aH aK aR i1 is1 K h}(x:uE aH aK aR i1 is1 K h):C.uE aH aK aR i1 is1 h K:=fk l0 (fun|4=>(oS 0 10 (.op 10 [] .nil))|5=>(oS 0 10 (.op 10 [] .nil))|_=>.nil) Tryz.func252 x
def lQ(t1:OA)(g1:LV)(i1:Int)(K:KT)(h1:ad):=
 aC g1 27 h1 λh2=>
 ∃n1,cI h2 (aS h1 1) n1/\
 C.aT t1 (wI (n1+(wI (Int.tdiv i1 4096)))) h2 λr1 h3=>
 ∃aU aI bw n2,r1 = .tuple #[vS aU aI bw,vI n2]/\
 bif(n2 != 0)then(
 K (.tuple #[.bool false,vI n2]) h3)else(
 (0<=(wI (Int.tdiv (Int.tmod i1 4096) 8))/\(wI (Int.tdiv (Int.tmod i1 4096) 8))<(aI:Int))/\
 ae aU λp1=>
 ∃n3,cellOf h3 (p1.add (Int.toNat (wI (Int.tdiv (Int.tmod i1 4096) 8))))=some (.int .u8 n3)/\
 ∃(I1:Int->Int->ad->Prop) (M1:Int->Int->ad->Nat),I1 (wI (n3)) 0 h3/\
 ∀(v1:Int) (k1:Int),∀h4:ad,I1 v1 k1 h4->
 bif(decide (k1<(Int.tmod i1 8)))then(
 I1 (wI (Int.tdiv v1 2)) (wI (k1+1)) h4/\M1 (wI (Int.tdiv v1 2)) (wI (k1+1)) h4<M1 v1 k1 h4)else(
 K (.tuple #[.bool ((Int.tmod v1 2)==1),vI 0]) h4))
theorem lQ.ok{t1 g1 i1 K h}(x:lQ t1 g1 i1 K h):C.lQ t1 g1 i1 h K:=fk (fun|6=>([2],[(10,.int .i64),(11,.int .i64)])|_=>([],[])) o0 Tryz.func253 x
def lS(t1:OA)(g1:LV)(i1:Int)(K:KT)(h1:ad):=
 aC g1 27 h1 λh2=>
 ∃n1,cI h2 (aS h1 1) n1/\
 C.aT t1 (wI (n1+(wI (Int.tdiv i1 4096)))) h2 λr1 h3=>
 ∃aU aI bw n2,r1 = .tuple #[vS aU aI bw,vI n2]/\
 bif(n2 != 0)then(
 K (vI n2) h3)else(
 ∃(I1:Int->Int->ad->Prop) (M1:Int->Int->ad->Nat),I1 1 0 h3/\
 ∀(v1:Int) (k1:Int),∀h4:ad,I1 v1 k1 h4->
 bif(decide (k1<(Int.tmod i1 8)))then(
 I1 (IntKind.wrap .u8 (v1*2)) (wI (k1+1)) h4/\M1 (IntKind.wrap .u8 (v1*2)) (wI (k1+1)) h4<M1 v1 k1 h4)else(
 (0<=(wI (Int.tdiv (Int.tmod i1 4096) 8))/\(wI (Int.tdiv (Int.tmod i1 4096) 8))<(aI:Int))/\
 ae aU λp1=>
 ∃n3,cellOf h4 (p1.add (Int.toNat (wI (Int.tdiv (Int.tmod i1 4096) 8))))=some (.int .u8 n3)/\
 (0<=(wI (Int.tdiv (Int.tmod i1 4096) 8))/\(wI (Int.tdiv (Int.tmod i1 4096) 8))<(aI:Int))/\
 ae aU λp2=>
 bD (p2.add (Int.toNat (wI (Int.tdiv (Int.tmod i1 4096) 8)))) (.int .u8 (bP .xor .u8 n3 v1)) h4 λh5=>
 ∃n4,cI h5 (aS h1 1) n4/\
 C.aA t1 (wI (n4+(wI (Int.tdiv i1 4096)))) aU aI bw h5 λr2 h6=>
 ∃n5,r2 = vI n5/\
 K (vI n5) h6))
theorem lS.ok{t1 g1 i1 K h}(x:lS t1 g1 i1 K h):C.lS t1 g1 i1 h K:=fk (fun|6=>([0,2,4,7],[(9,.int .u8),(10,.int .i64)])|_=>([],[])) o0 Tryz.func254 x
def dd(s1:ByteArray)(c1:Int)(K:KT)(h1:ad):=
 (IntKind.u8=IntKind.u8)/\
 K (vI (wU (ByteArray.toList s1) (UInt8.ofNat (Int.toNat c1)))) h1
theorem dd.ok{s1 c1 K h}(x:dd s1 c1 K h):C.dd s1 c1 h K:=fz Tryz.func256 x
def eM.k2(jP:Value)(i1:Int)(h2:ad)(I1:IP)(M1:IM)(i3 i5:Int)(bG:ad)(K:KT):=
 bif(i5==i3)then(
 K (.tuple #[]) bG)else(
 gJ Tryz.prog jP [vI i3,vI (wI (i5-i3))] bG λr5 cu=>
 ∃b5,r5 = .bool b5/\
 bif(!b5)then(
 K (.tuple #[]) cu)else(
 I1 i5 cu/\M1 i5 cu<M1 i1 h2))
def eM.k1(jP:Value)(cw:OA)(i1:Int)(h2:ad)(I1:IP)(M1:IM)(i3:Int)(h6:ad)(K:KT):=
 ∃(I3:IP) (M3:IM),I3 i3 h6/\
 ∀(i4:Int),∀h7:ad,I3 i4 h7->
 ae cw λp3=>
 ∃kS kA lW,cS h7 p3 kS kA lW/\
 C.qX kS kA lW i4 h7 λr3 h8=>
 ∃b3,r3 = .bool b3/\
 bif b3 then(
 ae cw λp4=>
 ∃tN tF uF,cS h8 p4 tN tF uF/\
 C.tW tN tF uF i4 h8 λr4 h9=>
 ∃b4,r4 = .bool b4/\
 bif(!b4)then(
 I3 (wI (i4+1)) h9/\M3 (wI (i4+1)) h9<M3 i4 h7)else(
 eM.k2 jP i1 h2 I1 M1 i3 i4 h9 K))else(
 eM.k2 jP i1 h2 I1 M1 i3 i4 h8 K)
def eM(jP:Value)(cw:OA)(K:KT)(h1:ad):=
 ∃(I1:IP) (M1:IM),I1 0 h1/\
 ∀(i1:Int),∀h2:ad,I1 i1 h2->
 ∃(I2:IP) (M2:IM),I2 i1 h2/\
 ∀(i2:Int),∀h3:ad,I2 i2 h3->
 ae cw λp1=>
 ∃aU aI bw,cS h3 p1 aU aI bw/\
 C.qX aU aI bw i2 h3 λr1 h4=>
 ∃b1,r1 = .bool b1/\
 bif b1 then(
 ae cw λp2=>
 ∃eC dT fD,cS h4 p2 eC dT fD/\
 C.tW eC dT fD i2 h4 λr2 h5=>
 ∃b2,r2 = .bool b2/\
 bif b2 then(
 I2 (wI (i2+1)) h5/\M2 (wI (i2+1)) h5<M2 i2 h3)else(
 eM.k1 jP cw i1 h2 I1 M1 i2 h5 K))else(
 eM.k1 jP cw i1 h2 I1 M1 i2 h4 K)
theorem eM.ok{jP cw K h}(x:eM jP cw K h):C.eM jP cw h K:=fk (fun|1=>([0,1],[(3,.int .i64)])|4=>([0,1,4],[(3,.int .i64)])|_=>([],[])) o0 Tryz.func257 x
def qX(aH:OA)(aK aR:Nat)(i1:Int)(K:KT)(h1:ad):=
 bif(decide (i1>=0))then(
 K (.bool (decide (i1<(wI (8*(aK:Int)))))) h1)else(
 K (.bool false) h1)
theorem qX.ok{aH aK aR i1 K h}(x:qX aH aK aR i1 K h):C.qX aH aK aR i1 h K:=fz Tryz.func258 x
def tW(aH:OA)(aK aR:Nat)(i1:Int)(K:KT)(h1:ad):=
 (0<=(wI (Int.tdiv i1 8))/\(wI (Int.tdiv i1 8))<(aK:Int))/\
 ae aH λp1=>
 ∃n1,cellOf h1 (p1.add (Int.toNat (wI (Int.tdiv i1 8))))=some (.int .u8 n1)/\
 if(Int.tmod i1 8)<0 then False else
 K (.bool ((bP .and .u8 (Int.fdiv n1 (2 ^ min (Int.toNat (Int.tmod i1 8)) 8)) 1)==1)) h1
theorem tW.ok{aH aK aR i1 K h}(x:tW aH aK aR i1 K h):C.tW aH aK aR i1 h K:=fz Tryz.func259 x
def tX.k1(i1:Int)(h1 h2:ad)(K:KT):=
 ∃n2,cI h2 (Addr.add ⟨h1.size,0,none⟩ 1) n2/\
 K (.tuple #[vI (wI (n2+(wI (Int.tdiv i1 4096)))),vI (Int.tmod i1 4096),vI 0]) h2
def tX(g1:LV)(i1:Int)(K:KT)(h1:ad):=
 aC g1 27 h1 λh2=>
 bif(decide (i1<0))then(
 K (.tuple #[vI 0,vI 0,vI 31]) h2)else(
 ∃n1,cI h2 (Addr.add ⟨h1.size,0,none⟩ 0) n1/\
 bif(decide (i1>=n1))then(
 K (.tuple #[vI 0,vI 0,vI 31]) h2)else(
 tX.k1 i1 h1 h2 K))
theorem tX.ok{g1 i1 K h}(x:tX g1 i1 K h):C.tX g1 i1 h K:=fz Tryz.func260 x
end W
namespace Su
open Hp W
def EN(n:Int):Prop:=0<=n/\n<4294967296
theorem wrap_u32(h:EN n):IntKind.wrap .u32 n=n:=by
 obtain⟨h1,h2⟩:=h;show n%4294967296=n;exact Wz h1 h2
theorem Gv(n:Int):EN (IntKind.wrap .u32 n):=by
 show 0<=n%4294967296/\n%4294967296<4294967296;exact⟨Jy _ dX,Jz _ dX⟩
theorem uI(op:BinOp)(a b:Int):EN (bP op .u32 a b):=by
 unfold bP;split <;> exact Gv _
theorem aek(x:Int)(k:Nat)(hk:k<4294967296):0<=bP .and .u32 x k/\bP .and .u32 x k<=k:=by
 refine⟨(uI _ _ _).1,?_⟩;show IntKind.wrap .u32 (((BitVec.ofInt 32 x &&& BitVec.ofInt 32 (k:Int)).toNat:Nat):Int)<=k
 have h1:(BitVec.ofInt 32 x &&& BitVec.ofInt 32 (k:Int)).toNat<=k:=by
  rw[BitVec.toNat_and];refine k9 Nat.and_le_right ?_;rw[Ah,Ed];exact Nat.mod_le _ _
 rw[wrap_u32 ⟨oX,oX⟩];omega
theorem JC(x:Int):0<=bP .and .u32 x 15/\bP .and .u32 x 15<((16:Nat):Int):=by
 have:=aek x 15 dX;have h2:bP .and .u32 x ((15:Nat):Int)<=((15:Nat):Int):=this.2;exact⟨this.1,by have e:((15:Nat):Int)=15:=rfl;rw[e]at h2;omega⟩
def MT : List Int:=[0,498536548,997073096,651767980,1994146192,1802195444,1303535960,1342533948,3988292384,4027552580,3604390888,3412177804,2607071920,2262029012,2685067896,3183342108]
def Gy(h:ad):Prop:=rd h 1=MT.map λn=>.int .u32 n
theorem Gy.lt(g:Gy h):1<h.size:=pE (show(rd h 1)[0]?=some (.int .u32 0) by rw[g];rfl)
theorem Gy.fr(g:Gy h)(f:Fr F h h')(hF:¬ F 1):Gy h':=(f.rd g.lt hF).trans g
def half(i:Int):Int:=MT.getD i.toNat 0
theorem JD(g:Gy h){i:Int}(h0:0<=i)(h1:i<((16:Nat):Int)):cellOf h (Addr.add ⟨1,0,none⟩ (Int.toNat i))=some (.int .u32 (half i)):=by
 refine aZ g ?_;have h2:i.toNat<MT.length:=by show i.toNat<16;omega
 rw[wR,jH,fg h2,half,gh,fg h2];rfl
def Ai(v:Int)(b:UInt8):Int:=
 bP .xor .u32 (half (bP .and .u32 (bP .xor .u32 (half (bP .and .u32 (bP .xor .u32 v (IntKind.wrap .u32 (b.toNat:Int))) 15)) (Int.fdiv (bP .xor .u32 v (IntKind.wrap .u32 (b.toNat:Int))) (2 ^ min (Int.toNat 4) 32))) 15))
  (Int.fdiv (bP .xor .u32 (half (bP .and .u32 (bP .xor .u32 v (IntKind.wrap .u32 (b.toNat:Int))) 15)) (Int.fdiv (bP .xor .u32 v (IntKind.wrap .u32 (b.toNat:Int))) (2 ^ min (Int.toNat 4) 32))) (2 ^ min (Int.toNat 4) 32))
theorem Py(v:Int)(b:UInt8):EN (Ai v b):=uI _ _ _
theorem sD{v:Int}{b:UInt8}(g:Gy h)(hK:K (.int .u32 (Ai v b)) h):C.sY v (b.toNat:Int) h K:=
 sY.ok ⟨JC _,_,JD g (JC _).1 (JC _).2,JC _,_,JD g (JC _).1 (JC _).2,hK⟩
def ofM(bs:LB):Int:=bP .xor .u32 (IntKind.max .u32) (bs.foldl Ai 4294967295)
theorem MU(bs:LB):EN (ofM bs):=uI _ _ _
theorem Fk(g:Gy h)(B:av h a l bs)(hl:l<=140737488355328)(hK:K (.int .u32 (ofM bs)) h):C.yy a l c h K:=by
 have hb:=B.1;refine yy.ok ⟨λv n hh=>0<=n/\n<=l/\h=hh/\v=(bs.take n.toNat).foldl Ai 4294967295,λ_ n _=>((l:Int)-n).toNat,⟨oX,oX,rfl,rfl⟩,?_⟩;rintro v n _ ⟨n0,n1,rfl,rfl⟩;refine cd (λhn=>?_) λhn=>?_
 ·have nE:n.toNat<bs.length:=oX;obtain⟨_,B2⟩:=B
  cases a with
  | none=>have B2:bs.map bv=[]:=B2;have:=qx.mp B2;rw[this]at nE;exact absurd nE (by simp)
  | some p=>
   refine⟨⟨n0,hn⟩,os ⟨_,B2 n.toNat (bv bs[n.toNat]) (by rw[jH,fg nE];rfl),sD g ⟨_,rfl,?_⟩⟩⟩;rw[wrap_i64 oX oX];have ht:(n+1).toNat=n.toNat+1:=oX;refine⟨⟨oX,oX,rfl,?_⟩,bW hn⟩;rw[ht,jJ nE,vh];rfl
 ·have e:(bs.take n.toNat)=bs:=gL oX;rw[e];exact hK
def qZ(m:List Int):Nat->Int->Int->Nat->Int
 | 0,_,r,_=>r
 | f+1,v,r,i=>bif v != 0 then qZ m f (Int.fdiv v (2 ^ min (Int.toNat 1) 32)) (bif bP .and .u32 v 1==1 then bP .xor .u32 r (m.getD i 0)else r) (i+1)else r
def xh(m:List Int)(v:Int):Int:=qZ m 33 v 0 0
theorem MV(m:List Int):∀(f:Nat) (v r:Int) (i:Nat),EN r->EN (qZ m f v r i):=by
 intro f
 induction f with
 | zero=>intro v r i h;exact h
 | succ f ih=>
  intro v r i h;unfold qZ
  cases hv:(v != 0)with
  | false=>exact h
  | true=>
   refine ih _ _ _ ?_
   cases hb:(bP .and .u32 v 1==1)with
   | false=>exact h
   | true=>exact(show EN (bP .xor .u32 r (m.getD i 0)) from uI _ _ _)
theorem BW(m:List Int)(v:Int):EN (xh m v):=MV m _ _ _ _ ⟨by decide,by decide⟩
def H4(m:List Int):LV:=m.map λn=>.int .u32 n
theorem Gz{m:List Int}{v:Int}(hv:EN v)(hm:m.length=32)(M:ai h p (H4 m))(hK:K (.int .u32 (xh m v)) h):C.gF (some p) v h K:=by
 refine gF.ok ⟨λv2 r i hh=>0<=i/\i<=32/\0<=v2/\v2<((2 ^ (32-i.toNat):Nat):Int)/\h=hh/\xh m v=qZ m (33-i.toNat) v2 r i.toNat,λv2 _ _ _=>v2.toNat,
  ⟨oX,oX,hv.1,by have:=hv.2;exact this,rfl,rfl⟩,?_⟩
 rintro v2 r i _ ⟨i0,i1,v0,v1,rfl,e⟩;have e1:(2 ^ min (Int.toNat 1) 32:Int)=2:=by decide
 cases hb:(v2 != 0)with
 | false=>
  have e2:33-i.toNat=(32-i.toNat)+1:=oX;rw[e2,qZ,hb]at e;rw[e]at hK;exact hK
 | true=>
  have fP:v2≠0:=by simpa using hb
  have hi:i<32:=by
   rcases Int.lt_or_le i 32 with h|h
   ·exact h
   ·have:32-i.toNat=0:=oX;rw[this]at v1;have v1:v2<1:=v1;omega
  have e2:33-i.toNat=(33-(i+1).toNat)+1:=oX;have e3:(i+1).toNat=i.toNat+1:=oX;rw[e2,qZ,hb]at e
  have hp:((2 ^ (32-i.toNat):Nat):Int)=2*((2 ^ (32-(i+1).toNat):Nat):Int):=by
   rw[show 32-i.toNat=(32-(i+1).toNat)+1 by omega,wk];omega
  have hd:Int.fdiv v2 2=v2/2:=vf _ dX;rw[wq (i+1),e1,hd];rw[e1,hd]at e
  have nx:∀r',xh m v=qZ m (33-(i+1).toNat) (v2/2) r' (i.toNat+1)->(0<=i+1/\i+1<=32/\0<=v2/2/\v2/2<((2 ^ (32-(i+1).toNat):Nat):Int)/\h=h/\xh m v=qZ m (33-(i+1).toNat) (v2/2) r' (i+1).toNat)/\(v2/2).toNat<v2.toNat:=
   λr' h=>⟨⟨oX,oX,oX,oX,rfl,by rw[e3]at h ⊢;exact h⟩,oX⟩
  refine ct rfl ?_
  cases γ:(bP .and .u32 v2 1==1)with
  | true=>
   rw[γ]at e;refine ct rfl (os ⟨⟨i0,hi⟩,m.getD i.toNat 0,?_,nx _ e⟩);exact ai.cell M (by rw[H4,jH,gh,fg oX];rfl)
  | false=>
   rw[γ]at e;exact cf rfl (nx _ e)
def gK(m:List Int):List Int:=m.map (xh m)
theorem Lh(m:List Int):∀x∈gK m,EN x:=by
 intro x hx;obtain⟨y,_,rfl⟩:=jc.mp hx;exact BW _ _
theorem RH(m:List Int):∀v∈H4 m,v.oneCell'=true:=by
 intro v hv;obtain⟨b,_,rfl⟩:=jc.mp hv;rfl
theorem WE : (H4 (List.replicate 32 0)).length=32:=by rw[H4,aP,dU]
theorem JE{α:Type}(xs:List α)(n:Nat)(hn:n<xs.length)(f:α->Value)(z:Value):((xs.take n).map f++List.replicate (xs.length-n) z).set n (f xs[n])=(xs.take (n+1)).map f++List.replicate (xs.length-(n+1)) z:=by
 have hl:((xs.take n).map f).length=n:=by rw[aP,dL];omega
 rw[JA _ _ (by rw[hl];exact bE _),hl,uH,show xs.length-n=(xs.length-(n+1))+1 by omega,uW,JB,jJ hn,eT,iW];rfl
theorem Ef{m:List Int}(hr:∀ x ∈ m,EN x)(hm:m.length=32)(M:ai h p (H4 m))(hK:∀ h',Fr No h h'->K (.agg ⟨H4 (gK m)⟩) h'):C.gf (some p) h K:=by
 refine gf.ok (aC.intro λh2 n2=>aC.intro λh3 n3=>?_);have DQ:=n2.size;have OJ:=n3.size;have F3:Fr No h h3:=n2.fr.no n3.fr;have VX:(gK m).length=32:=by rw[gK,aP,hm]
 have z0:rd h3 h.size=H4 (List.replicate 32 0):=(n3.at_ n2.own.lt).trans n2.rd
 refine⟨λn hh=>0<=n/\n<=32/\Fr No h hh/\dA hh h2.size/\dA hh h.size/\(rd hh h.size).length=32/\rd hh h2.size=((gK m).take n.toNat).map (λn=>.int .u32 n)++List.replicate ((gK m).length-n.toNat) (.int .u32 0),λn _=>((32:Nat)-n).toNat,
  ⟨oX,oX,F3,n3.own,n3.ow n2.own,by rw[z0];exact WE,by rw[n3.rd,VX];rfl⟩,?_⟩
 rintro n h4 ⟨k0,k1,f4,o4,o1,l1,r4⟩;have hs4:=f4.size;refine cd (λhn=>?_) λhn=>?_
 ·have hn:n<32:=hn;have nE:n.toNat<m.length:=oX;have M4:=ai.fr f4 M (λx=>x);refine os ⟨⟨k0,hn⟩,m[n.toNat],ai.cell M4 (by rw[H4,jH,fg nE];rfl),Gz (hr _ (ff nE)) hm M4 ⟨_,rfl,⟨k0,hn⟩,bD.add o4 (by rw[r4,bg,aP,dL,dU];omega) λh6 d6=>?_⟩⟩;rw[wrap_i64 oX oX];refine⟨⟨oX,oX,f4.did d6 (λx=>oX),d6.own,d6.ow o1,by rw[d6.at_ (by have:=o1.lt;omega) oX];exact l1,?_⟩,bW (m:=32) hn⟩;have hns:n.toNat<(gK m).length:=oX;have ee:(gK m)[n.toNat]=xh m m[n.toNat]:=by simp only[gK,mu]
  rw[d6.rd,r4,wR,<-ee,JE (gK m) n.toNat hns (λn=>.int .u32 n),show(n+1).toNat=n.toNat+1 by omega]
 ·have hn:¬n<32:=hn;have e:n.toNat=32:=oX;rw[e,<-VX,mZ,uH,WB,gi]at r4;have r4:rd h4 h2.size=H4 (gK m):=r4;have ml:(H4 (gK m)).length=32:=by rw[H4,aP,VX]
  refine⟨H4 (gK m),ml,ah r4,az.intro o1 ml (RH _) (by rw[l1];exact bE _) λh7 d7=>⟨H4 (gK m),ml,ah ?_,hK h7 (f4.did d7 λx=>oX)⟩⟩;rw[d7.rd,fu _ _ (by rw[l1,ml])]
def m0 : List Int:=(List.range 32).map λi=>Ai (IntKind.wrap .u32 (1*2 ^ min i 32)) 0
def rf : Nat->List Int->Int->Int->Int
 | 0,_,v,_=>v
 | f+1,m,v,n=>bif decide (n>0)then rf f (gK m) (bif bP .and .i64 n 1==1 then xh m v else v) (n/2)else v
def xi(v n:Int):Int:=rf 64 m0 v n
theorem MW{v:Int}(g:Gy h)(hv:EN v)(hn0:0<=n)(hn:n<=9223372036854775807)(hK:∀ h',Fr No h h'->K (.int .u32 (xi v n)) h'):C.qf v n h K:=by
 refine qf.ok (aC.intro λh2 n2=>?_);have DQ:=n2.size;have hml:m0.length=32:=by rw[m0,aP,xE]
 have hmr:∀x∈m0,EN x:=by intro x hx;obtain⟨y,_,rfl⟩:=jc.mp hx;exact Py _ _
 refine⟨λk hh=>0<=k/\k<=32/\Fr No h hh/\dA hh h.size/\rd hh h.size=(m0.take k.toNat).map (λn=>.int .u32 n)++List.replicate (m0.length-k.toNat) (.int .u32 0),λk _=>((32:Nat)-k).toNat,
  ⟨oX,oX,n2.fr,n2.own,by rw[n2.rd,hml];rfl⟩,?_⟩
 rintro k h3 ⟨k0,k1,f3,o3,r3⟩;have OJ:=f3.size;have g3:=g.fr f3 λx=>x;refine cd (λhk=>?_) λhk=>?_
 ·have hk:k<32:=hk;rw[if_neg oX];have wO:k.toNat<m0.length:=oX;refine sD (b:=0) g3 ⟨_,rfl,⟨k0,hk⟩,bD.add o3 (by rw[r3,bg,aP,dL,dU];omega) λh5 d5=>?_⟩;rw[wrap_i64 oX oX];refine⟨⟨oX,oX,f3.did d5 (λx=>oX),d5.own,?_⟩,bW (m:=32) hk⟩;have ee:m0[k.toNat]=Ai (IntKind.wrap .u32 (1*2 ^ min (Int.toNat k) 32)) 0:=by simp only[m0,mu,yB]
  rw[d5.rd,r3,wR,<-ee,JE m0 k.toNat wO (λn=>.int .u32 n),show(k+1).toNat=k.toNat+1 by omega]
 ·have hk:¬k<32:=hk;have e:k.toNat=32:=oX;rw[e,<-hml,mZ,uH,WB,gi]at r3
  refine⟨λv2 n2 hh=>0<=n2/\Fr No h hh/\dA hh h.size/\EN v2/\∃f m,n2<((2 ^ f:Nat):Int)/\m.length=32/\(∀x∈m,EN x)/\rd hh h.size=H4 m/\xi v n=rf f m v2 n2,λ_ n2 _=>n2.toNat,
   ⟨hn0,f3,o3,hv,64,m0,by show n<18446744073709551616;omega,hml,hmr,r3,rfl⟩,?_⟩
  rintro v2 n4 h6 ⟨p0,f6,o6,hv2,f,m,hf,hm,hr,r6,eb⟩;have hs6:=f6.size;have e1:(2 ^ min (Int.toNat 1) 64:Int)=2:=by decide
  refine cd (λPz=>?_) λPz=>?_
  rotate_left
  ·have:v2=xi v n:=by
    rw[eb]
    cases f with
    | zero=>rfl
    | succ f=>rw[rf,decide_eq_false Pz];rfl
   rw[this];exact hK h6 f6
  have hd:Int.fdiv n4 2=n4/2:=vf _ dX;rw[e1,hd]
  cases f with
  | zero=>have hf:n4<1:=hf;omega
  | succ f=>
  rw[rf,decide_eq_true Pz]at eb;have hf2:n4/2<((2 ^ f:Nat):Int):=by rw[wk]at hf;omega
  have sqm:(gK m).length=32:=by rw[gK,aP,hm]
  have ml:(H4 (gK m)).length=32:=by rw[H4,aP,sqm]
  have ml2:(H4 m).length=32:=by rw[H4,aP,hm]
  have M6:ai h6 (bA h) (H4 m):=ah r6
  have nx:∀v3,EN v3->xi v n=rf f (gK m) v3 (n4/2)->∀h8,Fr No h6 h8->az (bA h) (H4 (gK m)) 32 h8 λh9=>
    (0<=n4/2/\Fr No h h9/\dA h9 h.size/\EN v3/\∃f m,n4/2<((2 ^ f:Nat):Int)/\m.length=32/\(∀x∈m,EN x)/\rd h9 h.size=H4 m/\xi v n=rf f m v3 (n4/2))/\(n4/2).toNat<n4.toNat:=by
   intro v3 hv3 e3 h8 f8;have r8:=(f8.rd o6.lt λx=>x).trans r6;refine az.intro (f8.own o6.lt (λx=>x) o6) ml (RH _) (by rw[r8,ml2];exact bE _) λh9 d9=>?_;exact⟨⟨oX,(f6.no f8).did d9 (λx=>oX),d9.own,hv3,f,gK m,hf2,sqm,Lh m,by rw[d9.rd,fu _ _ (by rw[r8,ml,ml2])],e3⟩,oX⟩
  cases hb:(bP .and .i64 n4 1==1)with
  | true=>
   rw[hb]at eb;exact ct rfl (Gz hv2 hm M6 ⟨_,rfl,Ef hr hm M6 λh8 f8=>⟨_,rfl,nx _ (BW _ _) eb h8 f8⟩⟩)
  | false=>
   rw[hb]at eb;exact cf rfl (Ef hr hm M6 λh8 f8=>⟨_,rfl,nx _ hv2 eb h8 f8⟩)
def Aj(a b n:Int):Int:=bP .xor .u32 (xi a n) b
theorem GA(a b n:Int):EN (Aj a b n):=uI _ _ _
theorem T7{a b:Int}(g:Gy h)(ha:EN a)(h0:0<=n)(h1:n<=1099511627776)(hK:∀ h',Fr No h h'->K (.tuple #[.int .u32 (Aj a b n),vI 0]) h'):C.qW a b n h K:=
 qW.ok (cd (λx=>oX) λ_=>cd (λx=>oX) λ_=>MW g ha h0 oX λh' f=>⟨_,rfl,hK h' f⟩)
end Su
namespace Re
open Hp W Su
def Li : List Bool:=[false,true,true,false,true,false,false,false,true]
def PA(h:ad):Prop:=rd h 0=Li.map .bool
theorem PA.lt(g:PA h):0<h.size:=pE (show(rd h 0)[0]?=some (.bool false) by rw[g];rfl)
theorem PA.fr(g:PA h)(f:Fr F h h')(hF:¬ F 0):PA h':=(f.rd g.lt hF).trans g
structure lT(h:ad):Prop where
 half:Gy h
 wide:PA h
theorem lT.fr{h h':ad}{F:NP}(g:lT h)(f:Fr F h h')(h1:∀ b,b<1+1->¬ F b):lT h':=⟨g.half.fr f (h1 _ dX),g.wide.fr f (h1 _ dX)⟩
theorem lT.no(g:lT h)(f:Fr No h h'):lT h':=g.fr f λ_ _ x=>x
theorem lT.lt{h:ad}(g:lT h):1+1<=h.size:=by have:=g.half.lt;have:=g.wide.lt;omega
theorem rh(g:lT h)(hn:n=1∨n=2∨n=4∨n=8)(hK:K (.bool true) h):C.j9 n h K:=by
 refine j9.ok (ct (decide_eq_true oX) (ct (decide_eq_true oX) ⟨⟨oX,oX⟩,true,aZ g.wide ?_,hK⟩))
 rcases hn with rfl|rfl|rfl|rfl <;> rfl
theorem uJ{at_:Int}(hl:l<=140737488355328)(h0:0<=at_)(h1:0<=n)(h2:at_+n<=l)(hK:K (.bool true) h):C.qV a l c at_ n h K:=by
 refine qV.ok (ct (decide_eq_true h0) (ct (decide_eq_true h1) (ct (decide_eq_true oX) ?_)));rw[wrap_i64 oX oX,decide_eq_true oX];exact hK
def py : LB->Nat
 | []=>0
 | b::r=>b.toNat+256*py r
theorem yD : ∀bs:LB,py bs<256 ^ bs.length:=by
 intro bs
 induction bs with
 | nil=>exact Nat.one_pos
 | cons b r ih=>
  have hb:b.toNat<256:=b.toNat_lt;rw[py,pA,wk];omega
theorem MX(bs:LB)(b:UInt8):py (bs++[b])=py bs+b.toNat*256 ^ bs.length:=by
 induction bs with
 | nil=>simp[py]
 | cons x r ih=>rw[List.cons_append,py,ih,py,pA,wk,Nat.mul_add];simp only[BU,Nat.mul_left_comm,Nat.mul_assoc,Nat.add_assoc]
theorem xj(k:Nat):256 ^ k=2 ^ (8*k):=by rw[Nat.pow_mul]
theorem δ{v:Nat}{b:UInt8}(hk:k<8)(hv:v<256 ^ k) :
  bP .or .u64 (v:Int) (IntKind.wrap .u64 ((IntKind.wrap .u64 (b.toNat:Int))*2 ^ min (Int.toNat (wI (8*(k:Int)))) 64))=((v+b.toNat*256 ^ k:Nat):Int):=by
 have hb:b.toNat<256:=b.toNat_lt
 have wu:∀n:Nat,n<18446744073709551616->IntKind.wrap .u64 (n:Int)=(n:Int):=λn h=>by
  show(n:Int)%18446744073709551616=n;exact Wz oX oX
 rw[wrap_i64 oX oX,wu _ oX];have e1:min (Int.toNat (8*(k:Int))) 64=8*k:=oX;rw[e1];have hp:256 ^ k<=256 ^ 7:=Ec dX oX;have hp1:256 ^ (k+1)<=256 ^ 8:=Ec dX oX
 have hsum:v+b.toNat*256 ^ k<256 ^ (k+1):=by
  rw[wk];have:b.toNat*256 ^ k<=255*256 ^ k:=Nat.mul_le_mul_right _ oX;omega
 have e8:(256:Nat) ^ 8=18446744073709551616:=by decide
 have e2:((b.toNat:Int)*2 ^ (8*k))=((b.toNat*256 ^ k:Nat):Int):=by rw[xj];simp
 rw[e2,wu _ oX];show IntKind.wrap .u64 (((BitVec.ofInt 64 (v:Int) ||| BitVec.ofInt 64 ((b.toNat*256 ^ k:Nat):Int)).toNat:Nat):Int)=_;rw[BitVec.toNat_or,Ah,Ah,Ed,Ed,vg oX,vg oX]
 have e3:v ||| b.toNat*256 ^ k=v+b.toNat*256 ^ k:=by
  rw[Nat.or_comm,xj,BU,<-Nat.two_pow_add_eq_or_of_lt (by rw[<-xj];exact hv)];omega
 rw[e3,wu _ oX]
def kX(xs:LB)(o:Nat)(ys:LB):LB:=xs.take o++ys++xs.drop (o+ys.length)
theorem vj{xs:LB}(h:o+ys.length<=xs.length):(kX xs o ys).length=xs.length:=by
 simp only[kX,bg,dL,jM];omega
theorem te{xs:LB}(h:o+ys.length<=xs.length):put (xs.map bv) o (ys.map bv)=(kX xs o ys).map bv:=by
 rw[put_eq _ _ _ (by rw[aP,aP];exact h)];simp only[kX,eT,WC,List.map_drop,aP]
theorem GB(xs:LB)(o:Nat):kX xs o []=xs:=by simp[kX]
theorem yE(xs ys zs:LB)(ys':LB)(h:ys'.length=ys.length):kX (xs++ys++zs) xs.length ys'=xs++ys'++zs:=by
 have e1:(xs++ys++zs).take xs.length=xs:=by rw[iW,tL]
 have e2:(xs++ys++zs).drop (xs.length+ys.length)=zs:=by rw[<-bg,Ae]
 rw[kX,h,e1,e2]
def bo(n v:Nat):LB:=(List.range n).map λk=>UInt8.ofNat (v/256 ^ k)
theorem bC(n v:Nat):(bo n v).length=n:=by rw[bo,aP,xE]
theorem Lj(v k:Nat)(hk:k<8):(Value.int .u8 (IntKind.wrap .u8 (Int.fdiv (v:Int) (2 ^ min (Int.toNat (wI (8*(k:Int)))) 64))))=bv (UInt8.ofNat (v/256 ^ k)):=by
 rw[wrap_i64 oX oX,show min (Int.toNat (8*(k:Int))) 64=8*k by omega]
 have e:Int.fdiv (v:Int) (2 ^ (8*k))=((v/256 ^ k:Nat):Int):=by
  rw[xj,vf _ (by exact Int.le_of_lt (Int.pow_pos dX))];simp
 rw[e];show Value.int .u8 (((v/256 ^ k:Nat):Int)%256)=Value.int .u8 ((UInt8.ofNat (v/256 ^ k)).toNat:Int);rw[lX];simp
theorem mw{at_:Int}{v:Nat}(g:lT h)(s:Sl h 1 (some ⟨b,o,none⟩) l c (bs.map bv) F)(hl:l<=140737488355328)(hn:n=1∨n=2∨n=4)(h0:0<=at_)(h2:at_+n<=l)
  (hv:v<256 ^ n.toNat) (hK:∀h',Fr (λx=>x=b) h h'->Sl h' 1 (some ⟨b,o,none⟩) l c ((kX bs at_.toNat (bo n.toNat v)).map bv) F->K (vI 0) h'):C.ja (some ⟨b,o,none⟩) l c at_ n (v:Int) h K:=by
 have rM:=s.1;rw[aP,ph]at rM;refine ja.ok (rh g oX ⟨_,rfl,iu (ct rfl (ct (decide_eq_true oX) ?_))⟩);have w8:wI (8*n)=8*n:=wrap_i64 oX oX;rw[if_neg (by rw[w8];omega)]
 have hz:Int.fdiv (v:Int) (2 ^ min (Int.toNat (wI (8*n))) 64)=0:=by
  rw[w8,show min (Int.toNat (8*n)) 64=8*n.toNat by omega]
  have e:Int.fdiv (v:Int) (2 ^ (8*n.toNat))=((v/256 ^ n.toNat:Nat):Int):=by
   rw[xj,vf _ (by exact Int.le_of_lt (Int.pow_pos dX))];simp
  rw[e,Nat.div_eq_of_lt hv];rfl
 refine cf (by rw[hz];rfl) (uJ hl h0 oX h2 ⟨_,rfl,iu (ct rfl ?_)⟩);have hlB:=bC n.toNat v;refine⟨λk hh=>0<=k/\k<=n/\Fr (λx=>x=b) h hh/\Sl hh 1 (some ⟨b,o,none⟩) l c ((kX bs at_.toNat ((bo n.toNat v).take k.toNat)).map bv) F,λk _=>(n-k).toNat,⟨oX,oX,Fr.refl _ _,by rw[show(0:Int).toNat=0 from rfl,vi,GB];exact s⟩,?_⟩;rintro k h4 ⟨k0,k1,f4,s4⟩;refine cd (λhk=>?_) λhk=>?_
 ·rw[if_neg (by rw[wrap_i64 oX oX];omega),wq (at_+k)];obtain⟨w1,w2⟩:=s4.wr;refine⟨⟨oX,oX⟩,os (bD.add w1 oX λh5 d5=>?_)⟩;have hkB:k.toNat<(bo n.toNat v).length:=oX;have eb:=Lj v k.toNat oX;rw[show((k.toNat:Nat):Int)=k by omega]at eb;rw[eb]at d5;have s5:=s4.putAt (j:=(at_+k).toNat) (new:=[_]) (by rw[ik];omega) d5;rw[wq (k+1)];refine⟨⟨oX,oX,f4.did d5 (λ_=>rfl),?_⟩,by show(n-(k+1)).toNat<(n-k).toNat;omega⟩;have T8:((bo n.toNat v).take k.toNat).length=k.toNat:=by rw[dL];omega
  have ee:(bo n.toNat v)[k.toNat]=UInt8.ofNat (v/256 ^ k.toNat):=by simp only[bo,mu,yB]
  have ep:put ((kX bs at_.toNat ((bo n.toNat v).take k.toNat)).map bv) (at_+k).toNat [bv (UInt8.ofNat (v/256 ^ k.toNat))]=(kX bs at_.toNat ((bo n.toNat v).take (k+1).toNat)).map bv:=by
   rw[<-te (by rw[T8];omega),<-te (by rw[dL];omega),show(k+1).toNat=k.toNat+1 by omega,jJ hkB,eT,BV,ee]
   have:∀(ys:LV) (X:LV) (o:Nat) (y:Value),put X o (ys++[y])=(put X o ys).set (o+ys.length) y:=by
    intro ys
    induction ys with
    | nil=>intro X o y;rfl
    | cons v r ih=>
     intro X o y;show put (X.set o v) (o+1) (r++[y])=_;rw[ih,pA,show o+1+r.length=o+(r.length+1) by omega];rfl
   rw[this,aP,T8,show(at_+k).toNat=at_.toNat+k.toNat by omega];rfl
  rw[ep]at s5;exact s5
 ·have:k=n:=oX;subst this;rw[gL oX]at s4;exact hK h4 f4 s4
def im(bs:LB):Bool:=bs.all (· == 0)
theorem PB(B:av h a l bs)(hl:l<=140737488355328)(hK:K (.bool (im bs)) h):C.sk a l c h K:=by
 have hb:=B.1;refine sk.ok ⟨λn hh=>0<=n/\n<=l/\h=hh/\im bs=im (bs.drop n.toNat),λn _=>((l:Int)-n).toNat,⟨oX,oX,rfl,rfl⟩,?_⟩;rintro n _ ⟨n0,n1,rfl,e⟩;refine cd (λhn=>?_) λhn=>?_
 ·have nE:n.toNat<bs.length:=oX;obtain⟨_,B2⟩:=B;have ed:im (bs.drop n.toNat)=(bs[n.toNat] == 0 && im (bs.drop (n.toNat+1))):=by rw[lh nE];rfl
  cases a with
  | none=>have B2:bs.map bv=[]:=B2;have:=qx.mp B2;rw[this]at nE;exact absurd nE (by simp)
  | some p=>
   refine⟨⟨n0,hn⟩,os ⟨_,B2 n.toNat (bv bs[n.toNat]) (by rw[jH,fg nE];rfl),cn (λx=>?_) λx=>?_⟩⟩
   ·have:(bs[n.toNat] == 0)=false:=by
     rw[beq_eq_false_iff_ne];intro e0;rw[e0]at x;exact x rfl
    rw[e,ed,this]at hK;exact hK
   ·have:(bs[n.toNat] == 0)=true:=by
     rw[beq_iff_eq];exact sZ.mp (by have x:((bs[n.toNat].toNat:Nat):Int)=0:=x;show _=0;omega)
    rw[wrap_i64 oX oX];exact⟨⟨oX,oX,rfl,by rw[e,ed,this,show(n+1).toNat=n.toNat+1 by omega];rfl⟩,bW hn⟩
 ·rw[qY oX]at e;rw[e]at hK;exact hK
theorem av.cut{i j:Nat}(B:av h a l bs)(CS:l<=c)(OK:i<=j)(hj:j<=l):av h (if c=i then a else Option.map (Addr.add · i) a) (j-i) ((bs.drop i).take (j-i)):=by
 by_cases e:c=i
 ·rw[if_pos e];have:j-i=0:=oX;rw[this,vi];exact av.nil _ _
 ·rw[if_neg e];exact av.take (av.drop B i) oX
theorem zn{at_:Int}(B:av h a l bs)(CS:l<=c)(hl:l<=140737488355328)(h0:0<=at_)(h1:0<=n)(h2:at_+n<=l)
  (hK:K (.tuple #[.bool (im ((bs.drop at_.toNat).take n.toNat)),vI 0]) h):C.pH a l c at_ n h K:=by
 refine pH.ok (cf (decide_eq_false oX) (uJ hl h0 h1 h2 ⟨_,rfl,iu (ct rfl ?_)⟩));rw[wrap_i64 oX oX];have e:(at_+n).toNat-at_.toNat=n.toNat:=oX;refine⟨⟨h0,oX,oX⟩,PB (bs:=(bs.drop at_.toNat).take n.toNat) ?_ oX ⟨_,rfl,hK⟩⟩;have:=av.cut B CS (i:=at_.toNat) (j:=(at_+n).toNat) oX oX;rw[e]at this;rw[e];exact this
theorem GC(B:av h a l bs)(hl:l<=140737488355328)(hz:∀ x ∈ bs,x≠0)(hK:K (vI l) h):C.sj a l c h K:=by
 have hb:=B.1;refine sj.ok ⟨λn hh=>0<=n/\n<=l/\h=hh,λn _=>((l:Int)-n).toNat,⟨oX,oX,rfl⟩,?_⟩;rintro n _ ⟨n0,n1,rfl⟩;refine cd (λhn=>?_) λhn=>hK;have nE:n.toNat<bs.length:=oX;obtain⟨_,B2⟩:=B
 cases a with
 | none=>have B2:bs.map bv=[]:=B2;have:=qx.mp B2;rw[this]at nE;exact absurd nE (by simp)
 | some p=>
  refine⟨⟨n0,hn⟩,os ⟨_,B2 n.toNat (bv bs[n.toNat]) (by rw[jH,fg nE];rfl),ce (λx=>?_) λx=>?_⟩⟩
  ·exact absurd (sZ.mp (by have x:((bs[n.toNat].toNat:Nat):Int)=0:=x;show _=0;omega)) (hz _ (ff nE))
  ·rw[wrap_i64 oX oX];exact⟨⟨oX,oX,rfl⟩,bW hn⟩
theorem Lk{ss:LB}{at_:Int}(s:Sl h 1 (some ⟨b,o,none⟩) l c (bs.map bv) F)(hl:l<=140737488355328)(hn:n=ss.length)(h0:0<=at_)(hle:at_+n<=l)(hz:∀ x ∈ ss,x≠0)
  (hK:∀h',Fr (λx=>x=b) h h'->Sl h' 1 (some ⟨b,o,none⟩) l c ((kX bs at_.toNat ss).map bv) F->K (vI 0) h'):C.j5 (some ⟨b,o,none⟩) l c at_ n (mkStr ss) h K:=by
 have rM:=s.1;rw[aP,ph]at rM;have CS:=s.le;have lV:(mkStr ss).size=ss.length:=rfl;refine j5.ok (cf (decide_eq_false oX) (cf (decide_eq_false (by rw[lV];omega)) λcap FH=>?_));rw[toList_mkStr];have e0:vG h (ss.map bv++List.replicate (cap-(mkStr ss).size) (bv 0)) 5=vG h (ss.map bv++List.replicate (cap-(mkStr ss).size) (bv 0)) 5:=rfl;generalize hh2:vG h (ss.map bv++List.replicate (cap-(mkStr ss).size) (bv 0)) 5=h2
 have f2:Fr No h h2:=by
  subst hh2;exact⟨by simp[vG],λx hx _=>by simp[vG,zT,show x≠h.size by omega]⟩
 have r2:rd h2 h.size=ss.map bv++List.replicate (cap-(mkStr ss).size) (bv 0):=by
  subst hh2;simp[rd,vG]
 have B2:av h2 (some (bA h)) ss.length ss:=⟨rfl,yt (by rw[r2,mW,tL])⟩;have s2:=s.fr f2 λ_ _ _ x=>x;rw[lV];refine GC B2 oX hz ⟨_,rfl,cf (decide_eq_false oX) (uJ hl h0 oX hle ⟨_,rfl,iu (ct rfl ?_)⟩)⟩;rw[wq (at_+n)];obtain⟨w1,w2⟩:=s2.wr;refine⟨⟨h0,oX,oX⟩,?_⟩
 by_cases hss:ss=[]
 ·subst hss;have hn0:n=0:=hn;subst hn0;rw[Int.add_zero,uH];have fin:K (vI 0) h2:=hK h2 (f2.mono λ_ _ x=>x.elim) (by rw[GB];exact s2);have wr0:∀(a:OA),KB h2 a 0 0:=λa=>by cases a with|none=>rfl|some p=>exact λi hi=>absurd hi (wm _)
  have st0:∀(a:OA),sS h2 a 0 []=h2:=λa=>by cases a <;> rfl
  refine⟨trivial,by show KB h2 _ 0 (min 0 0);exact wr0 _,?_⟩;show _/\_;rw[toList_mkStr,List.take_nil,List.map_nil,st0];refine⟨⟨by rw[wrap_i64 oX oX];show 0<=at_+0;omega,by rw[wrap_i64 oX oX];show at_+0<=at_;omega,oX⟩,?_⟩;have e2:at_.toNat-Int.toNat (wI (at_+((min (mkStr []).size 0:Nat):Int)))=0:=by rw[wrap_i64 oX oX];show at_.toNat-(at_+0).toNat=0;omega
  rw[e2];refine⟨trivial,wr0 _,?_⟩;show K _ (sS h2 _ 0 (aL _ 0));have e3:∀z,z=[Value.int .u8 0]->aL z 0=[]:=λz hz=>by subst hz;rfl
  rw[show aL xd.zero 0=[] from e3 _ rfl,st0];exact fin
 ·have Pz:0<ss.length:=List.length_pos_iff.mpr hss;have hci:c≠at_.toNat:=oX;rw[if_neg hci,Option.map_some,eA];have e1:(at_+n).toNat-at_.toNat=ss.length:=oX;rw[e1];have em:min (mkStr ss).size ss.length=ss.length:=by rw[lV];exact Nat.min_self _
  refine⟨trivial,?_,?_⟩
  ·show KB h2 _ 0 (min (mkStr ss).size ss.length);rw[em];simp only[KB,Addr.add_zero];exact AV w1 oX
  rw[em,toList_mkStr,mZ]
  have d5:xN b h2 (sS h2 (some ⟨b,o+at_.toNat,none⟩) 0 (ss.map bv)) (put (rd h2 b) (o+at_.toNat) (ss.map bv)):=by
   simp only[sS,Addr.add_zero];exact⟨Hp.size_setRow _ _ _ _,Fr.setRow (F:=λx=>x=b) (Or.inl rfl) (Fr.refl _ h2),nU w1,by rw[jO,Nat.add_zero]⟩
  generalize sS h2 (some ⟨b,o+at_.toNat,none⟩) 0 (ss.map bv)=h5 at d5;have s5:=s2.putAt (j:=at_.toNat) (new:=ss.map bv) (by rw[aP];omega) d5;rw[te oX]at s5;have fin:K (vI 0) h5:=hK h5 ((f2.mono λ_ _ x=>x.elim).did d5 λ_=>rfl) s5;have wr0:∀(a:OA),KB h5 a 0 0:=λa=>by cases a with|none=>rfl|some p=>exact λi hi=>absurd hi (wm _)
  have st0:∀(a:OA),sS h5 a 0 []=h5:=λa=>by cases a <;> rfl
  show(0<=wI (at_+((ss.length:Nat):Int))/\wI (at_+((ss.length:Nat):Int))<=at_+n/\at_+n<=(c:Int))/\_;rw[wq (at_+((ss.length:Nat):Int))];refine⟨⟨oX,oX,oX⟩,?_⟩;have e2:(at_+n).toNat-(at_+(ss.length:Int)).toNat=0:=oX;rw[e2];refine⟨trivial,wr0 _,?_⟩;show K _ (sS h5 _ 0 (aL _ 0));have e3:∀z,z=[Value.int .u8 0]->aL z 0=[]:=λz hz=>by subst hz;rfl
  rw[show aL xd.zero 0=[] from e3 _ rfl,st0];exact fin
end Re
namespace Ad
open Hp W
structure RD where
 aE:List LB
 bS:List (Int×LB)
 left:Int
 keep:List Bool
 down:Bool
 writes:Int
 ax:Int
 tape:List (Int×Int×LB)
def blk(b:LB):LV:=b.map bv
def vk(p:Int×LB):LV:=vI p.1::p.2.map bv
structure mg where
 kind:Int
 at_:Int
 a:OA
 l:Nat
 c:Nat
def mg.cells(e:mg):LV:=[vI e.kind,vI e.at_,vS e.a e.l e.c]
def pM(h:ad)(ao:Nat->Nat)(k:Nat):List mg->List (Int×Int×LB)->Prop
 | [],[]=>True
 | e::r,t::s=>e.kind=t.1/\e.at_=t.2.1/\av h e.a e.l t.2.2/\(∀p,e.a=some p->p.block<h.size/\ao p.block=k)/\pM h ao k r s
 | _,_=>False
theorem pM.keep(f:Fr F h h')(g:Ag h.size ao aB)(hF:∀ b,ao b=k->¬ F b) :
  ∀{es:List mg} {ts:List (Int×Int×LB)},pM h ao k es ts->pM h' aB k es ts:=by
 intro es
 induction es with
 | nil=>intro ts e;cases ts with
  | nil=>trivial
  | cons _ _=>exact e.elim
 | cons x r ih=>intro ts e;cases ts with
  | nil=>exact e.elim
  | cons t s=>
   obtain⟨h1,h2,h3,h4,h5⟩:=e;exact⟨h1,h2,av.fr f h3 (λp hp=>hF _ (h4 p hp).2),λp hp=>⟨mV (h4 p hp).1 f.size,(g _ (h4 p hp).1).trans (h4 p hp).2⟩,ih h5⟩
theorem pM.length{h:ad}{ao:Nat->Nat}{k:Nat}:∀{es:List mg} {ts:List (Int×Int×LB)},pM h ao k es ts->es.length=ts.length:=by
 intro es
 induction es with
 | nil=>intro ts e;cases ts with
  | nil=>rfl
  | cons _ _=>exact e.elim
 | cons x r ih=>intro ts e;cases ts with
  | nil=>exact e.elim
  | cons t s=>simp[ih e.2.2.2.2]
structure Raw where
 la:OA
 ln:Nat
 lc:Nat
 pa:OA
 pn:Nat
 pc:Nat
 left:Int
 ka:OA
 kn:Nat
 kc:Nat
 down:Bool
 writes:Int
 ax:Int
 ta:OA
 tn:Nat
 tc:Nat
def Raw.cells(r:Raw):LV:=
 [vS r.la r.ln r.lc,vS r.pa r.pn r.pc,vI r.left,vS r.ka r.kn r.kc,.bool r.down,vI r.writes,vI r.ax,vS r.ta r.tn r.tc]
structure Parts(h:ad)(S:RD)(ao:Nat->Nat)(m:Nat)(r:Raw)(es:List mg):Prop where
 left:r.left=S.left
 pN:0<=S.left/\S.left<=9223372036854775807
 down:r.down=S.down
 writes:r.writes=S.writes
 ax:r.ax=S.ax
 l:Sl h 512 r.la r.ln r.lc (S.aE.flatMap blk) (On ao (m+1))
 lw:∀x∈S.aE,x.length=512
 ln:r.ln=S.aE.length
 Dj:S.aE.length<=16384
 p:Sl h 513 r.pa r.pn r.pc (S.bS.flatMap vk) (On ao (m+2))
 pw:∀x∈S.bS,x.2.length=512
 pn:r.pn=S.bS.length
 pi:∀x∈S.bS,0<=x.1/\x.1<S.aE.length
 GD:S.bS.length<=140737488355328
 k:Sl h 1 r.ka r.kn r.kc (S.keep.map .bool) (On ao (m+3))
 kn:r.kn=S.keep.length
 t:Sl h 3 r.ta r.tn r.tc (es.flatMap mg.cells) (On ao (m+4))
 tn:r.tn=es.length
 Ll:es.length<=140737488355328
 ts:pM h ao (m+5) es S.tape
structure qF(h:ad)(b:Nat)(S:RD)(ao:Nat->Nat)(m:Nat)(r:Raw)(es:List mg):Prop extends Parts h S ao m r es where
 sc:ao b=m
 so:dA h b
 sr:rd h b=r.cells
def jq(h:ad)(d:OA)(S:RD)(ao:Nat->Nat)(m:Nat):Prop:=∃b r es,d=some ⟨b,0,none⟩/\qF h b S ao m r es
theorem Parts.keep{h h':ad}{S:RD}{ao aB:Nat->Nat}{m:Nat}{r:Raw}{es:List mg}{F:NP}(d:Parts h S ao m r es)(f:Fr F h h')(g:Ag h.size ao aB)
  (hF:∀b,m+1<=ao b->ao b<=m+5->¬F b):Parts h' S aB m r es:=
 ⟨d.left,d.pN,d.down,d.writes,d.ax,d.l.keep f g (λb e=>hF b oX oX),d.lw,d.ln,d.Dj,
  d.p.keep f g (λb e=>hF b oX oX),d.pw,d.pn,d.pi,d.GD,d.k.keep f g (λb e=>hF b oX oX),d.kn,d.t.keep f g (λb e=>hF b oX oX),d.tn,d.Ll,
  pM.keep f g (λb e=>hF b oX oX) d.ts⟩
theorem qF.rN{S:RD}{r:Raw}{es:List mg}(d:qF h b S ao m r es)(f:Fr F h h')(g:Ag h.size ao aB)
  (hF:∀b,m<=ao b->ao b<=m+5->¬F b):qF h' b S aB m r es:=by
 have hb:=d.so.lt;have hs:¬F b:=hF b (by have:=d.sc;omega) (by have:=d.sc;omega);exact⟨d.toParts.keep f g (λb h1 h2=>hF b oX h2),(g _ hb).trans d.sc,f.own hb hs d.so,(f.rd hb hs).trans d.sr⟩
theorem qF.re{S:RD}{r:Raw}{es:List mg}(P:Parts h S ao m r es)(sc:ao b=m)(D:xN b h h' r.cells):qF h' b S ao m r es:=
 ⟨P.keep D.fr (Ag.refl _ _) (λx h1 _ e=>by rw[e]at h1;omega),sc,D.own,D.rd⟩
theorem jq.keep{S:RD}(D:jq h d S ao m)(f:Fr F h h')(g:Ag h.size ao aB)
  (hF:∀b,m<=ao b->ao b<=m+5->¬F b):jq h' d S aB m:=by
 obtain⟨b,r,es,e,D⟩:=D;exact⟨b,r,es,e,D.rN f g hF⟩
def fresh(ls:List LB):RD:=⟨ls,[],0,[],false,0,0,[]⟩
def pR : LB:=List.replicate 512 0
theorem Im(z:LV)(hz:z=List.replicate 512 (.int .u8 0))(n:Nat):aL z n=(List.replicate n pR).flatMap blk:=by
 rw[sV,List.flatMap_replicate];subst hz;have:blk pR=List.replicate 512 (.int .u8 0):=by simp only[blk,pR,Gu];rfl
 rw[this]
theorem WG(ao:Nat->Nat)(m:Nat)
  (h1:n<1∨16384<n->K (.tuple #[vP none,vI 32]) h)
  (h2:1<=n->n<=16384->∀q h' aB,Fr No h h'->Ag h.size ao aB->jq h' (some q) (fresh (List.replicate n.toNat pR)) aB m->K (.tuple #[vP (some q),vI 0]) h') :
  C.rX n h K:=by
 refine rX.ok ?_;refine cd (λa=>h1 (Or.inl a)) λa=>cd (λb=>h1 (Or.inr b)) λb=>⟨oX,?_⟩;refine aC.intro λxR n2=>aC.intro λh3 n3=>?_;refine h2 oX oX _ _ (nV (nV ao h.size (m+1)) (h.size+1) m) (n2.fr.new n3) ((pX _ _ _).trans (pX _ _ _) oX) ?_;refine⟨_,⟨some (bA h),n.toNat,n.toNat,none,0,0,0,none,0,0,false,0,0,none,0,0⟩,[],rfl,?_⟩;have hl:=bq blk 512 (List.replicate n.toNat pR) (by intro x hx;rw[VA hx];simp only[blk,pR,aP,dU]);rw[dU]at hl;have e2:rd xR h.size=(List.replicate n.toNat pR).flatMap blk:=n2.rd.trans (Im _ rfl _);refine⟨⟨rfl,⟨by simp[fresh],by simp[fresh]⟩,rfl,rfl,rfl,?_,?_,?_,?_,Sl.nil _ _ _,?_,rfl,?_,by simp[fresh],Sl.nil _ _ _,rfl,Sl.nil _ _ _,rfl,by simp,trivial⟩,yu (by rw[n2.size];omega),n3.own,n3.rd⟩
 ·refine⟨hl,rfl,?_,n3.ow n2.own,bE _,?_,?_⟩
  ·show nV (nV ao h.size (m+1)) (h.size+1) m h.size=m+1;rw[Gj oX,yu (bE _)]
  ·show((rd h3 h.size).drop 0).take _=_;rw[n3.at_ n2.own.lt,e2,mW];exact mZ
  ·show 0+n.toNat*512<=(rd h3 h.size).length;rw[n3.at_ n2.own.lt,e2,hl];omega
 ·intro x hx;rw[VA hx];simp only[pR,dU]
 ·simp[fresh]
 ·simp only[fresh,dU];omega
 ·intro x hx;simp[fresh]at hx
 ·intro x hx;simp[fresh]at hx
theorem qF.field{S:RD}{r:Raw}{es:List mg}(d:qF h b S ao m r es)(k:Nat):cellOf h (Addr.add ⟨b,0,none⟩ k)=r.cells[k]?:=by
 rw[eA,nj,d.sr,wR]
theorem rj{S:RD}(D:jq h d S ao m)
  (hK:K (.bool (decide (0<=i/\i<S.aE.length))) h):C.jh d i h K:=by
 obtain⟨b,r,es,rfl,D⟩:=D;refine jh.ok (cd (λa=>⟨_,_,_,D.field 0,?_⟩) λa=>?_)
 ·rw[D.ln];have e:(0<=i/\i<S.aE.length)=(i<S.aE.length):=by rw[eq_true (show 0<=i from a),true_and]
  simpa only[e]using hK
 ·have:¬(0<=i/\i<S.aE.length):=oX;simpa only[this,decide_false]using hK
theorem lj{S:RD}(D:jq h d S ao m)
  (hK:K (vI S.aE.length) h):C.dV d h K:=by
 obtain⟨b,r,es,rfl,D⟩:=D;refine dV.ok ⟨_,_,_,D.field 0,?_⟩;rw[D.ln];exact hK
def jK(b:LB)(i:Int)(ps:List (Int×LB)):LB:=ps.foldl (λb p=>if p.1=i then p.2 else b) b
def nI(S:RD)(i:Nat):LB:=jK (S.aE.getD i []) i S.bS
theorem wv{p:Int×LB}(h:p.2.length=512):(vk p).length=513:=by simp only[vk,pA,aP,h]
theorem oU{b:LB}(h:b.length=512):(blk b).length=512:=by simp only[blk,aP,h]
theorem AY(p:Int×LB):((vk p).drop (0+1)).take (blk p.2).length=blk p.2:=by
 simp only[vk,blk,wR,List.drop_succ_cons,mW];exact mZ
theorem zp(p:Int×LB):∀v∈vk p,v.oneCell'=true:=by
 intro v hv
 rcases fO.mp hv with rfl|hv
 ·rfl
 ·exact jA _ v hv
theorem qF.Dl{S:RD}{r:Raw}{es:List mg}(d:qF h b S ao m r es){h':ad}{aB:Nat->Nat}{i:Nat}(hi:i<S.bS.length)
  (s:Sl h' 513 r.pa r.pn r.pc (S.bS.flatMap vk) (On aB (m+2))):∃p,r.pa=some p/\ai h' (p.add (i*513)) (vk S.bS[i]):=by
 obtain⟨p,e,c⟩:=s.get (by rw[d.pn];omega);refine⟨p,e,?_⟩;have:=ai.part c (i*513) 513;rw[kv vk 513 S.bS (λx hx=>wv (d.pw x hx)) i hi]at this;exact this
theorem qF.JF{S:RD}{r:Raw}{es:List mg}(d:qF h b S ao m r es){h':ad}{aB:Nat->Nat}{i:Nat}(hi:i<S.aE.length)
  (s:Sl h' 512 r.la r.ln r.lc (S.aE.flatMap blk) (On aB (m+1))):∃p,r.la=some p/\ai h' (p.add (i*512)) (blk S.aE[i]):=by
 obtain⟨p,e,c⟩:=s.get (by rw[d.ln];omega);refine⟨p,e,?_⟩;have:=ai.part c (i*512) 512;rw[kv blk 512 S.aE (λx hx=>oU (d.lw x hx)) i hi]at this;exact this
theorem sO{b:LB}{ps:List (Int×LB)}{n:Nat}(hn:n<ps.length):jK b i (ps.take (n+1))=if ps[n].1=i then ps[n].2 else jK b i (ps.take n):=by
 rw[jK,WD,vh,fg hn];rfl
theorem dv{S:RD}(D:jq h d S ao m)
  (h1:S.down=true->K (.tuple #[vS none 0 0,vI 30]) h)
  (h2:S.down=false->¬(0<=i/\i<S.aE.length)->K (.tuple #[vS none 0 0,vI 31]) h)
  (h3:S.down=false->0<=i->i<S.aE.length->∀b h',Fr No h h'->h.size<=b->dA h' b->rd h' b=(nI S i.toNat).map bv->(nI S i.toNat).length=512->
   K (.tuple #[vS (some ⟨b,0,none⟩) 512 512,vI 0]) h') :
  C.iC d i h K:=by
 have D0:=D;obtain⟨b,r,es,rfl,D⟩:=D;refine iC.ok ⟨_,D.field 4,?_⟩;rw[D.down];refine cs h1 λhd=>rj D0 ⟨_,rfl,iu (cd (λa=>?_) (h2 hd))⟩;have hi:i.toNat<S.aE.length:=oX;obtain⟨p,e,c⟩:=D.JF hi D.l;refine⟨_,_,_,D.field 0,⟨a.1,by rw[D.ln];exact a.2⟩,?_⟩;rw[e];have hlen:=oU (D.lw _ (ff hi));refine⟨_,hlen,c,aF.intro hlen (jA _) dU λh4 n4=>?_⟩;have D4:=D.rN n4.fr (Ag.refl _ _) (λ_ _ _ x=>x);refine⟨_,_,_,D4.field 1,?_⟩
 refine⟨λn hh=>0<=n/\n<=S.bS.length/\Fr No h hh/\dA hh h.size/\rd hh h.size=(jK S.aE[i.toNat] i (S.bS.take n.toNat)).map bv/\(jK S.aE[i.toNat] i (S.bS.take n.toNat)).length=512,
  λn _=>(S.bS.length-n).toNat,⟨oX,oX,n4.fr,n4.own,n4.rd,D.lw _ (ff hi)⟩,?_⟩
 rintro n h5 ⟨n0,n1,f5,o5,r5,l5⟩;have D5:=D.rN f5 (Ag.refl _ _) (λ_ _ _ x=>x);rw[D.pn];refine cd (λhn=>?_) λhn=>?_
 rotate_left
 ·have:nI S i.toNat=jK S.aE[i.toNat] i (S.bS.take n.toNat):=by
   rw[gL oX,nI,gh,fg hi,Option.getD_some,Int.toNat_of_nonneg a.1]
  exact h3 hd a.1 a.2 _ _ f5 (bE _) o5 (by rw[this];exact r5) (by rw[this];exact l5)
 have nE:n.toNat<S.bS.length:=oX;obtain⟨q,e',c'⟩:=D5.Dl nE D5.p;refine⟨⟨n0,hn⟩,?_⟩;rw[e'];have MY:=D.pw _ (ff nE);have MZ:=wv MY;refine⟨_,MZ,c',aF.intro MZ (zp _) (pA.trans (congrArg (· + 1) dU)) λh7 n7=>?_⟩;have f7:=f5.new n7;have hs5:=f5.size;have hw:wI (n+1)=n+1:=wrap_i64 oX (by have:=D.GD;omega);have ht:(n+1).toNat=n.toNat+1:=oX;refine⟨_,aZ n7.rd rfl,?_⟩;rw[hw];refine ce (λhq=>?_) λhq=>?_
 ·have hb:=oU MY;have r7:=n7.at_ o5.lt;refine⟨_,hb,pY n7.rd (AY _),az.intro (n7.ow o5) hb (jA _) (by rw[r7,r5,aP,l5];omega) λh8 n8=>⟨⟨oX,oX,f7.did n8 (λx=>oX),n8.own,?_,?_⟩,bW hn⟩⟩
  ·rw[n8.rd,r7,r5,fu _ _ (by rw[hb,aP,l5]),ht,sO nE,if_pos hq];rfl
  ·rw[ht,sO nE,if_pos hq];exact MY
 ·refine⟨⟨oX,oX,f7,n7.ow o5,?_,?_⟩,bW hn⟩
  ·rw[n7.at_ o5.lt,r5,ht,sO nE,if_neg hq]
  ·rw[ht,sO nE,if_neg hq];exact l5
theorem qF.Lm{S:RD}{r:Raw}{es:List mg}(d:qF h b S ao m r es){lb lo i:Nat}{y:LB}(hi:i<S.aE.length)(hy:y.length=512)
  (e:r.la=some ⟨lb,lo,none⟩) (D:xN lb h h' (put (rd h lb) (lo+i*512) (blk y))):qF h' b { S with aE:=S.aE.set i y } ao m r es:=by
 have L:=d.l;rw[e]at L;have hc:ao lb=m+1:=L.2.2.1;have K:=d.rN (F:=λx=>x=lb/\False) (h':=h) ⟨bE _,λ_ _ _=>rfl⟩ (Ag.refl _ _) (λ_ _ _ x=>x.2);have hs:b≠lb:=by intro x;have:=d.sc;rw[x]at this;omega
 have g:Ag h.size ao ao:=Ag.refl _ _;have hk:∀k,k≠m+1->∀x,ao x=k->¬(x=lb):=by intro k hk x hx e;rw[e]at hx;omega
 exact⟨⟨d.left,d.pN,d.down,d.writes,d.ax,by rw[e];exact L.K6 (λx hx=>oU (d.lw x hx)) hi (oU hy) D,
  λx hx=>by rcases OX hx with hx|rfl;exact d.lw x hx;exact hy,by simp only[pL];exact d.ln,by simp only[pL];exact d.Dj,
  d.p.keep D.fr g (hk _ oX),d.pw,d.pn,by simp only[pL];exact d.pi,d.GD,d.k.keep D.fr g (hk _ oX),d.kn,d.t.keep D.fr g (hk _ oX),d.tn,d.Ll,pM.keep D.fr g (hk _ oX) d.ts⟩,d.sc,D.ow d.so,(D.at_ d.so.lt hs).trans d.sr⟩
theorem eY{α:Type}(xs:List α)(n:Nat)(h:n<xs.length):xs.take (n+1)=xs.take n++[xs[n]]:=by
 rw[WD,fg h];rfl
def chunks(bs:LB):List LB:=(List.range (bs.length/512)).map λi=>(bs.drop (i*512)).take 512
theorem kg(bs:LB):(chunks bs).length=bs.length/512:=by simp only[chunks,aP,xE]
theorem AZ(bs:LB){i:Nat}(h:i<(chunks bs).length):(chunks bs)[i]=(bs.drop (i*512)).take 512:=by simp only[chunks,mu,yB]
theorem xk(bs:LB):∀x∈chunks bs,x.length=512:=by
 intro x hx;obtain⟨i,hi,rfl⟩:=List.getElem_of_mem hx;rw[kg]at hi;rw[AZ,dL,jM];omega
theorem Io(bs:LB):∀n,((List.range n).map λi=>(bs.drop (i*512)).take 512).flatten=bs.take (n*512):=by
 intro n
 induction n with
 | zero=>simp
 | succ n ih=>
  rw[List.range_succ,eT,abI,ih,Nat.add_mul,OU,List.take_add];simp
theorem M0(h:bs.length % 512=0):(chunks bs).flatten=bs:=by
 rw[chunks,Io,gL];omega
theorem wy(ao:Nat->Nat)(m:Nat)(hf:adw h ao m)(B:av h a l bs)(CS:l<=c)(hl:l<=140737488355328)
  (h1:l%512≠0∨l=0∨16384<l/512->K (.tuple #[vP none,vI 32]) h)
  (h2:l%512=0->0<l->l/512<=16384->∀q h' aB,Fr No h h'->Ag h.size ao aB->jq h' (some q) (fresh (chunks bs)) aB m->K (.tuple #[vP (some q),vI 0]) h') :
  C.nX a l c h K:=by
 have rM:=B.1;have hd:Int.tdiv (l:Int) 512=((l/512:Nat):Int):=by rw[nL oX];omega
 have hmd:Int.tmod (l:Int) 512=((l%512:Nat):Int):=by rw[rL oX];omega
 have hw:wI (Int.tdiv (l:Int) 512)=((l/512:Nat):Int):=by rw[hd];exact wq _
 refine nX.ok (cn (λx=>h1 (Or.inl oX)) λx=>?_);rw[hw];refine WG ao m (λy=>⟨_,_,rfl,cn (λ_=>h1 oX) (λz=>absurd z oX)⟩) λy1 y2 q h' aB f1 g1 D1=>⟨_,_,rfl,cn (λz=>absurd rfl z) λ_=>?_⟩;obtain⟨b,r,es,hq,D1⟩:=D1;have hq:q=⟨b,0,none⟩:=by simpa using hq
 subst hq;rw[cA]at D1;have hN:=D1.ln;simp only[fresh,dU]at hN;refine⟨_,_,_,D1.field 0,?_⟩
 refine⟨λn hh=>0<=n/\n<=(l/512:Nat)/\Fr No h hh/\qF hh b (fresh ((chunks bs).take n.toNat++List.replicate (l/512-n.toNat) pR)) aB m r es,λn _=>((l/512:Nat)-n).toNat,
  ⟨oX,oX,f1,by rw[show(0:Int).toNat=0 from rfl,vi,tP,Nat.sub_zero];exact D1⟩,?_⟩
 rintro n h3 ⟨n0,n1,f3,D3⟩;rw[hN];have Gb:=kg bs;refine cd (λhn=>?_) λhn=>?_
 rotate_left
 ·have e:n.toNat=l/512:=oX;rw[e,gL (by rw[Gb,rM];omega),uH,WB,gi]at D3;exact h2 oX oX oX _ _ _ f3 g1 ⟨b,r,es,rfl,D3⟩
 have nE:n.toNat<l/512:=oX;refine⟨_,_,_,D3.field 0,⟨n0,by rw[hN];exact hn⟩,?_⟩;obtain⟨p,e,_⟩:=D3.l.get (by rw[hN];omega);rw[e];have L:=D3.l;rw[e]at L;obtain⟨lb,lo,sp⟩:=p;have hsp:sp=none:=L.2.1;subst hsp;have hw3:wI (n*512)=((n.toNat*512:Nat):Int):=by rw[wrap_i64 oX oX];omega
 have hw2:wI (n+1)=n+1:=wrap_i64 oX oX;simp only[hw3,hw2,cA];refine⟨oX,?_⟩;rw[if_neg oX,eA];have B3:=av.take (av.drop (av.fr f3 B (λ_ _ x=>x)) (n.toNat*512)) (n:=512) oX;obtain⟨w1,w2⟩:=L.wr;rw[hN]at w2;have hy:((bs.drop (n.toNat*512)).take 512).length=512:=B3.1;have hm:min (l-n.toNat*512) 512=512:=oX;refine xw.intro (new:=blk ((bs.drop (n.toNat*512)).take 512)) (by rw[oU hy,hm];rfl) B3.2 (jA _) w1 (by rw[oU hy];omega) λh4 d4=>?_;have hi:n.toNat<((chunks bs).take n.toNat++List.replicate (l/512-n.toNat) pR).length:=by rw[bg,dL,dU,Gb,rM];omega
 have D4:=D3.Lm (i:=n.toNat) hi hy e d4;refine⟨⟨oX,oX,?_,?_⟩,bW hn⟩
 ·refine f3.did d4 λx=>?_;have hc:aB lb=m+1:=L.2.2.1;have:=hf.new g1 (b:=lb) oX oX;omega
 ·have ht:(n+1).toNat=n.toNat+1:=oX;have hx:n.toNat<(chunks bs).length:=by rw[Gb,rM];omega
  have e1:((chunks bs).take n.toNat++List.replicate (l/512-n.toNat) pR).set n.toNat ((bs.drop (n.toNat*512)).take 512)=(chunks bs).take (n+1).toNat++List.replicate (l/512-(n+1).toNat) pR:=by
   have h1:((chunks bs).take n.toNat).length=n.toNat:=(by rw[dL];omega);rw[JA _ _ oX,h1,uH,show l/512-n.toNat=(l/512-(n+1).toNat)+1 by omega,uW,JB,ht,eY _ _ hx,AZ,iW];rfl
  rw[<-e1];exact D4
theorem xm(B:av h a l bs)(hl:l<=140737488355328)
  (hK:∀a' c' h',Fr No h h'->Sl h' 1 a' l c' (bs.map bv) (cW h.size)->K (vS a' l c') h'):C.bX a l c h K:=by
 have rM:=B.1;refine bX.ok (cs (λe=>?_) λ_=>aC.intro λh2 n2=>?_)
 ·cases a with
  | none=>
   have e1:=B.2;have e2:bs.map bv=[]:=e1;have e2:bs=[]:=qx.mp e2;subst e2;have:l=0:=rM.symm;subst this;exact hK none 0 h (Fr.refl _ _) (Sl.nil _ _ _)
  | some p=>simp at e
 ·obtain⟨s1,s2,s3⟩:=av.src (av.fr n2.fr B (λ_ _ x=>x));refine⟨_,s1,s2,s3,?_⟩;refine cY (xs:=[]) (F:=cW h.size) (Sl.made n2 rfl (bE _) rfl (bE _) rfl) s1 rfl (by show(0+l)*1<=_;omega) oX λa' c' h' f s=>?_;rw[wR,tP]at s;rw[wR];have:=n2.size;exact hK a' c' h' (n2.fr.trans f λb hb e=>by have:h.size<=b:=e;omega) (s.mono λb hb=>by rcases hb with hb|hb;exact hb;show h.size<=b;omega)
structure Gw(h:ad)(D:NP)(h':ad)(D':NP):Prop where
 old:∀b,b<h.size->(D' b↔D b)
 lt:∀b,D' b->b<h'.size
theorem Gw.refl{D:NP}(hs:h.size<=h'.size)(hD:∀ b,D b->b<h.size):Gw h D h' D:=⟨λ_ _=>yC,λb hb=>mV (hD b hb) hs⟩
theorem Gw.trans{h h' GF:ad}{D D' D'':NP}(g:Gw h D h' D')(g':Gw h' D' GF D'')(hs:h.size<=h'.size):Gw h D GF D'':=
 ⟨λb hb=>(g'.old b oX).trans (g.old b hb),g'.lt⟩
def trim(ao:Nat->Nat)(n:Nat):Nat->Nat:=λb=>if b<n then ao b else 0
theorem sP{n:Nat}(h:b<n):trim ao n b=ao b:=if_pos h
theorem vl{n:Nat}(h:n<=b):trim ao n b=0:=if_neg oX
theorem BX(ao:Nat->Nat)(n:Nat):Ag n ao (trim ao n):=λ_ hb=>if_pos hb
def dD(h:ad)(D:NP)(d:OA)(S:RD):Prop:=∃ao,jq h d S ao 1/\(∀b,h.size<=b->ao b=0)/\∀b,D b↔1<=ao b/\ao b<=6
theorem dD.mk{S:RD}(a:jq h d S ao 1):dD h (λb=>b<h.size/\1<=ao b/\ao b<=6) d S:=by
 refine⟨trim ao h.size,a.keep (F:=No) (Fr.refl _ h) (BX _ _) λ_ _ _ x=>x,λb hb=>vl hb,λb=>⟨λhb=>by rw[sP hb.1];exact hb.2,λhb=>?_⟩⟩
 rcases rI b h.size with h1|h1
 ·rw[sP h1]at hb;exact⟨h1,hb⟩
 ·rw[vl h1]at hb;omega
theorem dD.lt{D:NP}{S:RD}(a:dD h D d S){b:Nat}(hb:D b):b<h.size:=by
 obtain⟨ao,_,hz,hD⟩:=a
 rcases rI b h.size with h1|h1
 ·exact h1
 ·have:=(hD b).mp hb;rw[hz b h1]at this;omega
theorem dD.fr{D:NP}{S:RD}(a:dD h D d S)(f:Fr F h h')(hF:∀ b,D b->¬ F b):dD h' D d S:=by
 obtain⟨ao,a,hz,hD⟩:=a;have:=f.size;exact⟨ao,a.keep f (Ag.refl _ _) λb h1 h2=>hF b ((hD b).mpr ⟨h1,h2⟩),λb hb=>hz b oX,hD⟩
theorem dD.no{D:NP}{S:RD}(a:dD h D d S)(f:Fr No h h'):dD h' D d S:=a.fr f λ_ _ x=>x
theorem dD.iff{D:NP}{S:RD}(a:dD h D d S)(e:∀ b,D' b↔D b):dD h D' d S:=by
 obtain⟨ao,a,hz,hD⟩:=a;exact⟨ao,a,hz,λb=>(e b).trans (hD b)⟩
theorem dD.gw{D:NP}{S':RD}(hD:∀ b,D b↔1<=ao b/\ao b<=6)(g:Ag h.size ao aB)(hs:h.size<=h'.size)(a:jq h' d S' aB 1) :
  ∃D',Gw h D h' D'/\dD h' D' d S'/\∀b,D' b↔b<h'.size/\1<=aB b/\aB b<=6:=
 ⟨_,⟨λb hb=>by rw[hD b,g b hb];exact⟨λx=>x.2,λx=>⟨oX,x⟩⟩,λb hb=>hb.1⟩,dD.mk a,λ_=>yC⟩
theorem dD.blocks{D:NP}{S:RD}(a:dD h D d S)(hK:K (vI S.aE.length) h):C.dV d h K:=by
 obtain⟨ao,a,_⟩:=a;exact lj a hK
theorem dD.max{D:NP}{S:RD}(a:dD h D d S):S.aE.length<=16384/\∀x∈S.aE,x.length=512:=by
 obtain⟨ao,⟨b,r,es,_,D⟩,_⟩:=a;exact⟨D.Dj,D.lw⟩
theorem dD.read{D:NP}{S:RD}(a:dD h D d S)
  (h1:S.down=true->K (.tuple #[vS none 0 0,vI 30]) h)
  (h2:S.down=false->¬(0<=i/\i<S.aE.length)->K (.tuple #[vS none 0 0,vI 31]) h)
  (h3:S.down=false->0<=i->i<S.aE.length->∀b h',Fr No h h'->Sl h' 1 (some ⟨b,0,none⟩) 512 512 ((nI S i.toNat).map bv) (cW h.size)->(nI S i.toNat).length=512->
   K (.tuple #[vS (some ⟨b,0,none⟩) 512 512,vI 0]) h') :
  C.iC d i h K:=by
 obtain⟨ao,a,_⟩:=a;refine dv a h1 h2 λe i0 i1 b h' f hb o r l=>h3 e i0 i1 b h' f ⟨by rw[aP,l],rfl,hb,o,bE _,?_,?_⟩ l
 ·show((rd h' b).drop 0).take _=_;rw[r,mW,mZ]
 ·show 0+512*1<=(rd h' b).length;rw[r,aP,l];exact bE _
theorem PC(B:av h a l bs)(CS:l<=c)(hl:l<=140737488355328)
  (h1:l%512≠0∨l=0∨16384<l/512->K (.tuple #[vP none,vI 32]) h)
  (h2:l%512=0->0<l->l/512<=16384->∀q h' D,Fr No h h'->(∀b,D b->h.size<=b)->dD h' D (some q) (fresh (chunks bs))->K (.tuple #[vP (some q),vI 0]) h') :
  C.nX a l c h K:=by
 refine wy (λ_=>0) 1 (λ_ _ h1 _=>absurd h1 (by show ¬(1<=0);omega)) B CS hl h1 λy1 y2 y3 q h' aB f g a=>?_;refine h2 y1 y2 y3 q h' _ f (λb hb=>?_) (dD.mk a)
 rcases rI b h.size with h1|h1
 ·have e:aB b=0:=g b h1;omega
 ·exact h1
end Ad
namespace Tm
open Hp W Ad
abbrev cC :=LB
def dx{α:Type}:List (Int×α)->Int->Option α
 | [],_=>none
 | (k,v)::r,x=>bif x==k then some v else dx r x
def jL{α:Type}:List (Int×α)->Int->α->List (Int×α)
 | [],x,v=>[(x,v)]
 | (k,u)::r,x,v=>bif x==k then(x,v)::r else(k,u)::jL r x v
def A0{α:Type}:List (Int×α)->Int->List (Int×α)
 | [],_=>[]
 | (k,u)::r,x=>bif x==k then r else(k,u)::A0 r x
theorem JG{α:Type}(v:α)(i j:Int):∀m:List (Int×α),dx (jL m i v) j=if j=i then some v else dx m j
 | []=>by
  show(bif j==i then some v else none)=_
  by_cases h:j=i
  ·rw[if_pos h,h,beq_self_eq_true];rfl
  ·rw[if_neg h,beq_eq_false_iff_ne.mpr h];rfl
 | (k,u)::r=>by
  have ih:=JG v i j r
  show dx (bif i==k then(i,v)::r else(k,u)::jL r i v) j=if j=i then some v else(bif j==k then some u else dx r j)
  by_cases h:i=k
  ·subst h;rw[beq_self_eq_true];show(bif j==i then some v else dx r j)=_
   by_cases h2:j=i
   ·rw[if_pos h2,h2,beq_self_eq_true];rfl
   ·rw[if_neg h2,beq_eq_false_iff_ne.mpr h2];rfl
  ·rw[beq_eq_false_iff_ne.mpr h];show(bif j==k then some u else dx (jL r i v) j)=_;rw[ih]
   by_cases h2:j=k
   ·have hn:¬j=i:=λe=>h (e.symm.trans h2);rw[if_neg hn,if_neg hn,h2,beq_self_eq_true]
   ·rw[beq_eq_false_iff_ne.mpr h2];rfl
theorem zr{α:Type}{i:Int}:∀{m:List (Int×α)},dx m i=none↔∀p∈m,p.1≠i
 | []=>⟨λ_ p hp=>(by cases hp),λ_=>rfl⟩
 | (k,u)::r=>by
  show(bif i==k then some u else dx r i)=none↔_
  by_cases h:i=k
  ·rw[h,beq_self_eq_true];exact⟨λx=>(by cases x),λx=>absurd rfl (x (k,u) (kj ..))⟩
  ·rw[beq_eq_false_iff_ne.mpr h];show dx r i=none↔_;rw[zr];refine⟨λx p hp=>?_,λx p hp=>x p (gV _ hp)⟩
   rcases fO.mp hp with rfl|hp
   ·exact λe=>h e.symm
   ·exact x p hp
theorem wz{α:Type}{i:Int}{v:α}:∀{m:List (Int×α)},dx m i=some v->(i,v)∈m
 | [],h=>by cases h
 | (k,u)::r,h=>by
  have h:(bif i==k then some u else dx r i)=some v:=h
  by_cases e:i=k
  ·rw[e,beq_self_eq_true]at h
   cases h
   rw[e];exact kj ..
  ·rw[beq_eq_false_iff_ne.mpr e]at h;exact gV _ (wz h)
theorem yF{α:Type}{i:Int}{v:α}{p:Int×α}:∀{m:List (Int×α)},p∈jL m i v->p=(i,v)∨p∈m
 | [],h=>.inl (kU.mp h)
 | (k,u)::r,h=>by
  have h:p∈(bif i==k then(i,v)::r else(k,u)::jL r i v):=h
  by_cases e:i=k
  ·rw[e,beq_self_eq_true]at h
   rcases fO.mp h with h|h
   ·left;rw[h,e]
   ·exact .inr (gV _ h)
  ·rw[beq_eq_false_iff_ne.mpr e]at h
   rcases fO.mp h with h|h
   ·exact .inr (h▸kj ..)
   ·rcases yF h with h|h
    ·exact .inl h
    ·exact .inr (gV _ h)
theorem GG{α:Type}{i:Int}{p:Int×α}:∀{m:List (Int×α)},p∈A0 m i->p∈m
 | [],h=>h
 | (k,u)::r,h=>by
  have h:p∈(bif i==k then r else(k,u)::A0 r i):=h
  by_cases e:i=k
  ·rw[e,beq_self_eq_true]at h;exact gV _ h
  ·rw[beq_eq_false_iff_ne.mpr e]at h
   rcases fO.mp h with h|h
   ·exact h▸kj ..
   ·exact gV _ (GG h)
theorem zt{α:Type}{i:Int}{v:α}:∀{m:List (Int×α)},dx m i=none->A0 (jL m i v) i=m
 | [],_=>by show(bif i==i then[]else _)=_;rw[beq_self_eq_true];rfl
 | (k,u)::r,h=>by
  have h:(bif i==k then some u else dx r i)=none:=h
  by_cases e:i=k
  ·rw[e,beq_self_eq_true]at h;cases h
  ·rw[beq_eq_false_iff_ne.mpr e]at h;show A0 (bif i==k then(i,v)::r else(k,u)::jL r i v) i=_;rw[beq_eq_false_iff_ne.mpr e];show(bif i==k then _ else(k,u)::A0 (jL r i v) i)=_;rw[beq_eq_false_iff_ne.mpr e,zt h];rfl
theorem zu{α:Type}{i:Int}{v w:α}:∀{m:List (Int×α)},dx m i=some w->jL (jL m i v) i w=m
 | [],h=>by cases h
 | (k,u)::r,h=>by
  have h:(bif i==k then some u else dx r i)=some w:=h;show jL (bif i==k then(i,v)::r else(k,u)::jL r i v) i w=_
  by_cases e:i=k
  ·subst e;rw[beq_self_eq_true]at h ⊢
   cases h
   show(bif i==i then(i,w)::r else _)=_;rw[beq_self_eq_true];rfl
  ·rw[beq_eq_false_iff_ne.mpr e]at h ⊢;show(bif i==k then _ else(k,u)::jL (jL r i v) i w)=_;rw[beq_eq_false_iff_ne.mpr e,zu h];rfl
theorem Eg{α:Type}{i:Int}{v:α}:∀{m:List (Int×α)},(jL m i v).length=if dx m i=none then m.length+1 else m.length
 | []=>rfl
 | (k,u)::r=>by
  have ih:=Eg (i:=i) (v:=v) (m:=r)
  show(bif i==k then(i,v)::r else(k,u)::jL r i v).length=if(bif i==k then some u else dx r i)=none then _ else _
  by_cases e:i=k
  ·rw[e,beq_self_eq_true];rfl
  ·rw[beq_eq_false_iff_ne.mpr e]
   show(jL r i v).length+1=if dx r i=none then r.length+1+1 else r.length+1
   rw[ih];split <;> rfl
theorem BZ{α β:Type}(f:α->β)(i:Int):∀m:List (Int×α),dx (m.map λp=>(p.1,f p.2)) i=(dx m i).map f
 | []=>rfl
 | (k,u)::r=>by
  show(bif i==k then some (f u)else dx (r.map λp=>(p.1,f p.2)) i)=(bif i==k then some u else dx r i).map f;rw[BZ f i r]
  cases i==k <;> rfl
theorem GH{α β:Type}(f:α->β)(i:Int)(v:α):∀m:List (Int×α),jL (m.map λp=>(p.1,f p.2)) i (f v)=(jL m i v).map λp=>(p.1,f p.2)
 | []=>rfl
 | (k,u)::r=>by
  show(bif i==k then(i,f v)::r.map (λp=>(p.1,f p.2))else(k,f u)::jL (r.map λp=>(p.1,f p.2)) i (f v))=(bif i==k then(i,v)::r else(k,u)::jL r i v).map λp=>(p.1,f p.2);rw[GH f i v r]
  cases i==k <;> rfl
theorem M7{α β:Type}(f:α->β)(i:Int):∀m:List (Int×α),A0 (m.map λp=>(p.1,f p.2)) i=(A0 m i).map λp=>(p.1,f p.2)
 | []=>rfl
 | (k,u)::r=>by
  show(bif i==k then r.map (λp=>(p.1,f p.2))else(k,f u)::A0 (r.map λp=>(p.1,f p.2)) i)=(bif i==k then r else(k,u)::A0 r i).map λp=>(p.1,f p.2);rw[M7 f i r]
  cases i==k <;> rfl
def mm{α:Type}(f:α->Value)(m:List (Int×α)):sT:=m.map λp=>(.i p.1,f p.2)
theorem B7{α:Type}(f:α->Value)(i:Int):∀m:List (Int×α),nD (mm f m) (.i i)=(dx m i).map f
 | []=>rfl
 | (k,u)::r=>by
  show(bif i==k then some (f u)else nD (mm f r) (.i i))=(bif i==k then some u else dx r i).map f;rw[B7 f i r]
  cases i==k <;> rfl
theorem Ln{α:Type}(f:α->Value)(i:Int)(v:α):∀m:List (Int×α),zP (mm f m) (.i i) (f v)=mm f (jL m i v)
 | []=>rfl
 | (k,u)::r=>by
  show(bif i==k then(.i i,f v)::mm f r else(.i k,f u)::zP (mm f r) (.i i) (f v))=mm f (bif i==k then(i,v)::r else(k,u)::jL r i v);rw[Ln f i v r]
  cases i==k <;> rfl
theorem RI{α:Type}(f:α->Value)(i:Int):∀m:List (Int×α),Mh (mm f m) (.i i)=mm f (A0 m i)
 | []=>rfl
 | (k,u)::r=>by
  show(bif i==k then mm f r else(.i k,f u)::Mh (mm f r) (.i i))=mm f (bif i==k then r else(k,u)::A0 r i);rw[RI f i r]
  cases i==k <;> rfl
theorem zv{α:Type}(f:α->Value)(m:List (Int×α)):(mm f m).length=m.length:=aP ..
abbrev DI : D:=.int .i64
theorem map_lt{d:D}{m:sT}(a:nK d h r m):r<h.size:=by
 obtain⟨es,ck,e,_⟩:=a;exact(Array.getElem?_eq_some_iff.mp e).1
theorem xn{d:D}{m:sT}(a:nK d h r m)(f:Fr F h h')(hF:¬ F r):nK d h' r m:=by
 have hl:=map_lt a;obtain⟨es,ck,e,q⟩:=a;exact⟨es,ck,(f.same r hl hF).trans e,q⟩
theorem uK{d:D}{m:sT}(t:MapTo d h r m h'):Fr (λb=>b=r) h h':=⟨by rw[t.size];exact bE _,λb _ hb=>t.same b hb⟩
theorem JH(h:ad):(KC h).size=h.size+1:=by simp[KC]
theorem ε(h:ad):Fr No h (KC h):=⟨by rw[JH];omega,λb hb _=>by simp only[KC];rw[zT,if_neg oX]⟩
theorem ζ(h:ad):nK DI (KC h) h.size []:=⟨#[],0,by simp[KC],rfl,(λp hp=>by cases hp),MapKept.stamped_empty 0⟩
structure TM where
 cB:RD
 put:List (Int×cC)
 aD:List (Int×Option cC)
 over:Bool
def TM.N(T:TM):Nat:=T.cB.aE.length
def TM.get(T:TM)(i:Int):cC×Int:=match dx T.put i with
 | some b=>(b,0)
 | none=>if T.cB.down=true then([],30)else(nI T.cB i.toNat,0)
theorem TM.get_some{T:TM}{b:cC}(e:dx T.put i=some b):T.get i=(b,0):=by unfold TM.get;rw[e]
theorem TM.get_none{T:TM}(e:dx T.put i=none):T.get i=if T.cB.down=true then([],30)else(nI T.cB i.toNat,0):=by unfold TM.get;rw[e]
def TM.read(T:TM)(i:Int):cC×Int:=
 if T.over=true then([],61)else if i<0∨i>=T.N then([],31)else T.get i
def TM.write(T:TM)(i:Int)(bs:cC):TM×Int:=
 if T.over=true then(T,61)else if i<98∨i>=T.N then(T,31)else if bs.length≠512 then(T,32)else if dx T.put i=none/\T.put.length>=96 then(T,60)
  else({ T with put:=jL T.put i bs,aD:=T.aD++[(i,dx T.put i)] },0)
def TM.mark(T:TM):Int×Int:=if T.over=true then(0,61)else(T.aD.length,0)
def rO(m:List (Int×cC))(u:Int×Option cC):List (Int×cC):=match u.2 with
 | some b=>jL m u.1 b
 | none=>A0 m u.1
def dN(m:List (Int×cC))(us:List (Int×Option cC)):List (Int×cC):=us.foldr (λu m=>rO m u) m
def TM.back(T:TM)(mark:Int):TM×Int:=
 if T.over=true then(T,61)else if mark<0∨mark>T.aD.length then(T,62)
  else({ T with put:=dN T.put (T.aD.drop mark.toNat),aD:=T.aD.take mark.toNat },0)
structure Sc where
 a:OA
 l:Nat
 c:Nat
def Sc.v(s:Sc):Value:=vS s.a s.l s.c
structure Blk(h:ad)(ao:Nat->Nat)(k:Nat)(x:Sc×cC):Prop where
 s:av h x.1.a x.1.l x.2
 l:x.2.length=512
 at_:∀p,x.1.a=some p->p.block<h.size/\ao p.block=k
theorem Blk.keep{x:Sc×cC}(b:Blk h ao k x)(f:Fr F h h')(g:Ag h.size ao aB)(hF:∀ b,b<h.size->ao b=k->¬ F b):Blk h' aB k x:=
 ⟨av.fr f b.s λp e=>hF _ (b.at_ p e).1 (b.at_ p e).2,b.l,λp e=>⟨mV (b.at_ p e).1 f.size,(g _ (b.at_ p e).1).trans (b.at_ p e).2⟩⟩
structure UR where
 i:Int
 Vn:Option (Sc×cC)
 ok:Nat
 w:Nat
 tc:Nat
 ic:Nat
def UR.v(u:UR):Value:=.func (.func 57) #[] ⟨[vP (some ⟨u.ok,0,none⟩),vP (some ⟨u.w,0,none⟩),vP (some ⟨u.tc,0,none⟩),vP (some ⟨u.ic,0,none⟩)]⟩
def aen(w:Option (Sc×cC)):Value:=match w with
 | some x=>x.1.v
 | none=>vS none 0 0
structure Und(h:ad)(ao:Nat->Nat)(tb:Nat)(u:UR):Prop where
 ok:rd h u.ok=[.bool u.Vn.isSome]
 w:rd h u.w=[aen u.Vn]
 tc:rd h u.tc=[vP (some ⟨tb,0,none⟩)]
 ic:rd h u.ic=[vI u.i]
 at_:∀b,b=u.ok∨b=u.w∨b=u.tc∨b=u.ic->b<h.size/\ao b=4
 b:∀x,u.Vn=some x->Blk h ao 4 x
theorem Und.keep{h h':ad}{ao aB:Nat->Nat}{tb:Nat}{u:UR}{F:NP}(a:Und h ao tb u)(f:Fr F h h')(g:Ag h.size ao aB)(hF:∀ b,b<h.size->ao b=4->¬ F b):Und h' aB tb u:=by
 have k:∀b,b=u.ok∨b=u.w∨b=u.tc∨b=u.ic->rd h' b=rd h b:=λb hb=>f.rd (a.at_ b hb).1 (hF b (a.at_ b hb).1 (a.at_ b hb).2);exact⟨(k _ (by simp)).trans a.ok,(k _ (by simp)).trans a.w,(k _ (by simp)).trans a.tc,(k _ (by simp)).trans a.ic,λb hb=>⟨mV (a.at_ b hb).1 f.size,(g _ (a.at_ b hb).1).trans (a.at_ b hb).2⟩,λx e=>(a.b x e).keep f g hF⟩
structure TR where
 tb:Nat
 mb:Nat
 ua:OA
 uc:Nat
 ps:List (Int×(Sc×cC))
 us:List UR
structure PD(h:ad)(ao:Nat->Nat)(d:OA)(r:TR)(T:TM):Prop where
 wA:∀b,h.size<=b->ao b=0
 sc:ao r.tb=1
 own:dA h r.tb
 cell:rd h r.tb=[vP d,.map (some r.mb),vS r.ua r.us.length r.uc,.bool false]
 mc:ao r.mb=2
 map:nK DI h r.mb (mm (λx=>x.1.v) r.ps)
 un:Sl h 1 r.ua r.us.length r.uc (r.us.map UR.v) (On ao 3)
 pok:∀p∈r.ps,Blk h ao 4 p.2
 uok:∀u∈r.us,Und h ao r.tb u
 put:T.put=r.ps.map λp=>(p.1,p.2.2)
 aD:T.aD=r.us.map λu=>(u.i,u.Vn.map (·.2))
 live:T.over=false
 dk:dD h (λb=>ao b=5) d T.cB
 pk:∀p∈T.put,98<=p.1/\p.1<T.N
 ui:∀u∈r.us,98<=u.i/\u.i<T.N
structure TxO(h:ad)(ao:Nat->Nat)(d:OA)(tb:Nat)(T:TM):Prop where
 wA:∀b,h.size<=b->ao b=0
 sc:ao tb=1
 own:dA h tb
 cell:rd h tb=[vP d,.map none,vS none 0 0,.bool true]
 gone:T.put=[]/\T.aD=[]
 over:T.over=true
 dk:dD h (λb=>ao b=5) d T.cB
def Tx(h:ad)(F:NP)(t d:OA)(T:TM):Prop:=
 (∃ao r,t=some ⟨r.tb,0,none⟩/\PD h ao d r T/\∀b,F b↔1<=ao b/\ao b<=5)∨(∃ao tb,t=some ⟨tb,0,none⟩/\TxO h ao d tb T/\∀b,F b↔1<=ao b/\ao b<=5)
theorem PD.keep{h h':ad}{ao aB:Nat->Nat}{d:OA}{r:TR}{T:TM}{F:NP}(t:PD h ao d r T)(f:Fr F h h')(g:Ag h.size ao aB)(hz:∀ b,h'.size<=b->aB b=0)(hn:∀ b,h.size<=b->¬ (1<=aB b/\aB b<=5))(hF:∀ b,b<h.size->1<=ao b->ao b<=5->¬ F b):PD h' aB d r T:=by
 have hl:=t.own.lt;have s1:=t.sc;have s2:=t.mc;have ml:=map_lt t.map;have k4:∀b,b<h.size->ao b=4->¬F b:=λb hb e=>hF b hb oX oX
 refine⟨hz,(g _ hl).trans s1,f.own hl (hF _ hl oX oX) t.own,(f.rd hl (hF _ hl oX oX)).trans t.cell,(g _ ml).trans s2,xn t.map f (hF _ ml oX oX),?_,
  λp hp=>(t.pok p hp).keep f g k4,λu hu=>(t.uok u hu).keep f g k4,t.put,t.aD,t.live,?_,t.pk,t.ui⟩
 ·have s':=Hp.Sl.fr f t.un (λb hb hk=>hF b hb (by have hk:ao b=3:=hk;omega) (by have hk:ao b=3:=hk;omega));obtain⟨h1,h2⟩:=s';refine⟨h1,?_⟩;have ul:=t.un
  revert h2 ul
  cases r.ua with
  | none=>intro h2 _;exact h2
  | some p=>intro h2 ul;obtain⟨a1,a2,a3,a4⟩:=h2;exact⟨a1,(g _ ul.lt).trans a2,a3,a4⟩
 ·refine(t.dk.fr f λb hb=>hF b (t.dk.lt hb) (by have hb:ao b=5:=hb;omega) (by have hb:ao b=5:=hb;omega)).iff λb=>?_
  rcases rI b h.size with h1|h1
  ·show aB b=5↔ao b=5;rw[g b h1]
  ·have:=hn b h1;have:=t.wA b h1;show aB b=5↔ao b=5;omega
theorem TxO.keep{T:TM}(t:TxO h ao d tb T)(f:Fr F h h')(hF:∀ b,b<h.size->1<=ao b->ao b<=5->¬ F b):TxO h' ao d tb T:=by
 have hl:=t.own.lt;have s1:=t.sc;have hs:=f.size
 exact⟨λb hb=>t.wA b oX,s1,f.own hl (hF _ hl oX oX) t.own,(f.rd hl (hF _ hl oX oX)).trans t.cell,t.gone,t.over,
  t.dk.fr f λb hb=>hF b (t.dk.lt hb) (by have hb:ao b=5:=hb;omega) (by have hb:ao b=5:=hb;omega)⟩
theorem Tx.lt{T:TM}(x:Tx h F t d T){b:Nat}(hb:F b):b<h.size:=by
 rcases rI b h.size with h1|h1
 ·exact h1
 ·exfalso
  rcases x with⟨ao,r,_,c,hF⟩|⟨ao,tb,_,c,hF⟩
  ·have:=(hF b).mp hb;rw[c.wA b h1]at this;omega
  ·have:=(hF b).mp hb;rw[c.wA b h1]at this;omega
theorem Tx.fr{G:NP}{T:TM}(x:Tx h F t d T)(f:Fr G h h')(hG:∀ b,F b->¬ G b):Tx h' F t d T:=by
 have hs:=f.size
 rcases x with⟨ao,r,e,c,hF⟩|⟨ao,tb,e,c,hF⟩
 ·exact .inl ⟨ao,r,e,c.keep f (Ag.refl _ _) (λb hb=>c.wA b oX) (λb hb y=>by rw[c.wA b hb]at y;omega) λb _ h1 h2=>hG b ((hF b).mpr ⟨h1,h2⟩),hF⟩
 ·exact .inr ⟨ao,tb,e,c.keep f λb _ h1 h2=>hG b ((hF b).mpr ⟨h1,h2⟩),hF⟩
theorem Tx.no{T:TM}(x:Tx h F t d T)(f:Fr No h h'):Tx h' F t d T:=x.fr f λ_ _ y=>y
theorem η(s:Sl h 1 a l c xs F)(hm:m<=l):Sl h 1 a m c (xs.take m) F:=by
 cases a with
 | none=>
  obtain⟨h1,h2,h3⟩:=s;have:m=0:=oX;subst this;exact⟨rfl,rfl,h3⟩
 | some p=>
  obtain⟨h1,a1,a2,a3,a4,a5,a6⟩:=s;rw[ph]at h1;refine⟨by rw[dL];omega,a1,a2,a3,oX,?_,by rw[ph]at a6 ⊢;omega⟩;rw[dL,h1,xL hm]
  conv=>rhs;rw[<-a5]
  rw[List.take_take,h1,xL hm]
theorem Tx.dk{h:ad}{F:NP}{t d:OA}{T:TM}(x:Tx h F t d T):∃D,dD h D d T.cB/\∀b,D b->F b:=by
 rcases x with⟨ao,r,e,c,hF⟩|⟨ao,tb,e,c,hF⟩
 ·exact⟨_,c.dk,λb hb=>(hF b).mpr (by have hb:ao b=5:=hb;omega)⟩
 ·exact⟨_,c.dk,λb hb=>(hF b).mpr (by have hb:ao b=5:=hb;omega)⟩
theorem oe{α:Type}{a:Option α}{p:α}{k:α->Prop}(e:a=some p)(h:k p):ae a k:=by rw[e];exact h
theorem WH(D:NP)(x y:Nat):∃c:Nat->Nat,(∀b,D b->c b=x)/\∀b,¬D b->c b=y:=
 ⟨λb=>@ite _ (D b) (Classical.propDecidable _) x y,λb h=>if_pos h,λb h=>if_neg h⟩
theorem A1{D:NP}{S:RD}(a:dD h D d S)
  (hK:∀tb h' F,Fr No h h'->Gw h D h' F->Tx h' F (some ⟨tb,0,none⟩) d ⟨S,[],[],false⟩->K (vP (some ⟨tb,0,none⟩)) h'):C.rY d h K:=by
 refine rY.ok ?_;show aC _ _ (KC h) _;refine aC.intro λh3 n3=>?_;have sm:=JH h;have s3:=n3.size;have F:=(ε h).new n3;have e:=n3.rd;have o:=n3.own;rw[sm]at e o;unfold bA;rw[sm];obtain⟨c,c1,c2⟩:=WH D 5 0;have bV:∀b,D b->b<h.size:=λb hb=>a.lt hb;have cz:∀b,h.size<=b->c b=0:=λb hb=>c2 b λx=>by have:=bV b x;omega
 have cr:∀b,1<=c b->D b:=λb x=>by
  by_cases hd:D b
  ·exact hd
  ·rw[c2 b hd]at x;omega
 have cd:∀b,c b=5↔D b:=λb=>⟨λx=>cr b oX,c1 b⟩
 obtain⟨ao,k1,k2,k3⟩:∃ao:Nat->Nat,(∀b,b≠h.size->b≠h.size+1->ao b=c b)/\ao h.size=2/\ao (h.size+1)=1:=
  ⟨λb=>if b=h.size then 2 else if b=h.size+1 then 1 else c b,λb x y=>by show(if _ then _ else if _ then _ else _)=_;rw[if_neg x,if_neg y],if_pos rfl,by show(if _ then _ else if _ then _ else _)=_;rw[if_neg oX,if_pos rfl]⟩
 refine hK (h.size+1) h3 (λb=>1<=ao b/\ao b<=5) F ⟨λb hb=>?_,λb hb=>?_⟩ (.inl ⟨ao,⟨h.size+1,h.size,none,0,[],[]⟩,rfl,⟨λb hb=>?_,k3,o,e,k2,xn (ζ h) n3.fr λx=>x,Sl.nil _ _ _,λp hp=>(by cases hp),λu hu=>(by cases hu),rfl,rfl,rfl,?_,λp hp=>(by cases hp),λu hu=>(by cases hu)⟩,λb=>yC⟩)
 ·show 1<=ao b/\ao b<=5↔D b;rw[k1 b oX oX];exact⟨λx=>cr b x.1,λx=>by rw[c1 b x];omega⟩
 ·have hb:1<=ao b/\ao b<=5:=hb
  by_cases x:b=h.size
  ·omega
  ·by_cases y:b=h.size+1
   ·omega
   ·rw[k1 b x y]at hb;have:=bV b (cr b hb.1);omega
 ·rw[k1 b oX oX];exact cz b oX
 ·refine(a.no F).iff λb=>?_;show ao b=5↔D b
  by_cases x:b=h.size
  ·subst x;rw[k2];exact⟨λx=>oX,λx=>by have:=bV _ x;omega⟩
  ·by_cases y:b=h.size+1
   ·subst y;rw[k3];exact⟨λx=>oX,λx=>by have:=bV _ x;omega⟩
   ·rw[k1 b x y];exact cd b
theorem JI(B:av h a l bs)(hl:l<=140737488355328)
  (hK:∀a' c' h',Fr No h h'->Sl h' 1 a' l c' (bs.map bv) (cW h.size)->K (vS a' l c') h'):C.bX a l c h K:=xm B hl hK
theorem dv{T:TM}(x:Tx h F t d T)
  (hK:∀a l c h',Fr No h h'->l=(T.read i).1.length->Sl h' 1 a l c ((T.read i).1.map bv) (cW h.size)->K (.tuple #[vS a l c,vI (T.read i).2]) h'):C.dF t i h K:=by
 rcases x with⟨ao,r,rfl,c,hF⟩|⟨ao,tb,rfl,c,hF⟩
 ·refine dF.ok (os ⟨_,aZ c.cell rfl,cf rfl ?_⟩)
  have e0:T.read i=if i<0∨i>=T.N then([],31)else T.get i:=by
   unfold TM.read;rw[c.live,if_neg (by simp)]
  have bad:(i<0∨i>=T.N)->K (.tuple #[vS none 0 0,vI 31]) h:=λhb=>by
   rw[e0,if_pos hb]at hK;exact hK none 0 0 h (Fr.refl _ _) rfl (Sl.nil _ _ _)
  refine cd (λhn=>bad (.inl hn)) λh0=>os ⟨_,aZ c.cell rfl,c.dk.blocks ⟨_,rfl,cd (λhn=>bad (.inr hn)) λh1=>?_⟩⟩
  have e1:¬(i<0∨i>=T.N):=by
   rintro(x|x)
   ·exact h0 x
   ·exact h1 x
  rw[e0,if_neg e1]at hK;unfold dF.k1;refine os ⟨_,aZ c.cell rfl,_,c.map,?_⟩;dsimp only;rw[B7];have T9:dx T.put i=(dx r.ps i).map (·.2):=by rw[c.put];exact BZ (λx:Sc×cC=>x.2) i r.ps
  cases e:dx r.ps i with
  | none=>
   rw[TM.get_none (by rw[T9,e];rfl)]at hK;refine⟨none,0,0,rfl,cf rfl (os ⟨_,aZ c.cell rfl,c.dk.read (λhd=>?_) (λ_ Vi=>absurd ⟨oX,by have:¬i>=(T.N:Int):=h1;have e:T.N=T.cB.aE.length:=rfl;omega⟩ Vi) λhd _ _ b h' f s hl=>?_⟩)⟩
   ·rw[if_pos hd]at hK;exact⟨_,_,_,_,rfl,hK none 0 0 h (Fr.refl _ _) rfl (Sl.nil _ _ _)⟩
   ·rw[if_neg (by rw[hd];simp)]at hK;exact⟨_,_,_,_,rfl,hK _ 512 512 h' f hl.symm s⟩
  | some x=>
   rw[TM.get_some (b:=x.2) (by rw[T9,e];rfl)]at hK;have B:=c.pok _ (wz e);have B:Blk h ao 4 x:=B;have hl:x.1.l=512:=(by rw[<-B.s.1];exact B.l);refine⟨x.1.a,x.1.l,x.1.c,rfl,ct rfl (JI B.s oX λa' c' h' f s=>⟨_,_,_,rfl,?_⟩)⟩;exact hK a' x.1.l c' h' f B.s.1.symm s
 ·refine dF.ok (os ⟨_,aZ c.cell rfl,ct rfl ?_⟩);have e0:T.read i=([],61):=by unfold TM.read;rw[c.over,if_pos rfl]
  rw[e0]at hK;exact hK none 0 0 h (Fr.refl _ _) rfl (Sl.nil _ _ _)
theorem sE{T:TM}(x:Tx h F t d T)(hK:K (.tuple #[vI T.mark.1,vI T.mark.2]) h):C.hZ t h K:=by
 rcases x with⟨ao,r,rfl,c,hF⟩|⟨ao,tb,rfl,c,hF⟩
 ·refine hZ.ok (os ⟨_,aZ c.cell rfl,cf rfl (os ⟨_,_,_,aZ c.cell rfl,?_⟩)⟩);have:T.mark=((r.us.length:Int),0):=by unfold TM.mark;rw[c.live,if_neg (by simp),c.aD,aP]
  rw[this]at hK;exact hK
 ·refine hZ.ok (os ⟨_,aZ c.cell rfl,ct rfl ?_⟩);have:T.mark=(0,61):=by unfold TM.mark;rw[c.over,if_pos rfl]
  rw[this]at hK;exact hK
theorem JJ{m1:Option Nat}{W:sT}{sA:OA}{sL sC:Nat}
  (hc:∀hq,Fr No h hq->cellOf hq (Addr.add ⟨tb,0,none⟩ 1)=some (.map m1)) (hM:∀hq (K':sT->Prop),Fr No h hq->K' W->u7 DI m1 hq K') (hs:Option.getD (nD W (.i i)) (zeroV EK) = vS sA sL sC)
  (fin:∀(h2:ad) h7 wb ob,h2.size=h.size+1->Fr No h h7->h.size+2<=wb->h.size+2<=ob->wb<h7.size->ob<h7.size->wb≠ob->rd h7 h.size=[vP (some ⟨tb,0,none⟩)]->rd h7 (h.size+1)=[vI i]->
   rd h7 wb=[vS sA sL sC]->rd h7 ob=[.bool (nD W (.i i)).isSome]->aX.k1 a l c h h2 (some ⟨wb,0,none⟩) (some ⟨ob,0,none⟩) h7 K):C.aX (some ⟨tb,0,none⟩) i a l c h K:=by
 refine aX.ok (aC.intro λh2 n2=>aC.intro λh3 n3=>?_);have s2:=n2.size;have s3:=n3.size;have F3:=n2.fr.new n3;have r1:rd h3 h.size=[vP (some ⟨tb,0,none⟩)]:=(n3.at_).trans n2.rd;have r2:rd h3 h2.size=[vI i]:=n3.rd;refine⟨_,dC r1 rfl,os ⟨_,hc h3 F3,_,dC r2 rfl,?_⟩⟩;have C1:∀{hq:ad},Fr No h3 hq->cellOf hq (bA h)=some (vP (some ⟨tb,0,none⟩)):=λfq=>dC ((fq.rd oX λx=>x).trans r1) rfl;have C2:∀{hq:ad},Fr No h3 hq->cellOf hq (Addr.add ⟨tb,0,none⟩ 1)=some (.map m1):=λfq=>hc _ (F3.no fq);have C3:∀{hq:ad},Fr No h3 hq->cellOf hq (bA h2)=some (vI i):=λfq=>dC ((fq.rd oX λx=>x).trans r2) rfl;have M:∀{hq:ad} {K':sT->Prop},Fr No h3 hq->K' W->u7 DI m1 hq K':=λfq k=>hM _ _ (F3.no fq) k
 -- two new blocks, written: then the rest
 have ahI:∀{hq:ad} {wb ob:Nat} {zw zo:Value},Fr No h3 hq->wb≠ob->h3.size<=wb->h3.size<=ob->dA hq wb->dA hq ob->rd hq wb=[zw]->rd hq ob=[zo]->
   bD ⟨wb,0,none⟩ (vS sA sL sC) hq λh6=>bD ⟨ob,0,none⟩ (.bool (Option.isSome (nD W (.i i)))) h6 λh7=>aX.k1 a l c h h2 (some ⟨wb,0,none⟩) (some ⟨ob,0,none⟩) h7 K:=by
  intro hq wb ob zw zo fq fP hw ho ow oo rw' ro';refine bD.intro ow (by rw[rw'];exact Nat.one_pos) λh6 d6=>?_;have ro6:rd h6 ob=[zo]:=(d6.at_ oo.lt (λe=>fP e.symm)).trans ro';refine bD.intro (d6.ow oo) (by rw[ro6];exact Nat.one_pos) λh7 d7=>?_;have F7:Fr No h h7:=((F3.no fq).did d6 λbV=>oX).did d7 λbV=>by omega
  have F7':Fr No h3 h7:=(fq.did d6 λbV=>oX).did d7 λbV=>by omega
  have z7:=F7'.size;have z6:=d6.size;have z7':=d7.size;have lo:=oo.lt;have lw:=ow.lt;exact fin h2 h7 wb ob s2 F7 oX oX oX oX fP ((F7'.rd oX λx=>x).trans r1) (by rw[<-s2];exact(F7'.rd oX λx=>x).trans r2)
   ((d7.at_ oX fP).trans (by rw[d6.rd,rw'];rfl)) (by rw[d7.rd,ro6];rfl)
 have Lo:∀{hq hr hs:ad} {v1 v2:Value},Fr No h3 hq->uy hq hr [v1]->uy hr hs [v2]->
   (bD (bA hq) (vS sA sL sC) hs λh6=>bD (bA hr) (.bool (Option.isSome (nD W (.i i)))) h6 λh7=>aX.k1 a l c h h2 (some (bA hq)) (some (bA hr)) h7 K)/\
   (bD (bA hr) (vS sA sL sC) hs λh6=>bD (bA hq) (.bool (Option.isSome (nD W (.i i)))) h6 λh7=>aX.k1 a l c h h2 (some (bA hr)) (some (bA hq)) h7 K):=by
  intro hq hr hs v1 v2 fq n1 YQ;have z1:=n1.size;have z2:=YQ.size;have zq:=fq.size;have g:rd hs hq.size=[v1]:=(YQ.at_).trans n1.rd;exact⟨ahI ((fq.new n1).new YQ) oX oX oX (YQ.ow n1.own) YQ.own g YQ.rd,ahI ((fq.new n1).new YQ) oX oX oX YQ.own (YQ.ow n1.own) YQ.rd g⟩
 refine⟨M (Fr.refl _ _) ⟨_,_,_,hs,aC.intro λh4 n4=>⟨C1 n4.fr,C2 n4.fr,C3 n4.fr,aC.intro λh5 n5=>⟨C1 (n4.fr.new n5),C2 (n4.fr.new n5),C3 (n4.fr.new n5),(Lo (Fr.refl _ _) n4 n5).1⟩⟩,
  aC.intro λh4 n4=>⟨C1 n4.fr,C2 n4.fr,C3 n4.fr,aC.intro λh5 n5=>⟨C1 (n4.fr.new n5),C2 (n4.fr.new n5),C3 (n4.fr.new n5),(Lo (Fr.refl _ _) n4 n5).2⟩⟩⟩,
  aC.intro λh4 n4=>⟨C1 n4.fr,C2 n4.fr,C3 n4.fr,M n4.fr ⟨_,_,_,hs,aC.intro λh5 n5=>⟨C1 (n4.fr.new n5),C2 (n4.fr.new n5),C3 (n4.fr.new n5),(Lo (Fr.refl _ _) n4 n5).1⟩⟩,
   aC.intro λh5 n5=>⟨C1 (n4.fr.new n5),C2 (n4.fr.new n5),C3 (n4.fr.new n5),M (n4.fr.new n5) ⟨_,_,_,hs,(Lo (Fr.refl _ _) n4 n5).1⟩⟩⟩,
  aC.intro λh4 n4=>⟨C1 n4.fr,C2 n4.fr,C3 n4.fr,M n4.fr ⟨_,_,_,hs,aC.intro λh5 n5=>⟨C1 (n4.fr.new n5),C2 (n4.fr.new n5),C3 (n4.fr.new n5),(Lo (Fr.refl _ _) n4 n5).2⟩⟩,
   aC.intro λh5 n5=>⟨C1 (n4.fr.new n5),C2 (n4.fr.new n5),C3 (n4.fr.new n5),M (n4.fr.new n5) ⟨_,_,_,hs,(Lo (Fr.refl _ _) n4 n5).2⟩⟩⟩⟩
theorem tl{c:Bool}{A B:Prop}(b:B)(a:c=true->B->A):bif c then A else B:=by
 cases c with
 | false=>exact b
 | true=>exact a rfl b
theorem fp{T:TM}{bs:cC}(x:Tx h F t d T)(B:av h a l bs)(hl:l<=140737488355328)(ha:∀ p,a=some p->¬ F p.block)(hu:T.aD.length<1000000000)
  (hK:∀h' F',Fr F h h'->Gw h F h' F'->Tx h' F' t d (T.write i bs).1->K (vI (T.write i bs).2) h'):C.aX t i a l c h K:=by
 have rM:=B.1;have bV:=λb hb=>x.lt (b:=b) hb
 rcases x with⟨ao,r,rfl,X,hF⟩|⟨ao,tb,rfl,X,hF⟩
 rotate_left
 ·refine JJ (m1:=none) (W:=[]) (sA:=none) (sL:=0) (sC:=0) (λhq f=>aZ ((f.rd X.own.lt λx=>x).trans X.cell) rfl) (λhq K' _ k=>k) rfl λh2 h7 wb ob _ f7 w1 o1 w2 o2 _ r1 _ _ _=>?_;have e0:T.write i bs=(T,61):=by unfold TM.write;rw[X.over,if_pos rfl]
  rw[e0]at hK;have X7:=X.keep f7 λ_ _ _ _ x=>x;refine⟨_,dC r1 rfl,os ⟨_,aZ X7.cell rfl,ct rfl ?_⟩⟩;exact hK h7 F (f7.mono λ_ _ x=>x.elim) (Gw.refl f7.size bV) (.inr ⟨ao,tb,rfl,X7,hF⟩)
 ·have T9:dx T.put i=(dx r.ps i).map (·.2):=by rw[X.put];exact BZ (λx:Sc×cC=>x.2) i r.ps
  have Lp:T.put.length=r.ps.length:=by rw[X.put,aP]
  have eul:T.aD.length=r.us.length:=by rw[X.aD,aP]
  obtain⟨sA,sL,sC,esl⟩:∃(sA:OA) (sL:Nat) (sC:Nat),aen (dx r.ps i) = vS sA sL sC:=by
   cases dx r.ps i with
   | none=>exact⟨_,_,_,rfl⟩
   | some x=>exact⟨_,_,_,rfl⟩
  have esl2:Option.getD (nD (mm (λx:Sc×cC=>x.1.v) r.ps) (.i i)) (zeroV EK) = vS sA sL sC:=by
   rw[B7,<-esl]
   cases dx r.ps i <;> rfl
  refine JJ (m1:=some r.mb) (W:=mm (λx=>x.1.v) r.ps) (λhq f=>aZ ((f.rd X.own.lt λx=>x).trans X.cell) rfl) (λhq K' f k=>⟨_,xn X.map f λx=>x,k⟩) esl2 λh2 h8 wb ob s2 f w1 o1 w2 o2 fP r1 r2 rw' ro=>?_;have eis:(nD (mm (λx:Sc×cC=>x.1.v) r.ps) (.i i)).isSome=(dx r.ps i).isSome:=by rw[B7];cases dx r.ps i <;> rfl
  rw[eis]at ro;have X8:PD h8 ao d r T:=X.keep f (Ag.refl _ _) (λb hb=>X.wA b (by have:=f.size;omega)) (λb hb y=>by rw[X.wA b hb]at y;omega) λ_ _ _ _ x=>x
  have refuse:∀e h9,h9=h8->T.write i bs=(T,e)->K (vI e) h9:=λe h9 e9 e0=>by
   subst e9;rw[e0]at hK;exact hK h9 F (f.mono λ_ _ x=>x.elim) (Gw.refl f.size bV) (.inl ⟨ao,r,rfl,X8,hF⟩)
  have live:=X.live;have fs:=f.size;have tbl:=X.own.lt;have mbl:=map_lt X.map;have ctb:=X.sc;have cmb:=X.mc;rw[<-s2]at r2;refine⟨_,dC r1 rfl,os ⟨_,aZ X8.cell rfl,cf rfl ⟨_,dC r2 rfl,cd (λhn=>refuse 31 h8 rfl ?_) λh98=>⟨_,dC r2 rfl,_,dC r1 rfl,os ⟨_,aZ X8.cell rfl,X8.dk.blocks ⟨_,rfl,dC r2 rfl,cd (λhn=>refuse 31 h8 rfl ?_) λhN=>cn (λh5=>refuse 32 h8 rfl ?_) λh5=>?_⟩⟩⟩⟩⟩⟩
  ·unfold TM.write;rw[live,if_neg (by simp),if_pos (.inl hn)]
  ·unfold TM.write;rw[live,if_neg (by simp),if_pos (.inr hn)]
  ·unfold TM.write;rw[live,if_neg (by simp),if_neg (by rintro(x|x);exact h98 x;exact hN x),if_pos oX]
  have θ:¬(i<98∨i>=T.N):=by rintro(x|x);exact h98 x;exact hN x
  have h5':bs.length=512:=oX;refine os ⟨_,dC ro rfl,?_⟩
  by_cases ι:dx r.ps i=none/\r.ps.length>=96
  ·refine ct (by rw[ι.1];rfl) ⟨_,dC r1 rfl,os ⟨_,aZ X8.cell rfl,_,X8.map,?_⟩⟩;dsimp only;rw[zv];refine ct (decide_eq_true oX) (refuse 60 h8 rfl ?_);unfold TM.write;rw[live,if_neg (by simp),if_neg θ,if_neg oX,if_pos ⟨by rw[T9,ι.1];rfl,oX⟩]
  have e0:T.write i bs=({ T with put:=jL T.put i bs,aD:=T.aD++[(i,dx T.put i)] },0):=by
   unfold TM.write;rw[live,if_neg (by simp),if_neg θ,if_neg oX,if_neg];rw[T9,Lp];rintro⟨x1,x2⟩;refine ι ⟨?_,x2⟩
   cases e:dx r.ps i with
   | none=>rfl
   | some y=>rw[e]at x1;cases x1
  rw[e0]at hK;refine tl ?_ λho go=>?_
  rotate_left
  ·have VR:dx r.ps i=none:=by
    cases e:dx r.ps i with
    | none=>rfl
    | some x=>rw[e]at ho;cases ho
   refine⟨_,dC r1 rfl,os ⟨_,aZ X8.cell rfl,_,X8.map,?_⟩⟩;dsimp only;rw[zv];exact cf (decide_eq_false λhx=>ι ⟨VR,oX⟩) go
  -- the put
  have k1:∀{b:Nat},b<h.size->ao b≠3->¬On ao 3 b:=λ_ hb x=>hb x;refine⟨_,dC r1 rfl,_,dC r1 rfl,os ⟨_,_,_,aZ X8.cell rfl,aC.intro λbG n10=>?_⟩⟩;have Pu:=n10.size;have RJ:PD bG ao d r T:=X8.keep n10.fr (Ag.refl _ _) (λb hb=>X.wA b oX) (λb hb y=>by rw[X.wA b oX]at y;omega) λ_ _ _ _ x=>x;have r1':=(n10.at_ (show h.size<h8.size by omega)).trans r1;have r2':=(n10.at_ (show h2.size<h8.size by omega)).trans r2;refine⟨dC r1' rfl,dC r1' rfl,aZ RJ.cell rfl,_,rfl,ah n10.rd,by intro v hv;rw[kU.mp hv];rfl,?_⟩;refine cY RJ.un rfl rfl (by show(r.us.length+1)*_<=_;have b16:ti1.bytes<=16:=dX;have:=WA (show r.us.length+1<=1000000001 from oX) b16;exact k9 this dX) oX λa' c' cu f11 E2=>?_;have Ua:=f11.size;have nz:∀b,h.size<=b->¬On ao 3 b:=λb hb x=>by have x:ao b=3:=x;rw[X.wA b hb]at x;omega
  have nt:¬On ao 3 r.tb:=λx=>by have x:ao r.tb=3:=x;omega
  have nm:¬On ao 3 r.mb:=λx=>by have x:ao r.mb=3:=x;omega
  have g1:rd cu h.size=[vP (some ⟨r.tb,0,none⟩)]:=(f11.rd oX (nz _ (bE _))).trans r1';have g2:rd cu h2.size=[vI i]:=(f11.rd oX (nz _ oX)).trans r2';have gt:=(f11.rd RJ.own.lt nt).trans RJ.cell;have gw:rd cu wb=[aen (dx r.ps i)]:=by rw[esl];exact(f11.rd oX (nz _ oX)).trans ((n10.at_ w2).trans rw')
  have go':rd cu ob=[.bool (dx r.ps i).isSome]:=(f11.rd oX (nz _ oX)).trans ((n10.at_ o2).trans ro);refine⟨dC g1 rfl,os (bD.add (f11.own RJ.own.lt nt RJ.own) (by rw[gt];show 0+2<4;omega) λbf d12=>?_)⟩;have H5:=d12.size;have g1:rd bf h.size=[vP (some ⟨r.tb,0,none⟩)]:=(d12.at_).trans g1;have g2:rd bf h2.size=[vI i]:=(d12.at_).trans g2;have gw:=(d12.at_ (show wb<cu.size by omega) oX).trans gw;have go':=(d12.at_ (show ob<cu.size by omega) oX).trans go';have gt:rd bf r.tb=[vP d,.map (some r.mb),vS a' (r.us.length+1) c',.bool false]:=d12.rd.trans (by rw[gt];rfl);have nF:∀p,a=some p->¬F p.block:=ha;have κ:av bf a l bs:=av.fr d12.fr (av.fr f11 (av.fr n10.fr (av.fr f B λ_ _ x=>x) λ_ _ x=>x) λq e y=>ha q e ((hF _).mpr (by have y:ao q.block=3:=y;omega))) λq e y=>ha q e ((hF _).mpr (by rw[y];omega));refine⟨_,dC g1 rfl,os ⟨_,aZ gt rfl,_,dC g2 rfl,JI κ hl λaq cq bQ f13 Vo=>?_⟩⟩;have Vp:=f13.size;have g1:rd bQ h.size=[vP (some ⟨r.tb,0,none⟩)]:=(f13.rd oX λx=>x).trans g1;have g2:rd bQ h2.size=[vI i]:=(f13.rd oX λx=>x).trans g2;have gw:=(f13.rd (show wb<bf.size by omega) λx=>x).trans gw;have go':=(f13.rd (show ob<bf.size by omega) λx=>x).trans go';have gt:=(f13.rd oX λx=>x).trans gt;have ot:=f13.own d12.own.lt (λx=>x) d12.own;have hmt:r.mb≠r.tb:=λe=>by rw[e]at cmb;omega
  have m13:nK DI bQ r.mb (mm (λx=>x.1.v) r.ps):=xn (xn (xn RJ.map f11 nm) d12.fr hmt) f13 λx=>x;refine⟨_,_,_,rfl,dC g1 rfl,aZ gt rfl,dC g2 rfl,os ⟨_,m13,λcX t14=>?_⟩⟩;have f14:=uK t14;have WI:=t14.size;have m14:=t14.at_;rw[show vS aq l cq=(λx:Sc×cC=>x.1.v) (⟨aq,l,cq⟩,bs) from rfl,Ln]at m14
  have G:Fr (λb=>ao b=3∨b=r.tb∨b=r.mb) h cX:=
   ((((((f.new n10).mono (G:=λb=>ao b=3∨b=r.tb∨b=r.mb) λ_ _ x=>x.elim).trans f11 λb _ x=>Or.inl x).did d12 λ_=>Or.inr (Or.inl rfl)).no f13).trans f14 λb _ x=>Or.inr (Or.inr x))
  -- the ν
  have ub:∀p,a'=some p->(ao p.block=3∨bG.size<=p.block)/\p.block<cu.size:=by
   rintro p rfl;exact⟨E2.2.2.1,E2.lt⟩
  have qb:∀p,aq=some p->bf.size<=p.block/\p.block<bQ.size:=by
   rintro p rfl;exact⟨Vo.2.2.1,Vo.lt⟩
  obtain⟨aB,ag,cz,c4,c3,cq4,c5⟩:∃aB:Nat->Nat,Ag h.size ao aB/\(∀b,cX.size<=b->aB b=0)/\(∀b,b=h.size∨b=h2.size∨b=wb∨b=ob->aB b=4)/\(∀p,a'=some p->aB p.block=3)/\(∀p,aq=some p->aB p.block=4)/\(∀b,h.size<=b->aB b=0∨aB b=3∨aB b=4):=by
   refine⟨λb=>if b<h.size then ao b else if b=h.size∨b=h2.size∨b=wb∨b=ob then 4 else if a'.map (·.block)=some b then 3 else if aq.map (·.block)=some b then 4 else 0,λb hb=>if_pos hb,λb hb=>?_,λb hb=>?_,λp e=>?_,λp e=>?_,λb hb=>?_⟩
   ·show(if _ then _ else if _ then _ else if _ then _ else if _ then _ else _)=_;rw[if_neg oX,if_neg oX,if_neg,if_neg]
    ·intro e
     cases haq:aq with
     | none=>rw[haq]at e;cases e
     | some p=>rw[haq]at e;have:=(qb p haq).2;have e:p.block=b:=Option.some.inj e;omega
    ·intro e
     cases haq:a' with
     | none=>rw[haq]at e;cases e
     | some p=>rw[haq]at e;have:=(ub p haq).2;have e:p.block=b:=Option.some.inj e;omega
   ·show(if _ then _ else if _ then _ else if _ then _ else if _ then _ else _)=_;rw[if_neg oX,if_pos hb]
   ·show(if _ then _ else if _ then _ else if _ then _ else if _ then _ else _)=_;have:=ub p e
    rcases rI p.block h.size with h1|h1
    ·rw[if_pos h1]
     rcases this.1 with h3|h3
     ·exact h3
     ·omega
    ·have h3:bG.size<=p.block:=by
      rcases this.1 with h3|h3
      ·rw[X.wA _ h1]at h3;omega
      ·exact h3
     rw[if_neg oX,if_neg oX,if_pos (by rw[e];rfl)]
   ·show(if _ then _ else if _ then _ else if _ then _ else if _ then _ else _)=_;have:=qb p e;rw[if_neg oX,if_neg oX,if_neg,if_pos (by rw[e];rfl)];intro e2
    cases ha':a' with
    | none=>rw[ha']at e2;cases e2
    | some q=>rw[ha']at e2;have:=(ub q ha').2;have e2:q.block=p.block:=Option.some.inj e2;omega
   ·show(if _ then _ else if _ then _ else if _ then _ else if _ then _ else _)=0∨(if _ then _ else if _ then _ else if _ then _ else if _ then _ else _)=3∨(if _ then _ else if _ then _ else if _ then _ else if _ then _ else _)=4;rw[if_neg oX]
    split
    ·exact .inr (.inr rfl)
    ·split
     ·exact .inr (.inl rfl)
     ·split
      ·exact .inr (.inr rfl)
      ·exact .inl rfl
  have k4:∀b,b<h.size->ao b=4->¬(ao b=3∨b=r.tb∨b=r.mb):=by
   rintro b _ e (x|x|x)
   ·omega
   ·rw[x]at e;omega
   ·rw[x]at e;omega
  have hF':Gw h F cX (λb=>1<=aB b/\aB b<=5):=⟨λb hb=>by rw[hF b,ag b hb],λb hb=>by
   rcases rI b cX.size with h1|h1
   ·exact h1
   ·have hb:1<=aB b/\aB b<=5:=hb
    rw[cz b h1]at hb;omega⟩
  refine hK cX (λb=>1<=aB b/\aB b<=5) (G.mono λb _ x=>(hF b).mpr ?_) hF' (.inl ⟨aB,⟨r.tb,r.mb,a',c',jL r.ps i (⟨aq,l,cq⟩,bs),r.us++[⟨i,dx r.ps i,ob,wb,h.size,h2.size⟩]⟩,rfl,⟨cz,(ag _ tbl).trans ctb,?_,?_,(ag _ mbl).trans cmb,m14,?_,λp hp=>?_,λu hu=>?_,?_,?_,live,?_,λp hp=>?_,λu hu=>?_⟩,λb=>yC⟩)
  ·rcases x with x|rfl|rfl <;> omega
  ·exact f14.own ot.lt (λx=>hmt x.symm) ot
  ·rw[bg,ik];exact(f14.rd ot.lt λx=>hmt x.symm).trans gt
  ·rw[bg,ik,eT];have u14:=((E2.fr d12.fr λb hb x e=>?_).fr f13 λ_ _ _ x=>x).fr f14 λb hb x e=>?_
   ·obtain⟨y1,y2⟩:=u14;refine⟨y1,?_⟩
    revert y2 c3
    cases a' with
    | none=>intro _ y2;exact y2
    | some p=>intro c3 y2;obtain⟨v1,v2,v3⟩:=y2;exact⟨v1,c3 p rfl,v3⟩
   ·rw[e]at x
    rcases x with x|x
    ·have x:ao r.tb=3:=x;omega
    ·omega
   ·have e:b=r.mb:=e;rw[e]at x
    rcases x with x|x
    ·have x:ao r.mb=3:=x;omega
    ·omega
  ·rcases yF hp with rfl|hp
   ·refine⟨av.fr f14 ?_ ?_,h5',λp e=>⟨by have:=(qb p e).2;omega,cq4 p e⟩⟩
    ·refine⟨rM,?_⟩;exact Vo.cells
    ·intro p e x;have:=(qb p e).1;have x:p.block=r.mb:=x;omega
   ·exact(X.pok p hp).keep G ag k4
  ·rcases nB.mp hu with hu|hu
   ·exact(X.uok u hu).keep G ag k4
   ·rw[kU.mp hu];have fr:∀b,h.size<=b->b<bQ.size->rd cX b=rd bQ b:=λb hb OL=>f14.rd OL λe=>by have e:b=r.mb:=e;omega
    refine⟨(fr ob oX oX).trans go',(fr wb oX oX).trans gw,(fr h.size oX oX).trans g1,(fr h2.size oX oX).trans g2,λb hb=>⟨?_,c4 b ?_⟩,λy ey=>?_⟩
    ·have hb:b=ob∨b=wb∨b=h.size∨b=h2.size:=hb;omega
    ·rcases hb with rfl|rfl|rfl|rfl
     ·exact .inr (.inr (.inr rfl))
     ·exact .inr (.inr (.inl rfl))
     ·exact .inl rfl
     ·exact .inr (.inl rfl)
    ·exact(X.pok _ (wz ey)).keep G ag k4
  ·show jL T.put i bs=_;rw[X.put];exact GH (λx:Sc×cC=>x.2) i (⟨aq,l,cq⟩,bs) r.ps
  ·show T.aD++[(i,dx T.put i)]=_;rw[X.aD,T9,eT];rfl
  ·refine(X.dk.fr G λb hb=>?_).iff λb=>?_
   ·have hb:ao b=5:=hb;rintro(x|x|x)
    ·omega
    ·rw[x]at hb;omega
    ·rw[x]at hb;omega
   ·show aB b=5↔ao b=5
    rcases rI b h.size with h1|h1
    ·rw[ag b h1]
    ·have:=c5 b h1;have:=X.wA b h1;omega
  ·rcases yF hp with rfl|hp
   ·exact⟨oX,by have:¬i>=(T.N:Int):=λy=>θ (.inr y);show i<(T.N:Int);omega⟩
   ·exact X.pk p hp
  ·rcases nB.mp hu with hu|hu
   ·exact X.ui u hu
   ·rw[kU.mp hu];exact⟨by show 98<=i;omega,by have:¬i>=(T.N:Int):=λy=>θ (.inr y);show i<(T.N:Int);omega⟩
def B9(m:List (Int×(Sc×cC)))(u:UR):List (Int×(Sc×cC)):=match u.Vn with
 | some x=>jL m u.i x
 | none=>A0 m u.i
theorem Ub(m:List (Int×(Sc×cC)))(u:UR):((B9 m u).map λp=>(p.1,p.2.2))=rO (m.map λp=>(p.1,p.2.2)) (u.i,u.Vn.map (·.2)):=by
 unfold B9 rO
 cases u.Vn with
 | none=>exact(M7 (λx:Sc×cC=>x.2) u.i m).symm
 | some x=>exact(GH (λx:Sc×cC=>x.2) u.i x m).symm
theorem Lq(m:List (Int×cC))(us:List (Int×Option cC)){k:Nat}(hk:k<us.length):dN m (us.drop k)=rO (dN m (us.drop (k+1))) us[k]:=by
 rw[lh hk];rfl
theorem PD.abK{r:TR}{T:TM}(x:PD h ao d r T){ξ:List (Int×(Sc×cC))}{aeq:List (Int×cC)}(m:MapTo DI h r.mb (mm (λx=>x.1.v) ξ) h')(hp:∀ p ∈ ξ,p ∈ r.ps∨Blk h ao 4 p.2)(e:aeq=ξ.map λp=>(p.1,p.2.2))(hk:∀ p ∈ aeq,98<=p.1/\p.1<T.N) :
  PD h' ao d { r with ps:=ξ } { T with put:=aeq }:=by
 have f:=uK m;have s1:=x.sc;have s2:=x.mc;have hmt:r.tb≠r.mb:=λe=>by rw[e]at s1;omega
 have k4:∀b,b<h.size->ao b=4->¬b=r.mb:=λb _ e e2=>by rw[e2]at e;omega
 have hs:=m.size;refine⟨λb hb=>x.wA b oX,s1,f.own x.own.lt hmt x.own,(f.rd x.own.lt hmt).trans x.cell,s2,m.at_,x.un.fr f λb _ hb e=>?_,λp uY=>?_,λu hu=>(x.uok u hu).keep f (Ag.refl _ _) k4,e,x.aD,x.live,x.dk.fr f λb hb e=>?_,hk,x.ui⟩
 ·have hb:ao b=3:=hb;have e:b=r.mb:=e;rw[e]at hb;omega
 ·rcases hp p uY with h1|h1
  ·exact(x.pok p h1).keep f (Ag.refl _ _) k4
  ·exact h1.keep f (Ag.refl _ _) k4
 ·have hb:ao b=5:=hb;have e:b=r.mb:=e;rw[e]at hb;omega
theorem Uc{r:TR}{T:TM}{u:UR}(x:PD h ao d r T)(hu:u ∈ r.us)
  (hK:∀h',Fr (λb=>b=r.mb) h h'->PD h' ao d { r with ps:=B9 r.ps u } { T with put:=rO T.put (u.i,u.Vn.map (·.2)) }->K (.tuple #[]) h'):gJ Tryz.prog u.v [] h K:=by
 have U:=x.uok u hu;show C.kx (some ⟨u.ok,0,none⟩) (some ⟨u.w,0,none⟩) (some ⟨u.tc,0,none⟩) (some ⟨u.ic,0,none⟩) h K;refine kx.ok (os ⟨_,dC U.ok rfl,?_⟩)
 have hk:∀p∈rO T.put (u.i,u.Vn.map (·.2)),98<=p.1/\p.1<T.N:=by
  intro p hp;unfold rO at hp
  split at hp
  ·rcases yF hp with rfl|hp
   ·exact x.ui u hu
   ·exact x.pk p hp
  ·exact x.pk p (GG hp)
 have ew:rO T.put (u.i,u.Vn.map (·.2))=(B9 r.ps u).map λp=>(p.1,p.2.2):=by rw[Ub,x.put]
 cases e:u.Vn with
 | none=>
  refine cf rfl (os ⟨_,dC U.tc rfl,os ⟨_,aZ x.cell rfl,os ⟨_,dC U.ic rfl,_,x.map,λh3 t3=>?_⟩⟩⟩);have t3:=t3.toMapTo;rw[RI]at t3;have er:B9 r.ps u=A0 r.ps u.i:=by unfold B9;rw[e]
  rw[er]at hK ew;exact hK h3 (uK t3) (x.abK t3 (λp hp=>.inl (GG hp)) ew hk)
 | some y=>
  have hw:rd h u.w=[y.1.v]:=by rw[U.w,e];rfl
  refine ct rfl (os ⟨_,dC U.tc rfl,os ⟨_,aZ x.cell rfl,os ⟨_,dC U.ic rfl,os ⟨_,_,_,dC hw rfl,os ⟨_,x.map,λh2 t2=>?_⟩⟩⟩⟩⟩);rw[show vS y.1.a y.1.l y.1.c=(λx:Sc×cC=>x.1.v) y from rfl,Ln]at t2;have er:B9 r.ps u=jL r.ps u.i y:=by unfold B9;rw[e]
  rw[er]at hK ew;refine hK h2 (uK t2) (x.abK t2 (λp hp=>?_) ew hk)
  rcases yF hp with rfl|hp
  ·exact .inr (U.b y e)
  ·exact .inl hp
theorem sF{T:TM}{mark:Int}(x:Tx h F t d T)(hu:T.aD.length<1000000000)
  (hK:∀h',Fr F h h'->Tx h' F t d (T.back mark).1->K (vI (T.back mark).2) h'):C.fS t mark h K:=by
 rcases x with⟨ao,r,rfl,X,hF⟩|⟨ao,tb,rfl,X,hF⟩
 rotate_left
 ·refine fS.ok (os ⟨_,aZ X.cell rfl,ct rfl ?_⟩);have e0:T.back mark=(T,61):=by unfold TM.back;rw[X.over,if_pos rfl]
  rw[e0]at hK;exact hK h (Fr.refl _ _) (.inr ⟨ao,tb,rfl,X,hF⟩)
 ·have eul:T.aD.length=r.us.length:=by rw[X.aD,aP]
  have live:=X.live;refine fS.ok (os ⟨_,aZ X.cell rfl,cf rfl (cd (λhn=>?_) λh0=>os ⟨_,_,_,aZ X.cell rfl,cd (λhn=>?_) λh1=>?_⟩)⟩)
  ·have e0:T.back mark=(T,62):=(by unfold TM.back;rw[live,if_neg (by simp),if_pos (.inl hn)]);rw[e0]at hK;exact hK h (Fr.refl _ _) (.inl ⟨ao,r,rfl,X,hF⟩)
  ·have e0:T.back mark=(T,62):=(by unfold TM.back;rw[live,if_neg (by simp),if_pos (.inr oX)]);rw[e0]at hK;exact hK h (Fr.refl _ _) (.inl ⟨ao,r,rfl,X,hF⟩)
  have e0:T.back mark=({ T with put:=dN T.put (T.aD.drop mark.toNat),aD:=T.aD.take mark.toNat },0):=by unfold TM.back;rw[live,if_neg (by simp),if_neg oX]
  rw[e0]at hK;unfold fS.k1;refine os ⟨_,_,_,aZ X.cell rfl,?_⟩;rw[wq ((r.us.length:Int)-1)]
  refine⟨λk hh=>mark-1<=k/\k<r.us.length/\Fr (λb=>b=r.mb) h hh/\∃ξ,PD hh ao d { r with ps:=ξ } { T with put:=dN T.put (T.aD.drop (k+1).toNat) },λk _=>(k+1).toNat,
   ⟨oX,oX,Fr.refl _ _,r.ps,?_⟩,?_⟩
  ·rw[show((r.us.length:Int)-1+1).toNat=T.aD.length by omega,List.drop_length];exact X
  rintro k h2 ⟨k0,k1,f2,ξ,X2⟩;refine cd (λhk=>?_) λhk=>?_
  ·have wO:k.toNat<r.us.length:=oX;have X2c:rd h2 r.tb=[vP d,.map (some r.mb),vS r.ua r.us.length r.uc,.bool false]:=X2.cell;obtain⟨p,ep,cc⟩:=X2.un.get (by show 0<r.us.length;omega);have ep:r.ua=some p:=ep;have cc:ai h2 p (r.us.map UR.v):=cc;have cv:cellOf h2 (p.add k.toNat)=some (UR.v r.us[k.toNat]):=ai.cell cc (by rw[jH,fg wO];rfl);refine os ⟨_,_,_,aZ X2c rfl,⟨oX,oX⟩,oe ep ⟨_,cv,?_⟩⟩;refine Uc X2 (ff wO) λh3 f3 X3=>⟨rfl,?_,?_⟩
   ·rw[wq (k-1)];refine⟨oX,oX,f2.trans f3 λb _ e=>e,B9 ξ r.us[k.toNat],?_⟩;have hd:k.toNat<T.aD.length:=oX;have eu:T.aD[k.toNat]=(r.us[k.toNat].i,r.us[k.toNat].Vn.map (·.2)):=(by simp only[X.aD,mu]);rw[show(k-1+1).toNat=k.toNat by omega,Lq T.put T.aD hd,eu,show k.toNat+1=(k+1).toNat by omega];exact X3
   ·show(wI (k-1)+1).toNat<(k+1).toNat;rw[wq (k-1)];omega
  ·have X2c:rd h2 r.tb=[vP d,.map (some r.mb),vS r.ua r.us.length r.uc,.bool false]:=X2.cell;have cap:r.us.length<=r.uc:=X2.un.le;have ek:(k+1).toNat=mark.toNat:=oX;rw[ek]at X2;have s1:=X2.sc;have s2:=X2.mc;have s1:ao r.tb=1:=s1;have s2:ao r.mb=2:=s2;refine os ⟨_,_,_,aZ X2c rfl,⟨oX,oX⟩,os (bD.add X2.own (by rw[show rd h2 _=_ from X2c];show 0+2<4;omega) λh4 d4=>?_)⟩;have s4:=d4.size;have k4:∀b,b<h2.size->ao b=4->¬b=r.tb:=λb _ e e2=>by rw[e2]at e;omega
   have hml:r.mb<h2.size:=map_lt X2.map;have htk:(r.us.take mark.toNat).length=mark.toNat:=(by rw[dL];omega);refine hK h4 ((f2.mono λb _ e=>(hF b).mpr (by have e:b=r.mb:=e;rw[e];omega)).did d4 λ_=>(hF _).mpr (by show 1<=ao r.tb/\ao r.tb<=5;omega)) (.inl ⟨ao,{ r with ps:=ξ,us:=r.us.take mark.toNat },rfl,⟨λb hb=>X2.wA b oX,s1,d4.own,?_,s2,xn X2.map d4.fr λe=>?_,?_,λp hp=>(X2.pok p hp).keep d4.fr (Ag.refl _ _) k4,λu hu=>(X2.uok u (Jk hu)).keep d4.fr (Ag.refl _ _) k4,X2.put,?_,live,X2.dk.fr d4.fr λb hb e=>?_,X2.pk,λu hu=>X2.ui u (Jk hu)⟩,hF⟩)
   ·rw[d4.rd,show rd h2 _=_ from X2c];show _=([vP d,.map (some r.mb),vS r.ua (r.us.take mark.toNat).length r.uc,.bool false]:LV);rw[htk];rfl
   ·have e:r.mb=r.tb:=e;rw[e]at s2;omega
   ·show Sl h4 1 r.ua (r.us.take mark.toNat).length r.uc ((r.us.take mark.toNat).map UR.v) (On ao 3);rw[htk,WC];exact η (X2.un.fr d4.fr λb _ hb e=>by have hb:ao b=3:=hb;have e:b=r.tb:=e;rw[e]at hb;omega) (by show mark.toNat<=r.us.length;omega)
   ·show T.aD.take mark.toNat=(r.us.take mark.toNat).map _;rw[X.aD,WC]
   ·have hb:ao b=5:=hb;have e:b=r.tb:=e;rw[e]at hb;omega
end Tm
namespace Spc
open Hp W Ad Tm
theorem Ca{i:Int}:∀(ps:List (Int×LB)) (b:LB),b.length=512->(∀p∈ps,p.2.length=512)->(jK b i ps).length=512
 | [],b,h,_=>h
 | p::r,b,h,hp=>by
  show(jK (if p.1=i then p.2 else b) i r).length=512;refine Ca r _ ?_ λq hq=>hp q (gV _ hq)
  split
  ·exact hp p (kj ..)
  ·exact h
theorem dD.lv{D:NP}{S:RD}(a:dD h D d S){i:Nat}(hi:i<S.aE.length):(nI S i).length=512:=by
 obtain⟨ao,⟨b,r,es,_,P⟩,_⟩:=a;refine Ca _ _ ?_ P.pw;rw[gh,fg hi];exact P.lw _ (ff hi)
theorem Tx.aer{T:TM}(x:Tx h F t d T):∀p∈T.put,p.2.length=512:=by
 rcases x with⟨ao,r,_,c,_⟩|⟨ao,tb,_,c,_⟩
 ·intro p hp;rw[c.put]at hp;obtain⟨q,hq,rfl⟩:=jc.mp hp;exact(c.pok q hq).l
 ·intro p hp;rw[c.gone.1]at hp;cases hp
theorem Tx.lv{h:ad}{F:NP}{t d:OA}{T:TM}(x:Tx h F t d T){i:Int}(e:(T.read i).2=0):(T.read i).1.length=512:=by
 obtain⟨D,dk,_⟩:=x.dk;unfold TM.read at e ⊢
 split at e
 ·cases e
 ·rename_i h1;rw[if_neg h1]
  split at e
  ·cases e
  ·rename_i h2;rw[if_neg h2]
   cases eg:dx T.put i with
   | some b=>rw[TM.get_some eg];exact Tx.aer x _ (wz eg)
   | none=>
    rw[TM.get_none eg]at e ⊢
    split at e
    ·cases e
    ·rename_i h3;rw[if_neg h3];exact dD.lv dk (by have:T.N=T.cB.aE.length:=rfl;omega)
theorem TM.Cb{T:TM}{bs:cC}(e:(T.write i bs).2=0):T.over=false/\98<=i/\i<T.N/\bs.length=512/\¬(dx T.put i=none/\T.put.length>=96)/\(T.write i bs).1={ T with put:=jL T.put i bs,aD:=T.aD++[(i,dx T.put i)] }:=by
 unfold TM.write at e ⊢
 split at e
 ·cases e
 ·rename_i h1
  split at e
  ·cases e
  ·rename_i h2
   split at e
   ·cases e
   ·rename_i h3
    split at e
    ·cases e
    ·rename_i h4;rw[if_neg h1,if_neg h2,if_neg h3,if_neg h4];exact⟨by cases ho:T.over <;> simp_all,oX,oX,oX,h4,rfl⟩
theorem TM.zy{T:TM}{bs:cC}(e:(T.write i bs).2≠0):(T.write i bs).1=T:=by
 unfold TM.write at e ⊢
 split
 ·rfl
 ·split
  ·rfl
  ·split
   ·rfl
   ·split
    ·rfl
    ·rename_i h1 h2 h3 h4;rw[if_neg h1,if_neg h2,if_neg h3,if_neg h4]at e;exact absurd rfl e
theorem TM.Lr{T:TM}(e:(T.read i).2=0):T.over=false:=by
 unfold TM.read at e
 split at e
 ·cases e
 ·rename_i h;cases ho:T.over <;> simp_all
theorem JK{α:Type}(i:Int)(v:α):∀m:List (Int×α),(jL m i v).map (·.1)=if dx m i=none then m.map (·.1)++[i]else m.map (·.1)
 | []=>rfl
 | (k,u)::r=>by
  have ih:=JK i v r
  show(bif i==k then(i,v)::r else(k,u)::jL r i v).map (·.1)=if(bif i==k then some u else dx r i)=none then _ else _
  by_cases e:i=k
  ·subst e;rw[beq_self_eq_true];rfl
  ·rw[beq_eq_false_iff_ne.mpr e]
   show k::(jL r i v).map (·.1)=if dx r i=none then _ else _
   rw[ih]
   split <;> rfl
end Spc
namespace Ad
open Hp W
theorem Ud{S:RD}(D:jq h d S ao m)
  (hK:K (.bool S.down) h):C.iD d h K:=by
 obtain⟨b,r,es,rfl,D⟩:=D;refine iD.ok ⟨_,D.field 4,?_⟩;rw[D.down];exact hK
theorem A2{S:RD}(D:jq h d S ao m)
  (hK:∀a c h',Fr No h h'->Sl h' 1 a (S.aE.length*512) c (S.aE.flatten.map bv) (cW h.size)->K (vS a (S.aE.length*512) c) h'):C.gy d h K:=by
 obtain⟨b,r,es,rfl,D⟩:=D;have hm:=D.Dj;have hw:wI ((r.ln:Int)*512)=((S.aE.length*512:Nat):Int):=by rw[D.ln];exact wq _
 refine gy.ok ⟨_,_,_,D.field 0,?_⟩;rw[hw];refine⟨oX,aC.intro λh2 n2=>?_⟩;have D2:=D.rN n2.fr (Ag.refl _ _) (λ_ _ _ x=>x);refine⟨_,_,_,D2.field 0,?_⟩
 refine⟨λa l c n hh=>0<=n/\n<=S.aE.length/\l=n.toNat*512/\Fr No h hh/\Sl hh 1 a l c ((S.aE.take n.toNat).flatten.map bv) (cW h.size),λ_ _ _ n _=>(S.aE.length-n).toNat,
  ⟨oX,oX,rfl,n2.fr,Sl.made n2 (tP _).symm (bE _) rfl oX (by rw[kY];exact BU _ _▸by rfl)⟩,?_⟩
 rintro a l c n h3 ⟨n0,n1,hl,f3,s3⟩;have D3:=D.rN f3 (Ag.refl _ _) (λ_ _ _ x=>x);rw[D.ln];refine cd (λhn=>?_) λhn=>?_
 rotate_left
 ·have e:n.toNat=S.aE.length:=oX;rw[hl,e];rw[hl,e,mZ]at s3;exact hK _ _ _ f3 s3
 have nE:n.toNat<S.aE.length:=oX;obtain⟨q,e',c'⟩:=D3.JF nE D3.l;refine⟨⟨n0,hn⟩,?_⟩;rw[e'];have hx:=D.lw _ (ff nE);have hlen:=oU hx;refine⟨_,hlen,c',aF.intro hlen (jA _) dU λh5 n5=>?_⟩;refine⟨blk S.aE[n.toNat],hlen,ah n5.rd,jA _,?_⟩;refine cY (s3.fr n5.fr λ_ _ _ x=>x) hlen rfl (by show(l+512)*1<=_;omega) oX λa' c2 h6 f6 s6=>?_;have hw2:wI (n+1)=n+1:=wrap_i64 oX oX;rw[hw2];have hs:=f3.size;have ht:(n+1).toNat=n.toNat+1:=oX;refine⟨⟨oX,oX,oX,?_,?_⟩,bW hn⟩
 ·exact(f3.new n5).trans f6 (λb hb e=>by have:h.size<=b:=e;omega)
 ·rw[ht,WD,fg nE,Option.toList_some,abI,eT,List.flatten_cons,List.flatten_nil,gi];refine s6.mono λb hb=>?_
  rcases hb with hb|hb
  ·exact hb
  ·have:=n5.size;show h.size<=b;omega
def Dk(ao:Nat->Nat)(m:Nat):Nat->Prop:=λb=>m<=ao b/\ao b<=m+5
def dh(ls:List LB)(ps:List (Int×LB)):List LB:=ps.foldl (λl p=>l.set p.1.toNat p.2) ls
def jt(ps:List (Int×LB))(keep:List Bool):List (Int×LB):=((ps.zip keep).filter (·.2)).map (·.1)
def RD.cut(S:RD)(keep:List Bool):RD:={ S with aE:=dh S.aE (jt S.bS keep),bS:=[],keep:=[],left:=0,down:=true }
theorem iq(ps:List (Int×LB)):∀ls,(dh ls ps).length=ls.length:=by
 induction ps with
 | nil=>intro ls;rfl
 | cons p r ih=>intro ls;simp only[dh,List.foldl_cons]at ih ⊢;rw[ih,pL]
theorem M8{ps:List (Int×LB)}{keep:List Bool}{n:Nat}(h1:n<ps.length)(h2:n<keep.length) :
  jt (ps.take (n+1)) (keep.take (n+1))=jt (ps.take n) (keep.take n)++(if keep[n]then[ps[n]]else[]):=by
 rw[eY _ _ h1,eY _ _ h2];simp only[jt];rw[List.zip_append (by rw[dL,dL];omega),List.filter_append,eT];congr 1
 cases keep[n] <;> rfl
theorem PE(ps:List (Int×LB))(keep:List Bool)(n:Nat)(h:n=min ps.length keep.length):jt (ps.take n) (keep.take n)=jt ps keep:=by
 simp only[jt];congr 2;show List.zipWith _ _ _=List.zipWith _ _ _;rw[<-List.take_zipWith,gL (by rw[List.length_zipWith];omega)]
theorem WJ{keep:List Bool}{S:RD}(D:jq h d S ao m)
  (Ue:keep.length=kl) (hk:ak h ka (keep.map .bool)) (hkc:∀p,ka=some p->keep≠[]->ao p.block≠m+1)
  (hK:∀h',Fr (Dk ao m) h h'->jq h' d (S.cut keep) ao m->K (.tuple #[]) h'):C.kJ d ka kl kc h K:=by
 obtain⟨b,r,es,rfl,D⟩:=D;refine kJ.ok ⟨_,_,_,D.field 1,?_⟩;have hN:(if(r.pn:Int)<(kl:Int)then(r.pn:Int)else(kl:Int))=((min S.bS.length keep.length:Nat):Int):=by rw[D.pn,<-Ue];split <;> omega
 rw[hN];have hNdef:min S.bS.length keep.length<=S.bS.length/\min S.bS.length keep.length<=keep.length:=⟨abG _ _,Nat.min_le_right _ _⟩
 refine⟨λn hh=>0<=n/\n<=(min S.bS.length keep.length:Nat)/\Fr (On ao (m+1)) h hh/\qF hh b { S with aE:=dh S.aE (jt (S.bS.take n.toNat) (keep.take n.toNat)) } ao m r es,
  λn _=>((min S.bS.length keep.length:Nat)-n).toNat,⟨oX,oX,Fr.refl _ _,D⟩,?_⟩
 rintro n h2 ⟨n0,n1,f2,D2⟩;refine cd (λhn=>?_) λhn=>?_
 ·have ο:n.toNat<S.bS.length:=oX;have hn2:n.toNat<keep.length:=oX;obtain⟨q,e',c'⟩:=D2.Dl (S:={ S with aE:=dh S.aE (jt (S.bS.take n.toNat) (keep.take n.toNat)) }) ο D2.p;refine⟨_,_,_,D2.field 1,⟨n0,by rw[D.pn];omega⟩,?_⟩;rw[e'];have MY:=D.pw _ (ff ο);have MZ:=wv MY;refine⟨_,MZ,c',aF.intro MZ (zp _) (pA.trans (congrArg (· + 1) dU)) λh4 n4=>⟨⟨n0,oX⟩,?_⟩⟩;have f4:=f2.new n4;have k4:=ak.fr f4 hk (λp hp=>hkc p hp (by rintro rfl;simp at hn2));have D4:=D2.rN n4.fr (Ag.refl _ _) (λ_ _ _ x=>x);have hw2:wI (n+1)=n+1:=wrap_i64 oX (by have:=D.GD;omega);have ht:(n+1).toNat=n.toNat+1:=oX;have H9:=M8 ο hn2
  cases ka with
  | none=>have k4:keep.map Value.bool=[]:=k4;simp at k4;rw[k4]at hn2;simp at hn2
  | some kp=>
   refine os ⟨_,k4 n.toNat _ (by rw[fg (by rw[aP];exact hn2),mu]),?_⟩;rw[hw2];refine cs (λhb=>?_) λhb=>?_
   ·obtain⟨i0,i1⟩:=D.pi _ (ff ο);have hlen:=iq (jt (S.bS.take n.toNat) (keep.take n.toNat)) S.aE;have rM:=oU MY;refine⟨_,_,_,D4.field 0,_,aZ n4.rd rfl,_,rM,pY n4.rd (AY _),⟨i0,by rw[D4.ln];show _<((dh _ _).length:Int);rw[hlen];exact i1⟩,?_⟩;obtain⟨p,e,_⟩:=D4.l.get (by rw[D4.ln];show 0<(dh _ _).length;rw[hlen];omega);rw[e];have L:=D4.l;rw[e]at L;have YJ:=L.mk;rw[YJ]at e L ⊢;obtain⟨w1,w2⟩:=L.wr;have YR:=L.1;rw[bq blk 512 _ (λx hx=>oU (D4.lw x hx))]at YR;have hi:S.bS[n.toNat].1.toNat<(dh S.aE (jt (S.bS.take n.toNat) (keep.take n.toNat))).length:=by rw[hlen];omega
    have hr:S.bS[n.toNat].1.toNat*512+512<=r.ln*512:=by
     have:r.ln=(dh S.aE (jt (S.bS.take n.toNat) (keep.take n.toNat))).length:=D4.ln;rw[this];omega
    refine os (az.add w1 rM (jA _) oX λh5 d5=>⟨⟨oX,oX,?_,?_⟩,bW hn⟩)
    ·exact f4.did d5 (λ_=>L.2.2.1)
    ·have D5:=D4.Lm hi MY e d5;rw[ht,H9,if_pos hb,dh,vh];exact D5
   ·refine⟨⟨oX,oX,f4,?_⟩,bW hn⟩;rw[ht,H9,if_neg (by rw[hb];exact Ee),gi];exact D4
 ·have e:n.toNat=min S.bS.length keep.length:=oX;rw[e,PE _ _ _ rfl]at D2;have hsb:ao b=m:=D.sc;have dk:b<h.size->Dk ao m b:=λ_=>⟨oX,oX⟩;have F2:Fr (Dk ao m) h h2:=f2.mono λx _ hx=>by have hx:ao x=m+1:=hx;exact⟨oX,oX⟩
  have P2:=D2.toParts;refine os (bD.add D2.so (by rw[D2.sr];exact(by decide:0+1<8)) λh6 d6=>?_);rw[D2.sr]at d6
  have P6:Parts h6 { (S.cut keep)with keep:=S.keep,left:=S.left,down:=S.down } ao m { r with pa:=none,pn:=0,pc:=0 } es:=by
   have Q:=P2.keep d6.fr (Ag.refl _ _) (λx h1 _ e=>by rw[e]at h1;omega);exact⟨Q.left,Q.pN,Q.down,Q.writes,Q.ax,Q.l,Q.lw,Q.ln,Q.Dj,Sl.nil _ _ _,(λx hx=>by simp[RD.cut]at hx),rfl,(λx hx=>by simp[RD.cut]at hx),bN _,Q.k,Q.kn,Q.t,Q.tn,Q.Ll,Q.ts⟩
  refine os (bD.add d6.own (by rw[d6.rd];exact(by decide:0+3<8)) λh7 d7=>?_);rw[d6.rd]at d7;refine os (bD.add d7.own (by rw[d7.rd];exact(by decide:0+2<8)) λh8 d8=>?_);rw[d7.rd]at d8;refine os (bD.add d8.own (by rw[d8.rd];exact(by decide:0+4<8)) λh9 d9=>?_);rw[d8.rd]at d9;have hF:∀x,m+1<=ao x->ao x<=m+5->¬(x=b):=λx h1 _ e=>by rw[e]at h1;omega
  have P8:=((P6.keep d7.fr (Ag.refl _ _) hF).keep d8.fr (Ag.refl _ _) hF);refine hK h9 ((((F2.did d6 dk).did d7 dk).did d8 dk).did d9 dk) ⟨b,{ r with pa:=none,pn:=0,pc:=0,ka:=none,kn:=0,kc:=0,left:=0,down:=true },es,rfl,?_⟩;refine qF.re ?_ D.sc d9;exact⟨rfl,⟨Int.le_refl _,(by decide:(0:Int)<=9223372036854775807)⟩,rfl,P8.writes,P8.ax,P8.l,P8.lw,P8.ln,P8.Dj,P8.p,P8.pw,P8.pn,P8.pi,P8.GD,Sl.nil _ _ _,rfl,P8.t,P8.tn,P8.Ll,P8.ts⟩
def RD.step(S:RD)(f:RD->RD):RD×Int:=
 if 0<S.left then(if S.left-1=0 then(RD.cut { S with left:=S.left-1 } S.keep,30)else(f { S with left:=S.left-1 },0))else(f S,0)
theorem sD{v:Value}{K:KT}{S:RD}{f:RD->RD}(D:jq h d S ao m)(hv:IU v=true)
  (hn:y' v=true->∀S',f S'=S')
  (hc:y' v=false->∀(S':RD) (h2:ad) (K':KT),(S'=S∨S'={ S with left:=S.left-1 })->Fr (Dk ao m) h h2->jq h2 d S' ao m->
   (∀h3 aB,Fr (Dk ao m) h2 h3->Ag h2.size ao aB->jq h3 d (f S') aB m->K' (.tuple #[]) h3)->gJ Tryz.prog v [] h2 K')
  (hK:∀h' aB,Fr (Dk ao m) h h'->Ag h.size ao aB->jq h' d (S.step f).1 aB m->K (vI (S.step f).2) h'):C.iE d v h K:=by
 have D0:=D;obtain⟨b,r,es,rfl,D⟩:=D
 have go:∀S' h2,(S'=S∨S'={ S with left:=S.left-1 })->Fr (Dk ao m) h h2->jq h2 (some ⟨b,0,none⟩) S' ao m->(S.step f)=(f S',0)->
   (IU v=true/\bif !(y' v)then(gJ Tryz.prog v [] h2 λr2 h4=>r2 = .tuple #[]/\K (vI 0) h4)else(K (vI 0) h2)):=by
  intro S' h2 hS f2 D2 e;refine⟨hv,iu (cs (λe1=>?_) λe1=>?_)⟩
  ·have:=hK h2 ao f2 (Ag.refl _ _) (by rw[e,hn e1];exact D2);rw[e]at this;exact this
  ·refine hc e1 S' h2 _ hS f2 D2 λh3 aB f3 g3 D3=>⟨rfl,?_⟩;have:=hK h3 aB (f2.trans f3 λ_ _ x=>x) (g3.le f2.size) (by rw[e];exact D3);rw[e]at this;exact this
 have hlb:=D.pN;refine iE.ok ⟨_,D.field 2,?_⟩;rw[D.left];refine cd (λhp=>?_) λhp=>go S h (Or.inl rfl) (Fr.refl _ _) D0 (by rw[RD.step,if_neg oX]);refine os ⟨_,D.field 2,os (bD.add D.so (by rw[D.sr];exact(by decide:0+2<8)) λh2 d2=>?_)⟩;rw[D.left,wrap_i64 oX oX,D.sr]at d2
 have D2:qF h2 b { S with left:=S.left-1 } ao m { r with left:=S.left-1 } es:=by
  refine qF.re ?_ D.sc d2;exact⟨rfl,⟨by show 0<=S.left-1;omega,by show S.left-1<=_;omega⟩,D.down,D.writes,D.ax,D.l,D.lw,D.ln,D.Dj,D.p,D.pw,D.pn,D.pi,D.GD,D.k,D.kn,D.t,D.tn,D.Ll,D.ts⟩
 have f2:Fr (Dk ao m) h h2:=(Fr.refl _ _).did d2 λ_=>⟨by rw[D.sc];omega,by rw[D.sc];omega⟩;refine os ⟨_,D2.field 2,ce (λe=>?_) λe=>go _ h2 (Or.inr rfl) f2 ⟨_,_,_,rfl,D2⟩ (by rw[RD.step,if_pos oX,if_neg e])⟩;have e:S.left-1=0:=e;refine os ⟨_,_,_,D2.field 3,?_⟩;refine WJ (keep:=S.keep) ⟨_,_,_,rfl,D2⟩ D2.kn.symm D2.k.cells (λp hp _=>?_) λh3 f3 D3=>⟨rfl,?_⟩
 ·have hk:=D2.k;rw[show({ r with left:=S.left-1 }:Raw).ka=some p from hp]at hk;have:ao p.block=m+3:=hk.2.2.1;omega
 ·have hs:S.step f=(RD.cut { S with left:=S.left-1 } S.keep,30):=by rw[RD.step,if_pos oX,if_pos e]
  have:=hK h3 ao (f2.trans f3 λ_ _ x=>x) (Ag.refl _ _) (by rw[hs];exact D3);rw[hs]at this;exact this
theorem pM.snoc{e:mg}{t:Int×Int×LB}(h1:e.kind=t.1)(h2:e.at_=t.2.1)(h3:av h e.a e.l t.2.2)(h4:∀ p,e.a=some p->p.block<h.size/\ao p.block=k) :
  ∀{es:List mg} {ts:List (Int×Int×LB)},pM h ao k es ts->pM h ao k (es++[e]) (ts++[t]):=by
 intro es
 induction es with
 | nil=>intro ts x;cases ts with
  | nil=>exact⟨h1,h2,h3,h4,trivial⟩
  | cons _ _=>exact x.elim
 | cons y r ih=>intro ts x;cases ts with
  | nil=>exact x.elim
  | cons t' s=>exact⟨x.1,x.2.1,x.2.2.1,x.2.2.2.1,ih x.2.2.2.2⟩
def RD.rk(S:RD)(i:Int)(b:LB):RD:={ S with bS:=S.bS++[(i,b)],tape:=S.tape++[(1,i,b)],writes:=wI (S.writes+1) }
def RD.write(S:RD)(i:Int)(b:LB):RD×Int:=
 if S.down then(S,30)else if ¬(0<=i/\i<S.aE.length)then(S,31)else if b.length≠512 then(S,32)else(S.rk i b).step id
theorem fp{S:RD}(D:jq h d S ao m)
  (B:av h a l bs) (hac:∀p,a=some p->bs≠[]->¬Dk ao m p.block) (hp:S.bS.length<1000000000) (ht:S.tape.length<1000000000)
  (hK:∀h' aB,Fr (Dk ao m) h h'->Ag h.size ao aB->jq h' d (S.write i bs).1 aB m->K (vI (S.write i bs).2) h'):C.gA d i a l c h K:=by
 have D0:=D;obtain⟨b,r,es,rfl,D⟩:=D;have rM:=B.1;refine gA.ok ⟨_,D.field 4,?_⟩;rw[D.down];refine cs (λe=>?_) λe=>?_
 ·have:=hK h ao (Fr.refl _ _) (Ag.refl _ _);rw[RD.write,if_pos e]at this;exact this D0
 refine rj D0 ⟨_,rfl,iu (cd (λhi=>cn (λx=>?_) λx=>?_) λhi=>?_)⟩
 rotate_left
 rotate_left
 ·have:=hK h ao (Fr.refl _ _) (Ag.refl _ _);rw[RD.write,if_neg (by rw[e];exact Ee),if_pos hi]at this;exact this D0
 ·have:=hK h ao (Fr.refl _ _) (Ag.refl _ _);rw[RD.write,if_neg (by rw[e];exact Ee),if_neg (λy=>y hi),if_pos oX]at this;exact this D0
 have hl:bs.length=512:=oX;have Gb:(bs.map bv).length=512:=by rw[aP,hl]
 refine os ⟨_,_,_,D.field 1,oX,?_⟩;have B2:=B.2
 cases a with
 | none=>have:bs.map bv=[]:=B2;rw[this]at Gb;exact absurd Gb dX
 | some ap=>
 have hn:(vk (i,bs)).length=513:=wv hl;refine os ⟨bs.map bv,Gb,B2,Gb,hn,aC.intro λh3 n3=>?_⟩;have D3:=D.rN n3.fr (Ag.refl _ _) (λ_ _ _ x=>x);refine⟨D3.field 1,vk (i,bs),by rw[hn],ah n3.rd,zp _,?_⟩;rw[D.pn];have Dp:=D3.p;rw[D.pn]at Dp;refine nW Dp (by rw[hn];rfl) (pA.trans (congrArg (· + 1) dU)) (by show(S.bS.length+1)*520<=_;omega) oX λa4 c4 h4 f4 s4=>?_
 -- after the append to what is pending
 have g4:Ag h3.size ao (nV ao h3.size (m+2)):=pX _ _ _;have e4:(S.bS++[(i,bs)]).flatMap vk=S.bS.flatMap vk++vk (i,bs):=by rw[iy,RE]
 have fP:∀k,k≠m+2->∀x,ao x=k->¬On ao (m+2) x:=λk hk x hx y=>hk (hx.symm.trans y);have sb3:=D3.so.lt;have nsb:¬On ao (m+2) b:=fP m oX b D.sc
 have P4:Parts h4 { S with bS:=S.bS++[(i,bs)] } (nV ao h3.size (m+2)) m { r with pa:=a4,pn:=S.bS.length+1,pc:=c4 } es:=by
  refine⟨D3.left,D3.pN,D3.down,D3.writes,D3.ax,D3.l.keep f4 g4 (fP _ oX),D3.lw,D3.ln,D3.Dj,by rw[e4];exact s4,?_,by simp,?_,by simp only[bg,ik];omega,D3.k.keep f4 g4 (fP _ oX),D3.kn,D3.t.keep f4 g4 (fP _ oX),D3.tn,D3.Ll,pM.keep f4 g4 (fP _ oX) D3.ts⟩
  ·intro x hx;rcases nB.mp hx with hx|hx
   ·exact D3.pw x hx
   ·rw[kU.mp hx];exact hl
  ·intro x hx;rcases nB.mp hx with hx|hx
   ·exact D3.pi x hx
   ·rw[kU.mp hx];exact hi
 have sc4:nV ao h3.size (m+2) b=m:=(g4 b sb3).trans D.sc;have r4:=(f4.rd sb3 nsb).trans D3.sr;refine os (bD.add (f4.own sb3 nsb D3.so) (by rw[r4];exact(by decide:0+1<8)) λh5 d5=>?_);rw[r4]at d5;have D5:=qF.re P4 sc4 d5;refine os ⟨_,_,_,D5.field 7,?_⟩;have F3:Fr (Dk ao m) h h3:=(n3.fr).mono λ_ _ x=>x.elim;have F4:Fr (Dk ao m) h h4:=F3.trans f4 λx _ hx=>by have hx:ao x=m+2:=hx;exact⟨oX,oX⟩
 have F5:Fr (Dk ao m) h h5:=F4.did d5 λ_=>⟨by rw[D.sc];omega,by rw[D.sc];omega⟩;refine xm (av.fr F5 B λp hp=>hac p hp (by rintro rfl;exact absurd hl dX)) oX λa6 c6 h6 f6 s6=>⟨_,_,_,rfl,?_⟩;have g6:Ag h5.size (nV ao h3.size (m+2)) (nV (nV ao h3.size (m+2)) h5.size (m+5)):=pX _ _ _;have D6:=D5.rN f6 g6 (λ_ _ _ x=>x);refine⟨D6.field 7,rfl,aC.intro λh7 n7=>?_⟩;have D7:=D6.rN n7.fr (Ag.refl _ _) (λ_ _ _ x=>x);have s7:=s6.fr n7.fr λ_ _ _ x=>x;refine⟨D7.field 7,_,rfl,ah n7.rd,?_,?_⟩
 ·intro v hv;simp only[fO,nT,or_false]at hv;rcases hv with rfl|rfl|rfl <;> rfl
 have RK:=pM.length D.ts;have htn:=D.tn;refine nW D7.t rfl rfl (by show(r.tn+1)*40<=_;omega) (by show r.tn+1<=_;omega) λa8 c8 h8 f8 s8=>?_;have hs6:=f6.size;have hs7:=n7.size;have c6k:∀x,h5.size<=x->nV (nV ao h3.size (m+2)) h5.size (m+5) x=m+5:=λx hx=>yu hx;have g8:Ag h7.size (nV (nV ao h3.size (m+2)) h5.size (m+5)) (nV (nV (nV ao h3.size (m+2)) h5.size (m+5)) h7.size (m+4)):=pX _ _ _;have EO:∀k,k≠m+4->∀x,nV (nV ao h3.size (m+2)) h5.size (m+5) x=k->¬On (nV (nV ao h3.size (m+2)) h5.size (m+5)) (m+4) x:=λk hk x hx y=>hk (hx.symm.trans y);have sb7:=D7.so.lt;have WK:=EO m oX b D7.sc
 have WL:∀p,a6=some p->p.block<h7.size/\nV (nV ao h3.size (m+2)) h5.size (m+5) p.block=m+5:=by
  intro p hp;subst hp;exact⟨s7.lt,c6k _ s7.2.2.1⟩
 have e8:(es++[mg.mk 1 i a6 l c6]).flatMap mg.cells=es.flatMap mg.cells++[vI 1,vI i,vS a6 l c6]:=by rw[iy,RE];rfl
 have P8:Parts h8 { S with bS:=S.bS++[(i,bs)],tape:=S.tape++[(1,i,bs)] } (nV (nV (nV ao h3.size (m+2)) h5.size (m+5)) h7.size (m+4)) m { r with pa:=a4,pn:=S.bS.length+1,pc:=c4,ta:=a8,tn:=r.tn+1,tc:=c8 } (es++[⟨1,i,a6,l,c6⟩]):=by
  refine⟨D7.left,D7.pN,D7.down,D7.writes,D7.ax,D7.l.keep f8 g8 (EO _ oX),D7.lw,D7.ln,D7.Dj,D7.p.keep f8 g8 (EO _ oX),D7.pw,D7.pn,D7.pi,D7.GD,D7.k.keep f8 g8 (EO _ oX),D7.kn,?_,?_,?_,?_⟩
  ·rw[e8];exact s8
  ·simp only[bg,ik];omega
  ·simp only[bg,ik];omega
  ·refine pM.snoc rfl rfl (av.fr f8 s7.str λp hp=>EO _ oX _ (WL p hp).2) (λp hp=>⟨mV (WL p hp).1 f8.size,(g8 _ (WL p hp).1).trans (WL p hp).2⟩) (pM.keep f8 g8 (EO _ oX) D7.ts)
 have r8:=(f8.rd sb7 WK).trans D7.sr;have sc8:=(g8 b sb7).trans D7.sc;refine os (bD.add (f8.own sb7 WK D7.so) (by rw[r8];exact(by decide:0+7<8)) λh9 d9=>?_);rw[r8]at d9;have D9:=qF.re P8 sc8 d9;refine os ⟨_,D9.field 5,os (bD.add D9.so (by rw[D9.sr];exact(by decide:0+5<8)) λbG d10=>?_)⟩;rw[D9.sr]at d10
 have D10:qF bG b (S.rk i bs) (nV (nV (nV ao h3.size (m+2)) h5.size (m+5)) h7.size (m+4)) m { r with pa:=a4,pn:=S.bS.length+1,pc:=c4,ta:=a8,tn:=r.tn+1,tc:=c8,writes:=wI (r.writes+1) } (es++[⟨1,i,a6,l,c6⟩]):=by
  refine qF.re ?_ sc8 d10;exact⟨D9.left,D9.pN,D9.down,by show wI (r.writes+1)=wI (S.writes+1);rw[D.writes],D9.ax,D9.l,D9.lw,D9.ln,D9.Dj,D9.p,D9.pw,D9.pn,D9.pi,D9.GD,D9.k,D9.kn,D9.t,D9.tn,D9.Ll,D9.ts⟩
 have dkb:b<h.size->Dk ao m b:=λ_=>⟨by rw[D.sc];omega,by rw[D.sc];omega⟩;have hs35:h.size<=h3.size:=by have:=n3.size;omega
 have hs45:h3.size<=h5.size:=by have:=f4.size;have:=d5.size;omega
 have gg:Ag h.size ao (nV (nV (nV ao h3.size (m+2)) h5.size (m+5)) h7.size (m+4)):=
  (g4.le hs35).trans ((g6.le hs45).trans (g8.le oX) (bE _)) oX
 have F8:Fr (Dk ao m) h h8:=((F5.no f6).new n7).trans f8 λx hx y=>by
  have y:nV (nV ao h3.size (m+2)) h5.size (m+5) x=m+4:=y;rw[Gj oX,Gj oX]at y;exact⟨oX,oX⟩
 have L8:=(F8.did d9 dkb).did d10 dkb;refine sD (v:=.nilFunc) (f:=id) ⟨b,_,_,rfl,D10⟩ rfl (λ_ _=>rfl) (λx=>Bool.noConfusion x) λh' aB f' g' D'=>⟨_,rfl,?_⟩;have hw:S.write i bs=(S.rk i bs).step id:=by rw[RD.write,if_neg (by rw[e];exact Ee),if_neg (λy=>y hi),if_neg (λy=>y hl)]
 have:=hK h' aB (L8.trans f' λx hx y=>by have e:=gg x hx;exact⟨by have:=y.1;omega,by have:=y.2;omega⟩) (gg.trans g' L8.size) (by rw[hw];exact D');rw[hw]at this;exact this
def RD.pS(S:RD):RD:={ S with aE:=dh S.aE S.bS,bS:=[],tape:=S.tape++[(2,0,[])] }
def RD.flush(S:RD):RD×Int:=if S.down then(S,30)else RD.step { S with ax:=wI (S.ax+1) } RD.pS
theorem Ip{cb:Nat}{S:RD}(D:jq h d S ao m)
  (hc:rd h cb=[vP d]) (Gb:cb<h.size) (hcc:¬Dk ao m cb) (ht:S.tape.length<1000000000)
  (hK:∀h' aB,Fr (Dk ao m) h h'->Ag h.size ao aB->jq h' d S.pS aB m->K (.tuple #[]) h'):C.ir (some ⟨cb,0,none⟩) h K:=by
 obtain⟨b,r,es,rfl,D⟩:=D;refine ir.ok (os ⟨_,dC hc rfl,os ⟨_,_,_,D.field 1,?_⟩⟩);rw[D.pn]
 refine⟨λn hh=>0<=n/\n<=S.bS.length/\Fr (On ao (m+1)) h hh/\qF hh b { S with aE:=dh S.aE (S.bS.take n.toNat) } ao m r es,
  λn _=>(S.bS.length-n).toNat,⟨oX,oX,Fr.refl _ _,D⟩,?_⟩
 rintro n h2 ⟨n0,n1,f2,D2⟩;have hc1:¬On ao (m+1) cb:=λx=>hcc ⟨by have x:ao cb=m+1:=x;omega,by have x:ao cb=m+1:=x;omega⟩;have c2:rd h2 cb=[vP (some ⟨b,0,none⟩)]:=(f2.rd Gb hc1).trans hc;have aev:cb<h2.size:=mV Gb f2.size;have hbc:b≠cb:=λe=>hcc ⟨by rw[<-e,D.sc];omega,by rw[<-e,D.sc];omega⟩;refine cd (λhn=>?_) λhn=>?_
 ·have ο:n.toNat<S.bS.length:=oX;obtain⟨q,e',c'⟩:=D2.Dl (S:={ S with aE:=dh S.aE (S.bS.take n.toNat) }) ο D2.p;refine⟨⟨n0,hn⟩,?_⟩;rw[e'];have MY:=D.pw _ (ff ο);have MZ:=wv MY;refine os ⟨_,MZ,c',aF.intro MZ (zp _) (pA.trans (congrArg (· + 1) dU)) λh4 n4=>?_⟩;have f4:=f2.new n4;have D4:=D2.rN n4.fr (Ag.refl _ _) (λ_ _ _ x=>x);have hw2:wI (n+1)=n+1:=wrap_i64 oX (by have:=D.GD;omega);have ht:(n+1).toNat=n.toNat+1:=oX;obtain⟨i0,i1⟩:=D.pi _ (ff ο);have hlen:=iq (S.bS.take n.toNat) S.aE;have rM:=oU MY;refine os ⟨_,dC ((n4.at_ aev).trans c2) rfl,os ⟨_,_,_,D4.field 0,_,aZ n4.rd rfl,_,rM,pY n4.rd (AY _),⟨i0,by rw[D4.ln];show _<((dh _ _).length:Int);rw[hlen];exact i1⟩,?_⟩⟩;obtain⟨p,e,_⟩:=D4.l.get (by rw[D4.ln];show 0<(dh _ _).length;rw[hlen];omega);rw[e];have L:=D4.l;rw[e]at L;have YJ:=L.mk;rw[YJ]at e L ⊢;obtain⟨w1,w2⟩:=L.wr;have hi:S.bS[n.toNat].1.toNat<(dh S.aE (S.bS.take n.toNat)).length:=by rw[hlen];omega
  have hr:S.bS[n.toNat].1.toNat*512+512<=r.ln*512:=by
   have:r.ln=(dh S.aE (S.bS.take n.toNat)).length:=D4.ln;rw[this];omega
  rw[hw2];refine os (az.add w1 rM (jA _) oX λh5 d5=>⟨⟨oX,oX,f4.did d5 (λ_=>L.2.2.1),?_⟩,bW hn⟩);have D5:=D4.Lm hi MY e d5;rw[ht,eY _ _ ο,dh,vh];exact D5
 ·rw[gL oX]at D2;have dk:b<h.size->Dk ao m b:=λ_=>⟨by rw[D.sc];omega,by rw[D.sc];omega⟩;have F2:Fr (Dk ao m) h h2:=f2.mono λx _ hx=>by have hx:ao x=m+1:=hx;exact⟨oX,oX⟩
  refine os ⟨_,dC c2 rfl,os (bD.add D2.so (by rw[D2.sr];exact(by decide:0+1<8)) λh6 d6=>?_)⟩;rw[D2.sr]at d6
  have D6:qF h6 b { S with aE:=dh S.aE S.bS,bS:=[] } ao m { r with pa:=none,pn:=0,pc:=0 } es:=by
   refine qF.re ?_ D.sc d6;have Q:=D2.toParts;exact⟨Q.left,Q.pN,Q.down,Q.writes,Q.ax,Q.l,Q.lw,Q.ln,Q.Dj,Sl.nil _ _ _,(λx hx=>by simp at hx),rfl,(λx hx=>by simp at hx),bN _,Q.k,Q.kn,Q.t,Q.tn,Q.Ll,Q.ts⟩
  have c6:rd h6 cb=[vP (some ⟨b,0,none⟩)]:=(d6.at_ aev (Ne.symm hbc)).trans c2;have hcl6:cb<h6.size:=by rw[d6.size];exact aev
  refine os ⟨_,dC c6 rfl,os ⟨_,dC c6 rfl,os ⟨_,_,_,D6.field 7,rfl,aC.intro λh7 n7=>?_⟩⟩⟩;have c7:=(n7.at_ hcl6).trans c6;have D7:=D6.rN n7.fr (Ag.refl _ _) (λ_ _ _ x=>x);refine⟨dC c7 rfl,dC c7 rfl,D7.field 7,_,rfl,ah n7.rd,?_,?_⟩
  ·intro v hv;simp only[fO,nT,or_false]at hv;rcases hv with rfl|rfl|rfl <;> rfl
  have RK:=pM.length D.ts;have htn:=D.tn;refine nW D7.t rfl rfl (by show(r.tn+1)*40<=_;omega) (by show r.tn+1<=_;omega) λa8 c8 h8 f8 s8=>?_;have g8:Ag h7.size ao (nV ao h7.size (m+4)):=pX _ _ _;have EO:∀k,k≠m+4->∀x,ao x=k->¬On ao (m+4) x:=λk hk x hx y=>hk (hx.symm.trans y);have hcc8:¬On ao (m+4) cb:=λx=>hcc ⟨by have x:ao cb=m+4:=x;omega,by have x:ao cb=m+4:=x;omega⟩;have hcl7:cb<h7.size:=by rw[n7.size];omega
  have sb7:=D7.so.lt;have WK:=EO m oX b D7.sc;have e8:(es++[mg.mk 2 0 none 0 0]).flatMap mg.cells=es.flatMap mg.cells++[vI 2,vI 0,vS none 0 0]:=by rw[iy,RE];rfl
  have P8:Parts h8 S.pS (nV ao h7.size (m+4)) m { r with pa:=none,pn:=0,pc:=0,ta:=a8,tn:=r.tn+1,tc:=c8 } (es++[⟨2,0,none,0,0⟩]):=by
   refine⟨D7.left,D7.pN,D7.down,D7.writes,D7.ax,D7.l.keep f8 g8 (EO _ oX),D7.lw,D7.ln,D7.Dj,D7.p.keep f8 g8 (EO _ oX),D7.pw,D7.pn,D7.pi,D7.GD,D7.k.keep f8 g8 (EO _ oX),D7.kn,?_,?_,?_,?_⟩
   ·rw[e8];exact s8
   ·simp only[bg,ik];omega
   ·simp only[bg,ik];omega
   ·exact pM.snoc rfl rfl (av.nil _ _) (λp hp=>by cases hp) (pM.keep f8 g8 (EO _ oX) D7.ts)
  have r8:=(f8.rd sb7 WK).trans D7.sr;have sc8:=(g8 b sb7).trans D7.sc;refine⟨dC ((f8.rd hcl7 hcc8).trans c7) rfl,os (bD.add (f8.own sb7 WK D7.so) (by rw[r8];exact(by decide:0+7<8)) λh9 d9=>?_)⟩;rw[r8]at d9;have D9:=qF.re P8 sc8 d9;have hs:=f2.size
  have F8:Fr (Dk ao m) h h8:=((F2.did d6 dk).new n7).trans f8 λx hx y=>by
   have y:ao x=m+4:=y;exact⟨oX,oX⟩
  refine hK h9 (nV ao h7.size (m+4)) (F8.did d9 dk) (g8.le ?_) ⟨b,_,_,rfl,D9⟩;have:=n7.size;have:=d6.size;omega
theorem A8{S:RD}(D:jq h d S ao m)(ht:S.tape.length<1000000000)
  (hK:∀h' aB,Fr (Dk ao m) h h'->Ag h.size ao aB->jq h' d S.flush.1 aB m->K (vI S.flush.2) h'):C.gC d h K:=by
 refine gC.ok (aC.intro λh2 n2=>⟨_,dC n2.rd rfl,?_⟩);have g2:Ag h.size ao (nV ao h.size (m+6)):=pX _ _ _;have D2:=D.keep n2.fr g2 (λ_ _ _ x=>x);have D20:=D2;have F2:Fr (Dk ao m) h h2:=n2.fr.mono λ_ _ x=>x.elim;obtain⟨b,r,es,rfl,D2⟩:=D2;refine os ⟨_,D2.field 4,?_⟩;rw[D2.down];refine cs (λe=>?_) λe=>?_
 ·have:=hK h2 _ F2 g2;rw[RD.flush,if_pos e]at this;exact this D20
 have hcb:nV ao h.size (m+6) h.size=m+6:=yu (bE _);have hbc:h.size≠b:=λx=>by have:=D2.sc;rw[<-x]at this;omega
 have DQ:=n2.size;refine⟨_,dC n2.rd rfl,os ⟨_,D2.field 6,os (bD.add D2.so (by rw[D2.sr];exact(by decide:0+6<8)) λh3 d3=>?_)⟩⟩;rw[D2.sr]at d3
 have D3:qF h3 b { S with ax:=wI (S.ax+1) } (nV ao h.size (m+6)) m { r with ax:=wI (r.ax+1) } es:=by
  refine qF.re ?_ D2.sc d3;exact⟨D2.left,D2.pN,D2.down,D2.writes,by show wI (r.ax+1)=wI (S.ax+1);rw[D2.ax],D2.l,D2.lw,D2.ln,D2.Dj,D2.p,D2.pw,D2.pn,D2.pi,D2.GD,D2.k,D2.kn,D2.t,D2.tn,D2.Ll,D2.ts⟩
 have c3:rd h3 h.size=[vP (some ⟨b,0,none⟩)]:=(d3.at_ oX hbc).trans n2.rd
 have F3:Fr (Dk ao m) h h3:=F2.did d3 λhb=>by
  have e:=g2 b hb;exact⟨by have:=D2.sc;omega,by have:=D2.sc;omega⟩
 have ahN:¬Dk (nV ao h.size (m+6)) m h.size:=λx=>by have:=x.2;omega
 refine⟨_,dC c3 rfl,sD (f:=RD.pS) ⟨b,_,_,rfl,D3⟩ rfl (λx=>Bool.noConfusion x) (λ_ S' h4 K' hS' f4 D4 k'=>?_) λh' aB f' g' D'=>⟨_,rfl,?_⟩⟩
 ·refine Ip (S:=S') D4 ((f4.rd (by rw[d3.size];omega) ahN).trans c3) (by have:=f4.size;have:=d3.size;omega) ahN ?_ k'
  rcases hS' with rfl|rfl <;> exact ht
 ·have hf:S.flush=RD.step { S with ax:=wI (S.ax+1) } RD.pS:=by rw[RD.flush,if_neg (by rw[e];exact Ee)]
  have OJ:=d3.size;have:=hK h' aB (F3.trans f' λx hx y=>by have e:=g2 x hx;exact⟨by have:=y.1;omega,by have:=y.2;omega⟩) (g2.trans g' oX) (by rw[hf];exact D');rw[hf]at this;exact this
end Ad
namespace Hd
open Hp W Su Re
structure Sc where
 a:OA
 l:Nat
 c:Nat
def Sc.v(s:Sc):Value:=vS s.a s.l s.c
structure π(h:ad)(a:OA)(l:Nat)(ss:List Sc)(ds:List LB):Prop where
 cells:ak h a (ss.map Sc.v)
 num:ss.length=l
 len:ss.length=ds.length
 at_:∀i (h1:i<ss.length) (h2:i<ds.length),av h ss[i].a ss[i].l ds[i]
theorem π.fr{h h':ad}{a:OA}{l:Nat}{ss:List Sc}{ds:List LB}(d:π h a l ss ds)(f:Fr No h h'):π h' a l ss ds:=
 ⟨ak.fr f d.cells λ_ _ x=>x,d.num,d.len,λi h1 h2=>av.fr f (d.at_ i h1 h2) λ_ _ x=>x⟩
theorem π.get{ss:List Sc}{ds:List LB}(d:π h a l ss ds){i:Nat}(hi:i<l) :
  ∃p s b,a=some p/\cellOf h (p.add i)=some (Sc.v s)/\ds[i]?=some b/\av h s.a s.l b:=by
 have h1:=d.num;have h2:=d.len;have h3:i<ss.length:=oX;have h4:i<ds.length:=oX;have c:=d.cells
 cases a with
 | none=>have c:ss.map Sc.v=[]:=c;have:=qx.mp c;rw[this]at h3;exact absurd h3 (by simp)
 | some p=>exact⟨p,ss[i],ds[i],rfl,c i _ (by rw[jH,fg h3];rfl),fg h4,d.at_ i h3 h4⟩
def ints(ns:List Int):LV:=ns.map λn=>vI n
theorem my(c:ak h a (ints ns)){i:Nat}(hi:i<ns.length):∃p,a=some p/\cellOf h (p.add i)=some (vI ns[i]):=by
 cases a with
 | none=>have c:ints ns=[]:=c;have:=qx.mp c;rw[this]at hi;exact absurd hi (by simp)
 | some p=>exact⟨p,rfl,c i _ (by rw[ints,jH,fg hi];rfl)⟩
def vK(n:Int):Int->List Int->Bool
 | _,[]=>true
 | last,i::r=>!(decide (i<=last) || decide (i>=n)) && vK n i r
def GI(ns:List Int)(n:Int):Bool:=vK n 97 ns && (decide ((ns.length:Int)>=1) && decide ((ns.length:Int)<=96))
theorem σ{bl bn:Nat}{last:Int}(o:dA h bl)(r:rd h bl=[vI last])(rn:rd h bn=[vI n])(fP:bl≠bn)
  (hK:∀h',xN bl h h' [vI i]->K (.bool (decide (i<=last) || decide (i>=n))) h'):C.oz i (some ⟨bl,0,none⟩) (some ⟨bn,0,none⟩) h K:=by
 refine oz.ok (os ⟨last,dC r rfl,os (bD.intro o (by rw[r];exact(by decide:0<1)) λh2 d2=>?_)⟩);rw[r]at d2;have k:=hK h2 d2;refine cd (λhi=>?_) λhi=>os ⟨n,?_,?_⟩
 ·rw[decide_eq_true hi]at k;exact k
 ·have bV:bn<h.size:=pE (show(rd h bn)[0]?=some (vI n) by rw[rn];rfl);exact dC ((d2.at_ bV (λe=>fP e.symm)).trans rn) rfl
 ·rw[decide_eq_false hi]at k;exact k
theorem wB(B:ak h a (ints ns))(hn:ns.length=l)(hl:l<=140737488355328)
  (hK:∀h',Fr No h h'->K (.bool (GI ns n)) h'):C.uB a l c n h K:=by
 refine uB.ok (aC.intro λh2 n2=>aC.intro λh3 n3=>bD.intro n3.own (by rw[n3.rd];exact Nat.one_pos) λh4 d4=>?_);have DQ:=n2.size;have OJ:=n3.size;have hs4:=d4.fr.size;have F4:Fr No h h4:=(n2.fr.no n3.fr).did d4 λx=>by omega
 refine⟨λk hh=>0<=k/\k<=l/\Fr No h hh/\rd hh h.size=[vI n]/\dA hh h2.size/\∃last,rd hh h2.size=[vI last]/\vK n 97 ns=vK n last (ns.drop k.toNat),λk _=>((l:Int)-k).toNat,
  ⟨oX,oX,F4,(d4.at_).trans ((n3.at_ n2.own.lt).trans n2.rd),d4.own,97,by rw[d4.rd,n3.rd];rfl,rfl⟩,?_⟩
 rintro k h5 ⟨k0,k1,f5,r5,o5,last,rl,e⟩;refine cd (λhk=>?_) λhk=>?_
 ·have wO:k.toNat<ns.length:=oX;obtain⟨p,rfl,c5⟩:=my (ak.fr f5 B λ_ _ x=>x) wO;refine⟨⟨k0,hk⟩,os ⟨_,c5,σ o5 rl r5 oX λh6 d6=>⟨_,rfl,?_⟩⟩⟩;have f6:=f5.did d6 λx=>by omega
  rw[lh wO,vK]at e;refine cs (λhb=>?_) λhb=>?_
  ·rw[hb]at e;have:GI ns n=false:=(by rw[GI,e];rfl);have k6:=hK h6 f6;rw[this]at k6;exact k6
  ·rw[hb]at e;rw[wrap_i64 oX oX];exact⟨⟨oX,oX,f6,(d6.at_ (pE (show(rd h5 h.size)[0]?=some (vI n) by rw[r5];rfl)) oX).trans r5,d6.own,_,d6.rd,by rw[e,show(k+1).toNat=k.toNat+1 by omega];rfl⟩,bW hk⟩
 ·rw[qY oX]at e;have k5:=hK h5 f5;have e1:vK n 97 ns=true:=e;unfold GI at k5;rw[e1,hn]at k5;refine cd (λh1=>?_) λh1=>?_
  ·rw[decide_eq_true h1]at k5;exact k5
  ·rw[decide_eq_false h1]at k5;exact k5
def blM(ds:List LB)(n:Int):Bool:=ds.all (λd=>d.length==512) && ((ds.length:Int)==n)
theorem GJ{ss:List Sc}{ds:List LB}(D:π h a l ss ds)(hl:l<=140737488355328)
  (hK:K (.bool (blM ds n)) h):C.kH a l c n h K:=by
 have h1:=D.num;have h2:=D.len;refine kH.ok ⟨λk hh=>0<=k/\k<=l/\h=hh/\ds.all (λd=>d.length==512)=(ds.drop k.toNat).all (λd=>d.length==512),λk _=>((l:Int)-k).toNat,⟨oX,oX,rfl,rfl⟩,?_⟩;rintro k _ ⟨k0,k1,rfl,e⟩;refine cd (λhk=>?_) λhk=>?_
 ·obtain⟨p,s,b,rfl,cp,hb,S⟩:=D.get (i:=k.toNat) oX;have wO:k.toNat<ds.length:=oX;rw[fg wO]at hb;have hb:=Option.some.inj hb;rw[lh wO,Mc,hb]at e;have sl:=S.1;refine⟨⟨k0,hk⟩,os ⟨_,_,_,cp,cn (λx=>?_) λx=>?_⟩⟩
  ·have:(b.length==512)=false:=(by rw[beq_eq_false_iff_ne];omega);rw[this]at e;rw[blM,e]at hK;exact hK
  ·have:(b.length==512)=true:=(by rw[beq_iff_eq];omega);rw[this]at e;rw[wrap_i64 oX oX];exact⟨⟨oX,oX,rfl,by rw[e,show(k+1).toNat=k.toNat+1 by omega];rfl⟩,bW hk⟩
 ·rw[qY oX]at e;rw[blM,e,<-h2,h1]at hK;exact hK
theorem xm(B:av h (some p) l bs)(hl:l<=140737488355328)
  (hK:∀a' c' h',Fr No h h'->Sl h' 1 a' l c' (bs.map bv) (cW h.size)->K (vS a' l c') h'):C.oA (some p) l c h K:=by
 refine oA.ok (cf rfl (aC.intro λh2 n2=>?_));have DQ:=n2.size;obtain⟨s1,s2,s3⟩:=av.src (av.fr n2.fr B (λ_ _ x=>x));refine⟨_,s1,s2,s3,?_⟩;refine cY (xs:=[]) (F:=cW h.size) (Sl.made n2 rfl (bE _) rfl (bE _) rfl) s1 rfl (by show(0+l)*1<=_;omega) oX λa' c' h' f s=>?_;rw[wR,tP]at s;rw[wR];exact hK a' c' h' (n2.fr.trans f λb hb e=>by have:h.size<=b:=e;omega) (s.mono λb hb=>by rcases hb with hb|hb;exact hb;show h.size<=b;omega)
def Ba(hd:LB)(ds:List LB):Int:=ds.foldl (λs d=>Aj s (ofM d) d.length) (ofM (kX hd 12 (bo 4 0)))
theorem M9(ds:List LB):∀s,EN s->EN (ds.foldl (λs d=>Aj s (ofM d) d.length) s):=by
 induction ds with
 | nil=>intro s h;exact h
 | cons d r ih=>intro s _;exact ih _ (GA _ _ _)
theorem JL(hd:LB)(ds:List LB):EN (Ba hd ds):=M9 _ _ (MU _)
theorem PF{hd:LB}{ss:List Sc}{ds:List LB}(g:lT h)(B:av h a l hd)(hl:l=512)(D:π h da dl ss ds)(hdl:dl<=140737488355328)
  (hds:∀d∈ds,d.length<=1099511627776) (hK:∀h',Fr No h h'->K (.int .u32 (Ba hd ds)) h'):C.qd a l c da dl dc h K:=by
 have hb:=B.1;have hn:=D.num;have hlen:=D.len
 cases a with
 | none=>have:=B.2;have:hd.map bv=[]:=this;have:=qx.mp this;rw[this]at hb;simp at hb;omega
 | some p=>
 refine qd.ok (xm B oX λa2 c2 h2 f2 s2=>⟨_,_,_,rfl,?_⟩);have g2:=g.no f2;obtain⟨p2,rfl,_⟩:=s2.get oX;have MY:=s2.mk;obtain⟨b2,o2,sp⟩:=p2;have MY:sp=none:=by simpa using MY
 subst MY;have TG:h.size<=b2:=s2.2.2.1;refine mw (v:=0) g2 s2 oX oX oX oX dX λh3 f3 s3=>⟨_,rfl,?_⟩;have F3:Fr No h h3:=f2.trans f3 λx hx e=>by have:x=b2:=e;omega
 have g3:=g.no F3;refine Su.Fk g3.half s3.str oX ⟨_,rfl,?_⟩;refine⟨λs k hh=>0<=k/\k<=dl/\Fr No h hh/\EN s/\s=(ds.take k.toNat).foldl (λs d=>Aj s (ofM d) d.length) (ofM (kX hd 12 (bo 4 0))),λ_ k _=>((dl:Int)-k).toNat,⟨oX,oX,F3,MU _,rfl⟩,?_⟩;rintro s k h5 ⟨k0,k1,f5,us,es⟩;refine cd (λhk=>?_) λhk=>?_
 ·obtain⟨q,sc,d,rfl,cq,OM,S⟩:=(D.fr f5).get (i:=k.toNat) oX;have wO:k.toNat<ds.length:=oX;rw[fg wO]at OM;have OM:=Option.some.inj OM;have hdm:=hds _ (ff wO);rw[OM]at hdm;have sl:=S.1;have g5:=g.no f5;refine⟨⟨k0,hk⟩,os ⟨_,_,_,cq,Su.Fk g5.half S oX ⟨_,rfl,T7 g5.half us oX oX λh7 f7=>⟨_,_,rfl,?_⟩⟩⟩⟩;rw[wrap_i64 oX oX];refine⟨⟨oX,oX,f5.no f7,GA _ _ _,?_⟩,bW hk⟩;rw[show(k+1).toNat=k.toNat+1 by omega,jJ wO,vh,<-es,OM];show Aj s (ofM d) (sc.l:Int)=Aj s (ofM d) (d.length:Int);rw[sl]
 ·rw[gL oX]at es;rw[es];exact hK h5 f5
def aV(n:Nat):LB:=List.replicate n 0
theorem ug(m n:Nat):aV (m+n)=aV m++aV n:=List.replicate_append_replicate.symm
theorem eN(n:Nat):(aV n).length=n:=dU
theorem GK(hK:∀ h',uy h h' ((aV 512).map bv)->K (vS (some (bA h)) 512 512) h'):C.oq h K:=by
 refine oq.ok ⟨⟨by decide,by decide,by decide,by decide⟩,aC.intro λh2 n2=>hK h2 ?_⟩;have e:aL z5 (Int.toNat 512)=(aV 512).map bv:=by rw[aV,Gu];rfl
 rw[<-e];exact n2
def jG : LB:=[66,79,76,69,76,79,71,49]
def cU(ns:List Int):LB:=ns.flatMap λi=>bo 4 i.toNat
def kT(ns:List Int)(s:Nat):LB:=jG++bo 2 ns.length++aV 2++bo 4 s++cU ns++aV (496-4*ns.length)
theorem jS(ns:List Int):(cU ns).length=4*ns.length:=by
 induction ns with
 | nil=>rfl
 | cons n r ih=>
  have e:cU (n::r)=bo 4 n.toNat++cU r:=rfl;rw[e,bg,bC,ih,pA];omega
theorem Na(ns:List Int)(s t:Nat):kX (kT ns s) 12 (bo 4 t)=kT ns t:=by
 have hx:(jG++bo 2 ns.length++aV 2).length=12:=by simp only[bg,bC,eN];rfl
 have:=yE (jG++bo 2 ns.length++aV 2) (bo 4 s) (cU ns++aV (496-4*ns.length)) (bo 4 t) (by rw[bC,bC]);rw[hx]at this;simp only[kT,iW]at this ⊢;exact this
theorem Nc : bo 4 0=aV 4:=by decide
theorem WM:∀(ns:List Int) (last:Int),vK n last ns=true->∀x∈ns,last<x/\x<n:=by
 intro ns
 induction ns with
 | nil=>intro _ _ x hx;exact absurd hx nT
 | cons i r ih=>
  intro last h x hx;rw[vK,dB,Bool.not_eq_true',Bool.or_eq_false_iff]at h;obtain⟨⟨h1,h2⟩,h3⟩:=h;have h1:=of_decide_eq_false h1;have h2:=of_decide_eq_false h2
  rcases fO.mp hx with rfl|hx
  ·omega
  ·have:=ih i h3 x hx;omega
theorem WN(h:GI ns n=true):(∀x∈ns,97<x/\x<n)/\1<=ns.length/\ns.length<=96:=by
 rw[GI,dB,dB]at h;have h1:=of_decide_eq_true h.2.1;have h2:=of_decide_eq_true h.2.2;exact⟨WM ns 97 h.1,oX,oX⟩
theorem wrap_u64(h0:0<=n)(h1:n<18446744073709551616):IntKind.wrap .u64 n=n:=by
 show n%18446744073709551616=n;exact Wz h0 h1
theorem Uf{na:OA}{nl nc:Nat}{ss:List Sc}{ds:List LB}(g:lT h)(B:ak h na (ints ns))(hn:ns.length=nl)(hnl:nl<=140737488355328)(D:π h da dl ss ds)(hdl:dl<=140737488355328)
  (h1:GI ns 16384=false->∀h',Fr No h h'->K (.tuple #[vS none 0 0,vI 40]) h')
  (h2:GI ns 16384=true->blM ds ns.length=false->∀h',Fr No h h'->K (.tuple #[vS none 0 0,vI 32]) h')
  (h3:GI ns 16384=true->blM ds ns.length=true->∀b h',Fr No h h'->h.size<=b->Sl h' 1 (some ⟨b,0,none⟩) 512 512 ((kT ns (Ba (kT ns 0) ds).toNat).map bv) (λx=>x=b)->K (.tuple #[vS (some ⟨b,0,none⟩) 512 512,vI 0]) h') :
  C.se na nl nc da dl dc h K:=by
 refine se.ok (wB B hn hnl λxR f2=>⟨_,rfl,iu (cs (λhm=>?_) λhm=>h1 hm _ f2)⟩);refine GJ (D.fr f2) hdl ⟨_,rfl,iu (cs (λhb=>?_) λhb=>h2 hm (by rw[hn];exact hb) _ f2)⟩;rw[<-hn]at hb;have k:=h3 hm hb;obtain⟨xK,T8,YR⟩:=WN hm
 have rM:∀d∈ds,d.length<=1099511627776:=λd hd=>by
  rw[blM,dB]at hb;have:=List.all_eq_true.mp hb.1 d hd;rw[beq_iff_eq]at this;omega
 refine GK λh4 n4=>⟨_,_,_,rfl,?_⟩;have hs4:=n4.size;have F4:=f2.new n4;have g4:=g.no F4;have DQ:=f2.size;have new:h.size<=xR.size:=DQ;have s4:Sl h4 1 (some (bA xR)) 512 512 ((aV 512).map bv) (λb=>b=xR.size):=Sl.made n4 (by rw[gi]) rfl (by rw[aP,eN]) (bE _) rfl;have fr:∀{h' GF:ad},Fr No h h'->Fr (λx=>x=xR.size) h' GF->Fr No h GF:=λf f'=>f.trans f' λx hx e=>by have:x=xR.size:=e;omega
 refine Lk (n:=8) (ss:=jG) s4 oX rfl oX oX dX λh5 f5 s5=>⟨_,rfl,?_⟩;have F5:=fr F4 f5;have e5:kX (aV 512) (0:Int).toNat jG=jG++aV 504:=yE [] (aV 8) (aV 504) jG rfl;rw[e5]at s5;rw[wrap_u64 oX oX];refine mw (n:=2) (at_:=8) (v:=nl) (g.no F5) s5 oX oX oX oX (by show nl<65536;omega) λh6 f6 s6=>⟨_,rfl,?_⟩;have F6:=fr F5 f6
 have e6:kX (jG++aV 504) (8:Int).toNat (bo (2:Int).toNat nl)=jG++bo 2 nl++aV 502:=by
  have:=yE jG (aV 2) (aV 502) (bo 2 nl) (by rw[bC,eN]);rw[iW,<-ug]at this;exact this
 rw[e6]at s6;have P16l:(jG++bo 2 nl++aV 6).length=16:=by simp only[bg,bC,eN];rfl
 refine⟨λk hh=>0<=k/\k<=nl/\Fr No h hh/\Sl hh 1 (some (bA xR)) 512 512 ((jG++bo 2 nl++aV 6++cU (ns.take k.toNat)++aV (496-4*k.toNat)).map bv) (λb=>b=xR.size),λk _=>((nl:Int)-k).toNat,
  ⟨oX,oX,F6,?_⟩,?_⟩
 ·have e:jG++bo 2 nl++aV 502=jG++bo 2 nl++aV 6++cU (ns.take (0:Int).toNat)++aV (496-4*(0:Int).toNat):=by
   show _=jG++bo 2 nl++aV 6++[]++aV 496;rw[gi,iW _ (aV 6),<-ug]
  rw[<-e];exact s6
 rintro i h7 ⟨i0,i1,f7,s7⟩;refine cd (λhi=>?_) λhi=>?_
 ·have tK:i.toNat<ns.length:=oX;obtain⟨p,rfl,cp⟩:=my (ak.fr f7 B λ_ _ x=>x) tK;have hx:=xK _ (ff tK);refine⟨⟨i0,hi⟩,os ⟨_,cp,?_⟩⟩;rw[wq (4*i),wq (16+4*i),wrap_u64 oX oX,wq (i+1)];have ev:ns[i.toNat]=((ns[i.toNat].toNat:Nat):Int):=oX;rw[ev];refine mw (n:=4) (at_:=16+4*i) (v:=ns[i.toNat].toNat) (g.no f7) s7 oX oX oX oX (by show ns[i.toNat].toNat<4294967296;omega) λh8 f8 s8=>⟨_,rfl,?_⟩;refine⟨⟨oX,oX,fr f7 f8,?_⟩,bW hi⟩
  have hxl:(jG++bo 2 nl++aV 6++cU (ns.take i.toNat)).length=(16+4*i).toNat:=by
   rw[bg,P16l,jS,dL];omega
  have hz:aV (496-4*i.toNat)=aV 4++aV (496-4*(i.toNat+1)):=by rw[<-ug];congr 1;omega
  have ee:kX (jG++bo 2 nl++aV 6++cU (ns.take i.toNat)++aV (496-4*i.toNat)) (16+4*i).toNat (bo (4:Int).toNat ns[i.toNat].toNat) =
    jG++bo 2 nl++aV 6++cU (ns.take (i+1).toNat)++aV (496-4*(i+1).toNat):=by
   rw[hz,<-hxl,<-iW];have:=yE (jG++bo 2 nl++aV 6++cU (ns.take i.toNat)) (aV 4) (aV (496-4*(i.toNat+1))) (bo 4 ns[i.toNat].toNat) (by rw[bC,eN]);rw[show(4:Int).toNat=4 from rfl,this,show(i+1).toNat=i.toNat+1 by omega,jJ tK];have:cU (ns.take i.toNat++[ns[i.toNat]])=cU (ns.take i.toNat)++bo 4 ns[i.toNat].toNat:=(by simp only[cU,iy,List.flatMap_cons,List.flatMap_nil,gi]);rw[this];simp only[iW]
  rw[ee]at s8;exact s8
 ·have e:i.toNat=nl:=oX;rw[e,gL oX]at s7
  have e0:jG++bo 2 nl++aV 6++cU ns++aV (496-4*nl)=kT ns 0:=by
   rw[kT,Nc,hn,show aV 6=aV 2++aV 4 from ug 2 4];simp only[iW]
  rw[e0]at s7;refine PF (g.no f7) s7.str rfl (D.fr f7) hdl rM λh9 f9=>⟨_,rfl,?_⟩;have us:=JL (kT ns 0) ds;obtain⟨u0,u1⟩:=us;rw[wrap_u64 u0 oX];have ev:Ba (kT ns 0) ds=(((Ba (kT ns 0) ds).toNat:Nat):Int):=oX;rw[ev];refine mw (n:=4) (at_:=12) (v:=(Ba (kT ns 0) ds).toNat) (g.no (f7.no f9)) (s7.fr f9 λ_ _ _ x=>x) oX oX oX oX (by show(Ba (kT ns 0) ds).toNat<4294967296;omega) λbG f10 Pu=>⟨_,rfl,?_⟩;have e1:kX (kT ns 0) (12:Int).toNat (bo (4:Int).toNat (Ba (kT ns 0) ds).toNat)=kT ns (Ba (kT ns 0) ds).toNat:=Na ns 0 _;rw[e1]at Pu;exact k _ bG (fr (f7.no f9) f10) DQ Pu
def kL(hd:LB)(o n:Nat):Nat:=py ((hd.drop o).take n)
theorem WO(hd:LB)(o n:Nat):kL hd o n<256 ^ n:=by
 refine mV (yD _) (Ec dX ?_);rw[dL];exact abG _ _
theorem rq(n v:Nat):bo (n+1) v=UInt8.ofNat v::bo n (v/256):=by
 rw[bo,List.range_succ_eq_map,lI,qJ];congr 1
 ·rw[Nat.pow_zero,Nat.div_one]
 ·rw[bo];apply List.map_congr_left;intro k _;show UInt8.ofNat (v/256 ^ (k+1))=UInt8.ofNat (v/256/256 ^ k);rw[wk,BU,Nat.div_div_eq_div_mul]
theorem xo : ∀(bs:LB),bo bs.length (py bs)=bs:=by
 intro bs
 induction bs with
 | nil=>rfl
 | cons b r ih=>
  have hb:b.toNat<256:=b.toNat_lt;rw[pA,rq,py,show(b.toNat+256*py r)/256=py r by omega,ih];congr 1;apply sZ.mp;rw[lX];omega
theorem Ir(h:im bs=true):bs=aV bs.length:=by
 induction bs with
 | nil=>rfl
 | cons b r ih=>
  rw[im,Mc,dB]at h;have hb:b=0:=by simpa using h.1
  have:=ih h.2;rw[pA,aV,uW,hb];exact congrArg _ this
theorem uL(xs:LB)(i n:Nat):xs.drop i=(xs.drop i).take n++xs.drop (i+n):=by
 have:=List.take_append_drop n (xs.drop i);rw[List.drop_drop]at this;exact this.symm
theorem Cc{xs:LB}{n:Nat}(h:xs.length=n):(xs++ys).drop n=ys:=by rw[<-h,Ae]
theorem Ls(n:Int):(Value.int .u8 (IntKind.wrap .u8 n))=bv (UInt8.ofNat (n%256).toNat):=by
 show Value.int .u8 (n%256)=Value.int .u8 ((UInt8.ofNat (n%256).toNat).toNat:Int);rw[lX];congr 1;have:=Jy n (show(256:Int)≠0 by decide);have:=Jz n (show(0:Int)<256 by decide);omega
end Hd
namespace Wc
open Hp W Ad
inductive PG where
 | w (i:Int) (b:LB)
 | f
def PG.on(S:RD):PG->RD×Int
 | .w i b=>S.write i b
 | .f=>S.flush
def qj : List PG->RD->RD×Int
 | [],S=>(S,0)
 | s::r,S=>if(s.on S).2=0 then qj r (s.on S).1 else s.on S
abbrev Nb :=List (Int×LB)
def ws(l:Nb):List PG:=l.map λp=>.w p.1 p.2
def JM(l:Nb):List PG:=ws l++[.f,.w 1 (Hd.aV 512),.f]
def Lt(l:Nb):Nb:=l.mapIdx λk x=>(2+(k:Int),x.2)
theorem oD(l:Nb):(Lt l).length=l.length:=List.length_mapIdx
theorem Nd(l:Nb){k:Nat}(h:k<(Lt l).length):(Lt l)[k]=(2+(k:Int),(l[k]'(by rw[oD]at h;exact h)).2):=List.getElem_mapIdx ..
def ru(l:Nb)(WQ:LB):List PG:=ws (Lt l)++[.f,.w 1 WQ,.f]++JM l
def pj(l:Nb):LB:=Hd.kT (l.map (·.1)) (Hd.Ba (Hd.kT (l.map (·.1)) 0) (l.map (·.2))).toNat
def Dm(l:Nb)(n:Int):Bool:=Hd.vK n 97 (l.map (·.1)) && decide ((l.length:Int)<=96)
def Dn(S:RD)(l:Nb):RD×Int:=
 if l=[]then(S,0)else if Dm l S.aE.length=false then(S,40)else if(l.map (·.2)).all (λd=>d.length==512)=false then(S,32)
  else if S.down=true then(S,30)else qj (ru l (pj l)) S
abbrev Sc :=Tm.Sc
theorem dD.write{h:ad}{D:NP}{d:OA}{S:RD}{i:Int}{a:OA}{l c:Nat}{bs:LB}{K:KT}(A:dD h D d S)
  (B:av h a l bs) (hac:∀p,a=some p->¬D p.block) (hp:S.bS.length<1000000000) (ht:S.tape.length<1000000000)
  (hK:∀h' D',Fr D h h'->Gw h D h' D'->dD h' D' d (S.write i bs).1->K (vI (S.write i bs).2) h'):C.gA d i a l c h K:=by
 obtain⟨ao,A,hz,hD⟩:=A;refine fp A B (λp e _ x=>hac p e ((hD _).mpr x)) hp ht λh' aB f g A'=>?_;obtain⟨D',g',a',_⟩:=dD.gw hD g f.size A';exact hK h' D' (f.mono λb _ x=>(hD b).mpr x) g' a'
theorem dD.flush{h:ad}{D:NP}{d:OA}{S:RD}{K:KT}(A:dD h D d S)(ht:S.tape.length<1000000000)
  (hK:∀h' D',Fr D h h'->Gw h D h' D'->dD h' D' d S.flush.1->K (vI S.flush.2) h'):C.gC d h K:=by
 obtain⟨ao,A,hz,hD⟩:=A;refine A8 A ht λh' aB f g A'=>?_;obtain⟨D',g',a',_⟩:=dD.gw hD g f.size A';exact hK h' D' (f.mono λb _ x=>(hD b).mpr x) g' a'
theorem dD.down{h:ad}{D:NP}{d:OA}{S:RD}{K:KT}(A:dD h D d S)(hK:K (.bool S.down) h):C.iD d h K:=by
 obtain⟨ao,A,_⟩:=A;exact Ud A hK
inductive SV where
 | w (ib bb:Nat) (i:Int) (s:Sc) (b:LB)
 | f
def SV.v : SV->Value
 | .w ib bb _ _ _=>.func (.func 148) #[] ⟨[vP (some ⟨ib,0,none⟩),vP (some ⟨bb,0,none⟩)]⟩
 | .f=>.func (.func 150) #[] ⟨[]⟩
def SV.vm : SV->PG
 | .w _ _ i _ b=>.w i b
 | .f=>.f
def SV.Ok(h:ad)(D:NP):SV->Prop
 | .w ib bb i s b=>rd h ib=[vI i]/\rd h bb=[s.v]/\(ib<h.size/\¬D ib)/\(bb<h.size/\¬D bb)/\av h s.a s.l b/\∀p,s.a=some p->p.block<h.size/\¬D p.block
 | .f=>True
theorem SV.Ok.fr{h h':ad}{D D':NP}{x:SV}(a:x.Ok h D)(f:Fr D h h')(g:Gw h D h' D'):x.Ok h' D':=by
 cases x with
 | f=>trivial
 | w ib bb i s b=>
  obtain⟨a1,a2,a3,a4,a5,a6⟩:=a;have k:∀{c:Nat},c<h.size/\¬D c->c<h'.size/\¬D' c:=fun {c} hc=>⟨mV hc.1 f.size,λy=>hc.2 ((g.old c hc.1).mp y)⟩;exact⟨(f.rd a3.1 a3.2).trans a1,(f.rd a4.1 a4.2).trans a2,k a3,k a4,av.fr f a5 λp e=>(a6 p e).2,λp e=>k (a6 p e)⟩
theorem SV.Ok.no{D:NP}{x:SV}(a:x.Ok h D)(f:Fr No h h')(hD:∀ b,D b->b<h.size):x.Ok h' D:=
 a.fr (f.mono λ_ _ y=>y.elim) (Gw.refl f.size hD)
theorem Nf(S:RD)(f:RD->RD)(t p:Nat)(h1:(∀ S':RD,S'.tape=S.tape->S'.bS=S.bS->(f S').tape.length<=t/\(f S').bS.length<=p))(h2:S.tape.length<=t):(S.step f).1.tape.length<=t/\(S.step f).1.bS.length<=p:=by
 unfold RD.step
 by_cases a:0<S.left
 ·rw[if_pos a]
  by_cases b:S.left-1=0
  ·rw[if_pos b];exact⟨h2,bN _⟩
  ·rw[if_neg b];exact h1 _ rfl rfl
 ·rw[if_neg a];exact h1 _ rfl rfl
theorem zz(S:RD)(s:PG):(s.on S).1.tape.length<=S.tape.length+1/\(s.on S).1.bS.length<=S.bS.length+1:=by
 have no:S.tape.length<=S.tape.length+1/\S.bS.length<=S.bS.length+1:=⟨qw _,qw _⟩
 cases s with
 | w i b=>
  show(S.write i b).1.tape.length<=_/\(S.write i b).1.bS.length<=_;have e1:(S.rk i b).tape.length=S.tape.length+1:=by show(S.tape++[_]).length=_;rw[bg];rfl
  have e2:(S.rk i b).bS.length=S.bS.length+1:=by show(S.bS++[_]).length=_;rw[bg];rfl
  unfold RD.write
  split
  ·exact no
  ·split
   ·exact no
   ·split
    ·exact no
    ·exact Nf _ _ _ _ (λS' h1 h2=>by show S'.tape.length<=_/\S'.bS.length<=_;rw[h1,h2,e1,e2];exact⟨bE _,bE _⟩) (by rw[e1];exact bE _)
 | f=>
  show S.flush.1.tape.length<=_/\S.flush.1.bS.length<=_;unfold RD.flush
  split
  ·exact no
  ·refine Nf _ _ _ _ (λS' h1 h2=>?_) (qw _);show(S'.tape++[_]).length<=_/\([]:List (Int×LB)).length<=_;rw[bg,h1];exact⟨bE _,bN _⟩
theorem sD{D:NP}{S:RD}{x:SV}(A:dD h D d S)(o:x.Ok h D)(hp:S.bS.length<1000000000)(ht:S.tape.length<1000000000)
  (hK:∀h' D',Fr D h h'->Gw h D h' D'->dD h' D' d (x.vm.on S).1->K (vI (x.vm.on S).2) h'):gJ Tryz.prog x.v [vP d] h K:=by
 cases x with
 | w ib bb i s b=>
  obtain⟨a1,a2,a3,a4,a5,a6⟩:=o;show C.iR d (some ⟨ib,0,none⟩) (some ⟨bb,0,none⟩) h K;refine iR.ok (os ⟨_,dC a1 rfl,os ⟨s.a,s.l,s.c,dC a2 rfl,dD.write A a5 (λp e=>(a6 p e).2) hp ht λh' D' f g A'=>⟨_,rfl,hK h' D' f g A'⟩⟩⟩)
 | f=>
  show C.iS d h K;exact iS.ok (dD.flush A ht λh' D' f g A'=>⟨_,rfl,hK h' D' f g A'⟩)
theorem τ{D:NP}{S:RD}{xs:List SV}(A:dD h D d S)(o:∀ x ∈ xs,x.Ok h D)
  (s:ak h a (xs.map SV.v)) (ha:∀p,a=some p->p.block<h.size/\¬D p.block) (hp:S.bS.length+xs.length<1000000000) (ht:S.tape.length+xs.length<1000000000)
  (hK:∀h' D',Fr D h h'->Gw h D h' D'->dD h' D' d (qj (xs.map SV.vm) S).1->K (vI (qj (xs.map SV.vm) S).2) h'):C.k8 a xs.length c d h K:=by
 refine k8.ok ⟨λn hh=>0<=n/\n<=xs.length/\∃D' S',dD hh D' d S'/\Fr D h hh/\Gw h D hh D'/\S'.tape.length<=S.tape.length+n.toNat/\S'.bS.length<=S.bS.length+n.toNat/\qj (xs.map SV.vm) S=qj ((xs.drop n.toNat).map SV.vm) S',
  λn _=>((xs.length:Int)-n).toNat,⟨oX,oX,D,S,A,Fr.refl _ _,Gw.refl (bE _) (λb hb=>A.lt hb),oX,oX,rfl⟩,?_⟩
 rintro n h2 ⟨n0,n1,D',S',A',f,g,t1,t2,e⟩;refine cd (λhn=>?_) λhn=>?_
 ·have nE:n.toNat<xs.length:=oX;refine⟨⟨n0,hn⟩,?_⟩
  cases a with
  | none=>
   have s:xs.map SV.v=[]:=s;have:=qx.mp s;rw[this]at nE;exact absurd nE (by simp)
  | some p=>
   have cv:cellOf h2 (p.add n.toNat)=some xs[n.toNat].v:=ai.cell (ai.fr f s (ha p rfl).2) (by rw[jH,fg nE];rfl);rw[lh nE,lI]at e
   have e:qj (xs.map SV.vm) S=if(xs[n.toNat].vm.on S').2=0 then qj ((xs.drop (n.toNat+1)).map SV.vm) (xs[n.toNat].vm.on S').1 else xs[n.toNat].vm.on S':=e
   refine os ⟨_,cv,sD A' ((o _ (ff nE)).fr f g) oX oX λh3 D3 f3 g3 A3=>⟨_,rfl,cn (λhe=>?_) λhe=>?_⟩⟩
   ·rw[if_neg he]at e;have F:Fr D h h3:=f.trans f3 λb hb x=>(g.old b hb).mp x;rw[e]at hK;exact hK h3 D3 F (g.trans g3 f.size) A3
   ·rw[if_pos he]at e;have F:Fr D h h3:=f.trans f3 λb hb x=>(g.old b hb).mp x;have l:=zz S' xs[n.toNat].vm;rw[wrap_i64 oX oX];refine⟨⟨oX,oX,D3,_,A3,F,g.trans g3 f.size,oX,oX,?_⟩,bW hn⟩;rw[e,show(n+1).toNat=n.toNat+1 by omega]
 ·rw[qY oX]at e;have e:qj (xs.map SV.vm) S=(S',0):=e;rw[e]at hK;exact hK h2 D' f g A'
structure Bd(n0:Nat)(D:NP)(hh:ad)(sb:Nat)(R:NP)(xs:List SV):Prop where
 rsb:R sb
 ge:∀b,R b->n0<=b/\b<hh.size
 own:dA hh sb
 row:∃a c,rd hh sb=[vS a xs.length c]/\Sl hh 1 a xs.length c (xs.map SV.v) (λb=>R b/\b≠sb)
 ok:∀x∈xs,x.Ok hh (λb=>D b∨R b)
theorem Bd.no{n0:Nat}{D:NP}{hh h':ad}{sb:Nat}{R:NP}{xs:List SV}(b:Bd n0 D hh sb R xs)(f:Fr No hh h')(hD:∀ b,D b->b<hh.size):Bd n0 D h' sb R xs:=by
 obtain⟨a,c,e,s⟩:=b.row
 exact⟨b.rsb,λx hx=>⟨(b.ge x hx).1,mV (b.ge x hx).2 f.size⟩,f.own b.own.lt (λx=>x) b.own,⟨a,c,(f.rd b.own.lt λx=>x).trans e,s.fr f λ_ _ _ x=>x⟩,
  λx hx=>(b.ok x hx).no f λy hy=>hy.elim (hD y) λz=>(b.ge y z).2⟩
theorem GL{D:NP}{xs:List SV}{x:SV}{elem:TI}{K:HP}{v:Value}(b:Bd n0 D hh sb R xs)(hD:∀ b,D b->b<n0)(hx:x.Ok hh (λb=>D b∨R b))(hv:v=x.v)(hl:xs.length<1000000)
  (hz:elem.zero.length=elem.cells) (hc:elem.cells=1) (hby:elem.bytes<=64)
  (hK:∀h' R',Fr R hh h'->(∀b,R' b->R b∨hh.size<=b)->Bd n0 D h' sb R' (xs++[x])->K h') :
  ∀sA sL sC,cellOf hh ⟨sb,0,none⟩=some (vS sA sL sC)->
  aC [v] e hh λh4=>∃aM:LV,List.length aM=1*1/\ak h4 (some (bA hh)) aM/\(∀v∈aM,v.oneCell'=true)/\
   aJ elem e sA sL sC 1 aM h4 λeC dT fD h5=>ae (some (⟨sb,0,none⟩:Addr)) λp2=>Wx.bD p2 (vS eC dT fD) h5 λh6=>K h6:=by
 intro sA sL sC hs;subst hv;obtain⟨a,c,er,s⟩:=b.row;have hs':some (vS a xs.length c)=some (vS sA sL sC):=(dC er rfl).symm.trans hs
 cases hs'
 refine aC.intro λh4 n4=>?_;have z4:=n4.size;have sbl:=b.own.lt;have one:x.v.oneCell'=true:=by cases x <;> rfl
 refine⟨[x.v],rfl,ah n4.rd,by intro v hv;rw[kU.mp hv];exact one,?_⟩;have s4:Sl h4 elem.cells sA xs.length sC (xs.map SV.v) (λb=>R b/\b≠sb):=by rw[hc];exact s.fr n4.fr λ_ _ _ x=>x
 refine cY s4 (by rw[hc];rfl) hz (k9 (WA (show xs.length+1<=1000000 by omega) hby) dX) oX λa' c' h5 f5 s5=>?_;rw[hc]at s5;have z5:=f5.size;have f45:Fr (λb=>R b/\b≠sb) hh h5:=(n4.fr.mono λ_ _ x=>x.elim).trans f5 λb _ x=>x;have o5:dA h5 sb:=f45.own sbl (λx=>x.2 rfl) b.own;have r5:rd h5 sb=[vS sA xs.length sC]:=(f45.rd sbl λx=>x.2 rfl).trans er;refine os (bD.intro o5 (by rw[r5];exact Nat.one_pos) λh6 d6=>?_);rw[r5]at d6;have z6:=d6.size;have hb:=b.rsb;have f46:Fr R hh h6:=(f45.mono λb _ x=>x.1).did d6 λ_=>hb
 have s6:Sl h6 1 a' (xs.length+1) c' (xs.map SV.v++[x.v]) (λb=>(R b/\b≠sb)∨h4.size<=b):=s5.fr d6.fr λb hb x e=>by
  have e:b=sb:=e
  rcases x with x|x
  ·exact x.2 e
  ·omega
 have ge:=b.ge
 have g:Gw hh (λb=>D b∨R b) h6 (λb=>D b∨((R b∨h4.size<=b)/\b<h6.size)):=by
  refine⟨λy hy=>?_,λy hy=>?_⟩
  ·constructor
   ·rintro(q|⟨q|q,_⟩)
    ·exact .inl q
    ·exact .inr q
    ·omega
   ·rintro(q|q)
    ·exact .inl q
    ·exact .inr ⟨.inl q,oX⟩
  ·rcases hy with q|q
   ·have:=hD y q;have:=(ge _ hb).1;omega
   ·exact q.2
 have fx:Fr (λb=>D b∨R b) hh h6:=f46.mono λ_ _ x=>.inr x;refine hK h6 (λb=>(R b∨h4.size<=b)/\b<h6.size) f46 (λy hy=>hy.1.imp id λq=>oX) ⟨⟨.inl hb,oX⟩,λy hy=>⟨?_,hy.2⟩,d6.own,⟨a',c',?_,?_⟩,λy hy=>?_⟩
 ·rcases hy.1 with q|q
  ·exact(ge y q).1
  ·have:=(ge _ hb).1;omega
 ·rw[d6.rd,bg,ik];rfl
 ·rw[bg,ik,eT];have l6:∀y,dA h6 y->y<h6.size:=λy o=>o.lt;obtain⟨q1,q2⟩:=s6;refine⟨q1,?_⟩
  cases a' with
  | none=>exact q2
  | some p=>
   obtain⟨a1,a2,a3,a4⟩:=q2;refine⟨a1,⟨⟨a2.imp (·.1) id,a3.lt⟩,λe=>?_⟩,a3,a4⟩
   rcases a2 with q|q
   ·exact q.2 e
   ·omega
 ·rcases nB.mp hy with q|q
  ·exact(b.ok y q).fr fx g
  ·rw[kU.mp q];exact hx.fr fx g
theorem oV{D:NP}{xs:List SV}{s:Sc}(b:Bd n0 D hh sb R xs)(hD:∀ b,D b->b<n0)(B:av hh s.a s.l bs)
  (hs:∀p,s.a=some p->p.block<hh.size/\¬(D p.block∨R p.block)) (hl:xs.length<1000000)
  (hK:∀h' R' ib bb,Fr R hh h'->(∀b,R' b->R b∨hh.size<=b)->Bd n0 D h' sb R' (xs++[.w ib bb i s bs])->K (.tuple #[]) h'):C.fI (some ⟨sb,0,none⟩) i s.a s.l s.c hh K:=by
 refine fI.ok (aC.intro λh2 n2=>aC.intro λh3 n3=>os ?_);have F:Fr No hh h3:=n2.fr.new n3;have z2:=n2.size;have z3:=n3.size;have n0s:n0<=hh.size:=by have:=b.ge sb b.rsb;omega
 have b3:=b.no F λx hx=>by have:=hD x hx;omega
 have no:∀x,hh.size<=x->¬(D x∨R x):=λx hx y=>by
  rcases y with y|y
  ·have:=hD x y;omega
  ·have:=b.ge x y;omega
 have ok:(SV.w hh.size h2.size i s bs).Ok h3 (λb=>D b∨R b):=
  ⟨(n3.fr.rd oX λx=>x).trans n2.rd,n3.rd,⟨oX,no _ (bE _)⟩,⟨oX,no _ oX⟩,av.fr F B λ_ _ x=>x,λp e=>⟨by have:=(hs p e).1;omega,(hs p e).2⟩⟩
 obtain⟨a,c,er,sl⟩:=b3.row;exact⟨a,_,c,dC er rfl,GL (x:=.w hh.size h2.size i s bs) b3 hD ok rfl hl rfl rfl (xS rfl) (λh6 R' f g b6=>hK h6 R' _ _ ((F.mono λ_ _ x=>x.elim).trans f λ_ _ x=>x) (λy hy=>(g y hy).imp id λq=>oX) b6) _ _ _ (dC er rfl)⟩
theorem oW{D:NP}{xs:List SV}(b:Bd n0 D hh sb R xs)(hD:∀ b,D b->b<n0)(hl:xs.length<1000000)
  (hK:∀h' R',Fr R hh h'->(∀b,R' b->R b∨hh.size<=b)->Bd n0 D h' sb R' (xs++[.f])->K (.tuple #[]) h'):C.fJ (some ⟨sb,0,none⟩) hh K:=by
 obtain⟨a,c,er,sl⟩:=b.row;exact fJ.ok (os ⟨a,_,c,dC er rfl,GL (x:=.f) b hD trivial rfl hl rfl rfl (xS rfl) (λh6 R' f g b6=>hK h6 R' f g b6) _ _ _ (dC er rfl)⟩)
abbrev Rs :=List (Int×Sc×Tm.cC)
def nb(rs:Rs):Nb:=rs.map λr=>(r.1,r.2.2)
def mz(r:Int×Sc×Tm.cC):LV:=[vI r.1,r.2.1.v]
theorem mQ(r:Int×Sc×Tm.cC):∀v∈mz r,v.oneCell'=true:=by
 intro v hv
 rcases fO.mp hv with rfl|hv
 ·rfl
 ·rw[kU.mp hv];rfl
structure Bl(h:ad)(F:NP)(a:OA)(rs:Rs):Prop where
 cells:ak h a (rs.flatMap mz)
 ab:∀p,a=some p->p.block<h.size/\¬F p.block
 ok:∀r∈rs,av h r.2.1.a r.2.1.l r.2.2/\∀p,r.2.1.a=some p->p.block<h.size/\¬F p.block
theorem Bl.fr{h h':ad}{F G F':NP}{a:OA}{rs:Rs}(b:Bl h F a rs)(f:Fr G h h')(hG:∀ x,x<h.size->G x->F x)(hF:∀ x,x<h.size->F' x->F x):Bl h' F' a rs:=
 ⟨ak.fr f b.cells λp e x=>(b.ab p e).2 (hG _ (b.ab p e).1 x),λp e=>⟨mV (b.ab p e).1 f.size,λx=>(b.ab p e).2 (hF _ (b.ab p e).1 x)⟩,
  λr hr=>⟨av.fr f (b.ok r hr).1 λp e x=>((b.ok r hr).2 p e).2 (hG _ ((b.ok r hr).2 p e).1 x),λp e=>⟨mV ((b.ok r hr).2 p e).1 f.size,λx=>((b.ok r hr).2 p e).2 (hF _ ((b.ok r hr).2 p e).1 x)⟩⟩⟩
theorem Bl.no{rs:Rs}(b:Bl h F a rs)(f:Fr No h h'):Bl h' F a rs:=b.fr f (λ_ _ x=>x.elim) λ_ _ x=>x
theorem Bl.get{rs:Rs}(b:Bl h F a rs){i:Nat}(hi:i<rs.length):∃p,a=some p/\ai h (p.add (i*2)) (mz rs[i]):=by
 have c:=b.cells;have hw:∀r∈rs,(mz r).length=2:=λ_ _=>rfl;have hl:=bq mz 2 rs hw;have hp:=kv mz 2 rs hw i hi;have h2:(mz rs[i]).length=2:=rfl
 cases a with
 | none=>
  have c:rs.flatMap mz=[]:=c;rw[c]at hl;exact absurd hl (by simp;omega)
 | some p=>
  refine⟨p,rfl,?_⟩;have:=(ai.take (ai.drop c (i*2)) 2);rw[hp]at this;exact this
theorem Bd.grow{n0:Nat}{D R':NP}{rs:Rs}(B:Bl hh (λb=>D b∨R b) a rs)(f:Fr R hh h')(g:∀ b,R' b->R b∨hh.size<=b):Bl h' (λb=>D b∨R' b) a rs:=
 B.fr f (λ_ _ x=>.inr x) λy hy x=>x.imp id λz=>(g y z).elim id λq=>by omega
theorem RL(l:Nb)(p:Int×LB):ws (l++[p])=ws l++[.w p.1 p.2]:=eT
theorem Ug{D:NP}{xs:List SV}{rs:Rs}(b:Bd n0 D hh sb R xs)(hD:∀ b,D b->b<n0)(B:Bl hh (λb=>D b∨R b) a rs)(hl:xs.length+rs.length<100000)
  (hK:∀h' R' ys,Fr R hh h'->(∀b,R' b->R b∨hh.size<=b)->Bd n0 D h' sb R' (xs++ys)->ys.map SV.vm=JM (nb rs)->ys.length=rs.length+3->K (.tuple #[]) h'):C.kF (some ⟨sb,0,none⟩) a rs.length c hh K:=by
 refine kF.ok ⟨λn h2=>0<=n/\n<=rs.length/\∃R' ys,Fr R hh h2/\(∀b,R' b->R b∨hh.size<=b)/\Bd n0 D h2 sb R' (xs++ys)/\ys.map SV.vm=ws (nb (rs.take n.toNat))/\ys.length=n.toNat,
  λn _=>((rs.length:Int)-n).toNat,⟨oX,oX,R,[],Fr.refl _ _,λb hb=>.inl hb,by rw[gi];exact b,rfl,rfl⟩,?_⟩
 rintro n h2 ⟨n0',n1,R',ys,f,g,b2,e,el⟩;have z2:=f.size;refine cd (λhn=>?_) λhn=>?_
 ·have nE:n.toNat<rs.length:=oX;have B2:=Bd.grow (n0:=n0) B f g;obtain⟨p,rfl,cc⟩:=B2.get nE;refine⟨⟨n0',hn⟩,os ⟨_,rfl,cc,aF.intro rfl (mQ _) rfl λh4 n4=>⟨_,aZ n4.rd rfl,rs[n.toNat].2.1.a,rs[n.toNat].2.1.l,rs[n.toNat].2.1.c,aZ n4.rd rfl,?_⟩⟩⟩;have b4:=b2.no n4.fr λx hx=>by have:=hD x hx;have:=b2.ge sb b2.rsb;omega
  have B4:=B2.no n4.fr;have z4:=n4.size;obtain⟨k1,k2⟩:=B4.ok rs[n.toNat] (ff nE);refine oV b4 hD k1 k2 (by rw[bg];omega) λh5 R5 ib bb f5 g5 b5=>⟨rfl,?_⟩;rw[wrap_i64 oX oX];refine⟨⟨oX,oX,R5,ys++[.w ib bb rs[n.toNat].1 rs[n.toNat].2.1 rs[n.toNat].2.2],(f.new n4).trans f5 λx hx y=>(g x y).elim id λq=>oX,λx hx=>?_,by rw[iW]at b5;exact b5,?_,?_⟩,bW hn⟩
  ·rcases g5 x hx with q|q
   ·exact g x q
   ·exact .inr oX
  ·rw[show(n+1).toNat=n.toNat+1 by omega,eY _ _ nE,eT,e];unfold nb;rw[eT];exact(RL (List.map (λr:Int×Sc×Tm.cC=>(r.1,r.2.2)) (rs.take n.toNat)) (rs[n.toNat].1,rs[n.toNat].2.2)).symm
  ·rw[bg,el,ik];omega
 ·have en:rs.take n.toNat=rs:=gL oX;rw[en]at e;refine oW b2 hD (by rw[bg];omega) λh6 R6 f6 g6 b6=>⟨rfl,Hd.GK λh7 n7=>⟨_,_,_,rfl,?_⟩⟩;have z6:=f6.size;have z7:=n7.size;have lt6:=b6.own.lt;have b7:=b6.no n7.fr λx hx=>by have:=hD x hx;have:=b6.ge sb b6.rsb;omega
  refine oV (s:=⟨some (bA h6),512,512⟩) (bs:=Hd.aV 512) b7 hD (yv n7.rd (Hd.eN 512)) (λp e=>by
    cases e
    refine⟨by show h6.size<h7.size;omega,λy=>?_⟩
    rcases y with y|y
    ·have:=hD h6.size y;have:=b6.ge sb b6.rsb;omega
    ·have:=b6.ge h6.size y;omega) (by rw[bg,bg,ik];omega) λh8 R8 ib bb f8 g8 b8=>⟨rfl,?_⟩
  have z8:=f8.size;refine oW b8 hD (by simp only[bg,ik];omega) λh9 R9 f9 g9 b9=>⟨rfl,?_⟩;have G6:∀x,R6 x->R x∨hh.size<=x:=λx hx=>(g6 x hx).elim (g x) λq=>.inr oX;have G8:∀x,R8 x->R x∨hh.size<=x:=λx hx=>(g8 x hx).elim (G6 x) λq=>.inr oX;have G9:∀x,R9 x->R x∨hh.size<=x:=λx hx=>(g9 x hx).elim (G8 x) λq=>.inr oX;have st:∀{T:NP},(∀x,T x->R x∨hh.size<=x)->∀x,x<hh.size->T x->R x:=λG x hx y=>(G x y).elim id λq=>by omega
  refine hK h9 R9 (ys++[.f,.w ib bb 1 ⟨some (bA h6),512,512⟩ (Hd.aV 512),.f]) ((((f.trans f6 (st g)).new n7).trans f8 (st G6)).trans f9 (st G8)) G9 ?_ ?_ ?_
  ·rw[iW,iW,iW]at b9;exact b9
  ·rw[eT,e];rfl
  ·rw[bg,el];show n.toNat+3=_;omega
theorem wB{rs:Rs}(B:Bl hh F a rs)(hl:rs.length<1000000)
  (hK:∀h',Fr No hh h'->K (.bool (Dm (nb rs) n)) h'):C.xe a rs.length c n hh K:=by
 unfold Dm at hK
 refine xe.ok ⟨λlast k h2=>0<=k/\k<=rs.length/\Fr No hh h2/\Hd.vK n 97 ((nb rs).map (·.1))=Hd.vK n last ((nb (rs.drop k.toNat)).map (·.1)),
  λ_ k _=>((rs.length:Int)-k).toNat,⟨oX,oX,Fr.refl _ _,rfl⟩,?_⟩
 rintro last k h2 ⟨k0,k1,f,e⟩;refine cd (λhk=>?_) λhk=>?_
 ·have wO:k.toNat<rs.length:=oX;obtain⟨p,rfl,cc⟩:=(B.no f).get wO;rw[lh wO]at e;have e:Hd.vK n 97 ((nb rs).map (·.1))=(!(decide (rs[k.toNat].1<=last) || decide (rs[k.toNat].1>=n)) && Hd.vK n rs[k.toNat].1 ((nb (rs.drop (k.toNat+1))).map (·.1))):=e;refine⟨⟨k0,hk⟩,os ⟨_,rfl,cc,aF.intro rfl (mQ _) rfl λh4 n4=>⟨_,aZ n4.rd rfl,?_⟩⟩⟩;refine cd (λh1=>?_) λh1=>⟨_,aZ n4.rd rfl,?_⟩
  ·rw[e,decide_eq_true h1]at hK;exact hK h4 (f.new n4)
  rw[decide_eq_false h1]at e;refine cd (λh3=>?_) λh3=>⟨_,aZ n4.rd rfl,?_⟩
  ·rw[e,decide_eq_true h3]at hK;exact hK h4 (f.new n4)
  rw[decide_eq_false h3]at e;rw[wrap_i64 oX oX];exact⟨⟨oX,oX,f.new n4,by rw[show(k+1).toNat=k.toNat+1 by omega];exact e⟩,bW hk⟩
 ·rw[qY oX]at e;have e:Hd.vK n 97 ((nb rs).map (·.1))=true:=e;have el:(nb rs).length=rs.length:=aP ..;rw[e,el]at hK;exact hK h2 f
theorem JN{n m:Int}(h:n<=m):∀(l:List Int) (last:Int),Hd.vK n last l=true->Hd.vK m last l=true
 | [],_,_=>rfl
 | a::r,last,e=>by
  have e:(!(decide (a<=last) || decide (a>=n)) && Hd.vK n a r)=true:=e;show(!(decide (a<=last) || decide (a>=m)) && Hd.vK m a r)=true;rw[dB]at e;rw[JN h r a e.2];have h1:=e.1
  by_cases x:a<=last
  ·rw[decide_eq_true x]at h1;cases h1
  ·by_cases y:a>=n
   ·rw[decide_eq_true y,Bool.or_true]at h1;cases h1
   ·rw[decide_eq_false x,decide_eq_false oX];rfl
structure Row(n0:Nat)(h:ad)(F:NP)(w:Nat)(a:OA)(l c:Nat)(xs:LV):Prop where
 s:Sl h w a l c xs F
 ge:∀b,F b->n0<=b/\b<h.size
theorem Row.nil(n0:Nat)(h:ad)(w:Nat):Row n0 h No w none 0 0 []:=⟨Sl.nil _ _ _,λ_ x=>x.elim⟩
theorem Row.keep{G:NP}(r:Row n0 h F w a l c xs)(f:Fr G h h')(hG:∀ b,F b->¬ G b):Row n0 h' F w a l c xs:=
 ⟨r.s.fr f λb _ x=>hG b x,λb x=>⟨(r.ge b x).1,mV (r.ge b x).2 f.size⟩⟩
theorem zA{vs:LV}{elem:TI}{K:OA->Nat->Nat->ad->Prop}(r:Row n0 hh F w a l c xs)(hv:vs.length=w)(one:∀ v ∈ vs,v.oneCell'=true)
  (hz:elem.zero.length=elem.cells) (hc:elem.cells=w) (hby:elem.bytes<=64) (hl:l<1000000) (hn:n0<=hh.size)
  (hK:∀a' c' h' F',Fr F hh h'->(∀b,F' b->F b∨hh.size<=b)->Row n0 h' F' w a' (l+1) c' (xs++vs)->K a' (l+1) c' h') :
  aC vs e hh λh4=>∃aM:LV,List.length aM=1*w/\ak h4 (some (bA hh)) aM/\(∀v∈aM,v.oneCell'=true)/\aJ elem e a l c 1 aM h4 K:=by
 refine aC.intro λh4 n4=>?_;have z4:=n4.size;refine⟨vs,by rw[hv,OU],ah n4.rd,one,?_⟩;have s4:Sl h4 elem.cells a l c xs F:=by rw[hc];exact r.s.fr n4.fr λ_ _ _ x=>x
 refine cY s4 (by rw[hc,hv,OU]) hz (k9 (WA (show l+1<=1000000 by omega) hby) dX) oX λa' c' h5 f5 s5=>?_;rw[hc]at s5;have z5:=f5.size;refine hK a' c' h5 (λb=>(F b∨h4.size<=b)/\b<h5.size) ((n4.fr.mono λ_ _ x=>x.elim).trans f5 λb _ x=>x) (λb hb=>hb.1.imp id λq=>oX) ⟨?_,λb hb=>⟨?_,hb.2⟩⟩
 ·obtain⟨q1,q2⟩:=s5;refine⟨q1,?_⟩
  cases a' with
  | none=>exact q2
  | some p=>obtain⟨a1,a2,a3,a4⟩:=q2;exact⟨a1,⟨a2,a3.lt⟩,a3,a4⟩
 ·rcases hb.1 with q|q
  ·exact(r.ge b q).1
  ·omega
theorem SV.Ok.aex{D E:NP}{x:SV}(a:x.Ok h D)(hE:∀ b,E b->D b):x.Ok h E:=by
 cases x with
 | f=>trivial
 | w ib bb i s b=>
  obtain⟨a1,a2,a3,a4,a5,a6⟩:=a;exact⟨a1,a2,⟨a3.1,λy=>a3.2 (hE _ y)⟩,⟨a4.1,λy=>a4.2 (hE _ y)⟩,a5,λp e=>⟨(a6 p e).1,λy=>(a6 p e).2 (hE _ y)⟩⟩
def hsc(r:Int×Sc×Tm.cC):Hd.Sc:=⟨r.2.1.a,r.2.1.l,r.2.1.c⟩
theorem Lu{D:NP}{S:RD}{xs:List SV}(b:Bd n0 D hh sb R xs)(hD:∀ b,D b->b<n0)(A:dD hh D d S)(hp:S.bS.length+xs.length<1000000000)(ht:S.tape.length+xs.length<1000000000)
  (hK:∀h' D',Fr D hh h'->Gw hh D h' D'->dD h' D' d (qj (xs.map SV.vm) S).1->K (vI (qj (xs.map SV.vm) S).2) h') :
  ∃(BR:OA) (Bu:Nat) (De:Nat),cellOf hh ⟨sb,0,none⟩=some (vS BR Bu De)/\C.k8 BR Bu De d hh λE1 qD=>∃(n6:Int),E1 = vI n6/\K (vI n6) qD:=by
 obtain⟨a,c,e,s⟩:=b.row;refine⟨a,_,c,dC e rfl,τ A (λx hx=>(b.ok x hx).aex λ_ y=>.inl y) s.cells (λp e=>?_) hp ht λh' D' f g A'=>⟨_,rfl,hK h' D' f g A'⟩⟩;subst e;obtain⟨_,_,q,o,_⟩:=s;exact⟨o.lt,λy=>by have:=hD _ y;have:=(b.ge _ q.1).1;omega⟩
theorem Uh(l:Nb){n:Nat}(h:n<l.length):ws ((Lt l).take (n+1))=ws ((Lt l).take n)++[.w (2+(n:Int)) l[n].2]:=by
 rw[eY _ _ (by rw[oD];exact h),RL,Nd]
theorem WR(rs:Rs){n:Nat}(h:n<rs.length):(nb rs)[n]'(by unfold nb;rw[aP];exact h)=(rs[n].1,rs[n].2.2):=mu ..
theorem tf{D:NP}{S:RD}{rs:Rs}(G:Re.lT hh)(A:dD hh D d S)(B:Bl hh D a rs)(hl:rs.length<1000000)(hp:S.bS.length<100000000)(ht:S.tape.length<100000000)
  (hK:∀h' D',Fr D hh h'->Gw hh D h' D'->dD h' D' d (Dn S (nb rs)).1->K (vI (Dn S (nb rs)).2) h'):C.qa d a rs.length c hh K:=by
 have hDl:∀b,D b->b<hh.size:=λb x=>A.lt x;have same:∀{h'},Fr No hh h'->Fr D hh h'/\Gw hh D h' D/\dD h' D d S:=λf=>⟨f.mono λ_ _ x=>x.elim,Gw.refl f.size hDl,A.no f⟩;have el:(nb rs).length=rs.length:=aP ..;unfold Dn at hK;refine qa.ok (ce (λh0=>?_) λh0=>?_)
 ·have e:nb rs=[]:=List.eq_nil_of_length_eq_zero (by rw[el];omega);rw[if_pos e]at hK;obtain⟨x,y,z⟩:=same (Fr.refl No hh);exact hK hh D x y z
 have fP:nb rs≠[]:=λe=>by rw[e]at el;have:(0:Nat)=rs.length:=el;omega
 rw[if_neg fP]at hK;refine dD.blocks A ⟨_,rfl,wB B oX λh3 f3=>⟨_,rfl,iu (cs (λhm=>?_) λhm=>?_)⟩⟩
 rotate_left
 ·rw[if_pos hm]at hK;obtain⟨x,y,z⟩:=same f3;exact hK h3 D x y z
 rw[if_neg (by rw[hm];simp)]at hK;have z3:=f3.size;have toNo:∀{h'},Fr (cW hh.size) hh h'->Fr No hh h':=λf=>f.mono λb hb x=>by have x:hh.size<=b:=x;omega
 refine⟨λna nl nc da dl dc n h=>0<=n/\n<=rs.length/\nl=n.toNat/\dl=n.toNat/\Fr No hh h/\∃F1 F2:NP,Row hh.size h F1 1 na nl nc (Hd.ints ((rs.take n.toNat).map (·.1)))/\Row hh.size h F2 1 da dl dc ((rs.take n.toNat).map λr=>(hsc r).v)/\∀b,F1 b->¬F2 b,
  λ_ _ _ _ _ _ n _=>((rs.length:Int)-n).toNat,⟨oX,oX,rfl,rfl,f3,No,No,Row.nil _ _ _,Row.nil _ _ _,λb x=>x.elim⟩,?_⟩
 rintro na nl nc da dl dc n h4 ⟨n0,n1,rfl,rfl,f4,F1,F2,r1,r2,dj⟩;have z4:=f4.size;refine cd (λhn=>?_) λhn=>?_
 ·have nE:n.toNat<rs.length:=oX;obtain⟨p,rfl,cc⟩:=(B.no f4).get nE;refine⟨⟨n0,hn⟩,os ⟨_,rfl,cc,aF.intro rfl (mQ _) rfl λh6 n6=>⟨_,aZ n6.rd rfl,?_⟩⟩⟩;have z6:=n6.size;have r1':=r1.keep n6.fr λ_ _ x=>x;have r2':=r2.keep n6.fr λ_ _ x=>x;refine zA r1' rfl (λv hv=>by rw[kU.mp hv];rfl) rfl rfl (xS rfl) oX oX λna' nc' h8 F1' f8 g8 ahP=>?_;have z8:=f8.size;have r68:rd h8 h4.size=mz rs[n.toNat]:=(f8.rd oX λx=>by have:=r1.ge _ x;omega).trans n6.rd;refine⟨rs[n.toNat].2.1.a,rs[n.toNat].2.1.l,rs[n.toNat].2.1.c,aZ r68 rfl,?_⟩;have r2'':=r2'.keep f8 λb x y=>dj b y x;refine zA r2'' rfl (λv hv=>by rw[kU.mp hv];rfl) rfl rfl (xS rfl) oX oX λda' dc' bG F2' f10 g10 ahQ=>?_;rw[wrap_i64 oX oX];have en:(n+1).toNat=n.toNat+1:=oX;refine⟨⟨oX,oX,en.symm,en.symm,?_,F1',F2',?_,?_,?_⟩,bW hn⟩
  ·have q1:Fr No hh h8:=(f4.new n6).trans f8 λb hb x=>by have:=r1.ge b x;omega
   exact q1.trans f10 λb hb x=>by have:=r2.ge b x;omega
  ·have:=ahP.keep f10 λb x y=>by
    rcases g8 b x with q|q
    ·exact dj b q y
    ·have:=(r2.ge b y).2;omega
   rw[en,eY _ _ nE,eT];unfold Hd.ints at this ⊢;rw[eT];exact this
  ·rw[en,eY _ _ nE,eT];exact ahQ
  ·intro b x y
   rcases g10 b y with q|q
   ·rcases g8 b x with q'|q'
    ·exact dj b q' q
    ·have:=(r2.ge b q).2;omega
   ·have:=(ahP.ge b x).2;omega
 have et:rs.take n.toNat=rs:=gL oX;rw[et]at r1 r2;have ln:n.toNat=rs.length:=oX;have elm:(rs.map (·.1)).length=n.toNat:=by rw[aP,ln]
 have υ:Hd.vK S.aE.length 97 (rs.map (·.1))=true/\rs.length<=96:=by
  unfold Dm at hm;rw[dB]at hm;have h1:=hm.1;have h2:=of_decide_eq_true hm.2;rw[el]at h2;unfold nb at h1;rw[qJ]at h1;exact⟨h1,oX⟩
 have hmm:Hd.GI (rs.map (·.1)) 16384=true:=by
  unfold Hd.GI;rw[JN (by have:=A.max.1;omega) _ _ υ.1,decide_eq_true (by rw[elm];omega),decide_eq_true (by rw[elm];omega)];rfl
 have Dt:Hd.π h4 da n.toNat (rs.map hsc) (rs.map (·.2.2)):=by
  refine⟨?_,by rw[aP,ln],by rw[aP,aP],λi h1 h2=>?_⟩
  ·rw[qJ];exact r2.s.cells
  ·rw[mu,mu];rw[aP]at h1;exact av.fr f4 (B.ok _ (ff h1)).1 λ_ _ x=>x
 have aey:((nb rs).map (·.2)).all (λd=>d.length==512)=Hd.blM (rs.map (·.2.2)) ((rs.map (·.1)).length):=by
  unfold Hd.blM nb;rw[qJ,aP,aP,beq_self_eq_true,Bool.and_true];rfl
 rw[aey]at hK;refine Hd.Uf (G.no f4) r1.s.cells elm oX Dt oX (λx=>absurd (hmm.symm.trans x) (by simp)) (λ_ hb cu f11=>⟨_,_,_,_,rfl,?_⟩) λ_ hb Vq cu f11 VP E2=>⟨_,_,_,_,rfl,?_⟩
 ·rw[if_pos hb]at hK;obtain⟨x,y,z⟩:=same (f4.no f11);exact cn (λ_=>hK cu D x y z) λx=>absurd x dX
 rw[if_neg (by rw[hb];simp)]at hK;have Ng:=f4.no f11;have Ua:=f11.size;refine cn (λx=>absurd rfl x) λ_=>dD.down (A.no Ng) ⟨_,rfl,cs (λhd=>?_) λhd=>?_⟩
 ·rw[if_pos hd]at hK;obtain⟨x,y,z⟩:=same Ng;exact hK cu D x y z
 rw[if_neg (by rw[hd];simp)]at hK;refine aC.intro λbQ n13=>?_;have F13:=Ng.new n13;have Vp:=n13.size
 have b13:Bd cu.size D bQ cu.size (λb=>b=cu.size) []:=
  ⟨rfl,λb e=>⟨oX,oX⟩,n13.own,⟨none,0,n13.rd,Sl.nil _ _ _⟩,λx hx=>absurd hx nT⟩
 have hD:∀b,D b->b<cu.size:=λb x=>by have:=hDl b x;omega
 have ehd:pj (nb rs)=Hd.kT (rs.map (·.1)) (Hd.Ba (Hd.kT (rs.map (·.1)) 0) (rs.map (·.2.2))).toNat:=by
  unfold pj nb;rw[qJ,qJ];rfl
 rw[<-ehd]at E2;have lhd:(pj (nb rs)).length=512:=by have:=E2.1;rw[aP]at this;omega
 have sh:av bQ (some ⟨Vq,0,none⟩) 512 (pj (nb rs)):=av.fr n13.fr E2.str λ_ _ x=>x;have ahR:Bl bQ (λb=>D b∨b=cu.size) a rs:=B.fr F13 (λ_ _ x=>x.elim) λx hx y=>y.elim id λe=>by omega
 have rM:Vq<cu.size:=by obtain⟨_,_,_,o,_⟩:=E2;exact o.lt
 refine⟨λn h=>0<=n/\n<=rs.length/\∃R ys,Fr (λb=>b=cu.size) bQ h/\(∀b,R b->b=cu.size∨bQ.size<=b)/\Bd cu.size D h cu.size R ys/\ys.map SV.vm=ws ((Lt (nb rs)).take n.toNat)/\ys.length=n.toNat,
  λn _=>((rs.length:Int)-n).toNat,⟨oX,oX,_,[],Fr.refl _ _,λb x=>.inl x,b13,rfl,rfl⟩,?_⟩
 rintro m cX ⟨m0,m1,R,ys,f14,g14,b14,e14,l14⟩;have WI:=f14.size;have B14:=Bd.grow (n0:=cu.size) ahR f14 g14;refine cd (λhn=>?_) λhn=>?_
 ·have nE:m.toNat<rs.length:=oX;obtain⟨p,rfl,cc⟩:=B14.get nE;refine⟨⟨m0,hn⟩,os ⟨_,rfl,cc,aF.intro rfl (mQ _) rfl λgN n16=>⟨rs[m.toNat].2.1.a,rs[m.toNat].2.1.l,rs[m.toNat].2.1.c,aZ n16.rd rfl,?_⟩⟩⟩;have z16:=n16.size;have b16:=b14.no n16.fr λx hx=>by have:=hD x hx;omega
  obtain⟨k1,k2⟩:=(B14.no n16.fr).ok rs[m.toNat] (ff nE);rw[wq (2+m)];refine oV b16 hD k1 k2 oX λgO R17 ib bb f17 g17 b17=>⟨rfl,?_⟩;rw[wrap_i64 oX oX];refine⟨⟨oX,oX,R17,_,(f14.new n16).trans f17 λx hx y=>(g14 x y).elim id λq=>oX,λx hx=>?_,b17,?_,?_⟩,bW hn⟩
  ·rcases g17 x hx with q|q
   ·exact g14 x q
   ·exact .inr oX
  ·rw[show(m+1).toNat=m.toNat+1 by omega,Uh _ (by rw[el];exact nE),eT,e14,WR _ nE,show((m.toNat:Nat):Int)=m by omega];rfl
  ·rw[bg,l14,ik];omega
 have e14':ys.map SV.vm=ws (Lt (nb rs)):=by rw[e14,gL (by rw[oD,el];omega)]
 refine oW b14 hD oX λjk R18 f18 g18 b18=>⟨rfl,?_⟩;have z18:=f18.size;have G18:∀x,R18 x->x=cu.size∨bQ.size<=x:=λx hx=>(g18 x hx).elim (g14 x) λq=>.inr oX;have st:∀{T:NP},(∀x,T x->x=cu.size∨bQ.size<=x)->∀x,x<bQ.size->T x->x=cu.size:=λG x hx y=>(G x y).elim id λq=>by omega
 have F18:Fr (λb=>b=cu.size) bQ jk:=f14.trans f18 (st g14)
 have hr:∀{T:NP},(∀x,T x->x=cu.size∨bQ.size<=x)->¬T Vq:=λG x=>by
  rcases G _ x with q|q <;> omega
 refine oV (s:=⟨some ⟨Vq,0,none⟩,512,512⟩) (bs:=pj (nb rs)) b18 hD (av.fr F18 sh λp e=>by cases e;show ¬Vq=cu.size;omega) (λp e=>by
   cases e
   refine⟨by show Vq<jk.size;omega,λy=>?_⟩
   rcases y with y|y
   ·have y:D Vq:=y;have:=hDl _ y;omega
   ·exact hr G18 y) (by rw[bg,ik];omega) λeX R19 ib bb f19 g19 b19=>⟨rfl,?_⟩
 have z19:=f19.size;have G19:∀x,R19 x->x=cu.size∨bQ.size<=x:=λx hx=>(g19 x hx).elim (G18 x) λq=>.inr oX;have F19:=F18.trans f19 (st G18);refine oW b19 hD (by simp only[bg,ik];omega) λiG R20 f20 g20 b20=>⟨rfl,?_⟩;have z20:=f20.size;have G20:∀x,R20 x->x=cu.size∨bQ.size<=x:=λx hx=>(g20 x hx).elim (G19 x) λq=>.inr oX;have F20:=F19.trans f20 (st G19);have B20:=Bd.grow (n0:=cu.size) ahR F20 G20;refine Ug b20 hD B20 (by simp only[bg,ik];omega) λoM R21 zs f21 g21 b21 ez lz=>⟨rfl,?_⟩;have G21:∀x,R21 x->x=cu.size∨bQ.size<=x:=λx hx=>(g21 x hx).elim (G20 x) λq=>.inr oX;have F21:=F20.trans f21 (st G20);have aeC:Fr No hh oM:=(F13.mono λ_ _ x=>x.elim).trans F21 λx hx e=>by have e:x=cu.size:=e;omega
 have est:(ys++[SV.f]++[SV.w ib bb 1 ⟨some ⟨Vq,0,none⟩,512,512⟩ (pj (nb rs))]++[SV.f]++zs).map SV.vm=ru (nb rs) (pj (nb rs)):=by
  rw[eT,ez];unfold ru;congr 1;simp only[eT,e14',iW];rfl
 have Lp:(ys++[SV.f]++[SV.w ib bb 1 ⟨some ⟨Vq,0,none⟩,512,512⟩ (pj (nb rs))]++[SV.f]++zs).length<=20010:=by
  simp only[bg,ik,l14,lz];omega
 refine Lu b21 hD (A.no aeC) oX oX λh' D' f g A'=>?_;rw[est]at A';rw[est];exact hK h' D' (aeC.mono (λ_ _ x=>x.elim) |>.trans f λ_ _ x=>x) ⟨λb hb=>(g.old b (by have:=aeC.size;omega)),g.lt⟩ A'
end Wc
namespace Rf
open Hp W Ad
structure FD where
 first:LB
 gq:List (Int×Int×LB)
 keep:List Bool
 left:Int
 out:Bool
 writes:Int
 ax:Int
structure Dq where
 fa:OA
 fn:Nat
 fc:Nat
 aa:OA
 an:Nat
 ac:Nat
 ka:OA
 kn:Nat
 kc:Nat
 left:Int
 out:Bool
 writes:Int
 ax:Int
def Dq.cells(r:Dq):LV:=
 [vS r.fa r.fn r.fc,vS r.aa r.an r.ac,vS r.ka r.kn r.kc,vI r.left,.bool r.out,vI r.writes,vI r.ax]
structure Ref(h:ad)(b:Nat)(S:FD)(ao:Nat->Nat)(m:Nat)(r:Dq)(es:List mg):Prop where
 sc:ao b=m
 so:dA h b
 sr:rd h b=r.cells
 left:r.left=S.left
 out:r.out=S.out
 writes:r.writes=S.writes
 ax:r.ax=S.ax
 f:Sl h 1 r.fa r.fn r.fc (S.first.map bv) (On ao (m+1))
 fn:r.fn=S.first.length
 φ:S.first.length<=8388608
 a:Sl h 3 r.aa r.an r.ac (es.flatMap mg.cells) (On ao (m+2))
 an:r.an=es.length
 χ:es.length<=140737488355328
 ts:pM h ao (m+3) es S.gq
 k:Sl h 1 r.ka r.kn r.kc (S.keep.map .bool) (On ao (m+4))
 kn:r.kn=S.keep.length
def vn(h:ad)(d:OA)(S:FD)(ao:Nat->Nat)(m:Nat):Prop:=∃b r es,d=some ⟨b,0,none⟩/\Ref h b S ao m r es
theorem Ref.rN{S:FD}{r:Dq}{es:List mg}(d:Ref h b S ao m r es)(f:Fr F h h')(g:Ag h.size ao aB)
  (hF:∀b,m<=ao b->ao b<=m+5->¬F b):Ref h' b S aB m r es:=by
 have hb:=d.so.lt;have hs:¬F b:=hF b (by have:=d.sc;omega) (by have:=d.sc;omega)
 exact⟨(g _ hb).trans d.sc,f.own hb hs d.so,(f.rd hb hs).trans d.sr,d.left,d.out,d.writes,d.ax,d.f.keep f g (λb e=>hF b oX oX),d.fn,d.φ,
  d.a.keep f g (λb e=>hF b oX oX),d.an,d.χ,pM.keep f g (λb e=>hF b oX oX) d.ts,d.k.keep f g (λb e=>hF b oX oX),d.kn⟩
theorem vn.keep{S:FD}(D:vn h d S ao m)(f:Fr F h h')(g:Ag h.size ao aB)
  (hF:∀b,m<=ao b->ao b<=m+5->¬F b):vn h' d S aB m:=by
 obtain⟨b,r,es,e,D⟩:=D;exact⟨b,r,es,e,D.rN f g hF⟩
theorem Ref.field{S:FD}{r:Dq}{es:List mg}(d:Ref h b S ao m r es)(k:Nat):cellOf h (Addr.add ⟨b,0,none⟩ k)=r.cells[k]?:=by
 rw[eA,nj,d.sr,wR]
def PH(bs:LB):FD:=⟨bs,[],[],0,false,0,0⟩
theorem tg(B:av h a l bs)(hl:l<=140737488355328)
  (hK:∀a' c' h',Fr No h h'->Sl h' 1 a' l c' (bs.map bv) (cW h.size)->K (vS a' l c') h'):C.dR a l c h K:=by
 obtain⟨s1,s2,s3⟩:=av.src B;refine dR.ok ⟨_,s1,s2,s3,append_nil s1 rfl (by show l*1<=_;omega) hl hK⟩
theorem Fk(ao:Nat->Nat)(m:Nat)(B:av h a l bs)(hl:l<=140737488355328)
  (h1:l%512≠0∨l=0∨16384<l/512->K (.tuple #[vP none,vI 32]) h)
  (h2:l%512=0->0<l->l/512<=16384->∀q h' aB,Fr No h h'->Ag h.size ao aB->vn h' (some q) (PH bs) aB m->K (.tuple #[vP (some q),vI 0]) h') :
  C.k7 a l c h K:=by
 have rM:=B.1;have hd:Int.tdiv (l:Int) 512=((l/512:Nat):Int):=by rw[nL oX];omega
 have hmd:Int.tmod (l:Int) 512=((l%512:Nat):Int):=by rw[rL oX];omega
 have hw:wI (Int.tdiv (l:Int) 512)=((l/512:Nat):Int):=by rw[hd];exact wq _
 refine k7.ok (ce (λx=>h1 (Or.inr (Or.inl oX))) λx=>cn (λy=>h1 (Or.inl oX)) λy=>?_);rw[hw];refine cd (λz=>h1 (Or.inr (Or.inr oX))) λz=>tg B hl λa' c' h3 f3 s3=>⟨_,_,_,rfl,aC.intro λh4 n4=>?_⟩;refine h2 oX oX oX _ _ (nV (nV ao h.size (m+1)) h3.size m) (f3.new n4) ((pX _ _ _).trans (pX _ _ _) f3.size) ?_;refine⟨_,⟨a',l,c',none,0,0,none,0,0,0,false,0,0⟩,[],rfl,yu (bE _),n4.own,n4.rd,rfl,rfl,rfl,rfl,?_,rM.symm,?_,Sl.nil _ _ _,rfl,by simp,trivial,Sl.nil _ _ _,rfl⟩
 ·have s:Sl h3 1 a' l c' (bs.map bv) (On (nV ao h.size (m+1)) (m+1)):=s3.mono λb hb=>yu hb;exact s.keep n4.fr (pX _ _ _) (λ_ _ x=>x)
 ·show bs.length<=8388608;omega
theorem lj{S:FD}(D:vn h d S ao m)
  (hK:K (vI (S.first.length/512:Nat)) h):C.bL d h K:=by
 obtain⟨b,r,es,rfl,D⟩:=D;refine bL.ok ⟨_,_,_,D.field 0,?_⟩;have hm:=D.φ;have hd:Int.tdiv (r.fn:Int) 512=((S.first.length/512:Nat):Int):=by rw[D.fn,nL oX];omega
 have hw:wI (Int.tdiv (r.fn:Int) 512)=((S.first.length/512:Nat):Int):=by rw[hd];exact wq _
 rw[hw];exact hK
end Rf
namespace Ad
open Hp W
theorem oY(e:mg):∀v∈e.cells,v.oneCell'=true:=by
 intro v hv;simp only[mg.cells,fO,nT,or_false]at hv;rcases hv with rfl|rfl|rfl <;> rfl
theorem pM.at_{h:ad}{ao:Nat->Nat}{k:Nat}:∀{es:List mg} {ts:List (Int×Int×LB)},pM h ao k es ts->∀i (h1:i<es.length) (h2:i<ts.length),
  es[i].kind=ts[i].1/\es[i].at_=ts[i].2.1/\av h es[i].a es[i].l ts[i].2.2/\(∀p,es[i].a=some p->p.block<h.size/\ao p.block=k):=by
 intro es
 induction es with
 | nil=>intro ts _ i h1;exact absurd h1 (wm _)
 | cons x r ih=>
  intro ts e i h1 h2
  cases ts with
  | nil=>exact e.elim
  | cons t s=>
   cases i with
   | zero=>exact⟨e.1,e.2.1,e.2.2.1,e.2.2.2.1⟩
   | succ i=>exact ih e.2.2.2.2 i (abH h1) (abH h2)
def sG(e:mg)(N:Int):Int:=if e.kind=2 then 0 else if e.kind≠1 then 1 else if e.at_<0 then 31 else if e.at_>=N then 31 else if e.l≠512 then 32 else 0
end Ad
namespace L3
open Hp W Ad
theorem ak.lt(c:ak h (some p) xs)(hx:xs≠[]):p.block<h.size:=by
 cases xs with
 | nil=>exact absurd rfl hx
 | cons x r=>
  have:=(Ea (c 0 x rfl)).2;have hb:(p.add 0).block=p.block:=by rw[Addr.add_zero]
  rw[hb]at this;exact pE this
theorem PI(ps:List (Int×LB))(x:Int×LB):∀keep:List Bool,jt (ps++[x]) keep=jt ps keep++(if keep[ps.length]?=some true then[x]else[]):=by
 induction ps with
 | nil=>intro keep;cases keep with
  | nil=>simp[jt]
  | cons k r=>cases k <;> simp[jt]
 | cons p r ih=>intro keep;cases keep with
  | nil=>simp[jt]
  | cons k s=>
   have e:=ih s;simp only[jt]at e ⊢
   cases k <;> simp[e]
theorem Nh(nb:List LB):nb.flatten.map bv=nb.flatMap blk:=by
 rw[List.map_flatten];rfl
theorem Eh(ps:List (Int×LB)):∀ls,(∀x∈ls,x.length=512)->(∀x∈ps,x.2.length=512)->∀x∈dh ls ps,x.length=512:=by
 induction ps with
 | nil=>intro ls h _;exact h
 | cons p r ih=>
  intro ls h hp;refine ih _ (λx hx=>?_) (λx hx=>hp x (gV _ hx))
  rcases OX hx with hx|rfl
  ·exact h x hx
  ·exact hp p (kj ..)
structure Calm(S:RD):Prop where
 down:S.down=false
 left:S.left=0
 lw:∀x∈S.aE,x.length=512
 pw:∀x∈S.bS,x.2.length=512
theorem Calm.fresh{ls:List LB}(h:∀ x ∈ ls,x.length=512):Calm (fresh ls):=⟨rfl,rfl,h,λx hx=>by simp[Ad.fresh]at hx⟩
theorem Calm.flush{S:RD}(c:Calm S):S.flush.1=RD.pS { S with ax:=wI (S.ax+1) }:=by
 rw[RD.flush,if_neg (by rw[c.down];exact Ee),RD.step,if_neg (by show ¬0<S.left;rw[c.left];omega)]
theorem Calm.rk{S:RD}(c:Calm S)(i:Int){b:LB}(h:b.length=512):Calm (S.rk i b):=
 ⟨c.down,c.left,c.lw,λx hx=>by
  rcases nB.mp hx with hx|hx
  ·exact c.pw x hx
  ·rw[kU.mp hx];exact h⟩
theorem GM(keep:List Bool):jt [] keep=[]:=by cases keep <;> rfl
def again(S:RD)(t:Int×Int×LB):RD:=if t.1=2 then S.flush.1 else(S.write t.2.1 t.2.2).1
def replay(S:RD)(ts:List (Int×Int×LB)):RD:=ts.foldl again S
theorem Ce{pa:OA}{xs:List mg}{i:Nat}(P:ak h pa (xs.flatMap mg.cells))(hi:i<xs.length):∃p,pa=some p/\ai h (p.add (i*3)) (mg.cells xs[i]):=by
 cases pa with
 | none=>
  have P:xs.flatMap mg.cells=[]:=P;have:=bq mg.cells 3 xs (λ_ _=>rfl);rw[P]at this;simp at this;omega
 | some p=>
  have:=ai.part P (i*3) 3;rw[kv mg.cells 3 xs (λ_ _=>rfl) _ hi]at this;exact⟨p,rfl,this⟩
structure Rot(h:ad)(a:OA)(l:Nat)(xs:List mg)(ts:List (Int×Int×LB)):Prop where
 cells:ak h a (xs.flatMap mg.cells)
 num:ts.length=l
 len:xs.length=ts.length
 at_:∀i (h1:i<xs.length) (h2:i<ts.length),xs[i].kind=ts[i].1/\xs[i].at_=ts[i].2.1/\av h xs[i].a xs[i].l ts[i].2.2
abbrev Tt :=Int×Int×LB
def ju(ts:List Tt):Bool:=ts.any λt=>t.1==2
def xF(ts:List Tt):Nat:=ts.foldl (λn t=>if t.1=1 then n+1 else 0) 0
theorem GN(ts:List Tt)(t:Tt):xF (ts++[t])=if t.1=1 then xF ts+1 else 0:=by rw[xF,vh];rfl
def stays(ts:List Tt)(i:Nat)(keep:List Bool):Bool:=ju (ts.drop (i+1)) || keep.getD (xF (ts.take i)) false
def oE(keep:List Bool):List LB->List Tt->Nat->List LB
 | ls,[],_=>ls
 | ls,t::r,k=>if t.1=1 then oE keep (if ju r || keep.getD k false then ls.set t.2.1.toNat t.2.2 else ls) r (k+1)else oE keep ls r 0
def WS(N:Int)(t:Tt):Prop:=t.1=2∨(t.1=1/\0<=t.2.1/\t.2.1<N/\t.2.2.length=512)
theorem Cf(ls:List LB)(ps:List (Int×LB))(p:Int×LB):dh ls (ps++[p])=(dh ls ps).set p.1.toNat p.2:=by rw[dh,vh];rfl
theorem PJ(keep:List Bool)(N:Nat):∀(ts:List Tt) (S:RD),Calm S->S.aE.length=N->(∀t∈ts,WS N t)->
  ((replay S ts).cut keep).aE=oE keep (if ju ts then dh S.aE S.bS else dh S.aE (jt S.bS keep)) ts S.bS.length:=by
 intro ts
 induction ts with
 | nil=>intro S _ _ _;rfl
 | cons t r ih=>
  intro S c hN hm;have hr:∀t∈r,WS N t:=λt ht=>hm t (gV _ ht);have tB:replay S (t::r)=replay (again S t) r:=rfl;rw[tB]
  rcases hm t (kj ..)with h2|⟨h1,e0,e1,e2⟩
  ·have ea:again S t=RD.pS { S with ax:=wI (S.ax+1) }:=by rw[again,if_pos h2,c.flush]
   have cf:Calm (again S t):=by
    rw[ea];exact⟨c.down,c.left,Eh _ _ c.lw c.pw,λx hx=>by simp[RD.pS]at hx⟩
   rw[ih _ cf (by rw[ea];exact(iq _ _).trans hN) hr];have hf:ju (t::r)=true:=(by rw[ju,wo,h2];rfl);rw[hf,if_pos rfl,oE,if_neg (show ¬t.1=1 by rw[h2];decide)];have el:(again S t).aE=dh S.aE S.bS:=(by rw[ea];rfl);have ep:(again S t).bS=[]:=(by rw[ea];rfl);rw[el,ep,GM];show oE keep (if ju r=true then dh S.aE S.bS else dh S.aE S.bS) r 0=_;rw[ite_self]
  ·have ea:again S t=S.rk t.2.1 t.2.2:=by
    rw[again,if_neg (by rw[h1];decide),RD.write,if_neg (by rw[c.down];exact Ee),if_neg (λx=>x ⟨e0,by rw[hN];exact e1⟩),if_neg (λx=>x e2),RD.step,if_neg (by show ¬0<S.left;rw[c.left];omega)];rfl
   rw[ea,ih _ (c.rk _ e2) hN hr];have hf:ju (t::r)=ju r:=(by rw[ju,wo,h1];rfl);rw[hf,oE,if_pos (show t.1=1 from h1)];have el:(S.rk t.2.1 t.2.2).bS=S.bS++[(t.2.1,t.2.2)]:=rfl;have ell:(S.rk t.2.1 t.2.2).aE=S.aE:=rfl;rw[el,ell,bg,ik]
   cases hh:ju r with
   | true=>simp only[if_true,Bool.true_or,Cf]
   | false=>
    simp only[Bool.false_eq_true,if_false,Bool.false_or];rw[PI,gh]
    cases hk:keep[S.bS.length]? with
    | none=>simp
    | some b=>cases b <;> simp[Cf]
theorem PK(keep:List Bool){N:Nat}{ls:List LB}(h:∀ x ∈ ls,x.length=512)(hl:ls.length=N)(ts:List Tt)(hm:∀ t ∈ ts,WS N t):((replay (Ad.fresh ls) ts).cut keep).aE=oE keep ls ts 0:=by
 rw[PJ keep N ts _ (Calm.fresh h) hl hm];show oE keep (if ju ts=true then ls else dh ls (jt [] keep)) ts 0=_;rw[GM];show oE keep (if ju ts=true then ls else ls) ts 0=_;rw[ite_self]
theorem PL(keep:List Bool)(ls:List LB)(ts:List Tt)(i:Nat)(hi:i<ts.length) :
  oE keep ls (ts.drop i) (xF (ts.take i))=oE keep (if ts[i].1=1/\stays ts i keep=true then ls.set ts[i].2.1.toNat ts[i].2.2 else ls) (ts.drop (i+1)) (xF (ts.take (i+1))):=by
 rw[lh hi,eY _ _ hi,GN,oE]
 by_cases h:ts[i].1=1
 ·rw[if_pos h,if_pos h]
  cases hs:stays ts i keep with
  | true=>rw[stays]at hs;rw[hs,if_pos rfl,if_pos ⟨h,rfl⟩]
  | false=>rw[stays]at hs;rw[hs,if_neg Ee,if_neg (λx=>by cases x.2)]
 ·rw[if_neg h,if_neg h,if_neg (λx=>h x.1)]
def Is(N:Int)(t:Tt):Int:=sG ⟨t.1,t.2.1,none,t.2.2.length,0⟩ N
theorem WT{N:Int}{t:Tt}(h:Is N t=0):WS N t:=by
 unfold Is sG at h
 split at h
 ·rename_i e;exact Or.inl e
 ·split at h
  ·exact absurd h dX
  ·split at h
   ·exact absurd h dX
   ·split at h
    ·exact absurd h dX
    ·split at h
     ·exact absurd h dX
     ·rename_i e1 e2 e3 e4 e5;have e2:¬t.1≠1:=e2;have e3:¬t.2.1<0:=e3;have e4:¬t.2.1>=N:=e4;have e5:¬t.2.2.length≠512:=e5;exact Or.inr ⟨oX,oX,oX,oX⟩
theorem Rot.fr{h h':ad}{a:OA}{l:Nat}{es:List mg}{ts:List Tt}(r:Rot h a l es ts)(f:Fr No h h'):Rot h' a l es ts:=
 ⟨ak.fr f r.cells λ_ _ x=>x,r.num,r.len,λi h1 h2=>⟨(r.at_ i h1 h2).1,(r.at_ i h1 h2).2.1,av.fr f (r.at_ i h1 h2).2.2 λ_ _ x=>x⟩⟩
theorem PM{e:mg}{N:Int}(hK:∀ h',Fr No h h'->K (vI (sG e N)) h'):C.jD N e.cells h K:=by
 refine jD.ok (aC.intro λh2 n2=>⟨_,aZ n2.rd rfl,?_⟩);have k:=hK h2 n2.fr;unfold sG at k;refine ce (λa=>by rw[if_pos a]at k;exact k) λa=>ce (λb=>⟨_,aZ n2.rd rfl,?_⟩) λb=>by rw[if_neg a,if_pos b]at k;exact k
 rw[if_neg a,if_neg (λx=>x b)]at k;refine cd (λc=>by rw[if_pos c]at k;exact k) λc=>⟨_,aZ n2.rd rfl,?_⟩;rw[if_neg c]at k;refine cd (λd=>by rw[if_pos d]at k;exact k) λd=>⟨_,_,_,aZ n2.rd rfl,?_⟩;rw[if_neg d]at k;refine cn (λf=>by rw[if_pos oX]at k;exact k) λf=>by rw[if_neg oX]at k;exact k
theorem Rot.cell{es:List mg}{ts:List Tt}(R:Rot h a l es ts){i:Nat}(hi:i<l) :
  ∃p e,a=some p/\ai h (p.add (i*3)) (mg.cells e)/\e.kind=(ts.getD i (0,0,[])).1/\e.at_=(ts.getD i (0,0,[])).2.1/\av h e.a e.l (ts.getD i (0,0,[])).2.2/\i<ts.length/\es[i]?=some e:=by
 have h1:=R.num;have h2:=R.len;have h3:i<es.length:=oX;have h4:i<ts.length:=oX;obtain⟨p,e,c⟩:=Ce R.cells h3;obtain⟨x1,x2,x3⟩:=R.at_ i h3 h4;rw[gh,fg h4];exact⟨p,es[i],e,c,x1,x2,x3,h4,fg h3⟩
theorem Ak(ts:List Tt)(i:Nat)(h:i<ts.length):ju (ts.drop i)=(ts[i].1==2 || ju (ts.drop (i+1))):=by
 rw[lh h];rfl
theorem PN{es:List mg}{ts:List Tt}{keep:List Bool}
  (R:Rot h aa al es ts) (Kp:ak h ka (keep.map .bool)) (Ue:keep.length=kl) (h0:0<=i) (hi:i<al) (hal:al<=140737488355328)
  (hK:K (.bool (stays ts i.toNat keep)) h):C.dP aa al ac i ka kl kc h K:=by
 have hn:=R.num;refine dP.ok ?_;unfold dP;rw[wq (i+1),wq (i-1)];refine⟨λj hh=>i+1<=j/\j<=al/\hh=h/\ju (ts.drop (i+1).toNat)=ju (ts.drop j.toNat),λj _=>((al:Int)-j).toNat,⟨oX,oX,rfl,rfl⟩,?_⟩;rintro j hq ⟨j0,j1,rfl,ej⟩;have ei:(i+1).toNat=i.toNat+1:=oX;refine cd (λhj=>?_) λhj=>?_
 ·obtain⟨p,e,rfl,c,x1,_,_,DR,_⟩:=R.cell (i:=j.toNat) oX;have ek:(ts.getD j.toNat (0,0,[]))=ts[j.toNat]:=by rw[gh,fg DR];rfl
  rw[ek]at x1;refine⟨⟨oX,hj⟩,os ⟨_,ai.cell c (i:=0) rfl,ce (λh2=>?_) λh2=>?_⟩⟩
  ·have:stays ts i.toNat keep=true:=by
    rw[stays,<-ei,ej,Ak ts _ DR,<-x1,h2];rfl
   rw[this]at hK;exact hK
  ·rw[wrap_i64 oX oX];refine⟨⟨oX,oX,rfl,?_⟩,by have:=bW (m:=al) hj;exact this⟩;rw[ej,Ak ts _ DR,show(j+1).toNat=j.toNat+1 by omega,<-x1];have:(e.kind==2)=false:=(by rw[beq_eq_false_iff_ne];exact h2);rw[this];rfl
 ·have hfl:ju (ts.drop (i.toNat+1))=false:=by
   rw[<-ei,ej,qY oX];rfl
  have last:∀n:Nat,n=xF (ts.take i.toNat)->dP.k1 ka kl n hq K:=by
   intro n nE;have hs:stays ts i.toNat keep=keep.getD n false:=(by rw[stays,hfl,nE];rfl);rw[hs,gh]at hK;refine cd (λbV=>?_) λTG=>?_
   ·have vJ:n<keep.length:=oX;rw[fg vJ]at hK
    cases ka with
    | none=>have Kp:keep.map Value.bool=[]:=Kp;have:=qx.mp Kp;rw[this]at vJ;exact absurd vJ (by simp)
    | some kp=>exact⟨⟨oX,bV⟩,os ⟨_,by rw[cA];exact Kp n _ (by rw[fg (by rw[aP];exact vJ),mu];rfl),hK⟩⟩
   ·rw[List.getElem?_eq_none oX]at hK;exact hK
  refine⟨λnumber j hh=>-1<=j/\j<i/\number=i-1-j/\hh=hq/\(number:Int)+xF (ts.take (j+1).toNat)=xF (ts.take i.toNat),λ_ j _=>(j+1).toNat,⟨oX,oX,oX,rfl,by rw[show(i-1+1).toNat=i.toNat by omega];omega⟩,?_⟩;rintro number j2 _ ⟨k0,k1,k2,rfl,k3⟩;refine cd (λhj2=>?_) λhj2=>?_
  ·obtain⟨p,e,rfl,c,x1,_,_,DR,_⟩:=R.cell (i:=j2.toNat) oX;have ek:(ts.getD j2.toNat (0,0,[]))=ts[j2.toNat]:=(by rw[gh,fg DR];rfl);rw[ek]at x1;have et:(j2+1).toNat=j2.toNat+1:=oX;rw[et,eY _ _ DR,GN]at k3;refine⟨⟨oX,oX⟩,os ⟨_,ai.cell c (i:=0) rfl,ce (λh2=>?_) λh2=>?_⟩⟩
   ·rw[if_pos oX]at k3;rw[wrap_i64 oX oX,wrap_i64 oX oX];exact⟨⟨oX,oX,oX,rfl,by rw[show j2-1+1=j2 by omega];omega⟩,by show(j2-1+1).toNat<(j2+1).toNat;omega⟩
   ·rw[if_neg oX]at k3;have:=last number.toNat oX;rw[show((number.toNat:Nat):Int)=number by omega]at this;exact this
  ·have ej2:(j2+1).toNat=0:=oX;rw[ej2,vi]at k3;have k3:number+0=xF (ts.take i.toNat):=k3;have:=last number.toNat oX;rw[show((number.toNat:Nat):Int)=number by omega]at this;exact this
theorem rv(ys:LV)(y:Value):∀(X:LV) (o:Nat),put X o (ys++[y])=(put X o ys).set (o+ys.length) y:=by
 induction ys with
 | nil=>intro X o;rfl
 | cons v r ih=>
  intro X o;show put (X.set o v) (o+1) (r++[y])=_;rw[ih,pA,show o+1+r.length=o+(r.length+1) by omega];rfl
theorem ψ{ls:List LB}(h:∀ x ∈ ls,x.length=512){y:LB}(hy:y.length=512)(i:Nat):∀x∈ls.set i y,x.length=512:=by
 intro x hx
 rcases OX hx with hx|rfl
 ·exact h x hx
 ·exact hy
theorem WU{ls:List LB}(h:∀ x ∈ ls,x.length=512){y:LB}(hy:y.length=512){i:Nat}(hi:i<ls.length):put (ls.flatten.map bv) (i*512) (y.map bv)=(ls.set i y).flatten.map bv:=by
 rw[Nh,Nh];exact MN blk 512 ls (λx hx=>oU (h x hx)) i hi y (oU hy)
theorem JO{ia:OA}{il ic N:Nat}{ibs:LB}{es:List mg}{ts:List Tt}{keep:List Bool}
  (B:av h ia il ibs) (hN:N<=16384) (hil:il=N*512) (R:Rot h aa al es ts) (hal:al<=140737488355328) (hm:∀t∈ts,WS N t) (Kp:ak h ka (keep.map .bool)) (Ue:keep.length=kl)
  (hK:∀a c h',Fr No h h'->Sl h' 1 a il c ((oE keep (chunks ibs) ts 0).flatten.map bv) (cW h.size)->K (vS a il c) h'):C.gj ia il ic aa al ac ka kl kc h K:=by
 have hn:=R.num;have rM:=B.1;refine gj.ok (Rf.tg B oX λa c h2 f2 s2=>⟨_,_,_,rfl,?_⟩);have DQ:=f2.size;have Gb:(chunks ibs).length=N:=by rw[kg,rM];omega
 refine⟨λi hh=>0<=i/\i<=al/\Fr No h hh/\∃ls,Sl hh 1 a il c (ls.flatten.map bv) (cW h.size)/\ls.length=N/\(∀x∈ls,x.length=512)/\oE keep ls (ts.drop i.toNat) (xF (ts.take i.toNat))=oE keep (chunks ibs) ts 0,λi _=>((al:Int)-i).toNat,
  ⟨oX,oX,f2,chunks ibs,by rw[M0 oX];exact s2,Gb,xk _,rfl⟩,?_⟩
 rintro i h3 ⟨i0,i1,f3,ls,s3,hls,hlw,el⟩;have OJ:=f3.size;refine cd (λhi=>?_) λhi=>?_
 rotate_left
 ·rw[qY oX,oE]at el;rw[el]at s3;exact hK a c h3 f3 s3
 have R3:=R.fr f3;obtain⟨p,e,rfl,cc,x1,x2,x3,hit,Ra⟩:=R3.cell (i:=i.toNat) oX;have ek:(ts.getD i.toNat (0,0,[]))=ts[i.toNat]:=by rw[gh,fg hit];rfl
 rw[ek]at x1 x2 x3;rw[PL keep ls ts i.toNat hit]at el;have e1:(i+1).toNat=i.toNat+1:=oX;refine⟨⟨i0,hi⟩,Hp.os ⟨_,rfl,cc,aF.intro rfl (oY _) rfl λh5 n5=>⟨_,aZ n5.rd rfl,?_⟩⟩⟩;have hs5:=n5.size;have lt5:=n5.own.lt;have f5:=f3.new n5;have s5:=s3.fr n5.fr λ_ _ _ x=>x;rw[wq (i+1)];refine cn (λfP=>?_) λheq=>?_
 ·rw[if_neg (λx=>fP (x1.trans x.1))]at el;exact⟨⟨oX,oX,f5,ls,s5,hls,hlw,by rw[e1];exact el⟩,bW hi⟩
 have hk1:ts[i.toNat].1=1:=x1.symm.trans heq
 have υ:0<=ts[i.toNat].2.1/\ts[i.toNat].2.1<N/\ts[i.toNat].2.2.length=512:=by
  rcases hm _ (ff hit)with h|h
  ·omega
  ·exact h.2
 refine PN (R.fr f5) (ak.fr f5 Kp λ_ _ x=>x) Ue i0 hi hal ⟨_,rfl,?_⟩
 cases tB:stays ts i.toNat keep with
 | false=>
  rw[if_neg (λx=>by rw[tB]at x;cases x.2)]at el;refine⟨λk hh=>k=0/\h5=hh,λ_ _=>0,⟨rfl,rfl⟩,?_⟩;rintro k _ ⟨rfl,rfl⟩
  have fin:(0<=i+1/\i+1<=al/\Fr No h h5/\∃ls,Sl h5 1 a il c (ls.flatten.map bv) (cW h.size)/\ls.length=N/\(∀x∈ls,x.length=512)/\oE keep ls (ts.drop (i+1).toNat) (xF (ts.take (i+1).toNat))=oE keep (chunks ibs) ts 0):=
   ⟨oX,oX,f5,ls,s5,hls,hlw,by rw[e1];exact el⟩
  exact ct rfl ⟨fin,bW hi⟩
 | true=>
  rw[if_pos ⟨hk1,tB⟩]at el;have hj:ts[i.toNat].2.1.toNat<ls.length:=oX;obtain⟨pp,rfl,_⟩:=s5.get oX;have hp:=s5.mk;obtain⟨ob,oo,osp⟩:=pp;have hp:osp=none:=by simpa using hp
  subst hp;have WL:h.size<=ob:=s3.2.2.1
  have hob3:ob<h3.size:=by
   have:=s3.2.2.2.1;exact this.lt
  refine⟨λk hh=>0<=k/\k<=512/\Fr No h hh/\rd hh h3.size=e.cells/\h5.size<=hh.size/\Sl hh 1 (some ⟨ob,oo,none⟩) il c (put (ls.flatten.map bv) (ts[i.toNat].2.1.toNat*512) ((ts[i.toNat].2.2.take k.toNat).map bv)) (cW h.size),λk _=>((512:Nat)-k).toNat,
   ⟨oX,oX,f5,n5.rd,bE _,s5⟩,?_⟩
  rintro k h7 ⟨k0,k1,f7,r7,hs7,s7⟩;refine cd (λhk=>?_) λhk=>?_
  ·have hk:k<512:=hk;refine ct rfl ⟨_,aZ r7 rfl,_,_,_,aZ r7 rfl,?_⟩;have Ue:k.toNat<ts[i.toNat].2.2.length:=oX;have el':=x3.1;have x7:=av.fr f7 ((R.at_ i.toNat (by have:=R.len;omega) hit).2.2) λ_ _ x=>x
   have hee':es[i.toNat]'(by have:=R.len;omega)=e:=by
    rw[fg (by have:=R.len;omega)]at Ra;exact Option.some.inj Ra
   rw[hee']at x7;refine⟨⟨k0,oX⟩,?_⟩;have x72:=x7.2
   cases hea:e.a with
   | none=>
    rw[hea]at x72;have x72:ts[i.toNat].2.2.map bv=[]:=x72;have:=qx.mp x72;rw[this]at Ue;exact absurd Ue (by simp)
   | some ep=>
    rw[hea]at x72;have x72:ai h7 ep (ts[i.toNat].2.2.map bv):=x72;refine Hp.os ⟨_,ai.cell x72 (i:=k.toNat) (v:=bv (ts[i.toNat].2.2[k.toNat]'Ue)) (by rw[jH,fg Ue];rfl),?_⟩;rw[x2,wq (ts[i.toNat].2.1*512),wq (ts[i.toNat].2.1*512+k)];have Pz:(ts[i.toNat].2.1*512+k).toNat=ts[i.toNat].2.1.toNat*512+k.toNat:=oX;have hjN:ts[i.toNat].2.1.toNat*512+512<=N*512:=oX;rw[Pz];obtain⟨w1,w2⟩:=s7.wr;refine⟨⟨oX,oX⟩,Hp.os (bD.add w1 oX λh8 d8=>?_)⟩;have s8:=s7.putAt (j:=ts[i.toNat].2.1.toNat*512+k.toNat) (new:=[bv (ts[i.toNat].2.2[k.toNat]'Ue)]) (by rw[ik];omega) d8
    have ep:put (put (ls.flatten.map bv) (ts[i.toNat].2.1.toNat*512) ((ts[i.toNat].2.2.take k.toNat).map bv)) (ts[i.toNat].2.1.toNat*512+k.toNat) [bv (ts[i.toNat].2.2[k.toNat]'Ue)]=put (ls.flatten.map bv) (ts[i.toNat].2.1.toNat*512) ((ts[i.toNat].2.2.take (k+1).toNat).map bv):=by
     rw[show(k+1).toNat=k.toNat+1 by omega,eY _ _ Ue,eT,BV,rv,aP,dL,xL oX];rfl
    rw[ep]at s8;rw[wrap_i64 oX oX];refine⟨⟨oX,oX,f7.did d8 (λx=>oX),?_,?_,s8⟩,bW (m:=512) hk⟩
    ·rw[d8.at_];exact r7
    ·have:=d8.fr.size;omega
  ·have ahS:k.toNat=512:=(by have hk:¬k<512:=hk;omega);rw[ahS,gL oX,WU hlw υ.2.2 hj]at s7;exact⟨⟨oX,oX,f7,_,s7,by rw[pL];exact hls,ψ hlw υ.2.2 _,by rw[e1];exact el⟩,bW hi⟩
end L3
namespace Rf
open Hp W Ad L3
def FD.goes(S:FD):FD×Bool:=if S.left=0 then(S,false)else({ S with left:=S.left-1,out:=S.left-1==0 },S.left-1==0)
def FD.N(S:FD):Nat:=S.first.length/512
def FD.rk(S:FD)(i:Int)(bs:LB):FD:={ S with writes:=wI (S.writes+1),gq:=S.gq++[(1,i,bs)] }
def FD.write(S:FD)(i:Int)(bs:LB):FD×Int:=
 if S.out=true then(S,30)else if Is (S.N:Nat) (1,i,bs)≠0 then(S,Is (S.N:Nat) (1,i,bs))else((S.rk i bs).goes.1,if(S.rk i bs).goes.2=true then 30 else 0)
def FD.flush(S:FD):FD×Int:=
 if S.out=true then(S,30)else if(FD.goes { S with ax:=wI (S.ax+1) }).2=true then((FD.goes { S with ax:=wI (S.ax+1) }).1,30)
 else({ (FD.goes { S with ax:=wI (S.ax+1) }).1 with gq:=(FD.goes { S with ax:=wI (S.ax+1) }).1.gq++[(2,0,[])] },0)
section
variable{h h' : ad}{b : Nat}{S : FD}{ao aB : Nat -> Nat}{m : Nat}{r : Dq}{es : List mg}
theorem Ref.re(D:Ref h b S ao m r es){l w f:Int}{o:Bool}(d:xN b h h' ({ r with left:=l,out:=o,writes:=w,ax:=f }:Dq).cells):Ref h' b { S with left:=l,out:=o,writes:=w,ax:=f } ao m { r with left:=l,out:=o,writes:=w,ax:=f } es:=by
 have ne:∀k,1<=k->∀x,ao x=m+k->¬(λx=>x=b) x:=λk hk x hx (y:x=b)=>by rw[y,D.sc]at hx;omega
 exact⟨D.sc,d.own,d.rd,rfl,rfl,rfl,rfl,D.f.keep d.fr (Ag.refl _ _) (ne 1 dX),D.fn,D.φ,D.a.keep d.fr (Ag.refl _ _) (ne 2 dX),D.an,D.χ,pM.keep d.fr (Ag.refl _ _) (ne 3 dX) D.ts,D.k.keep d.fr (Ag.refl _ _) (ne 4 dX),D.kn⟩
theorem Ref.dk(D:Ref h b S ao m r es):Dk ao m b:=⟨by rw[D.sc];omega,by rw[D.sc];omega⟩
theorem Ref.len(D:Ref h b S ao m r es):(rd h b).length=7:=by rw[D.sr];rfl
theorem JP(D:Ref h b S ao m r es)(hl:0<=S.left/\S.left<=9223372036854775807)
  (hK:∀h' r',Fr (Dk ao m) h h'->Ref h' b S.goes.1 ao m r' es->K (.bool S.goes.2) h'):C.fe (some ⟨b,0,none⟩) h K:=by
 refine fe.ok (os ⟨_,D.field 3,?_⟩);rw[D.left];refine ce (λh0=>?_) λh0=>?_
 ·have e1:S.goes=(S,false):=by unfold FD.goes;rw[if_pos h0]
  rw[e1]at hK;exact hK h r (Fr.refl _ _) D
 have e1:S.goes=({ S with left:=S.left-1,out:=S.left-1==0 },S.left-1==0):=by unfold FD.goes;rw[if_neg h0]
 rw[e1]at hK;refine os ⟨_,D.field 3,os ?_⟩;rw[D.left,wrap_i64 oX oX];refine bD.add D.so (by rw[D.len];decide) λh2 d2=>?_;rw[D.sr]at d2;have d2':xN b h h2 ({ r with left:=S.left-1,out:=r.out,writes:=r.writes,ax:=r.ax }:Dq).cells:=d2;have D2:=D.re d2';refine os ⟨_,D2.field 3,os (bD.add D2.so (by rw[D2.len];decide) λh3 d3=>?_)⟩;rw[D2.sr]at d3;have d3':xN b h2 h3 ({ r with left:=S.left-1,out:=S.left-1==0,writes:=r.writes,ax:=r.ax }:Dq).cells:=d3;have D3:=D2.re d3';refine os ⟨_,D3.field 4,?_⟩
 have D3':Ref h3 b { S with left:=S.left-1,out:=S.left-1==0 } ao m { r with left:=S.left-1,out:=S.left-1==0,writes:=r.writes,ax:=r.ax } es:=by
  have:=D3;rw[D.writes,D.ax]at this ⊢;exact this
 exact hK h3 _ (((Fr.refl _ _).did d2 λ_=>D.dk).did d3 λ_=>D.dk) D3'
theorem Ni{e:mg}{t:Int×Int×LB}{X:HP}(D:Ref h b S ao m r es)(hk:e.kind=t.1)(ha:e.at_=t.2.1)(B:av h e.a e.l t.2.2)(hc:∀ p,e.a=some p->p.block<h.size/\ao p.block=m+3)(hn:es.length<1000000000)
  (hX:∀h' aB r',Fr (Dk ao m) h h'->Ag h.size ao aB->Ref h' b { S with gq:=S.gq++[t] } aB m r' (es++[e])->X h') :
  aJ xC 146 r.aa r.an r.ac 1 e.cells h λsA sL sC h9=>ae (some (⟨b,0,none⟩:Addr)) λp5=>bD (Addr.add p5 1) (vS sA sL sC) h9 λbG=>X bG:=by
 have han:=D.an;refine nW D.a rfl rfl (by show(r.an+1)*40<=_;omega) oX λa8 c8 h8 f8 s8=>?_;have g8:Ag h.size ao (nV ao h.size (m+2)):=pX _ _ _;have fP:∀k,k≠m+2->∀x,ao x=k->¬On ao (m+2) x:=λk hk x hx y=>hk (hx.symm.trans y);have sb:=D.so.lt;have nsb:¬On ao (m+2) b:=fP m oX b D.sc;have r8:=(f8.rd sb nsb).trans D.sr;refine os (bD.add (f8.own sb nsb D.so) (by rw[r8];exact(by decide:0+1<7)) λh9 d9=>?_);rw[r8]at d9;have d9':xN b h8 h9 ({ r with aa:=a8,an:=r.an+1,ac:=c8 }:Dq).cells:=d9;have z8:=f8.size;have sc8:nV ao h.size (m+2) b=m:=(g8 b sb).trans D.sc;have ne:∀k,1<=k->∀x,nV ao h.size (m+2) x=m+k->¬(λx=>x=b) x:=λk hk x hx (y:x=b)=>by rw[y,sc8]at hx;omega
 have F9:Fr (Dk ao m) h h9:=((f8.mono λx _ hx=>by have hx:ao x=m+2:=hx;exact⟨oX,oX⟩).did d9 λ_=>D.dk);refine hX h9 (nV ao h.size (m+2)) { r with aa:=a8,an:=r.an+1,ac:=c8 } F9 g8 ⟨sc8,d9.own,d9.rd,D.left,D.out,D.writes,D.ax,(D.f.keep f8 g8 (fP _ oX)).keep d9.fr (Ag.refl _ _) (ne 1 dX),D.fn,D.φ,?_,by show r.an+1=(es++[e]).length;rw[bg,han];rfl,by rw[bg];show es.length+1<=_;omega,?_,(D.k.keep f8 g8 (fP _ oX)).keep d9.fr (Ag.refl _ _) (ne 4 dX),D.kn⟩
 ·have:(es++[e]).flatMap mg.cells=es.flatMap mg.cells++e.cells:=by rw[iy,RE]
  rw[this];exact s8.keep d9.fr (Ag.refl _ _) (ne 2 dX)
 ·refine pM.keep d9.fr (Ag.refl _ _) (ne 3 dX) (pM.keep f8 g8 (fP _ oX) (pM.snoc hk ha B hc D.ts))
end
section
variable{h : ad}{d : OA}{S : FD}{ao : Nat -> Nat}{m : Nat}
theorem fp(D:vn h d S ao m)(B:av h a l bs)(hlm:l<=140737488355328)(hl:0<=S.left/\S.left<=9223372036854775807)(hn:S.gq.length<1000000000)
  (hK:∀h' aB,Fr (Dk ao m) h h'->Ag h.size ao aB->vn h' d (S.write i bs).1 aB m->K (vI (S.write i bs).2) h'):C.dG d i a l c h K:=by
 obtain⟨b,r,es,rfl,D⟩:=D;refine dG.ok (os ⟨_,D.field 4,?_⟩);rw[D.out];refine cs (λho=>?_) λho=>?_
 ·have e1:S.write i bs=(S,30):=by unfold FD.write;rw[if_pos ho]
  rw[e1]at hK;exact hK h ao (Fr.refl _ _) (Ag.refl _ _) ⟨b,r,es,rfl,D⟩
 refine tg B hlm λa2 c2 h2 f2 s2=>⟨_,_,_,rfl,aF.intro rfl (oY ⟨1,i,a2,l,c2⟩) rfl λh4 n4=>⟨_,rfl,ah n4.rd,?_⟩⟩;have z2:=f2.size;have z4:=n4.size;have g4:Ag h.size ao (nV ao h.size (m+3)):=pX _ _ _;have F4:Fr No h h4:=f2.new n4;have D4:=D.rN F4 g4 λ_ _ _ y=>y;refine lj ⟨b,r,es,rfl,D4⟩ ⟨_,rfl,⟨rfl,ah n4.rd⟩,PM (e:=⟨1,i,a2,l,c2⟩) λh6 f6=>⟨_,rfl,?_⟩⟩;have rM:=B.1;have er:sG ⟨1,i,a2,l,c2⟩ ((S.first.length/512:Nat):Int)=Is (S.N:Nat) (1,i,bs):=by unfold Is sG;rw[show((1:Int),i,bs).2.2.length=l from rM];rfl
 rw[er];have D6:=D4.rN f6 (Ag.refl _ _) λ_ _ _ y=>y;have F6:Fr No h h6:=F4.no f6;have z6:=f6.size;refine cn (λfP=>?_) λhe=>?_
 ·have e1:S.write i bs=(S,Is (S.N:Nat) (1,i,bs)):=by unfold FD.write;rw[if_neg (by rw[ho];simp),if_pos fP]
  rw[e1]at hK;exact hK h6 _ (F6.mono λ_ _ y=>y.elim) g4 ⟨b,r,es,rfl,D6⟩
 have e1:S.write i bs=((S.rk i bs).goes.1,if(S.rk i bs).goes.2=true then 30 else 0):=by unfold FD.write;rw[if_neg (by rw[ho];simp),if_neg (λy=>y he)]
 rw[e1]at hK;refine os ⟨_,D6.field 5,os (bD.add D6.so (by rw[D6.len];decide) λh7 d7=>?_)⟩;rw[D6.sr,D6.writes]at d7;have d7':xN b h6 h7 ({ r with left:=r.left,out:=r.out,writes:=wI (S.writes+1),ax:=r.ax }:Dq).cells:=d7;have D7:=D6.re d7';have z7:=d7.size;have ra:rd h7 h2.size=mg.cells ⟨1,i,a2,l,c2⟩:=(d7.at_ oX λy=>by have:=D.so.lt;omega).trans ((f6.r0).trans n4.rd);refine os ⟨_,_,_,D7.field 1,_,rfl,ah ra,rfl,aC.intro λh8 n8=>?_⟩;have D8:=D7.rN n8.fr (Ag.refl _ _) λ_ _ _ y=>y;refine⟨D8.field 1,_,rfl,ah n8.rd,oY _,?_⟩;have z8:=n8.size;have s8:=(((s2.fr n4.fr λ_ _ _ y=>y).fr f6 λ_ _ _ y=>y).fr d7.fr λx _ y e=>by have y:h.size<=x:=y;have e:x=b:=e;have:=D.so.lt;omega).fr n8.fr λ_ _ _ y=>y;have RK:=pM.length D.ts;refine Ni D8 (e:=⟨1,i,a2,l,c2⟩) (t:=(1,i,bs)) rfl rfl s8.str (λp ep=>?_) oX λbG Nj E1 f10 g10 D10=>?_
 ·have ep:a2=some p:=ep;subst ep;exact⟨s8.lt,yu s8.2.2.1⟩
 have eS:({ S with left:=r.left,out:=r.out,writes:=wI (S.writes+1),ax:=r.ax,gq:=S.gq++[(1,i,bs)] }:FD)=S.rk i bs:=by
  rw[D.left,D.out,D.ax];rfl
 have D10':Ref bG b (S.rk i bs) Nj m E1 (es++[⟨1,i,a2,l,c2⟩]):=by rw[<-eS];exact D10
 have dk:∀x,x<h.size->Dk (nV ao h.size (m+3)) m x->Dk ao m x:=λx hx y=>by unfold Dk at y ⊢;rw[g4 x hx]at y;exact y
 have F8:Fr (Dk ao m) h h8:=((F6.mono λ_ _ y=>y.elim).did d7 λ_=>D.dk).new n8;have L8:Fr (Dk ao m) h bG:=F8.trans f10 dk;have YS:Ag h.size ao Nj:=g4.trans g10 F8.size;have dk2:∀x,x<h.size->Dk Nj m x->Dk ao m x:=λx hx y=>by unfold Dk at y ⊢;rw[YS x hx]at y;exact y
 refine JP D10' hl λcu TX f11 D11=>⟨_,rfl,cs (λhg=>?_) λhg=>?_⟩
 ·rw[hg,if_pos rfl]at hK;exact hK cu Nj (L8.trans f11 dk2) YS ⟨b,TX,_,rfl,D11⟩
 ·rw[hg,if_neg (by simp)]at hK;exact hK cu Nj (L8.trans f11 dk2) YS ⟨b,TX,_,rfl,D11⟩
end
section
variable{h : ad}{d : OA}{S : FD}{ao : Nat -> Nat}{m : Nat}
theorem A8(D:vn h d S ao m)(hl:0<=S.left/\S.left<=9223372036854775807)(hn:S.gq.length<1000000000)
  (hK:∀h' aB,Fr (Dk ao m) h h'->Ag h.size ao aB->vn h' d S.flush.1 aB m->K (vI S.flush.2) h'):C.dH d h K:=by
 obtain⟨b,r,es,rfl,D⟩:=D;refine dH.ok (os ⟨_,D.field 4,?_⟩);rw[D.out];refine cs (λho=>?_) λho=>?_
 ·have e1:S.flush=(S,30):=by unfold FD.flush;rw[if_pos ho]
  rw[e1]at hK;exact hK h ao (Fr.refl _ _) (Ag.refl _ _) ⟨b,r,es,rfl,D⟩
 unfold FD.flush at hK;rw[if_neg (by rw[ho];simp)]at hK;refine os ⟨_,D.field 6,os (bD.add D.so (by rw[D.len];decide) λh2 d2=>?_)⟩;rw[D.sr,D.ax]at d2;have d2':xN b h h2 ({ r with left:=r.left,out:=r.out,writes:=r.writes,ax:=wI (S.ax+1) }:Dq).cells:=d2;have D2:=D.re d2';have eS:({ S with left:=r.left,out:=r.out,writes:=r.writes,ax:=wI (S.ax+1) }:FD)={ S with ax:=wI (S.ax+1) }:=by rw[D.left,D.out,D.writes]
 rw[eS]at D2;have F2:Fr (Dk ao m) h h2:=(Fr.refl _ _).did d2 λ_=>D.dk;have YR:0<=({ S with ax:=wI (S.ax+1) }:FD).left/\({ S with ax:=wI (S.ax+1) }:FD).left<=9223372036854775807:=hl;have ha:(FD.goes { S with ax:=wI (S.ax+1) }).1.gq=S.gq:=by unfold FD.goes;split <;> rfl
 generalize({ S with ax:=wI (S.ax+1) }:FD)=S2 at hK D2 YR ha;refine JP D2 YR λh3 r3 f3 D3=>⟨_,rfl,cs (λhg=>?_) λhg=>?_⟩
 ·rw[if_pos hg]at hK;exact hK h3 ao (F2.trans f3 λ_ _ y=>y) (Ag.refl _ _) ⟨b,r3,es,rfl,D3⟩
 rw[if_neg (by rw[hg];simp)]at hK;have RK:=pM.length D3.ts;rw[ha]at RK;refine os ⟨_,_,_,D3.field 1,rfl,aC.intro λh4 n4=>?_⟩;have D4:=D3.rN n4.fr (Ag.refl _ _) λ_ _ _ y=>y;have e0:([vI 2,vI 0,vS none 0 0]:LV)=mg.cells ⟨2,0,none,0,0⟩:=rfl;have r4:=n4.rd;refine⟨mg.cells ⟨2,0,none,0,0⟩,rfl,ah r4,oY _,?_⟩;refine Ni D4 (e:=⟨2,0,none,0,0⟩) (t:=(2,0,[])) rfl rfl ⟨rfl,rfl⟩ (λp ep=>by cases ep) oX λh6 PO r6 f6 g6 D6=>?_;exact hK h6 PO (((F2.trans f3 λ_ _ y=>y).new n4).trans f6 λ_ _ y=>y) (g6.le (k9 d2.fr.size (k9 f3.size n4.fr.size))) ⟨b,r6,_,rfl,D6⟩
end
end Rf
end Go.Proofs.YtlbckoblcdoceaaGreatDoor
