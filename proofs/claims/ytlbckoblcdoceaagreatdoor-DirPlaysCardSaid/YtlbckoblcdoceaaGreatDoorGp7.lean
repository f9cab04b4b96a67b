/- dirPlays_card -/
import Derived.Shelf.SlIterI.Sorted
import Derived.Shelf.SortM.Plain
import Derived.Shelf.SortM.SortNone
import Derived.Test.YtlbckoblcdoceaaGreatDoorGp6
namespace Go.Proofs.YtlbckoblcdoceaaGreatDoor
open Go Go.Proofs Wx
variable{h h':ad}{K:KT}{F F':NP}{t d r e a q u:OA}{i B:Int}{k l m c n U p:Nat}{ao:Nat->Nat}{R:List Int}{xs:LV}
open _root_.List renaming length_map->aP,mem_map->jc,map_map->qJ,map_congr_left->Fu,drop_zero->mW,mergeSort_nil->SC,eq_nil_of_length_eq_zero->Vb,mem_singleton->kU,map_append->eT,mem_filter->H7,mem_range'_1->XP,mergeSort_perm->SD,drop_length->xG,take_length->mZ,length_append->bg,length_singleton->ik,drop_eq_nil_of_le->SE,drop_append_of_le_length->Ej,take_of_length_le->gL,mem_append->nB,take_append_drop->qP,length_take->dL,drop_nil->SF,take_left->tL,length_replicate->dU,append_nil->gi,mem_cons_self->kj,flatMap_append->iy,map_set->yG,map_eq_nil_iff->qx,getElem?_map->jH,getElem?_eq_getElem->fg,flatMap_cons->qO,flatMap_nil->Ar,range_succ->Ei,length_cons->pA,getElem_mem->ff,map_cons->lI,map_nil->HC,flatten_cons->H6,append_assoc->iW,map_replicate->Gu,replicate_succ->uW,drop_eq_getElem_cons->lh,mem_cons->fO,not_mem_nil->nT,getD_eq_getElem?_getD->gh,getElem_map->mu,take_zero->vi,mem_cons_of_mem->gV,ext_getElem->XQ,length_drop->jM,length_set->pL
open _root_.Nat renaming le_trans->k9,le_refl->bE,lt_or_ge->rI,min_eq_left->xL,zero_le->bN,mul_one->ph,mod_mod_of_dvd->SG,div_le_self->Ep,div_div_eq_div_mul->GP,mod_lt->Oa,le_add_right->kM,le_succ->qw,lt_of_lt_of_le->mV,zero_add->wR
open _root_.Function renaming comp_apply->XR
open _root_.Int renaming le_trans->SH,toNat_natCast->cA,tdiv_eq_ediv_of_nonneg->nL,tmod_eq_emod_of_nonneg->rL,le_refl->th,fdiv_eq_ediv_of_nonneg->vf
open _root_.Iff renaming rfl->yC
open _root_.Classical renaming byContradiction->rB
open _root_.UInt8 renaming toNat_lt->Am,toNat_ofNat'->lX
end Go.Proofs.YtlbckoblcdoceaaGreatDoor
namespace Go.Proofs
open Go Go.Shelf
def Tryz.keysA_ren : Go.Shelf.Ren:=⟨fun|7=>72|10=>117|n=>n,fun|23=>97|26=>3|3=>33|28=>143|0=>0|27=>142|33=>159|4=>4|n=>n,λn=>n⟩
theorem Tryz.keysA : SlLaysZI.n7 Tryz.prog Tryz.keysA_ren where
 mixed:=by kernel_rfl
 f7 := ⟨ "maps.Keys[map[int][]byte,int,[]byte]", by decide, Tryz.func72.trans (congrArg some (by kernel_rfl))⟩
 f10 := ⟨ "maps.Keys[map[int][]byte,int,[]byte]$1", by decide, Tryz.func117.trans (congrArg some (by kernel_rfl))⟩
 t0:=Tryz.underlying0
 a0:=Tryz.isAgg0
 z0:=Tryz.sizeOf0
 v0:=Tryz.zeroValue0
 t4:=Tryz.underlying4
 a4:=Tryz.isAgg4
 z4:=Tryz.sizeOf4
 v4:=Tryz.zeroValue4
 t23:=Tryz.underlying97
 a23:=Tryz.isAgg97
 z23:=Tryz.sizeOf97
 v23:=Tryz.zeroValue97
 t26:=Tryz.underlying3
 a26:=Tryz.isAgg3
 z26:=Tryz.sizeOf3
 v26:=Tryz.zeroValue3
 t27:=Tryz.underlying142
 a27:=Tryz.isAgg142
 z27:=Tryz.sizeOf142
 v27:=Tryz.zeroValue142
 t28:=Tryz.underlying143
 a28:=Tryz.isAgg143
 z28:=Tryz.sizeOf143
 v28:=Tryz.zeroValue143
 t33:=Tryz.underlying159
 a33:=Tryz.isAgg159
 z33:=Tryz.sizeOf159
 v33:=Tryz.zeroValue159
def Tryz.sortedA_ren : Go.Shelf.Ren:=⟨fun|6=>71|8=>115|9=>116|11=>163|13=>84|12=>164|23=>134|24=>135|14=>206|15=>207|16=>208|17=>209|18=>210|19=>211|20=>212|21=>213|22=>214|25=>241|26=>175|27=>176|28=>242|29=>243|30=>86|31=>255|n=>n,fun|26=>3|28=>143|24=>89|0=>0|3=>3|37=>158|48=>206|50=>208|4=>4|40=>199|39=>198|45=>203|5=>5|9=>9|51=>243|55=>247|57=>278|58=>279|33=>159|n=>n,λn=>n⟩
theorem Tryz.sortedA : SlLaysZI.n6 Tryz.prog Tryz.sortedA_ren where
 mixed:=by kernel_rfl
 f6 := ⟨ "slices.Sorted[int]", by decide, Tryz.func71.trans (congrArg some (by kernel_rfl))⟩
 f8 := ⟨ "slices.Collect[int]", by decide, Tryz.func115.trans (congrArg some (by kernel_rfl))⟩
 f11 := ⟨ "slices.AppendSeq[[]int,int]", by decide, Tryz.func163.trans (congrArg some (by kernel_rfl))⟩
 t0:=Tryz.underlying0
 a0:=Tryz.isAgg0
 z0:=Tryz.sizeOf0
 v0:=Tryz.zeroValue0
 t24:=Tryz.underlying89
 a24:=Tryz.isAgg89
 z24:=Tryz.sizeOf89
 v24:=Tryz.zeroValue89
 t26:=Tryz.underlying3
 a26:=Tryz.isAgg3
 z26:=Tryz.sizeOf3
 v26:=Tryz.zeroValue3
 t28:=Tryz.underlying143
 a28:=Tryz.isAgg143
 z28:=Tryz.sizeOf143
 v28:=Tryz.zeroValue143
 i26:=by kernel_rfl
def Tryz.sortA_ren : Go.Shelf.Ren:=⟨fun|5=>116|8=>84|7=>164|19=>134|20=>135|10=>206|11=>207|12=>208|13=>209|14=>210|15=>211|16=>212|17=>213|18=>214|30=>241|31=>175|32=>176|33=>242|34=>243|35=>86|40=>255|n=>n,fun|23=>89|25=>3|3=>3|32=>158|22=>89|0=>0|44=>206|46=>208|4=>4|36=>199|35=>198|41=>203|5=>5|9=>9|53=>243|57=>247|63=>278|64=>279|n=>n,λn=>n⟩
theorem Tryz.sortA : SlLaysM.n5 Tryz.prog Tryz.sortA_ren where
 mixed:=by kernel_rfl
 f5 := ⟨ "slices.Sort[[]int,int]", by decide, Tryz.func116.trans (congrArg some (by kernel_rfl))⟩
 f7 := ⟨ "slices.pdqsortOrdered[int]", by decide, Tryz.func164.trans (congrArg some (by kernel_rfl))⟩
 f8:=Tryz.func84.trans (congrArg some (by kernel_rfl))
 f10 := ⟨ "slices.insertionSortOrdered[int]", by decide, Tryz.func206.trans (congrArg some (by kernel_rfl))⟩
 f11 := ⟨ "slices.heapSortOrdered[int]", by decide, Tryz.func207.trans (congrArg some (by kernel_rfl))⟩
 f12 := ⟨ "slices.breakPatternsOrdered[int]", by decide, Tryz.func208.trans (congrArg some (by kernel_rfl))⟩
 f13 := ⟨ "slices.choosePivotOrdered[int]", by decide, Tryz.func209.trans (congrArg some (by kernel_rfl))⟩
 f14 := ⟨ "slices.reverseRangeOrdered[int]", by decide, Tryz.func210.trans (congrArg some (by kernel_rfl))⟩
 f15 := ⟨ "slices.partialInsertionSortOrdered[int]", by decide, Tryz.func211.trans (congrArg some (by kernel_rfl))⟩
 f16 := ⟨ "cmp.Less[int]", by decide, Tryz.func212.trans (congrArg some (by kernel_rfl))⟩
 f17 := ⟨ "slices.partitionEqualOrdered[int]", by decide, Tryz.func213.trans (congrArg some (by kernel_rfl))⟩
 f18 := ⟨ "slices.partitionOrdered[int]", by decide, Tryz.func214.trans (congrArg some (by kernel_rfl))⟩
 f19:=Tryz.func134.trans (congrArg some (by kernel_rfl))
 f20:=Tryz.func135.trans (congrArg some (by kernel_rfl))
 f30 := ⟨ "slices.siftDownOrdered[int]", by decide, Tryz.func241.trans (congrArg some (by kernel_rfl))⟩
 f31:=Tryz.func175.trans (congrArg some (by kernel_rfl))
 f32:=Tryz.func176.trans (congrArg some (by kernel_rfl))
 f33 := ⟨ "slices.medianAdjacentOrdered[int]", by decide, Tryz.func242.trans (congrArg some (by kernel_rfl))⟩
 f34 := ⟨ "slices.medianOrdered[int]", by decide, Tryz.func243.trans (congrArg some (by kernel_rfl))⟩
 f35 := ⟨ "cmp.isNaN[int]", by decide, Tryz.func86.trans (congrArg some (by kernel_rfl))⟩
 f40 := ⟨ "slices.order2Ordered[int]", by decide, Tryz.func255.trans (congrArg some (by kernel_rfl))⟩
 t0:=Tryz.underlying0
 a0:=Tryz.isAgg0
 z0:=Tryz.sizeOf0
 v0:=Tryz.zeroValue0
 t3:=Tryz.underlying3
 a3:=Tryz.isAgg3
 z3:=Tryz.sizeOf3
 v3:=Tryz.zeroValue3
 t4:=Tryz.underlying4
 a4:=Tryz.isAgg4
 z4:=Tryz.sizeOf4
 v4:=Tryz.zeroValue4
 t5:=Tryz.underlying5
 a5:=Tryz.isAgg5
 z5:=Tryz.sizeOf5
 v5:=Tryz.zeroValue5
 t9:=Tryz.underlying9
 a9:=Tryz.isAgg9
 z9:=Tryz.sizeOf9
 v9:=Tryz.zeroValue9
 t22:=Tryz.underlying89
 a22:=Tryz.isAgg89
 z22:=Tryz.sizeOf89
 v22:=Tryz.zeroValue89
 t23:=Tryz.underlying89
 a23:=Tryz.isAgg89
 z23:=Tryz.sizeOf89
 v23:=Tryz.zeroValue89
 t25:=Tryz.underlying3
 a25:=Tryz.isAgg3
 z25:=Tryz.sizeOf3
 v25:=Tryz.zeroValue3
 t32:=Tryz.underlying158
 a32:=Tryz.isAgg158
 z32:=Tryz.sizeOf158
 v32:=Tryz.zeroValue158
 t35:=Tryz.underlying198
 a35:=Tryz.isAgg198
 z35:=Tryz.sizeOf198
 v35:=Tryz.zeroValue198
 t36:=Tryz.underlying199
 a36:=Tryz.isAgg199
 z36:=Tryz.sizeOf199
 v36:=Tryz.zeroValue199
 t41:=Tryz.underlying203
 a41:=Tryz.isAgg203
 z41:=Tryz.sizeOf203
 v41:=Tryz.zeroValue203
 t44:=Tryz.underlying206
 a44:=Tryz.isAgg206
 z44:=Tryz.sizeOf206
 v44:=Tryz.zeroValue206
 t46:=Tryz.underlying208
 a46:=Tryz.isAgg208
 z46:=Tryz.sizeOf208
 v46:=Tryz.zeroValue208
 t53:=Tryz.underlying243
 a53:=Tryz.isAgg243
 z53:=Tryz.sizeOf243
 v53:=Tryz.zeroValue243
 t57:=Tryz.underlying247
 a57:=Tryz.isAgg247
 z57:=Tryz.sizeOf247
 v57:=Tryz.zeroValue247
 t63:=Tryz.underlying278
 a63:=Tryz.isAgg278
 z63:=Tryz.sizeOf278
 v63:=Tryz.zeroValue278
 t64:=Tryz.underlying279
 a64:=Tryz.isAgg279
 z64:=Tryz.sizeOf279
 v64:=Tryz.zeroValue279
end Go.Proofs
namespace Go.Proofs.YtlbckoblcdoceaaGreatDoor
open Go Go.Proofs Wx
variable{h h':ad}{K:KT}{F F':NP}{t d r e a q u:OA}{i B:Int}{k l m c n U p:Nat}{ao:Nat->Nat}{R:List Int}{xs:LV}
open _root_.List renaming length_map->aP,mem_map->jc,map_map->qJ,map_congr_left->Fu,drop_zero->mW,mergeSort_nil->SC,eq_nil_of_length_eq_zero->Vb,mem_singleton->kU,map_append->eT,mem_filter->H7,mem_range'_1->XP,mergeSort_perm->SD,drop_length->xG,take_length->mZ,length_append->bg,length_singleton->ik,drop_eq_nil_of_le->SE,drop_append_of_le_length->Ej,take_of_length_le->gL,mem_append->nB,take_append_drop->qP,length_take->dL,drop_nil->SF,take_left->tL,length_replicate->dU,append_nil->gi,mem_cons_self->kj,flatMap_append->iy,map_set->yG,map_eq_nil_iff->qx,getElem?_map->jH,getElem?_eq_getElem->fg,flatMap_cons->qO,flatMap_nil->Ar,range_succ->Ei,length_cons->pA,getElem_mem->ff,map_cons->lI,map_nil->HC,flatten_cons->H6,append_assoc->iW,map_replicate->Gu,replicate_succ->uW,drop_eq_getElem_cons->lh,mem_cons->fO,not_mem_nil->nT,getD_eq_getElem?_getD->gh,getElem_map->mu,take_zero->vi,mem_cons_of_mem->gV,ext_getElem->XQ,length_drop->jM,length_set->pL
open _root_.Nat renaming le_trans->k9,le_refl->bE,lt_or_ge->rI,min_eq_left->xL,zero_le->bN,mul_one->ph,mod_mod_of_dvd->SG,div_le_self->Ep,div_div_eq_div_mul->GP,mod_lt->Oa,le_add_right->kM,le_succ->qw,lt_of_lt_of_le->mV,zero_add->wR
open _root_.Function renaming comp_apply->XR
open _root_.Int renaming le_trans->SH,toNat_natCast->cA,tdiv_eq_ediv_of_nonneg->nL,tmod_eq_emod_of_nonneg->rL,le_refl->th,fdiv_eq_ediv_of_nonneg->vf
open _root_.Iff renaming rfl->yC
open _root_.Classical renaming byContradiction->rB
open _root_.UInt8 renaming toNat_lt->Am,toNat_ofNat'->lX
namespace Tm
open Hp W Ad
theorem insert_perm{H:Type}(x:Lit×DataW H):∀l:List (Lit×DataW H),(DataW.insert x l).Perm (x::l)
 | []=>List.Perm.refl _
 | y::r=>by
  show(if x.1.before y.1 then x::y::r else y::DataW.insert x r).Perm _
  split
  ·exact List.Perm.refl _
  ·exact((insert_perm x r).cons y).trans (List.Perm.swap x y r)
theorem HD{H:Type}:∀l:List (Lit×DataW H),(l.foldr DataW.insert []).Perm l
 | []=>List.Perm.refl _
 | x::r=>(insert_perm x _).trans ((HD r).cons x)
def ER : Value->Option (DataW Unit×List MemPlace):=λ_=>some (.nil,[])
def valI : Value->Int
 | .int _ n=>n
 | _=>0
def xH(l:List Int):List Int:=l.mergeSort λx y=>decide (x<=y)
theorem Oe{α:Type}{f:α->Value}{bx mb:Nat}{m:List (Int×α)}(hbx:rd h bx=[.map (some mb)])(M:nK DI h mb (mm f m))(hm:m.length<=1000000)(hr:∀ p ∈ m,-9223372036854775808<=p.1/\p.1<=9223372036854775807)
  (hK:∀a c h',Fr No h h'->Sl h' 1 a m.length c ((xH (m.map (·.1))).map (.int .i64)) (cW h.size)->K (vS a m.length c) h') :
  C.vd (.func (.func 117) #[] ⟨[vP (some ⟨bx,0,none⟩)]⟩) h K:=by
 refine⟨⟨_,Tryz.func71,by kernel_rfl,by kernel_rfl⟩,λw hw=>?_⟩;subst hw;obtain⟨es,clock,hb,he,_,tB⟩:=M
 have hlen:es.size=m.length:=by
  have:=congrArg List.length he;rw[aP,aP,zv]at this;simpa using this
 have EH:∀x∈es.toList,∃p∈m,x.key = vI p.1:=by
  intro x hx;have:(x.key,x.val)∈es.toList.map (λe=>(e.key,e.val)):=jc.mpr ⟨x,hx,rfl⟩;rw[he]at this;obtain⟨q,hq,e⟩:=jc.mp this;obtain⟨p,hp,rfl⟩:=jc.mp hq;exact⟨p,hp,(congrArg Prod.fst e).symm⟩
 have hwf:∀n:Int,-9223372036854775808<=n/\n<=9223372036854775807->(Lit.int .i64 n).wf=true:=λn hn=>by
  have h1:IntKind.i64.min = -9223372036854775808:=rfl;have h2:IntKind.i64.max=9223372036854775807:=rfl;simp only[Lit.wf,Bool.and_eq_true,decide_eq_true_eq];omega
 have aco:∀n:Int,-9223372036854775808<=n/\n<=9223372036854775807->∀x:MapEntry,x.key = .int .i64 n->WideElems.rd Tryz.prog 3 ER x=some (.int .i64 n,.nil):=λn hn x hx=>by
  have h1:keyOf Tryz.prog 3 x.key=some (.int .i64 n):=by
   rw[hx];simp[keyOf,mapKey,Tryz.underlying3,hwf n hn]
  simp[WideElems.rd,h1,ER]
 have fit:WideElems.Fit Tryz.prog 3 ER es clock:=⟨by rw[hlen];exact k9 hm dX,tB,λx hx=>by
  obtain⟨p,hp,e⟩:=EH x hx
  exact⟨_,aco p.1 (hr p hp) x e⟩⟩
 have hown:w.ownsMap Tryz.prog 3 ER mb m.length (.map ((es.toList.map (WideElems.rg Tryz.prog 3 ER)).foldr DataW.insert [])):=⟨es,clock,hb,fit,oX,rfl⟩
 have acp:(intKeys (H:=Unit) (.map ((es.toList.map (WideElems.rg Tryz.prog 3 ER)).foldr DataW.insert []))).Perm (m.map (·.1)):=by
  refine List.Perm.trans (l₂:=(es.toList.map (WideElems.rg Tryz.prog 3 ER)).map λp:Lit×DataW Unit=>Go.intOf p.1) ((HD _).map _) ?_;rw[qJ]
  have e1:es.toList.map ((λp:Lit×DataW Unit=>Go.intOf p.1) ∘ WideElems.rg Tryz.prog 3 ER)=m.map (·.1):=by
   have e2:es.toList.map (λx=>x.key)=m.map λp=>(vI p.1:Value):=by
    have:=congrArg (List.map Prod.fst) he;rw[qJ,qJ]at this;rw[show(es.toList.map λx=>x.key)=es.toList.map (Prod.fst ∘ λe=>(e.key,e.val)) from rfl,this];rw[mm,qJ];rfl
   have e3:es.toList.map ((λp:Lit×DataW Unit=>Go.intOf p.1) ∘ WideElems.rg Tryz.prog 3 ER)=(es.toList.map (λx=>x.key)).map valI:=by
    rw[qJ];refine Fu λx hx=>?_;obtain⟨p,hp,e⟩:=EH x hx;have h1:=WideElems.rg_of (aco p.1 (hr p hp) x e);rw[XR,XR,h1,e];rfl
   rw[e3,e2,qJ];rfl
  rw[e1]
 have rM:bx<w.heap.size:=pE (o:=0) (v:=.map (some mb)) (by rw[hbx];rfl)
 have lV:Maps.size (.map ((es.toList.map (WideElems.rg Tryz.prog 3 ER)).foldr DataW.insert []):DataW Unit)=m.length:=by
  have:=acp.length_eq;rw[aP]at this;rw[<-this];show _=(List.map _ _).length;rw[aP];rfl
 have hc:w.cell? ⟨bx,0,none⟩=some (.map (some mb)):=dC hbx rfl
 have hseq:SeqGives Fence.wide 2 Tryz.prog 117 #[.pointer (some ⟨bx,0,none⟩)] encZ (λss=>ss.Perm (intKeys (H:=Unit) (.map ((es.toList.map (WideElems.rg Tryz.prog 3 ER)).foldr DataW.insert [])))) (Maps.size (.map ((es.toList.map (WideElems.rg Tryz.prog 3 ER)).foldr DataW.insert []):DataW Unit)) w:=
  AnyZI.keys_gives (ρ:=Tryz.keysA_ren) { Tryz.keysA with } Fence.wide _ trivial rfl oX bx mb m.length _ _ rM hc hown
 have aiL:∀k,AnyZI.SortsIn Tryz.prog Tryz.sortedA_ren Fence.wide k:=λk=>
  ⟨λblk off cap ss W hH hblk lV=>callsIn_wide.2 (AnyM.slices_Sort_int Tryz.sortA blk off cap ss W hH hblk lV),
   λp cap W=>callsIn_wide.2 (AnyM.slices_Sort_int_none Tryz.sortA p cap W)⟩
 have cS:=AnyZI.sorted_in Tryz.sortedA Fence.wide 5 trivial trivial trivial trivial rfl oX (aiL _) (enters_of Tryz.func116 (by kernel_rfl) rfl) 117 #[vP (some ⟨bx,0,none⟩)] trivial (enters_of Tryz.func117 (by kernel_rfl) rfl) _ _ (by rw[lV];exact k9 hm dX) (by rw[lV];omega) _ hseq;refine((callsIn_wide (n:=5)).1 cS).mono λe w' ⟨v,ss,he',hS,XT,_,XU⟩=>?_;have hS':ss.Perm (m.map (·.1)):=hS.trans acp;have el:ss.length=m.length:=by have:=hS'.length_eq;rw[aP]at this;exact this
 have EU:ss.mergeSort (λx y=>decide (x<=y))=xH (m.map (·.1)):=mergeSort_of_perm_i hS';rw[EU,el]at XT;have fr:Fr No w.heap w'.heap:=⟨XU.size,λk hk _=>XU.block k hk⟩;refine⟨v,he',⟨XU.os,XU.tape,XU.output⟩,?_⟩;obtain⟨hl,XT⟩:=XT
 rcases XT with⟨rfl,hz⟩|⟨gb,cap,cur,rfl,Rr,hgb,r1,r2,r3,r4⟩
 ·rw[hz]at hK;refine hK none 0 w'.heap fr ⟨?_,rfl,rfl⟩;rw[hz]at hl;exact hl
 ·refine hK _ cap w'.heap fr ⟨hl,rfl,Rr,⟨_,_,_,hgb,.inl rfl⟩,r1,?_,?_⟩
  ·have e:rd w'.heap gb=cur.toList:=(by unfold rd;rw[hgb]);show((rd w'.heap gb).drop 0).take _=_;rw[e,mW,hl];exact r4
  ·have e:rd w'.heap gb=cur.toList:=(by unfold rd;rw[hgb]);show 0+cap*1<=(rd w'.heap gb).length;rw[e,Array.length_toList,r3];omega
def TM.written(T:TM):List Int:=xH (T.put.map (·.1))
theorem CK{T:TM}(x:Tx h F t d T)(hp:T.put.length<=1000000)
  (hK:∀a l c h',Fr No h h'->l=T.put.length->Sl h' 1 a l c (T.written.map (.int .i64)) (cW h.size)->K (vS a l c) h'):C.gp t h K:=by
 rcases x with⟨ao,r,rfl,X,hF⟩|⟨ao,tb,rfl,X,hF⟩
 ·have Lp:T.put.length=r.ps.length:=by rw[X.put,aP]
  refine gp.ok (os ⟨_,aZ X.cell rfl,cf rfl (os ⟨_,aZ X.cell rfl,?_⟩)⟩);refine cV.ok (aC.intro λh2 n2=>⟨_,rfl,?_⟩);obtain⟨D,dk,_⟩:=Tx.dk (.inl ⟨ao,r,rfl,X,hF⟩:Tx h F (some ⟨r.tb,0,none⟩) d T);have aiM:T.N<=16384:=dk.max.1;refine Oe (f:=λx:Sc×cC=>x.1.v) (m:=r.ps) n2.rd (xn X.map n2.fr λx=>x) oX (λp hp=>?_) λa c h3 f3 s=>⟨_,_,_,rfl,?_⟩
  ·have:=X.pk (p.1,p.2.2) (by rw[X.put];exact jc.mpr ⟨p,hp,rfl⟩);simp only at this;omega
  ·have e:T.written=xH (r.ps.map (·.1)):=by
    unfold TM.written;rw[X.put,qJ];rfl
   rw[<-e]at s;exact hK a _ c h3 (n2.fr.no f3) Lp.symm (s.mono λb hb=>k9 n2.fr.size hb)
 ·refine gp.ok (os ⟨_,aZ X.cell rfl,ct rfl ?_⟩);have e1:=X.gone.1;have e:T.written=[]:=by unfold TM.written;rw[e1];exact SC
  have hK:=hK none 0 0 h (Fr.refl _ _) (by rw[e1];rfl);rw[e]at hK;exact hK (Sl.nil _ _ _)
end Tm
namespace Rx
open Hp W Ad Tm Spc Re
def nN(row:List (Int×cC))(i:Int):Option cC:=row.foldl (λo p=>if p.1=i then some p.2 else o) none
theorem DH(row:List (Int×cC))(p:Int×cC)(i:Int):nN (row++[p]) i=if p.1=i then some p.2 else nN row i:=by
 unfold nN;rw[List.foldl_append];rfl
theorem CL{i:Int}:∀{n:Nat} {row:List (Int×cC)},row.length=n->∀{b:cC},nN row i=some b->(i,b)∈row
 | 0,row,hn,b,e=>by rw[Vb hn]at e;cases e
 | n+1,row,hn,b,e=>by
  have ne:row≠[]:=by intro y;rw[y]at hn;cases hn
  rw[<-List.dropLast_concat_getLast ne]at e ⊢;rw[DH]at e
  split at e
  ·rename_i h;cases e;subst h;exact List.mem_append_right _ (kU.mpr rfl)
  ·exact List.mem_append_left _ (CL (n:=n) (by rw[List.length_dropLast,hn];rfl) e)
structure RM where
 cB:RD
 row:List (Int×cC)
 ends:Bool
def RM.N(M:RM):Nat:=M.cB.aE.length
def RM.read(M:RM)(i:Int):cC×Int:=
 if M.ends=true then([],61)else if i<0∨i>=M.N then([],31)else match nN M.row i with
  | some b=>(b,0)
  | none=>if M.cB.down=true then([],30)else(nI M.cB i.toNat,0)
def mU(M:RM)(k:Nat):List Int:=((List.range' 98 k).filter λi=>(nN M.row ((i:Nat):Int)).isSome).map λi:Nat=>((i:Nat):Int)
theorem Of(M:RM)(k:Nat):mU M (k+1)=mU M k++if(nN M.row ((98+k:Nat):Int)).isSome=true then[((98+k:Nat):Int)]else[]:=by
 unfold mU;rw[List.range'_concat,List.filter_append,eT,Nat.one_mul];congr 1
 by_cases h:(nN M.row ((98+k:Nat):Int)).isSome=true
 ·rw[if_pos h];simp only[List.filter,h,List.map]
 ·rw[if_neg h];simp only[List.filter,h,List.map]
def RM.written(M:RM):List Int:=if M.ends=true then[]else mU M (M.N-98)
theorem Bn{M:RM}{x:Int}:x∈mU M k↔98<=x/\x<98+k/\(nN M.row x).isSome=true:=by
 unfold mU;rw[jc]
 constructor
 ·rintro⟨a,ha,rfl⟩;rw[H7,XP]at ha;exact⟨oX,oX,ha.2⟩
 ·rintro⟨h1,h2,h3⟩;refine⟨x.toNat,?_,oX⟩;rw[H7,XP];refine⟨oX,?_⟩;rw[show((x.toNat:Nat):Int)=x by omega];exact h3
theorem Kb(M:RM)(k:Nat):(mU M k).Pairwise (· < ·):=by
 unfold mU;rw[List.pairwise_map];have h:(List.range' 98 k).Pairwise (· < ·):=List.pairwise_lt_range';exact((h.sublist (List.filter_sublist)).imp λh=>oX)
theorem Qp : ∀a b c:Int,decide (a<=b)=true->decide (b<=c)=true->decide (a<=c)=true:=λa b c h1 h2=>decide_eq_true (SH (of_decide_eq_true h1) (of_decide_eq_true h2))
theorem Qq : ∀a b:Int,(decide (a<=b) || decide (b<=a))=true:=λa b=>by
 rcases Int.le_total a b with h|h
 ·rw[decide_eq_true h];rfl
 ·rw[decide_eq_true h,Bool.or_true]
theorem XV{l m:List Int}(h:l.Nodup)(hm:m.Pairwise (· < ·))(hs:∀ x,x ∈ l↔x ∈ m):xH l=m:=by
 have hp0:(xH l).Perm l:=SD l _
 have bV:(xH l).Pairwise (· < ·):=by
  have h1:(xH l).Pairwise λx y=>decide (x<=y)=true:=List.pairwise_mergeSort Qp Qq l;have h2:(xH l).Nodup:=hp0.nodup_iff.mpr h;exact(h1.and h2).imp λ⟨a,b⟩=>by have:=of_decide_eq_true a;omega
 have hmn:m.Nodup:=hm.imp λh=>by omega
 have hp:(xH l).Perm m:=hp0.trans ((List.perm_ext_iff_of_nodup h hmn).mpr hs);exact List.Perm.eq_of_pairwise (le:=(· < ·)) (λa b _ _ h1 h2=>oX) bV hm hp
structure xI(T:TM)(M:RM):Prop where
 ends:M.ends=T.over
 dk:M.cB=T.cB
 gone:T.over=true->T.put=[]/\T.aD=[]
 un:T.over=false->T.aD.length=M.row.length
 nd:T.over=false->∀k,k<=M.row.length->((dN T.put (T.aD.drop k)).map (·.1)).Nodup
 mx:T.over=false->∀k,k<=M.row.length->(dN T.put (T.aD.drop k)).length<=96
 get:T.over=false->∀k,k<=M.row.length->∀i,dx (dN T.put (T.aD.drop k)) i=nN (M.row.take k) i
 rr:∀p∈M.row,98<=p.1/\p.1<T.N/\p.2.length=512
theorem xI.N{T:TM}{M:RM}(s:xI T M):M.N=T.N:=by unfold RM.N;rw[s.dk];rfl
theorem xI.now{T:TM}{M:RM}(s:xI T M)(h:T.over=false)(i:Int):dx T.put i=nN M.row i:=by
 have:=s.get h M.row.length (bE _) i;rw[<-s.un h,xG,s.un h,mZ]at this;exact this
theorem xI.nodup{T:TM}{M:RM}(s:xI T M)(h:T.over=false):(T.put.map (·.1)).Nodup:=by
 have:=s.nd h M.row.length (bE _);rw[<-s.un h,xG]at this;exact this
theorem xI.most{T:TM}{M:RM}(s:xI T M)(h:T.over=false):T.put.length<=96:=by
 have:=s.mx h M.row.length (bE _);rw[<-s.un h,xG]at this;exact this
theorem xI.read{T:TM}{M:RM}(s:xI T M)(i:Int):M.read i=T.read i:=by
 unfold RM.read TM.read;rw[s.ends,s.N]
 split
 ·rfl
 ·rename_i h;have hl:T.over=false:=by cases e:T.over <;> simp_all
  split
  ·rfl
  ·rename_i h2;rw[<-s.now hl i]
   cases e:dx T.put i with
   | some b=>rw[TM.get_some e]
   | none=>
    rw[TM.get_none e,s.dk]
theorem XW{α:Type}{m:List (Int×α)}:i∈m.map (·.1)↔(dx m i).isSome=true:=by
 constructor
 ·intro h
  cases e:dx m i with
  | some b=>rfl
  | none=>
   obtain⟨p,hp,ep⟩:=jc.mp h;exact absurd ep (zr.mp e p hp)
 ·intro h
  cases e:dx m i with
  | some b=>exact jc.mpr ⟨_,wz e,rfl⟩
  | none=>rw[e]at h;cases h
theorem xI.written{T:TM}{M:RM}(s:xI T M):T.written=M.written:=by
 unfold TM.written RM.written;rw[s.ends]
 cases hl:T.over with
 | true=>rw[(s.gone hl).1,if_pos rfl];exact SC
 | false=>
  rw[if_neg (by simp)];refine XV (s.nodup hl) (Kb _ _) λx=>?_;rw[Bn,XW,s.now hl,s.N]
  constructor
  ·intro h
   cases e:nN M.row x with
   | none=>rw[e]at h;cases h
   | some b=>
    have:=s.rr _ (CL rfl e);simp only at this;exact⟨this.1,oX,rfl⟩
  ·exact λh=>h.2.2
theorem CM(l:List Int):(xH l).length=l.length:=(SD l _).length_eq
theorem xI.many{T:TM}{M:RM}(s:xI T M):M.written.length=T.put.length:=by rw[<-s.written];unfold TM.written;rw[CM,aP]
def RM.write(M:RM)(i:Int)(bs:cC):RM×Int:=
 if M.ends=true then(M,61)else if i<98∨i>=M.N then(M,31)else if bs.length≠512 then(M,32)else if nN M.row i=none/\M.written.length>=96 then(M,60)else({ M with row:=M.row++[(i,bs)] },0)
theorem Bo(m:List (Int×cC))(i:Int)(v:cC):rO (jL m i v) (i,dx m i)=m:=by
 unfold rO
 cases e:dx m i with
 | some b=>exact zu e
 | none=>exact zt e
theorem vC(m:List (Int×cC))(us vs:List (Int×Option cC)):dN m (us++vs)=dN (dN m vs) us:=by unfold dN;rw[List.foldr_append]
theorem Qr{α:Type}{m:List (Int×α)}(h:(m.map (·.1)).Nodup)(i:Int)(v:α):((jL m i v).map (·.1)).Nodup:=by
 rw[JK]
 split
 ·rename_i e;rw[List.nodup_append];refine⟨h,by simp,λa ha b hb=>?_⟩;rw[kU]at hb;subst hb;obtain⟨p,hp,rfl⟩:=jc.mp ha;exact zr.mp e p hp
 ·exact h
theorem xI.write{T:TM}{M:RM}(s:xI T M)(i:Int)(bs:cC):(M.write i bs).2=(T.write i bs).2/\xI (T.write i bs).1 (M.write i bs).1:=by
 unfold RM.write TM.write;rw[s.ends,s.N,s.many]
 split
 ·exact⟨rfl,s⟩
 ·rename_i h;have hl:T.over=false:=by cases e:T.over <;> simp_all
  rw[<-s.now hl i]
  split
  ·exact⟨rfl,s⟩
  ·split
   ·exact⟨rfl,s⟩
   ·split
    ·exact⟨rfl,s⟩
    ·rename_i h2 h3 h4;refine⟨rfl,rfl,s.dk,λy=>absurd (hl.symm.trans y) (by simp),λ_=>?_,λ_ k hk=>?_,λ_ k hk=>?_,λ_ k hk j=>?_,λp hp=>?_⟩
     ·show(T.aD++[_]).length=(M.row++[_]).length;rw[bg,bg,s.un hl];rfl
     ·have hk:k<=(M.row++[(i,bs)]).length:=hk;rw[bg,ik]at hk;show((dN (jL T.put i bs) ((T.aD++[(i,dx T.put i)]).drop k)).map _).Nodup
      rcases rI M.row.length k with y|y
      ·rw[SE (by rw[bg,s.un hl];show _+1<=k;omega)];exact Qr (s.nodup hl) i bs
      ·rw[Ej (by rw[s.un hl];exact y),vC];show((dN (rO (jL T.put i bs) (i,dx T.put i)) _).map _).Nodup;rw[Bo];exact s.nd hl k y
     ·have hk:k<=(M.row++[(i,bs)]).length:=hk;rw[bg,ik]at hk;show(dN (jL T.put i bs) ((T.aD++[(i,dx T.put i)]).drop k)).length<=96
      rcases rI M.row.length k with y|y
      ·rw[SE (by rw[bg,s.un hl];show _+1<=k;omega)];show(jL T.put i bs).length<=96;have:=s.most hl;rw[Eg]
       split
       ·rename_i z;have:¬T.put.length>=96:=λw=>h4 ⟨z,w⟩;omega
       ·exact this
      ·rw[Ej (by rw[s.un hl];exact y),vC];show(dN (rO (jL T.put i bs) (i,dx T.put i)) _).length<=96;rw[Bo];exact s.mx hl k y
     ·have hk:k<=(M.row++[(i,bs)]).length:=hk;rw[bg,ik]at hk;show dx (dN (jL T.put i bs) ((T.aD++[(i,dx T.put i)]).drop k)) j=nN ((M.row++[(i,bs)]).take k) j
      rcases rI M.row.length k with y|y
      ·rw[SE (by rw[bg,s.un hl];show _+1<=k;omega),gL (by rw[bg];show _+1<=k;omega),DH];show dx (jL T.put i bs) j=_;rw[JG,s.now hl j]
       by_cases e:j=i
       ·rw[if_pos e,if_pos (show(i,bs).1=j from e.symm)]
       ·rw[if_neg e,if_neg (show ¬(i,bs).1=j from λy=>e y.symm)]
      ·rw[Ej (by rw[s.un hl];exact y),vC,List.take_append_of_le_length y];show dx (dN (rO (jL T.put i bs) (i,dx T.put i)) _) j=_;rw[Bo];exact s.get hl k y j
     ·have hp:p∈M.row++[(i,bs)]:=hp
      rcases nB.mp hp with y|y
      ·exact s.rr p y
      ·rw[kU.mp y];show 98<=i/\i<(T.N:Int)/\bs.length=512;omega
def RM.back(M:RM)(m:Int):RM×Int:=if M.ends=true then(M,61)else if m<0∨m>M.row.length then(M,62)else({ M with row:=M.row.take m.toNat },0)
theorem xI.back{T:TM}{M:RM}(s:xI T M)(m:Int):(M.back m).2=(T.back m).2/\xI (T.back m).1 (M.back m).1:=by
 unfold RM.back TM.back;rw[s.ends]
 split
 ·exact⟨rfl,s⟩
 ·rename_i h;have hl:T.over=false:=by cases e:T.over <;> simp_all
  rw[s.un hl]
  split
  ·exact⟨rfl,s⟩
  ·rename_i h2;have hm:m.toNat<=M.row.length:=oX
   have key:∀k,k<=m.toNat->dN (dN T.put (T.aD.drop m.toNat)) ((T.aD.take m.toNat).drop k)=dN T.put (T.aD.drop k):=λk hk=>by
    have e:T.aD.drop k=(T.aD.take m.toNat).drop k++T.aD.drop m.toNat:=by
     refine (congrArg (List.drop k) (qP m.toNat T.aD).symm).trans ?_;rw[Ej (by rw[dL,s.un hl];omega)]
    rw[e,vC]
   have lt:(M.row.take m.toNat).length=m.toNat:=(by rw[dL];omega);refine⟨rfl,rfl,s.dk,λy=>absurd (hl.symm.trans y) (by simp),λ_=>?_,λ_ k hk=>?_,λ_ k hk=>?_,λ_ k hk j=>?_,λp hp=>s.rr p (List.mem_of_mem_take hp)⟩
   ·show(T.aD.take m.toNat).length=(M.row.take m.toNat).length;rw[lt,dL,s.un hl];omega
   ·have hk:k<=(M.row.take m.toNat).length:=hk;rw[lt]at hk;show((dN (dN T.put (T.aD.drop m.toNat)) ((T.aD.take m.toNat).drop k)).map _).Nodup;rw[key k hk];exact s.nd hl k oX
   ·have hk:k<=(M.row.take m.toNat).length:=hk;rw[lt]at hk;show(dN (dN T.put (T.aD.drop m.toNat)) ((T.aD.take m.toNat).drop k)).length<=96;rw[key k hk];exact s.mx hl k oX
   ·have hk:k<=(M.row.take m.toNat).length:=hk;rw[lt]at hk;show dx (dN (dN T.put (T.aD.drop m.toNat)) ((T.aD.take m.toNat).drop k)) j=nN ((M.row.take m.toNat).take k) j;rw[key k hk,s.get hl k oX j,List.take_take,xL hk]
theorem xI.mark{T:TM}{M:RM}(s:xI T M):(if M.ends=true then((0:Int),(61:Int))else((M.row.length:Int),0))=T.mark:=by
 unfold TM.mark;rw[s.ends]
 split
 ·rfl
 ·rename_i h;have hl:T.over=false:=by cases e:T.over <;> simp_all
  rw[s.un hl]
theorem xI.over{T:TM}{M:RM}(s:xI T M){S:RD}(h:S.aE.length=T.N):xI ⟨S,[],[],true⟩ { M with cB:=S,ends:=true }:=
 ⟨rfl,rfl,λ_=>⟨rfl,rfl⟩,λy=>(by cases y),λy=>(by cases y),λy=>(by cases y),λy=>(by cases y),λp hp=>by
  have e:TM.N ⟨S,[],[],true⟩=T.N:=h
  rw[e];exact s.rr p hp⟩
theorem xI.DJ{T:TM}{M:RM}(s:xI T M){S:RD}(h:S.aE.length=T.N):xI { T with cB:=S } { M with cB:=S }:=by
 have hN:TM.N { T with cB:=S }=T.N:=h;exact⟨s.ends,rfl,s.gone,s.un,s.nd,s.mx,s.get,λp hp=>by rw[hN];exact s.rr p hp⟩
theorem aaB(S:RD):xI ⟨S,[],[],false⟩ ⟨S,[],false⟩:=
 ⟨rfl,rfl,λy=>(by cases y),λ_=>rfl,λ_ k _=>by
  show((dN [] (([]:List (Int×Option cC)).drop k)).map _).Nodup
  rw[SF];exact List.nodup_nil,λ_ k _=>by
  show(dN [] (([]:List (Int×Option cC)).drop k)).length<=96
  rw[SF];exact bN _,λ_ k _ i=>by
  show dx (dN [] (([]:List (Int×Option cC)).drop k)) i=nN (([]:List (Int×cC)).take k) i
  rw[SF,List.take_nil];rfl,λp hp=>(by cases hp)⟩
theorem HE{bs:cC}{t:Nat}{k:Nat->ad->Prop}(H:∀ cap h',Fr No h h'->Sl h' 1 (some (bA h)) bs.length cap (bs.map bv) (λb=>b=h.size)->k cap h'):Zu (mkStr bs) t h k:=by
 intro cap FH;have FH:bs.length<=cap:=FH;show k cap (vG h ((mkStr bs).toList.map bv++List.replicate (cap-bs.length) (bv 0)) t);rw[toList_mkStr];generalize H9:bs.map bv++List.replicate (cap-bs.length) (bv 0)=cs;have hg:(vG h cs t)[h.size]?=some (.cells ⟨cs⟩ t (cs.length,cs.length+1)):=by simp[vG]
 have hr:rd (vG h cs t) h.size=cs:=by simp only[rd,hg]
 refine H cap _ ⟨by simp[vG],λx hx _=>by simp[vG,Array.getElem?_push,show x≠h.size by omega]⟩ ⟨by rw[aP,ph],rfl,rfl,⟨_,_,_,hg,.inr (bE _)⟩,FH,?_,?_⟩
 ·show((rd (vG h cs t) h.size).drop 0).take _=_;rw[hr,<-H9,mW];exact tL
 ·show 0+cap*1<=(rd (vG h cs t) h.size).length;rw[hr,<-H9,bg,aP,dU];omega
def oL(p:Int×cC):LV:=[vI p.1,.string (mkStr p.2)]
theorem Kc(p:Int×cC):∀v∈oL p,v.oneCell'=true:=agS rfl rfl
structure RR where
 rb:Nat
 q:OA
 ra:OA
 rc:Nat
structure IE(h:ad)(ao:Nat->Nat)(R:RR)(M:RM):Prop where
 wA:∀b,h.size<=b->ao b=0
 rc:ao R.rb=1
 ro:dA h R.rb
 rr:rd h R.rb=[vP R.q,vS R.ra M.row.length R.rc,.bool M.ends]
 dk:Rf.tj h (λb=>ao b=3) R.q M.cB
 row:Sl h 2 R.ra M.row.length R.rc (M.row.flatMap oL) (On ao 4)
 rm:M.row.length<=1000000000
def Rx(h:ad)(F:NP)(r e:OA)(M:RM):Prop:=∃ao R,r=some ⟨R.rb,0,none⟩/\e=R.q/\IE h ao R M/\∀b,F b↔1<=ao b/\ao b<=4
theorem aaC{E E':NP}{D:RD}(x:Rf.tj h E r D)(g:∀ b,E' b↔E b):Rf.tj h E' r D:=by
 obtain⟨ao,S,a,s,p,w,hz,hD⟩:=x;exact⟨ao,S,a,s,p,w,hz,λb=>(g b).trans (hD b)⟩
theorem IE.max{h:ad}{ao:Nat->Nat}{R:RR}{M:RM}(X:IE h ao R M):M.N<=16384:=Wd.tj.max X.dk
theorem IE.keep{R:RR}{M:RM}{G:NP}(X:IE h ao R M)(f:Fr G h h')(hG:∀ b,b<h.size->1<=ao b->ao b<=4->¬ G b):IE h' ao R M:=by
 have c1:=X.rc;have l1:=X.ro.lt;have g1:=hG _ l1 oX oX
 exact⟨λb hb=>X.wA b (k9 f.size hb),c1,f.own l1 g1 X.ro,(f.rd l1 g1).trans X.rr,
  X.dk.fr f (λb hb=>hG b (X.dk.lt hb) (by have hb:ao b=3:=hb;omega) (by have hb:ao b=3:=hb;omega)),X.row.fr f (λb hb e=>hG b hb (by have e:ao b=4:=e;omega) (by have e:ao b=4:=e;omega)),X.rm⟩
theorem Rx.fr{G:NP}{M:RM}(x:Rx h F r e M)(f:Fr G h h')(hG:∀ b,F b->¬ G b):Rx h' F r e M:=by
 obtain⟨ao,R,e1,e2,X,hF⟩:=x;exact⟨ao,R,e1,e2,X.keep f λb _ h1 h2=>hG b ((hF b).mpr ⟨h1,h2⟩),hF⟩
theorem Rx.lt{M:RM}(x:Rx h F r e M){b:Nat}(hb:F b):b<h.size:=by
 obtain⟨ao,R,e1,e2,X,hF⟩:=x
 rcases rI b h.size with y|y
 ·exact y
 ·have:=X.wA b y;have:=(hF b).mp hb;omega
theorem Bg{ec:Nat}(s:Sl h ec a l c xs F):Sl h ec a l c xs (λb=>F b/\b<h.size):=by
 obtain⟨h1,h2⟩:=s;refine⟨h1,?_⟩
 cases a with
 | none=>exact h2
 | some p=>exact⟨h2.1,⟨h2.2.1,h2.2.2.1.lt⟩,h2.2.2.1,h2.2.2.2.1,h2.2.2.2.2⟩
theorem A1{D:NP}{S:RD}(x:Rf.tj h D q S)
  (hK:∀F h',Fr No h h'->Rx h' F (some (bA h)) q ⟨S,[],false⟩->(∀b,F b↔D b∨b=h.size)->K (vP (some (bA h))) h'):C.iz q h K:=by
 have l:=λb (hb:D b)=>x.lt hb;refine iz.ok (aC.intro λh2 n2=>?_);have z:=n2.size
 obtain⟨ao,c1,c3,c4⟩:∃ao:Nat->Nat,ao h.size=1/\(∀b,D b->ao b=3)/\∀b,¬D b->b≠h.size->ao b=0:=
  ⟨λb=>if b=h.size then 1 else @ite _ (D b) (Classical.propDecidable _) 3 0,if_pos rfl,
   (λb hb=>by have:=l b hb;show(if b=h.size then 1 else @ite _ (D b) (Classical.propDecidable _) 3 0)=3;rw[if_neg oX,if_pos hb]),(λb hb fP=>by show(if b=h.size then 1 else @ite _ (D b) (Classical.propDecidable _) 3 0)=0;rw[if_neg fP,if_neg hb])⟩
 refine hK (λb=>1<=ao b/\ao b<=4) h2 n2.fr ⟨ao,⟨h.size,q,none,0⟩,rfl,rfl,⟨λb hb=>c4 b (λy=>by have:=l b y;omega) oX,c1,n2.own,n2.rd,aaC (x.no n2.fr) λb=>⟨λe=>?_,c3 b⟩,Sl.nil _ _ _,bN _⟩,λb=>yC⟩ λb=>⟨λhb=>?_,λhb=>?_⟩
 ·refine rB λy=>?_;have e:ao b=3:=e
  by_cases y2:b=h.size
  ·rw[y2]at e;omega
  ·have:=c4 b y y2;omega
 ·by_cases y:D b
  ·exact .inl y
  ·refine .inr (rB λne=>?_);have:=c4 b y ne;omega
 ·rcases hb with y|rfl
  ·have:=c3 b y;omega
  ·omega
theorem IE.oL{h:ad}{ao:Nat->Nat}{R:RR}{M:RM}(X:IE h ao R M){j:Nat}(hj:j<M.row.length):∃p,R.ra=some p/\ai h (p.add (j*2)) (oL M.row[j]):=by
 obtain⟨p,ep,cc⟩:=X.row.get oX;refine⟨p,ep,?_⟩;have:=ai.take (ai.drop cc (j*2)) 2;rw[kv Rx.oL 2 M.row (λx _=>rfl) j hj]at this;exact this
theorem lj{R:RR}{M:RM}(X:IE h ao R M)(hK:K (vI M.N) h):C.bL R.q h K:=X.dk.blocks hK
def AtR(row:List (Int×cC))(i:Int)(a:Int):Prop:=(a = -1/\nN row i=none)∨∃k:Nat,∃hk:k<row.length,a=k/\nN row i=some row[k].2
theorem CN{R:RR}{M:RM}(X:IE h ao R M)(hK:∀ a,AtR M.row i a->K (vI a) h):C.dW (some ⟨R.rb,0,none⟩) i h K:=by
 have rm:=X.rm
 refine dW.ok ⟨λa k hh=>∃j:Nat,k=j/\j<=M.row.length/\h=hh/\((a = -1/\nN (M.row.take j) i=none)∨∃k:Nat,∃hk:k<M.row.length,a=k/\nN (M.row.take j) i=some M.row[k].2),λ_ k _=>((M.row.length:Int)-k).toNat,
  ⟨0,rfl,bN _,rfl,.inl ⟨rfl,rfl⟩⟩,?_⟩
 rintro a k _ ⟨j,rfl,hj,rfl,ha⟩;refine os ⟨_,_,_,aZ X.rr rfl,cd (λhl=>?_) λhl=>?_⟩
 ·have hl':j<M.row.length:=oX;obtain⟨p,ep,cc⟩:=X.oL hl';refine os ⟨_,_,_,aZ X.rr rfl,⟨oX,hl⟩,oe ep ⟨_,ai.cell cc rfl,?_⟩⟩
  have es:nN (M.row.take (j+1)) i=if M.row[j].1=i then some M.row[j].2 else nN (M.row.take j) i:=by rw[eY _ _ hl',DH]
  have ew:wI ((j:Int)+1)=((j+1:Nat):Int):=by rw[wrap_i64 oX oX];omega
  rw[ew];refine ce (λe=>⟨⟨j+1,rfl,hl',rfl,.inr ⟨j,hl',rfl,by rw[es,if_pos e]⟩⟩,(by show((M.row.length:Int)-((j+1:Nat):Int)).toNat<((M.row.length:Int)-(j:Int)).toNat;omega)⟩) λe=>⟨⟨j+1,rfl,hl',rfl,?_⟩,(by show((M.row.length:Int)-((j+1:Nat):Int)).toNat<((M.row.length:Int)-(j:Int)).toNat;omega)⟩;rw[es,if_neg e];exact ha
 ·have e:j=M.row.length:=oX;subst e;rw[mZ]at ha;exact hK a ha
theorem AtR.neg{row:List (Int×cC)}{a:Int}(x:AtR row i a):a<0↔nN row i=none:=by
 rcases x with⟨rfl,e⟩|⟨k,hk,rfl,e⟩
 ·exact⟨λ_=>e,λ_=>by decide⟩
 ·exact⟨λy=>oX,λy=>by rw[y]at e;cases e⟩
theorem Qs{R:RR}{M:RM}(X:IE h ao R M)(h0:0<=i)(h1:i<M.N)
  (hK:∀a l c h',Fr No h h'->l=(if M.cB.down=true then([]:cC)else nI M.cB i.toNat).length->Sl h' 1 a l c ((if M.cB.down=true then([]:cC)else nI M.cB i.toNat).map bv) (cW h.size)->K (.tuple #[vS a l c,vI (if M.cB.down=true then 30 else 0)]) h') :
  C.cK R.q i h K:=by
 refine X.dk.read (λho=>?_) (λ_ y=>absurd ⟨h0,h1⟩ y) λho _ _ a l c h' f s=>?_
 ·rw[ho]at hK;exact hK none 0 0 h (Fr.refl _ _) rfl (Sl.nil _ _ _)
 ·rw[ho,if_neg (by simp),if_neg (by simp)]at hK;exact hK a l c h' f (by have:=s.1;rw[aP]at this;omega) s
theorem Qu{M:RM}(x:Rx h F r e M)
  (hK:∀a l c h',Fr No h h'->l=(M.read i).1.length->Sl h' 1 a l c ((M.read i).1.map bv) (cW h.size)->K (.tuple #[vS a l c,vI (M.read i).2]) h'):C.aT r i h K:=by
 obtain⟨ao,R,rfl,rfl,X,hF⟩:=x
 have bad:∀e,M.read i=([],e)->K (.tuple #[vS none 0 0,vI e]) h:=λe h2=>by
  rw[h2]at hK;exact hK none 0 0 h (Fr.refl _ _) rfl (Sl.nil _ _ _)
 refine aT.ok (os ⟨_,aZ X.rr rfl,?_⟩)
 cases he:M.ends with
 | true=>exact ct rfl (bad _ (by unfold RM.read;rw[if_pos he]))
 | false=>
  have e0:M.read i=if i<0∨i>=M.N then(([],31):cC×Int)else match nN M.row i with
   | some b=>(b,0)
   | none=>if M.cB.down=true then([],30)else(nI M.cB i.toNat,0):=by unfold RM.read;rw[if_neg (by rw[he];simp)] <;> rfl
  refine cf rfl (cd (λy=>bad _ (by rw[e0,if_pos (.inl y)])) λy0=>os ⟨_,aZ X.rr rfl,lj X ⟨_,rfl,cd (λy=>bad _ (by rw[e0,if_pos (.inr y)])) λy1=>?_⟩⟩);rw[if_neg oX]at e0;unfold aT.k1;refine CN X λa ha=>⟨_,rfl,cd (λy=>?_) λy=>?_⟩
  ·rcases ha with⟨rfl,_⟩|⟨k,hk,rfl,eg⟩
   ·exact absurd y dX
   ·rw[eg]at e0;simp only at e0;rw[e0]at hK;obtain⟨p,ep,cc⟩:=X.oL hk;refine os ⟨_,_,_,aZ X.rr rfl,⟨oX,oX⟩,oe ep ⟨_,ai.cell cc rfl,HE λcap h5 f5 s5=>?_⟩⟩;exact hK _ _ cap h5 f5 rfl (s5.mono λb hb=>by have hb:b=h.size:=hb;show h.size<=b;omega)
  ·have eg:nN M.row i=none:=ha.neg.mp oX;rw[eg]at e0;simp only at e0;refine os ⟨_,aZ X.rr rfl,Qs X oX oX λa l c h6 f6 hl s6=>⟨_,_,_,_,rfl,?_⟩⟩;rw[e0]at hK
   cases ho:M.cB.down with
   | true=>rw[ho]at hK hl s6;exact hK a l c h6 f6 hl s6
   | false=>rw[ho]at hK hl s6;exact hK a l c h6 f6 hl s6
theorem Qv{M:RM}(x:Rx h F r e M)
  (hK:K (.tuple #[vI (if M.ends=true then((0:Int),(61:Int))else((M.row.length:Int),0)).1,vI (if M.ends=true then((0:Int),(61:Int))else((M.row.length:Int),0)).2]) h):C.dM r h K:=by
 obtain⟨ao,R,rfl,rfl,X,hF⟩:=x;refine dM.ok (os ⟨_,aZ X.rr rfl,?_⟩)
 cases he:M.ends with
 | true=>rw[he]at hK;exact ct rfl hK
 | false=>rw[he]at hK;exact cf rfl (os ⟨_,_,_,aZ X.rr rfl,hK⟩)
theorem yY{elem:TI}{e:Nat}{new:LV}{h0:ad}{k:OA->Nat->Nat->ad->Prop}(f:Fr No h0 h)
  (s:Sl h elem.cells a l c xs (cW h0.size)) (hn:new.length=n*elem.cells) (hz:elem.zero.length=elem.cells) (hb:(l+n)*elem.bytes<=140737488355328) (pV:l+n<=140737488355328)
  (hk:∀a' c' h',Fr No h0 h'->Sl h' elem.cells a' (l+n) c' (xs++new) (cW h0.size)->k a' (l+n) c' h') :
  aJ elem e a l c n new h k:=by
 have hs:=f.size;refine cY s hn hz hb pV λa' c' h' f' s'=>hk a' c' h' (f.trans f' λb hb e=>by have:h0.size<=b:=e;omega) (s'.mono λb hb=>?_)
 rcases hb with hb|hb
 ·exact hb
 ·show h0.size<=b;omega
theorem vQ{R:RR}{M:RM}(X:IE h ao R M)
  (hK:∀a c h',Fr No h h'->Sl h' 1 a M.written.length c (M.written.map (.int .i64)) (cW h.size)->K (vS a M.written.length c) h'):C.bK (some ⟨R.rb,0,none⟩) h K:=by
 have hNm:=X.max
 refine bK.ok ⟨λa l c i hh=>∃j:Nat,i=((98+j:Nat):Int)/\j<=M.N-98/\Fr No h hh/\l=(mU M j).length/\Sl hh 1 a l c ((mU M j).map (.int .i64)) (cW h.size)/\((M.ends=true∨M.row=[])->mU M j=[]/\(M.ends=true->j=0)),λ_ _ _ i _=>((M.N:Int)-i).toNat,
  ⟨0,rfl,bN _,Fr.refl _ _,rfl,Sl.nil _ _ _,λ_=>⟨rfl,λ_=>rfl⟩⟩,?_⟩
 rintro a l c i h2 ⟨j,rfl,hj,f2,rfl,s2,hz⟩;have X2:=X.keep f2 λ_ _ _ _ y=>y
 have fin:M.written=mU M j->K (vS a (mU M j).length c) h2:=λe=>by
  rw[e]at hK;exact hK a c h2 f2 s2
 refine os ⟨_,aZ X2.rr rfl,lj X2 ⟨_,rfl,cd (λhl=>os ⟨_,aZ X2.rr rfl,iu ?_⟩) λhl=>fin ?_⟩⟩
 ·cases he:M.ends with
  | true=>exact ct rfl (fin (by unfold RM.written;rw[if_pos he,(hz (.inl he)).1]))
  | false=>
   refine cf rfl (os ⟨_,_,_,aZ X2.rr rfl,cd (λhr=>?_) λhr=>fin ?_⟩)
   ·unfold bK.k1;have ew:wI (((98+j:Nat):Int)+1)=((98+(j+1):Nat):Int):=(by rw[wrap_i64 oX oX];omega);have es:=Of M j;have me:((M.N:Int)-((98+(j+1):Nat):Int)).toNat<((M.N:Int)-((98+j:Nat):Int)).toNat:=oX
    have fP:¬(false=true∨M.row=[]):=by
     rintro(y|y)
     ·cases y
     ·rw[y]at hr;exact absurd hr dX
    refine CN X2 λn2 ha=>⟨_,rfl,?_⟩;rw[ew];refine cd (λy=>?_) λy=>?_
    ·have hs:(nN M.row ((98+j:Nat):Int)).isSome=true:=by
      cases e:nN M.row ((98+j:Nat):Int)with
      | some b=>rfl
      | none=>have:=ha.neg.mpr e;omega
     rw[if_pos hs]at es
     have Ue:(mU M j).length<=j:=by
      have:(mU M j).length<=(List.range' 98 j).length:=(by unfold mU;rw[aP];exact List.length_filter_le ..);rw[List.length_range']at this;exact this
     refine aC.intro λh6 n6=>⟨[vI ((98+j:Nat):Int)],rfl,ah n6.rd,(λv hv=>by rw[kU.mp hv];rfl),?_⟩;refine yY (f2.new n6) (s2.fr n6.fr λ_ _ _ y=>y) rfl rfl (by show(_+1)*8<=_;omega) oX λa' c' h7 f7 s7=>⟨⟨j+1,rfl,oX,f7,by rw[es,bg];rfl,?_,λy=>absurd y fP⟩,me⟩;rw[es,eT];exact s7
    ·have hs:¬(nN M.row ((98+j:Nat):Int)).isSome=true:=by
      rw[ha.neg.mp oX];simp
     rw[if_neg hs,gi]at es;exact⟨⟨j+1,rfl,oX,f2,by rw[es],by rw[es];exact s2,λy=>absurd y fP⟩,me⟩
   ·have er:M.row=[]:=by
     cases e:M.row with
     | nil=>rfl
     | cons p r=>rw[e]at hr;exact absurd (show(0:Int)<((r.length+1:Nat):Int) by omega) hr
    have all:∀k,mU M k=[]:=λk=>by
     cases e:mU M k with
     | nil=>rfl
     | cons x r=>
      have:x∈mU M k:=(by rw[e];exact kj ..);rw[Bn,er]at this;exact absurd this.2.2 (by simp[nN])
    unfold RM.written;rw[if_neg (by rw[he];simp),all,all]
 ·have ej:j=M.N-98:=oX;unfold RM.written
  cases he:M.ends with
  | true=>rw[if_pos rfl,(hz (.inl he)).1]
  | false=>rw[if_neg (by simp),ej]
theorem Og{M:RM}{bs:cC}(x:Rx h F r e M)(B:av h a l bs)(hu:M.ends=false->M.row.length<1000000000)
  (hK:∀h' F',Fr F h h'->Gw h F h' F'->Rx h' F' r e (M.write i bs).1->K (vI (M.write i bs).2) h'):C.aA r i a l c h K:=by
 have bV:=λb hb=>x.lt (b:=b) hb;obtain⟨ao,R,rfl,rfl,X,hF⟩:=x
 have bad:∀e h',Fr No h h'->M.write i bs=(M,e)->K (vI e) h':=λe h' f h2=>by
  rw[h2]at hK;exact hK h' F (f.mono λ_ _ y=>y.elim) (Gw.refl f.size bV) ⟨ao,R,rfl,rfl,X.keep f λ_ _ _ _ y=>y,hF⟩
 refine aA.ok (os ⟨_,aZ X.rr rfl,?_⟩)
 cases he:M.ends with
 | true=>exact ct rfl (bad _ h (Fr.refl _ _) (by unfold RM.write;rw[if_pos he]))
 | false=>
 have hu:=hu he
 have e0:M.write i bs=if i<98∨i>=M.N then(M,31)else if bs.length≠512 then(M,32)else if nN M.row i=none/\M.written.length>=96 then(M,60)else({ M with row:=M.row++[(i,bs)] },0):=by unfold RM.write;rw[if_neg (by rw[he];simp)]
 refine cf rfl (cd (λy=>bad _ h (Fr.refl _ _) (by rw[e0,if_pos (.inl y)])) λy0=>os ⟨_,aZ X.rr rfl,lj X ⟨_,rfl,cd (λy=>bad _ h (Fr.refl _ _) (by rw[e0,if_pos (.inr y)])) λy1=>?_⟩⟩);rw[if_neg oX]at e0;have rM:=B.1;unfold aA.k1;refine cn (λy=>bad _ h (Fr.refl _ _) (by rw[e0,if_pos oX])) λy=>?_;rw[if_neg oX]at e0;refine CN X λn2 ha=>⟨_,rfl,vQ X λwa wc h5 f5 sw=>⟨_,_,_,rfl,?_⟩⟩
 have fin:¬(nN M.row i=none/\M.written.length>=96)->aA.k2 (some ⟨R.rb,0,none⟩) i a l h5 K:=λVi=>by
  rw[if_neg Vi]at e0;rw[e0]at hK;have X5:=X.keep f5 λ_ _ _ _ y=>y;have z5:=f5.size;have c1:=X.rc;have hm:=X.rm;unfold aA.k2;refine os ⟨_,_,_,aZ X5.rr rfl,bs,av.fr f5 B λ_ _ y=>y,rfl,aC.intro λh6 n6=>⟨aZ ((n6.at_ X5.ro.lt).trans X5.rr) rfl,oL (i,bs),rfl,ah n6.rd,Kc _,?_⟩⟩;have z6:=n6.size;have nb:∀b,h6.size<=b->ao b=0:=λb hb=>X5.wA b oX;have s6:Sl h6 2 R.ra M.row.length R.rc (M.row.flatMap oL) (On ao 4):=X5.row.fr n6.fr λ_ _ _ y=>y;refine nW (elem:=Jt) s6 rfl rfl (by show(_+1)*24<=_;omega) oX λa' c' h7 f7 s7=>?_;have z7:=f7.size;have l1:R.rb<h6.size:=by have:=X5.ro.lt;omega
  have k1:¬On ao 4 R.rb:=λy=>by have y:ao R.rb=4:=y;omega
  have o7:dA h7 R.rb:=f7.own l1 k1 (n6.ow X5.ro);have r7:rd h7 R.rb=[vP R.q,vS R.ra M.row.length R.rc,.bool M.ends]:=(f7.rd l1 k1).trans ((n6.at_ X5.ro.lt).trans X5.rr);refine os (bD.add o7 (by rw[r7];show 0+1<3;omega) λh8 d8=>?_);have z8:=d8.size;obtain⟨cl,ecl⟩:∃cl,cl=trim (nV ao h6.size 4) h7.size:=⟨_,rfl⟩;have old:∀b,b<h6.size->cl b=ao b:=λb hb=>by rw[ecl,sP oX,Gj hb]
  have new:∀b,h6.size<=b->b<h7.size->cl b=4:=λb h1 h2=>by rw[ecl,sP h2,yu h1]
  have top:∀b,h7.size<=b->cl b=0:=λb h1=>by rw[ecl,vl h1]
  have f8:Fr F h h8:=by
   have fa:Fr F h h6:=(f5.mono λ_ _ y=>y.elim).new n6;refine(fa.trans f7 λb hb y=>(hF b).mpr ?_).did d8 λ_=>(hF _).mpr ⟨oX,oX⟩;have y:ao b=4:=y;omega
  refine hK h8 (λb=>1<=cl b/\cl b<=4) f8 ⟨λb hb=>by show 1<=cl b/\cl b<=4↔F b;rw[old b oX,hF b],λb hb=>?_⟩ ⟨cl,{ R with ra:=a',rc:=c' },rfl,rfl,
   ⟨λb hb=>top b oX,(old _ l1).trans c1,d8.own,?_,?_,?_,?_⟩,λb=>yC⟩
  ·rcases rI b h7.size with y|y
   ·omega
   ·have:=top b y;have hb:1<=cl b/\cl b<=4:=hb;omega
  ·show rd h8 R.rb=[vP R.q,vS a' (M.row++[(i,bs)]).length c',.bool M.ends];rw[d8.rd,r7,bg];rfl
  ·have x7:=(X5.dk.no n6.fr).fr f7 λb y y2=>by have y:ao b=3:=y;have y2:ao b=4:=y2;omega
   have x8:=x7.fr d8.fr λb y y2=>by have y:ao b=3:=y;have y2:b=R.rb:=y2;rw[y2]at y;omega
   refine aaC x8 λb=>?_;show cl b=3↔ao b=3
   rcases rI b h6.size with y|y
   ·rw[old b y]
   ·have e:=nb b y
    rcases rI b h7.size with y2|y2
    ·rw[new b y y2,e];omega
    ·rw[top b y2,e]
  ·have e2:(M.row++[(i,bs)]).flatMap oL=M.row.flatMap oL++oL (i,bs):=(by rw[iy];rfl);show Sl h8 2 a' (M.row++[(i,bs)]).length c' ((M.row++[(i,bs)]).flatMap oL) (On cl 4);rw[e2,bg]
   have s8:=(Bg s7).fr d8.fr λb _ y y2=>by
    have y2:b=R.rb:=y2;have y:=y.1;have y:nV ao h6.size 4 b=4:=y;rw[y2,Gj l1]at y;omega
   refine s8.mono λb hb=>?_;have h1:nV ao h6.size 4 b=4:=hb.1;show cl b=4;rw[ecl,sP hb.2];exact h1
  ·show(M.row++[(i,bs)]).length<=_;rw[bg];show M.row.length+1<=_;omega
 refine cd (λy=>cd (λy2=>bad _ h5 f5 ?_) λy2=>fin ?_) λy=>fin ?_
 ·rw[e0,if_pos ⟨ha.neg.mp y,oX⟩]
 ·rintro⟨_,y3⟩;omega
 ·rintro⟨y3,_⟩;exact y (ha.neg.mpr y3)
theorem Qw{M:RM}{m:Int}(x:Rx h F r e M)
  (hK:∀h' F',Fr F h h'->Gw h F h' F'->Rx h' F' r e (M.back m).1->K (vI (M.back m).2) h'):C.cH r m h K:=by
 have bV:=λb hb=>x.lt (b:=b) hb;obtain⟨ao,R,rfl,rfl,X,hF⟩:=x
 have bad:∀e,M.back m=(M,e)->K (vI e) h:=λe h2=>by
  rw[h2]at hK;exact hK h F (Fr.refl _ _) (Gw.refl (bE _) bV) ⟨ao,R,rfl,rfl,X,hF⟩
 refine cH.ok (os ⟨_,aZ X.rr rfl,?_⟩)
 cases he:M.ends with
 | true=>exact ct rfl (bad _ (by unfold RM.back;rw[if_pos he]))
 | false=>
 have e0:M.back m=if m<0∨m>M.row.length then(M,62)else({ M with row:=M.row.take m.toNat },0):=by unfold RM.back;rw[if_neg (by rw[he];simp)]
 refine cf rfl (cd (λy=>bad _ (by rw[e0,if_pos (.inl y)])) λy0=>os ⟨_,_,_,aZ X.rr rfl,cd (λy=>bad _ (by rw[e0,if_pos (.inr y)])) λy1=>?_⟩);rw[if_neg oX]at e0;rw[e0]at hK;have c1:=X.rc;have hm:=X.rm;have cap:=X.row.le;have lt:(M.row.take m.toNat).length=m.toNat:=by rw[dL];omega
 have l2:=bq oL 2 (M.row.take m.toNat) λ_ _=>rfl;unfold cH.k1;refine os ⟨_,_,_,aZ X.rr rfl,⟨oX,oX⟩,(M.row.take m.toNat).flatMap oL,by rw[l2,lt],?_,λv hv=>?_,?_⟩
 ·have:=ak.take X.row.cells (m.toNat*2);rw[show(M.row.flatMap oL).take (m.toNat*2)=(M.row.take m.toNat).flatMap oL from ?_]at this
  ·exact this
  ·have e1:M.row.flatMap oL=(M.row.take m.toNat).flatMap oL++(M.row.drop m.toNat).flatMap oL:=(by rw[<-iy,qP]);rw[e1,show m.toNat*2=((M.row.take m.toNat).flatMap oL).length by rw[l2,lt],tL]
 ·obtain⟨p,_,hp⟩:=List.mem_flatMap.mp hv;exact Kc p v hp
 refine append_nil (elem:=Jt) (by rw[l2,lt];rfl) rfl (by show _*24<=_;omega) oX λa' c' h2 f2 s2=>?_;have z2:=f2.size;have X2:=X.keep f2 λ_ _ _ _ y=>y;refine os (bD.add X2.ro (by rw[X2.rr];show 0+1<3;omega) λh3 d3=>?_);have z3:=d3.size;have r1:=X.ro.lt
 obtain⟨cl,ecl⟩:∃cl:Nat->Nat,cl=λb=>if b<h.size then(if ao b=4 then 2 else ao b)else if b<h2.size then 4 else 0:=⟨_,rfl⟩
 have old:∀b,b<h.size->cl b=if ao b=4 then 2 else ao b:=λb hb=>by rw[ecl];show(if b<h.size then _ else _)=_;rw[if_pos hb]
 have new:∀b,h.size<=b->b<h2.size->cl b=4:=λb h1 xR=>by rw[ecl];show(if b<h.size then _ else if b<h2.size then 4 else 0)=_;rw[if_neg oX,if_pos xR]
 have top:∀b,h2.size<=b->cl b=0:=λb h1=>by rw[ecl];show(if b<h.size then _ else if b<h2.size then 4 else 0)=_;rw[if_neg oX,if_neg oX]
 refine hK h3 (λb=>1<=cl b/\cl b<=4) ((f2.mono λ_ _ y=>y.elim).did d3 λ_=>(hF _).mpr ⟨oX,oX⟩) ⟨λb hb=>?_,λb hb=>?_⟩ ⟨cl,{ R with ra:=a',rc:=c' },rfl,rfl,
  ⟨λb hb=>top b oX,?_,d3.own,?_,?_,?_,?_⟩,λb=>yC⟩
 ·show 1<=cl b/\cl b<=4↔F b;rw[old b hb,hF b]
  split <;> omega
 ·have hb:1<=cl b/\cl b<=4:=hb
  rcases rI b h2.size with y|y
  ·omega
  ·have:=top b y;omega
 ·show cl R.rb=1;rw[old _ r1,if_neg oX];exact c1
 ·show rd h3 R.rb=[vP R.q,vS a' (M.row.take m.toNat).length c',.bool M.ends];rw[d3.rd,X2.rr,lt];rfl
 ·have x3:=X2.dk.fr d3.fr λb y y2=>by have y:ao b=3:=y;have y2:b=R.rb:=y2;rw[y2]at y;omega
  refine aaC x3 λb=>?_;show cl b=3↔ao b=3
  rcases rI b h.size with y|y
  ·rw[old b y];split <;> omega
  ·have e:=X.wA b y
   rcases rI b h2.size with y2|y2
   ·rw[new b y y2,e];omega
   ·rw[top b y2,e]
 ·have s3:=(Bg s2).fr d3.fr λb _ y y2=>by have y:h.size<=b:=y.1;have y2:b=R.rb:=y2;omega
  show Sl h3 2 a' (M.row.take m.toNat).length c' ((M.row.take m.toNat).flatMap oL) (On cl 4);rw[lt];exact s3.mono λb hb=>new b hb.1 hb.2
 ·show(M.row.take m.toNat).length<=_;omega
def lG(h:ad)(F:NP)(r e:OA)(T:TM):Prop:=∃M,xI T M/\Rx h F r e M
theorem lG.fr{h h':ad}{F G:NP}{r e:OA}{T:TM}(x:lG h F r e T)(f:Fr G h h')(hG:∀ b,F b->¬ G b):lG h' F r e T:=by
 obtain⟨M,s,x⟩:=x;exact⟨M,s,x.fr f hG⟩
theorem lG.no{T:TM}(x:lG h F r e T)(f:Fr No h h'):lG h' F r e T:=x.fr f λ_ _ y=>y
theorem lG.lt{h:ad}{F:NP}{r e:OA}{T:TM}(x:lG h F r e T){b:Nat}(hb:F b):b<h.size:=by
 obtain⟨M,s,x⟩:=x;exact x.lt hb
theorem dv{T:TM}(x:lG h F r e T)
  (hK:∀a l c h',Fr No h h'->l=(T.read i).1.length->Sl h' 1 a l c ((T.read i).1.map bv) (cW h.size)->K (.tuple #[vS a l c,vI (T.read i).2]) h'):C.aT r i h K:=by
 obtain⟨M,s,x⟩:=x;rw[<-s.read i]at hK;exact Qu x hK
theorem qC{T:TM}{bs:cC}(x:lG h F r e T)(B:av h a l bs)(hu:T.aD.length<1000000000)
  (hK:∀h' F',Fr F h h'->Gw h F h' F'->lG h' F' r e (T.write i bs).1->K (vI (T.write i bs).2) h'):C.aA r i a l c h K:=by
 obtain⟨M,s,x⟩:=x;have w:=s.write i bs;refine Og x B (λhe=>by rw[<-s.un (by rw[<-s.ends];exact he)];exact hu) λh' F' f g x'=>?_;rw[w.1];exact hK h' F' f g ⟨_,w.2,x'⟩
theorem fp{T:TM}{bs:cC}(x:lG h F r e T)(_:98<=T.N)(B:av h a l bs)(hu:T.aD.length<1000000000)
  (hK:∀h' F',Fr F h h'->Gw h F h' F'->lG h' F' r e (T.write i bs).1->K (vI (T.write i bs).2) h'):C.aA r i a l c h K:=qC x B hu hK
theorem IF{T:TM}(x:lG h F r e T)
  (hK:∀a c h',Fr No h h'->Sl h' 1 a T.written.length c (T.written.map (.int .i64)) (cW h.size)->K (vS a T.written.length c) h'):C.bK r h K:=by
 obtain⟨M,s,ao,R,rfl,rfl,X,hF⟩:=x;rw[s.written]at hK;exact vQ X hK
theorem sE{T:TM}(x:lG h F r e T)(hK:K (.tuple #[vI T.mark.1,vI T.mark.2]) h):C.dM r h K:=by
 obtain⟨M,s,x⟩:=x;rw[<-s.mark]at hK;exact Qv x hK
theorem sF{T:TM}{m:Int}(x:lG h F r e T)
  (hK:∀h' F',Fr F h h'->Gw h F h' F'->lG h' F' r e (T.back m).1->K (vI (T.back m).2) h'):C.cH r m h K:=by
 obtain⟨M,s,x⟩:=x;have w:=s.back m;refine Qw x λh' F' f g x'=>?_;rw[w.1];exact hK h' F' f g ⟨_,w.2,x'⟩
theorem lG.lv{h:ad}{F:NP}{r e:OA}{T:TM}(x:lG h F r e T){i:Int}(e0:(T.read i).2=0):(T.read i).1.length=512:=by
 obtain⟨M,s,ao,R,rfl,rfl,X,hF⟩:=x;have hN:=s.N;rw[<-s.read i]at e0 ⊢;unfold RM.read at e0 ⊢
 split at e0
 ·cases e0
 ·rename_i h1;rw[if_neg h1]
  split at e0
  ·cases e0
  ·rename_i h2;rw[if_neg h2]
   cases eg:nN M.row i with
   | some b=>exact(s.rr _ (CL rfl eg)).2.2
   | none=>
    rw[eg]at e0;simp only at e0 ⊢
    split at e0
    ·cases e0
    ·rename_i h3;rw[if_neg h3];exact Wd.tj.lv X.dk (by simpa using h3) (by have e:M.N=M.cB.aE.length:=rfl;omega)
end Rx
namespace Ry
open Hp W Ad Tm Bt Spc Re Av Rx
theorem _root_.Go.Proofs.YtlbckoblcdoceaaGreatDoor.Rx.lG.Qx{T:TM}(x:lG h F r e T){i:Int}(e0:(T.read i).2=0):(T.read i).1.length=512:=by
 exact x.lv e0
theorem XX : ∀n:Fin 256,∀s:Fin 8,(Int.tmod ((n.val/2 ^ s.val:Nat):Int) 2==1)=n.val.testBit s.val:=by decide +kernel
theorem aaD : ∀n:Fin 256,∀s:Fin 8,bP .xor .u8 (n.val:Int) ((2 ^ s.val:Nat):Int)=(Be n.val s.val (!n.val.testBit s.val):Nat):=by decide +kernel
theorem XY : ∀s:Fin 7,IntKind.wrap .u8 (((2 ^ s.val:Nat):Int)*2)=((2 ^ (s.val+1):Nat):Int):=by decide +kernel
theorem CO{i:Nat}(d:zV n)(hi:i<n):wI (((af n).cO:Int)+(wI (Int.tdiv (i:Int) 4096)))=(af n).at_ i:=by
 have:=d.hi;have e:Int.tdiv (i:Int) 4096=((i/4096:Nat):Int):=rfl;have e2:(af n).cO=98:=rfl;rw[e,e2,wq (((i/4096:Nat):Int)),wrap_i64 oX oX,J5];omega
theorem wJ(i:Nat):wI (Int.tdiv (Int.tmod (i:Int) 4096) 8)=((i%4096/8:Nat):Int):=by
 have e:Int.tdiv (Int.tmod (i:Int) 4096) 8=((i%4096/8:Nat):Int):=rfl;rw[e,wrap_i64 oX oX]
theorem Hb{T:TM}{i:Nat}(x:lG h F r e T)(d:zV n)(hi:i<n)
  (hK:∀h',Fr No h h'->K (.tuple #[.bool (rz (T.read ((af n).at_ i)).1 (i%4096)),vI (T.read ((af n).at_ i)).2]) h'):C.lQ r (af n).v i h K:=by
 refine lQ.ok (aC.intro λh2 n2=>⟨_,aZ n2.rd rfl,?_⟩);rw[CO d hi,wJ];refine Rx.dv (x.no n2.fr) λa l c h3 f3 hl s=>⟨_,_,_,_,rfl,cn (λhe=>?_) λhe=>?_⟩
 ·have:=hK h3 (n2.fr.no f3);rw[Du he,Ds]at this;exact this
 ·have hlen:=x.Qx he;generalize(T.read ((af n).at_ i)).1=bs at hl s hlen hK;obtain⟨p,rfl,cp⟩:=vq s.str (j:=i%4096/8) oX;refine⟨oX,os ⟨((bs.getD (i%4096/8) 0).toNat:Int),by rw[cA];exact cp,?_⟩⟩;have hb:(bs.getD (i%4096/8) 0).toNat<256:=Am _;have em:Int.tmod (i:Int) 8=((i%8:Nat):Int):=rfl;rw[wq (((bs.getD (i%4096/8) 0).toNat:Int)),em];have eb:rz bs (i%4096)=(bs.getD (i%4096/8) 0).toNat.testBit (i%8):=by unfold rz;rw[SG i (by decide:8∣4096)]
  rw[eb,he]at hK;generalize(bs.getD (i%4096/8) 0).toNat=b at hb hK;refine⟨λv k hh=>∃j:Nat,k=j/\j<=i%8/\v=((b/2 ^ j:Nat):Int)/\hh=h3,λ_ k _=>(((i%8:Nat):Int)-k).toNat,⟨0,rfl,bN _,by rw[Nat.pow_zero,Nat.div_one],rfl⟩,?_⟩;rintro v k hh ⟨j,rfl,hj,rfl,rfl⟩;refine cd (λbV=>?_) λbV=>?_
  ·have hle:b/2 ^ j/2<=255:=k9 (Ep _ _) (k9 (Ep _ _) oX)
   have e1:wI (Int.tdiv ((b/2 ^ j:Nat):Int) 2)=((b/2 ^ j/2:Nat):Int):=by
    rw[show Int.tdiv ((b/2 ^ j:Nat):Int) 2=((b/2 ^ j/2:Nat):Int) from rfl];generalize b/2 ^ j/2=y at hle ⊢;exact wq _
   rw[e1,wq ((j:Int)+1)];exact⟨⟨j+1,oX,oX,by rw[Nat.pow_succ,GP],rfl⟩,by show(((i%8:Nat):Int)-((j:Int)+1)).toNat<(((i%8:Nat):Int)-(j:Int)).toNat;omega⟩
  ·have ej:j=i%8:=oX;subst ej;have:=XX ⟨b,hb⟩ ⟨i%8,Oa _ dX⟩;simp only at this;rw[this];exact hK hh (n2.fr.no f3)
theorem yN{T:TM}{i:Nat}{on:Bool}(x:lG h F r e T)(d:zV n)(hN:98<=T.N)(hi:i<n)(hu:T.aD.length<1000000000)(hb:(T.read ((af n).at_ i)).2=0->rz (T.read ((af n).at_ i)).1 (i % 4096) = !on)
  (hK:∀h' F',Fr F h h'->Gw h F h' F'->lG h' F' r e (df T (af n) i on).1->K (vI (df T (af n) i on).2) h'):C.lS r (af n).v i h K:=by
 have vv:=λb (hb:F b)=>x.lt hb;refine lS.ok (aC.intro λh2 n2=>⟨_,aZ n2.rd rfl,?_⟩);rw[CO d hi,wJ];refine Rx.dv (x.no n2.fr) λa l c h3 f3 hl s=>⟨_,_,_,_,rfl,cn (λhe=>?_) λhe=>?_⟩
 ·have e0:df T (af n) i on=(T,(T.read ((af n).at_ i)).2):=by unfold Spc.df;rw[if_pos he]
  rw[e0]at hK;have f:=n2.fr.no f3;exact hK h3 F (f.mono λ_ _ y=>y.elim) (Gw.refl f.size vv) (x.no f)
 ·have hlen:=x.Qx he;have hb:=hb he;have e0:df T (af n) i on=T.write ((af n).at_ i) (Bf (T.read ((af n).at_ i)).1 (i%4096) on):=by unfold Spc.df;rw[if_neg (λy=>y he)]
  rw[e0]at hK;generalize(T.read ((af n).at_ i)).1=bs at hl s hlen hK hb;have em:Int.tmod (i:Int) 8=((i%8:Nat):Int):=rfl;rw[em];have z2:=n2.size;have z3:=f3.size;refine⟨λv k hh=>∃j:Nat,k=j/\j<=i%8/\v=((2 ^ j:Nat):Int)/\hh=h3,λ_ k _=>(((i%8:Nat):Int)-k).toNat,⟨0,rfl,bN _,rfl,rfl⟩,?_⟩;rintro v k hh ⟨j,rfl,hj,rfl,rfl⟩;refine cd (λbV=>?_) λbV=>?_
  ·have:=XY ⟨j,oX⟩;simp only at this;rw[this,wrap_i64 oX oX];exact⟨⟨j+1,oX,oX,rfl,rfl⟩,by show(((i%8:Nat):Int)-((j:Int)+1)).toNat<(((i%8:Nat):Int)-(j:Int)).toNat;omega⟩
  ·have ej:j=i%8:=oX;subst ej;obtain⟨p,rfl,cp⟩:=vq s.str (j:=i%4096/8) oX;obtain⟨pb,po,sp⟩:=p;have Xo:sp=none:=s.2.1;subst Xo;have Xp:h2.size<=pb:=s.2.2.1;obtain⟨w6,l6⟩:=s.wr;have VP:(bs.getD (i%4096/8) 0).toNat<256:=Am _;have eb:(bs.getD (i%4096/8) 0).toNat.testBit (i%8) = !on:=(by rw[<-hb];unfold rz;rw[SG i (by decide:8∣4096)]);refine⟨oX,os ⟨((bs.getD (i%4096/8) 0).toNat:Int),by rw[cA];exact cp,oX,os (bD.add w6 (by rw[cA];omega) λh5 d5=>?_)⟩⟩;rw[cA]at d5;have ex:=aaD ⟨_,VP⟩ ⟨i%8,Oa _ dX⟩;simp only at ex;rw[ex,eb,Bool.not_not]at d5;have z5:=d5.size
   have e5:(Value.int .u8 ((Be (bs.getD (i%4096/8) 0).toNat (i%8) on:Nat):Int))=bv (UInt8.ofNat (Be (bs.getD (i%4096/8) 0).toNat (i%8) on)):=by
    unfold bv;rw[UInt8.toNat_ofNat_of_lt' (NB VP (Oa _ dX) on)]
   rw[e5]at d5;have s5:=s.putAt (new:=[bv (UInt8.ofNat (Be (bs.getD (i%4096/8) 0).toNat (i%8) on))]) (j:=i%4096/8) (by show _+1<=_;omega) d5
   have e7:put (bs.map bv) (i%4096/8) [bv (UInt8.ofNat (Be (bs.getD (i%4096/8) 0).toNat (i%8) on))]=(Bf bs (i%4096) on).map bv:=by
    show(bs.map bv).set _ _=_;unfold Bf;rw[yG,SG i (by decide:8∣4096)]
   rw[e7]at s5;refine⟨_,aZ ((d5.at_).trans ((f3.r0).trans n2.rd)) rfl,?_⟩;rw[CO d hi];have f5:Fr No h h5:=(n2.fr.no f3).did d5 λy=>by omega
   refine Rx.fp (x.no f5) hN s5.str hu λh6 F6 f6 g6 x6=>⟨_,rfl,hK h6 F6 ((f5.mono λ_ _ y=>y.elim).trans f6 λ_ _ y=>y) ((Gw.refl f5.size vv).trans g6 f5.size) x6⟩
theorem sH{T0 T:TM}{g:G}{i:Nat}{on:Bool}(x:Ext T0 T):Ext T0 (df T g i on).1:=by
 unfold Spc.df
 split
 ·exact x
 ·exact x.write _ _
theorem Dy{T:TM}{g:G}{i:Nat}{on:Bool}:(df T g i on).1.aD.length<=T.aD.length+1:=by
 unfold Spc.df
 split
 ·exact kM _ _
 ·unfold TM.write
  split
  ·exact kM _ _
  ·split
   ·exact kM _ _
   ·split
    ·exact kM _ _
    ·split
     ·exact kM _ _
     ·show(T.aD++[_]).length<=_;rw[bg];exact bE _
theorem aaE{T:TM}(h:(T.read i).2=0):T.over=false:=by
 unfold TM.read at h
 split at h
 ·cases h
 ·rename_i y;cases e:T.over <;> simp_all
theorem SI{T:TM}(h:T.over=false):T.mark.1=(T.aD.length:Int):=by unfold TM.mark;rw[h];rfl
theorem zF{T:TM}(x:lG h F r e T)(d:zV n)(hN:98<=T.N)(hu:T.aD.length<900000000)
  (hK:∀h' F',Fr F h h'->Gw h F h' F'->lG h' F' r e (bj T (af n)).1->K (.tuple #[vI (bj T (af n)).2.1,vI (bj T (af n)).2.2]) h'):C.cg r (af n).v h K:=by
 have vv:=λb (hb:F b)=>x.lt hb;have hd:=d.data;have hhi:=d.hi
 have same:∀er h',Fr No h h'->bj T (af n)=(T,0,er)->K (.tuple #[vI 0,vI er]) h':=λer h' f e0=>by
  rw[e0]at hK;exact hK h' F (f.mono λ_ _ y=>y.elim) (Gw.refl f.size vv) (x.no f)
 -- a block of the map that can't be read
 have bad:∀m,(af n).data<=m->m<n->(∀k,k<m->¬iH T (af n) k)->(T.read ((af n).at_ m)).2≠0->bj T (af n)=(T,0,(T.read ((af n).at_ m)).2):=λm h1 h2 hl he=>by
  rw[zG ⟨by rw[Du he];exact Ds _,h1,h2⟩ hl];unfold kN Spc.df;rw[if_pos he,if_pos he]
 refine cg.ok (aC.intro λh2 n2=>⟨_,aZ n2.rd rfl,?_⟩);have z2:=n2.size;have a0:(af n).at_ (af n).data=((af n).cO:Int):=by rw[J5];show((98+(af n).data/4096:Nat):Int)=((98:Nat):Int);omega
 have acr:∀k,k<(af n).data->¬iH T (af n) k:=λk hk y=>by have:=y.2.1;omega
 refine Rx.dv (x.no n2.fr) λa l c h3 f3 hl s=>⟨_,_,_,_,rfl,cn (λhe=>?_) λhe=>?_⟩
 ·have:=bad (af n).data (bE _) hd.2.1 acr (by rw[a0];exact he);rw[a0]at this;exact same _ h3 (n2.fr.no f3) this
 have live:=aaE he;have F3:=n2.fr.no f3;refine⟨_,aZ ((f3.r0).trans n2.rd) rfl,?_⟩
 refine⟨λba bl bc i hh=>∃m:Nat,i=m/\(af n).data<=m/\m<=n/\Fr No h hh/\h.size<hh.size/\rd hh h.size=(af n).v/\(∀k,k<m->¬iH T (af n) k)/\(m%4096≠0->m≠(af n).data->(T.read ((af n).at_ m)).2=0/\bl=512/\Sl hh 1 ba bl bc ((T.read ((af n).at_ m)).1.map bv) (cW h.size)),λ_ _ _ i _=>((n:Int)-i).toNat,
  ⟨(af n).data,rfl,bE _,oX,F3,by have:=f3.size;omega,(f3.r0).trans n2.rd,acr,λ_ y=>absurd rfl y⟩,?_⟩
 rintro ba bl bc i h4 ⟨m,rfl,hm1,hm2,F4,z4,r4,low,hb⟩;refine⟨_,aZ r4 rfl,cd (λbV=>?_) λbV=>same 90 h4 F4 (He λk y=>?_)⟩
 rotate_left
 ·have:=y.2.2;have rM:(af n).blocks=n:=rfl;rw[rM]at this;have bV:¬(m:Int)<((af n).blocks:Int):=bV;rw[rM]at bV;exact low k oX y
 have bV:m<n:=by have bV:(m:Int)<((af n).blocks:Int):=bV;have rM:(af n).blocks=n:=rfl;rw[rM]at bV;omega
 -- the akg bytes are at hand
 have go:∀{b2:OA} {l2 c2:Nat} {h6:ad},Fr No h4 h6->(T.read ((af n).at_ m)).2=0->l2=512->Sl h6 1 b2 l2 c2 ((T.read ((af n).at_ m)).1.map bv) (cW h.size)->cg.k1 r h ba bl bc (m:Int) h4 (λba bl bc i hh=>∃m:Nat,i=m/\(af n).data<=m/\m<=n/\Fr No h hh/\h.size<hh.size/\rd hh h.size=(af n).v/\(∀k,k<m->¬iH T (af n) k)/\(m%4096≠0->m≠(af n).data->(T.read ((af n).at_ m)).2=0/\bl=512/\Sl hh 1 ba bl bc ((T.read ((af n).at_ m)).1.map bv) (cW h.size))) (λ_ _ _ i _=>((n:Int)-i).toNat) b2 l2 c2 h6 K:=fun {b2} {l2} {c2} {h6} f6 he6 el s6=>by
  subst el;have hlen:=x.Qx he6;have F6:=F4.no f6;have r6:rd h6 h.size=(af n).v:=(f6.rd z4 λy=>y).trans r4;have z6:h.size<h6.size:=by have:=f6.size;omega
  have next:∀h7,Fr No h6 h7->rz (T.read ((af n).at_ m)).1 (m%4096)=true->(∃m_1:Nat,wI ((m:Int)+1)=m_1/\(af n).data<=m_1/\m_1<=n/\Fr No h h7/\h.size<h7.size/\rd h7 h.size=(af n).v/\(∀k,k<m_1->¬iH T (af n) k)/\(m_1%4096≠0->m_1≠(af n).data->(T.read ((af n).at_ m_1)).2=0/\(512:Nat)=512/\Sl h7 1 b2 512 c2 ((T.read ((af n).at_ m_1)).1.map bv) (cW h.size)))/\((n:Int)-wI ((m:Int)+1)).toNat<((n:Int)-(m:Int)).toNat:=λh7 f7 Pg=>by
   rw[wrap_i64 oX oX];refine⟨⟨m+1,oX,oX,oX,F6.no f7,by have:=f7.size;omega,(f7.rd z6 λy=>y).trans r6,λk hk y=>?_,λh1 _=>?_⟩,oX⟩
   ·by_cases ek:k=m
    ·rw[ek]at y;have:=y.1;rw[Pg]at this;cases this
    ·exact low k oX y
   ·have:(af n).at_ (m+1)=(af n).at_ m:=(by rw[J5,J5];omega);rw[this];exact⟨he6,rfl,s6.fr f7 λ_ _ _ y=>y⟩
  unfold cg.k1;rw[wJ];generalize hbs:(T.read ((af n).at_ m)).1=bs at s6 hlen next;obtain⟨p,rfl,cp⟩:=vq s6.str (j:=m%4096/8) oX;refine⟨oX,os ⟨((bs.getD (m%4096/8) 0).toNat:Int),by rw[cA];exact cp,ce (λh255=>?_) λ_=>?_⟩⟩
  ·refine next h6 (Fr.refl _ _) ?_;unfold rz;have:(bs.getD (m%4096/8) 0).toNat=255:=oX;rw[this];have:∀s:Fin 8,Nat.testBit 255 s.val=true:=(by decide);exact this ⟨m%4096%8,Oa _ dX⟩
  ·refine⟨(af n).v,rfl,ah r6,Hb (x.no F6) d bV λh7 f7=>⟨_,_,rfl,cn (λy=>absurd he6 y) λ_=>cs (λPg=>next h7 f7 (by rw[<-hbs];exact Pg)) λP1=>?_⟩⟩
   -- free: it is taken
   have tk:=zG (T:=T) (g:=af n) (m:=m) ⟨P1,hm1,bV⟩ low;have F7:=F6.no f7;have r7:rd h7 h.size=(af n).v:=(f7.rd z6 λy=>y).trans r6;have x7:=x.no F7;have hmk:=SI live
   have fin:∀(T2:TM×Int) h' F',Fr F h7 h'->Gw h7 F h' F'->Ext T T2.1->lG h' F' r e T2.1->(T2.2≠0->bj T (af n)=(T,0,T2.2))->(T2.2=0->bj T (af n)=(T2.1,(m:Int),0))->cg.k2 r (m:Int) T.mark.1 T2.2 h' K:=λT2 h' F' f g ex xx h1 h2=>by
    unfold cg.k2;have Fh:Fr F h h':=(F7.mono λ_ _ y=>y.elim).trans f λ_ _ y=>y;have Gh:Gw h F h' F':=(Gw.refl F7.size vv).trans g F7.size;refine cn (λfP=>?_) λCT=>?_
    ·rw[hmk];refine Rx.sF xx λGF F'' f'' g'' x''=>⟨_,rfl,?_⟩;rw[ex.back live]at x'';have:=h1 fP;rw[this]at hK;exact hK GF F'' (Fh.trans f'' λb hb y=>(Gh.old b hb).mp y) (Gh.trans g'' Fh.size) x''
    ·rw[h2 CT]at hK;exact hK h' F' Fh Gh xx
   refine Rx.sE x7 ⟨_,_,rfl,(af n).v,rfl,ah r7,yN (on:=true) x7 d hN bV oX (λ_=>P1) λh9 F9 f9 g9 x9=>⟨_,rfl,ce (λh0=>⟨by decide,aC.intro λbG n10=>?_⟩) λh0=>?_⟩⟩
   ·have z9:=f9.size;have Vu:=n10.size;have un:=Dy (T:=T) (g:=af n) (i:=m) (on:=true);have ex:=sH (g:=af n) (i:=m) (on:=true) (Ext.refl T);have hN9:98<=(df T (af n) m true).1.N:=(by unfold TM.N;rw[ex.cB];exact hN);refine Rx.fp (bs:=tv) (x9.no n10.fr) hN9 (yv (n10.rd.trans Spc.J3) dU) oX λcu Ng f11 g11 x11=>⟨_,rfl,?_⟩;have YS:Gw h7 F bG F9:=⟨g9.old,λb hb=>by have:=g9.lt b hb;omega⟩;have G11:Gw h7 F cu Ng:=YS.trans g11 oX;have f711:Fr F h7 cu:=(f9.no n10.fr).trans f11 λb hb y=>(g9.old b hb).mp y;refine fin _ cu Ng f711 G11 (ex.write _ _) x11 (λh1=>?_) λh1=>?_
    ·rw[tk];unfold kN;rw[if_neg (λy=>y h0),if_pos h1]
    ·rw[tk];unfold kN;rw[if_neg (λy=>y h0),if_neg (λy=>y h1)]
   ·refine fin _ h9 F9 f9 g9 (sH (Ext.refl T)) x9 (λh1=>?_) λh1=>absurd h1 h0;rw[tk];unfold kN;rw[if_pos h1]
 by_cases h0:m%4096=0
 ·refine ct (by rw[beq_iff_eq];show Int.tmod (m:Int) 4096=0;have:Int.tmod (m:Int) 4096=((m%4096:Nat):Int):=rfl;omega) ⟨_,aZ r4 rfl,?_⟩;rw[CO d bV];exact Rx.dv (x.no F4) λa l c h5 f5 hl s=>⟨_,_,_,_,rfl,cn (λhe=>same _ h5 (F4.no f5) (bad m hm1 bV low he)) λhe=>go f5 he (by rw[hl];exact x.Qx he) (s.mono λb hb=>k9 F4.size hb)⟩
 ·refine cf (by rw[beq_eq_false_iff_ne];show Int.tmod (m:Int) 4096≠0;have:Int.tmod (m:Int) 4096=((m%4096:Nat):Int):=rfl;omega) ⟨_,aZ r4 rfl,ce (λhdm=>⟨_,aZ r4 rfl,?_⟩) λhdm=>?_⟩
  ·rw[CO d bV];exact Rx.dv (x.no F4) λa l c h5 f5 hl s=>⟨_,_,_,_,rfl,cn (λhe=>same _ h5 (F4.no f5) (bad m hm1 bV low he)) λhe=>go f5 he (by rw[hl];exact x.Qx he) (s.mono λb hb=>k9 F4.size hb)⟩
  ·obtain⟨he,el,s⟩:=hb h0 λy=>hdm (by rw[y]);exact go (Fr.refl _ _) he el s
end Ry
namespace Cr
open Hp W Su Re Hd
open Wc (Rs nb mz Row pj)
theorem one6{w:BitVec 32}{k:Int->Prop}(hK:k ((T w).toNat:Int)):bif(Int.tmod (w.toNat:Int) 2)==1 then k (bP .xor .u32 (IntKind.wrap .u32 (Int.tdiv (w.toNat:Int) 2)) 3988292384)else k (IntKind.wrap .u32 (Int.tdiv (w.toNat:Int) 2)):=by
 have hw:=w.isLt
 have ed:Int.tdiv (w.toNat:Int) 2=(((w >>> 1).toNat:Nat):Int):=by
  rw[BitVec.toNat_ushiftRight,Nat.shiftRight_eq_div_pow,nL oX];omega
 have em:Int.tmod (w.toNat:Int) 2=((w.toNat%2:Nat):Int):=by rw[rL oX];omega
 have hs:=(w >>> 1).isLt;have wr:IntKind.wrap .u32 (Int.tdiv (w.toNat:Int) 2)=(((w >>> 1).toNat:Nat):Int):=by rw[ed,wrap_u32 ⟨oX,oX⟩]
 have bt:w.getLsbD 0=decide (w.toNat%2=1):=by rw[BitVec.getLsbD,Nat.testBit_zero]
 refine ce (λhb=>?_) λhb=>?_
 ·rw[em]at hb;have pV:w.getLsbD 0=true:=by rw[bt];exact decide_eq_true oX
  rw[T,pV,cond_true]at hK;have eP:(3988292384:Int)=(P.toNat:Int):=by decide
  rw[wr,eP,vp];exact hK
 ·rw[em]at hb;have pV:w.getLsbD 0=false:=by rw[bt];exact decide_eq_false oX
  rw[T,pV,cond_false,BitVec.xor_zero]at hK;rw[wr];exact hK
theorem UM{bs:LB}(B:av h a l bs)(hl:l<=140737488355328)(hK:K (.int .u32 (ofM bs)) h):C.lM a l c h K:=by
 have hb:=B.1;refine lM.ok ⟨λv n hh=>0<=n/\n<=l/\h=hh/\v=((fb (bs.take n.toNat) M).toNat:Int),λ_ n _=>((l:Int)-n).toNat,⟨oX,oX,rfl,rfl⟩,?_⟩;rintro v n _ ⟨n0,n1,rfl,rfl⟩;refine cd (λhn=>?_) λhn=>?_
 ·have nE:n.toNat<bs.length:=oX
  obtain⟨p,rfl,c5⟩:∃p,a=some p/\cellOf h (p.add n.toNat)=some (bv bs[n.toNat]):=by
   have c:=B.2
   cases a with
   | none=>have c:bs.map bv=[]:=c;have:=qx.mp c;rw[this]at nE;exact absurd nE (by simp)
   | some p=>exact⟨p,rfl,c n.toNat _ (by rw[jH,fg nE];rfl)⟩
  refine⟨⟨n0,hn⟩,os ⟨_,c5,?_⟩⟩;have rM:bs[n.toNat].toNat<256:=bs[n.toNat].toNat_lt
  have e1:IntKind.wrap .u32 (bs[n.toNat].toNat:Int)=((BitVec.ofNat 32 bs[n.toNat].toNat).toNat:Int):=by
   rw[wrap_u32 ⟨oX,oX⟩,BitVec.toNat_ofNat,Nat.mod_eq_of_lt oX]
  rw[e1,vp];refine⟨λw k hh=>0<=k/\k<=((8:Nat):Int)/\h=hh/\w=((Tn k.toNat (fb (bs.take n.toNat) M ^^^ BitVec.ofNat 32 bs[n.toNat].toNat)).toNat:Int),λ_ k _=>(((8:Nat):Int)-k).toNat,⟨oX,oX,rfl,rfl⟩,?_⟩;rintro w k _ ⟨k0,k1,rfl,rfl⟩;refine cd (λhk=>?_) λhk=>?_
  ·rw[wq (k+1)];refine one6 (k:=λx=>(_/\_/\_/\x=_)/\(((8:Nat):Int)-(k+1)).toNat<(((8:Nat):Int)-k).toNat) ?_;rw[aab,show k.toNat+1=(k+1).toNat by omega];exact⟨⟨oX,oX,rfl,rfl⟩,bW (m:=8) hk⟩
  ·have e8:k.toNat=8:=oX;rw[e8,wrap_i64 oX oX];refine⟨⟨oX,oX,rfl,?_⟩,bW hn⟩;rw[show(n+1).toNat=n.toNat+1 by omega,List.take_succ_eq_append_getElem nE,JY];have:=JW (fb (bs.take n.toNat) M) bs[n.toNat];rw[Dr]at this;rw[this];have e:pT [bs[n.toNat]]=bitsOf bs[n.toNat]:=(by rw[pT,qO,Ar,gi]);have e2:∀x,fb [bs[n.toNat]] x=(bitsOf bs[n.toNat]).foldl g x:=λx=>by rw[fb,e]
   rw[e2]
 ·rw[gL oX];have em:(IntKind.max .u32)=(M.toNat:Int):=by decide
  rw[em,vp,<-RZ];exact hK
theorem Hk(n v:Nat):Re.bo (n+1) v=Re.bo n v++[UInt8.ofNat (v/256 ^ n)]:=by unfold Re.bo;rw[Ei,eT];rfl
theorem aiP(x:Nat):Int.tmod (x:Int) 256=((x%256:Nat):Int):=by rw[rL oX];omega
theorem aiQ(x:Nat):Int.tdiv (x:Int) 256=((x/256:Nat):Int):=by rw[nL oX];omega
theorem aaF(x:Nat):UInt8.ofNat (x%256)=UInt8.ofNat x:=by
 apply UInt8.toNat_inj.mp;rw[lX,lX];omega
theorem XZ{x:Nat}(h:x<=9223372036854775807):wI (x:Int)=(x:Int):=wrap_i64 oX oX
theorem Kd{v:Nat}(hv:v<=9223372036854775807)(hm:m<=1000)
  (hK:∀a c h',Fr No h h'->Sl h' 1 a m c ((Re.bo m v).map bv) (cW h.size)->K (vS a m c) h'):C.gS (v:Int) (m:Int) h K:=by
 refine gS.ok ⟨λn a l c i hh=>∃k:Nat,i=k/\k<=m/\n=((v/256 ^ k:Nat):Int)/\k=l/\Fr No h hh/\Sl hh 1 a k c ((Re.bo k v).map bv) (cW h.size),λ_ _ _ _ i _=>((m:Int)-i).toNat,
  ⟨0,rfl,bN _,by rw[Nat.pow_zero,Nat.div_one],rfl,Fr.refl _ _,Sl.nil _ _ _⟩,?_⟩
 rintro _ a _ c _ h2 ⟨k,rfl,hk,rfl,rfl,f,s⟩;have hle:v/256 ^ k<=v:=Ep _ _;refine cd (λbV=>?_) λbV=>?_
 ·have ed:Int.tdiv ((v/256 ^ k:Nat):Int) 256=((v/256 ^ (k+1):Nat):Int):=by rw[aiQ,Nat.pow_succ,<-GP]
  have hle2:v/256 ^ (k+1)<=v:=Ep _ _;refine aC.intro λh3 n3=>⟨[bv (UInt8.ofNat (v/256 ^ k))],rfl,ah (by rw[n3.rd,aiP,G0,aaF]),jA [UInt8.ofNat (v/256 ^ k)],ly (f.new n3) (s.fr n3.fr λ_ _ _ y=>y) rfl rfl (by show(k+1)*1<=_;omega) oX λa' c' h4 f4 s4=>?_⟩;rw[ed,XZ (k9 hle2 hv),wq ((k:Int)+1)];refine⟨⟨k+1,rfl,oX,rfl,rfl,f4,?_⟩,bW bV⟩;rw[Hk,eT];exact s4
 ·have:k=m:=oX;subst this;exact hK a c h2 f s
theorem acu{n:Int}(h0:0<=n)(hv:n<=9223372036854775807)(hm:m<=1000)
  (hK:∀a c h',Fr No h h'->Sl h' 1 a m c ((Re.bo m n.toNat).map bv) (cW h.size)->K (vS a m c) h'):C.gS n (m:Int) h K:=by
 obtain⟨v,rfl⟩:=Int.eq_ofNat_of_zero_le h0;exact Kd oX hm hK
theorem jS(ns:List Int):(cU ns).length=4*ns.length:=by
 induction ns with
 | nil=>rfl
 | cons a r ih=>
  have e:cU (a::r)=Re.bo 4 a.toNat++cU r:=rfl;rw[e,bg,bC,ih,pA];omega
theorem X0{n0:Nat}{h':ad}(s:Sl h 1 a l c xs (cW n0)):Row n0 h (λb=>n0<=b/\b<h.size) 1 a l c xs:=by
 refine⟨(Rx.Bg s).mono λb hb=>hb,λb hb=>hb⟩
def tZ(l:Nat):LB:=jG++Re.bo 2 l++aV 2
theorem Ew(l:Nat):(tZ l).length=12:=by simp only[tZ,bg,bC,eN];rfl
theorem LR{rs:Rs}(b:Wd.Bx h a rs)(hl:rs.length<=96)(hx:∀ r ∈ rs,0<=r.1/\r.1<4294967296)(h5:∀ r ∈ rs,r.2.2.length=512)
  (hK:∀a' c' h',Fr No h h'->Sl h' 1 a' 512 c' ((pj (nb rs)).map bv) (cW h.size)->K (vS a' 512 c') h'):C.iQ a rs.length c h K:=by
 refine iQ.ok (aC.intro λh2 n2=>?_);have DQ:=n2.size;refine K5.intro (Kd (v:=rs.length) (m:=2) oX dX λla lc h4 f4 s4=>⟨_,_,_,rfl,?_⟩);have OJ:(tJ h2 (Addr.block (bA h))).size=h.size+1:=by rw[GZ,DQ]
 have F3:Fr No h (tJ h2 (Addr.block (bA h))):=Fr.tJ n2.fr (Or.inr (bE _));have F4:=F3.no f4;have z4:=f4.size
 have r4:rd h4 h.size=jG.map bv:=by
  rw[f4.rd oX λy=>y,Xh,n2.rd];rfl
 have m8:ak h4 (some (bA h)) (jG.map bv):=ah r4;refine⟨(Re.bo 2 rs.length).map bv,by rw[aP,bC],s4.cells,jA _,Nv (old:=jG.map bv) rfl m8 (by rw[aP,bC];rfl) rfl dX dX dX λc5 h5' f5 s5=>?_⟩;have F5:=F4.no f5;refine aC.intro λh6 n6=>?_;have F6:=F5.new n6
 have s5':Sl h5' 1 (some (bA h4)) 10 c5 ((jG++Re.bo 2 rs.length).map bv) (cW h.size):=by
  have:=s5.mono (G:=cW h.size) λb hb=>by show h.size<=b;omega
  rw[<-eT]at this;exact this
 refine⟨(aV 2).map bv,rfl,ah n6.rd,jA _,ly F6 (s5'.fr n6.fr λ_ _ _ y=>y) rfl rfl dX dX λfa fc h7 F7 s7=>?_⟩;rw[<-eT]at s7;have s7:Sl h7 1 fa 12 fc ((tZ rs.length).map bv) (cW h.size):=s7;clear s5 s5' s4 m8 r4 F3 F4 F5 F6 f4 f5 n6 n2;have z7:=F7.size;have RFr:Row h.size h7 (λb=>h.size<=b/\b<h7.size) 1 fa 12 fc ((tZ rs.length).map bv):=X0 (h':=h7) s7
 refine⟨λba bl bc da dl dc n hh=>∃i:Nat,n=i/\i<=rs.length/\4*i=bl/\512*i=dl/\Fr No h7 hh/\∃F G,Row h7.size hh F 1 ba (4*i) bc ((cU ((rs.take i).map (·.1))).map bv)/\Row h7.size hh G 1 da (512*i) dc ((((rs.take i).map (·.2.2)).flatten).map bv)/\∀b,F b->¬G b,λ_ _ _ _ _ _ n _=>((rs.length:Int)-n).toNat,
  ⟨0,rfl,bN _,rfl,rfl,Fr.refl _ _,No,No,Row.nil _ _ _,Row.nil _ _ _,λ_ y=>y.elim⟩,?_⟩
 rintro ba _ bc da _ dc _ h8 ⟨i,rfl,hi,rfl,rfl,f8,F,G,RF,RG,dis⟩;have z8:=f8.size;refine cd (λbV=>?_) λbV=>?_
 ·have tK:i<rs.length:=oX;obtain⟨p,ep,cp⟩:=((b.no F7).no f8).get tK;have B0:=(b.ok _ (ff tK));have x0:=hx _ (ff tK);have x5:=h5 _ (ff tK);have el:rs[i].2.1.l=512:=by have:=B0.1;omega
  rw[cA,wq ((i:Int)+1)];refine⟨⟨oX,bV⟩,Rz.oe ep ⟨_,rfl,cp,aF.intro rfl (Wc.mQ _) rfl λbG n10=>⟨_,ah n10.rd 0 _ rfl,?_⟩⟩⟩;have Vu:=n10.size;refine acu (n:=rs[i].1) (m:=4) x0.1 oX dX λla lc cu f11 E2=>⟨_,_,_,rfl,_,by rw[aP,bC],E2.cells,jA _,?_⟩;have Ua:=f11.size;have q:=n10.fr.no f11;have R1:=RF.keep q λ_ _ y=>y;refine Wd.wD R1 (n:=4) (by rw[aP,bC]) rfl rfl rfl oX oX λba' bc' bf Dw f12 g12 R12=>?_;have z12:=f12.size;have G2:=(RG.keep q λ_ _ y=>y).keep f12 λx hx y=>dis x y hx;have aiR:Fr No h7 bf:=(f8.no q).trans f12 λx hx y=>by have:=(R1.ge x y).1;omega
  have x12:cellOf bf (Addr.add (bA h8) 1)=some rs[i].2.1.v:=by
   have e:rd bf h8.size=mz rs[i]:=by
    rw[f12.rd oX (λy=>by have:=(RF.ge _ y).2;omega),f11.rd oX λy=>y];exact n10.rd
   exact ah e 1 _ rfl
  have κ:=((b.no F7).no aiR).ok _ (ff tK);obtain⟨q1,q2,q3⟩:=av.src κ
  have aiS:∀x,Dw x->¬G x:=λx hx y=>by
   rcases g12 x hx with w|w
   ·exact dis x w y
   ·have:=(RG.ge x y).2;omega
  refine⟨_,_,_,x12,_,q1,q2,q3,Wd.wD G2 (by rw[q1,ph]) rfl rfl rfl oX oX λda' dc' bQ G13 f13 g13 R13=>?_⟩;have Vp:=f13.size;have f13':Fr No h7 bQ:=aiR.trans f13 λx hx y=>by have:=(RG.ge x y).1;omega
  refine⟨⟨i+1,rfl,oX,oX,oX,f13',Dw,G13,?_,?_,λx hx y=>?_⟩,bW bV⟩
  ·have e2:cU ((rs.take (i+1)).map (·.1))=cU ((rs.take i).map (·.1))++Re.bo 4 rs[i].1.toNat:=by
    rw[Ad.eY _ _ tK,eT];simp only[cU,iy,lI,HC,qO,Ar,gi]
   rw[e2,eT,show 4*(i+1)=4*i+4 by omega];exact R12.keep f13 λx hx y=>aiS x hx y
  ·have e2:((rs.take (i+1)).map (·.2.2)).flatten=((rs.take i).map (·.2.2)).flatten++rs[i].2.2:=by
    rw[Ad.eY _ _ tK,eT,List.flatten_append];simp only[lI,HC,H6,List.flatten_nil,gi]
   rw[e2,eT,show 512*(i+1)=512*i+rs[i].2.1.l by omega];exact R13
  ·rcases g13 x y with w|w
   ·exact aiS x hx w
   ·have:=(R12.ge x hx).2;omega
 have ei:i=rs.length:=oX;subst ei;rw[mZ]at RF RG;obtain⟨ns,ens⟩:∃ns,ns=rs.map (·.1):=⟨_,rfl⟩;obtain⟨ds,eds⟩:∃ds,ds=rs.map (·.2.2):=⟨_,rfl⟩;have nl:ns.length=rs.length:=by rw[ens,aP]
 have dsl:ds.length=rs.length:=by rw[eds,aP]
 rw[<-ens]at RF;rw[<-eds]at RG
 have dfl:ds.flatten.length=512*rs.length:=by
  rw[Wd.Nz _ λy hy=>by
   rw[eds]at hy;obtain⟨r,hr,rfl⟩:=jc.mp hy
   exact h5 r hr,dsl];omega
 refine⟨λb9 l9 c9 hh=>4*rs.length<=l9/\l9<=496/\Fr No h7 hh/\∃F,Row h7.size hh F 1 b9 l9 c9 ((cU ns++aV (l9-4*rs.length)).map bv)/\Row h7.size hh G 1 da (512*rs.length) dc (ds.flatten.map bv)/\∀b,F b->¬G b,λ_ l9 _ _=>496-l9,⟨oX,oX,f8,F,?_,RG,dis⟩,?_⟩
 ·rw[Nat.sub_self];rw[show aV 0=[] from rfl,gi];exact RF
 clear RF RG dis;intro b9 l9 c9 h9 I9;obtain⟨k0,k1,f9,F9,RF,RG,dis⟩:=I9;have z9:=f9.size
 have ew:wI (wI (((12:Nat):Int)+4)+(l9:Int))=16+(l9:Int):=by
  rw[wq (((12:Nat):Int)+4),wrap_i64 oX oX];omega
 rw[ew];generalize hq:decide (16+(l9:Int)<512)=q;refine cs (λhk=>?_) λhk=>?_
 ·have hk:=of_decide_eq_true (hq.trans hk);refine aC.intro λbG n10=>⟨[bv 0],rfl,ah n10.rd,jA [0],?_⟩;have Vu:=n10.size;have R1:=RF.keep n10.fr λ_ _ y=>y;have G1:=RG.keep n10.fr λ_ _ y=>y;refine Wd.wD R1 (n:=1) rfl rfl rfl rfl oX oX λb11 c11 cu Ng f11 g11 R11=>?_;have Ua:=f11.size;refine⟨⟨oX,oX,(f9.new n10).trans f11 λx hx y=>by have:=(R1.ge x y).1;omega,Ng,?_,G1.keep f11 λx hx y=>dis x y hx,λx hx y=>?_⟩,by show 496-(l9+1)<496-l9;omega⟩
  ·rw[show l9+1-4*rs.length=(l9-4*rs.length)+1 by omega,ug,<-iW,eT];exact R11
  ·rcases g11 x hx with w|w
   ·exact dis x w y
   ·have:=(G1.ge x y).2;omega
 have hk:=of_decide_eq_false (hq.trans hk);have e9:l9=496:=oX;subst e9;obtain⟨back,eb⟩:∃back,back=cU ns++aV (496-4*rs.length):=⟨_,rfl⟩;rw[<-eb]at RF;have bl:back.length=496:=by rw[eb,bg,jS,eN,nl];omega
 have RF0:=(RFr.keep f9 λ_ _ y=>y).s;refine⟨_,by rw[aP,Ew],RF0.cells,jA _,append_nil (by rw[aP,Ew];rfl) rfl dX dX λa10 c10 bG f10 Pu=>?_⟩;refine aC.intro λcu n11=>⟨(aV 4).map bv,rfl,ah n11.rd,jA _,ly (f10.new n11) (Pu.fr n11.fr λ_ _ _ y=>y) rfl rfl dX dX λa12 LG bf f12 H5=>?_⟩;have RB12:=(RF.keep f12 λ_ _ y=>y).s;refine⟨_,by rw[aP,bl],RB12.cells,jA _,ly f12 H5 (by rw[aP,bl];rfl) rfl dX dX λa13 c13 bQ f13 Vo=>?_⟩;have RD13:=(RG.keep f13 λ_ _ y=>y).s;refine⟨_,by rw[aP,dfl,ph],RD13.cells,jA _,ly f13 Vo (by rw[aP,dfl];show _=_*1;omega) rfl (by show(512+512*rs.length)*1<=_;omega) oX λa14 c14 cX f14 s14=>?_⟩
 have aey:tZ rs.length++aV 4++back++ds.flatten=kT ns 0++ds.flatten:=by
  rw[eb,<-Nc];unfold tZ kT;rw[nl];simp only[iW]
 rw[<-eT,<-eT,<-eT,aey]at s14
 have esum:ofM (kT ns 0++ds.flatten)=Ba (kT ns 0) ds:=by
  have e:=Xg (kT ns 0) ds (λd hd=>by
   rw[eds]at hd;obtain⟨r,hr,rfl⟩:=jc.mp hd
   rw[h5 r hr];decide)
  rw[Na]at e;exact e.symm
 have us:=JL (kT ns 0) ds;obtain⟨u0,u1⟩:=us;refine UM s14.str oX ⟨_,rfl,?_⟩;rw[esum,wq (Ba (kT ns 0) ds)];refine acu (m:=4) u0 oX dX λa15 c15 fN f15 s15=>⟨_,_,_,rfl,_,by rw[aP,bC],s15.cells,jA _,?_⟩;have WI:=f14.size;have rG:=f15.size;have f9':Fr No h fN:=((F7.no f9).no f14).no f15;have RB15:=((RF.keep f14 λ_ _ y=>y).keep f15 λ_ _ y=>y);have afb:=((RFr.keep f9 λ_ _ y=>y).keep f14 λ_ _ y=>y).keep f15 λ_ _ y=>y;refine Wd.wD afb (n:=4) (by rw[aP,bC]) rfl rfl rfl oX (by have:=F7.size;omega) λa16 c16 gN F16 f16 g16 R16=>?_;have z16:=f16.size;have RB16:=(RB15.keep f16 λx hx y=>by have:=(afb.ge x y).2;have:=(RF.ge x hx).1;omega).s;refine⟨_,by rw[aP,bl],RB16.cells,jA _,?_⟩;refine Wd.wD R16 (n:=496) (by rw[aP,bl]) rfl rfl rfl oX (by have:=F7.size;omega) λa17 c17 gO Sn f17 g17 R17=>?_;have F16':Fr No h gN:=f9'.trans f16 λx hx y=>by have:=(afb.ge x y).1;omega
 refine hK a17 c17 gO (F16'.trans f17 λx hx y=>by have:=(R16.ge x y).1;omega) ?_
 have eh:pj (nb rs)=tZ rs.length++Re.bo 4 (Ba (kT ns 0) ds).toNat++back:=by
  unfold pj;rw[Wd.ahY,Wd.Xm,<-ens,<-eds,eb]
  have e:∀s,kT ns s=tZ ns.length++Re.bo 4 s++(cU ns++aV (496-4*ns.length)):=λs=>by
   unfold kT tZ;simp only[iW]
  refine(e _).trans ?_;rw[nl]
 rw[eh,eT,eT];exact R17.s.mono λx hx=>(R17.ge x hx).1
end Cr
namespace Wd
open Hp W Ad Wc Rf
open L3 (Tt)
theorem vM.grow{E:NP}{es:List mg}{ts:List Tt}(T:vM h (λb=>E b∨F b) es ts)(f:Fr F h h')(g:∀ b,F' b->F b∨h.size<=b):vM h' (λb=>E b∨F' b) es ts:=by
 refine⟨T.len,λi h1 h2=>?_⟩;obtain⟨a,b,c,d⟩:=T.at_ i h1 h2;refine⟨a,b,G4 c f λp e hl _ y=>d p e hl (.inr y),λp e hl y=>?_⟩
 rcases y with y|y
 ·exact d p e hl (.inl y)
 ·rcases g _ y with w|w
  ·exact d p e hl (.inr w)
  ·rw[e]at c;have:=Lw c hl;omega
theorem afc(m:Nat):aL z5 m=(Hd.aV m).map bv:=by
 unfold Hd.aV;rw[Gu,sV];show(List.replicate m [Value.int .u8 0]).flatten=List.replicate m (bv 0)
 induction m with
 | zero=>rfl
 | succ m ih=>rw[uW,H6,ih,uW];rfl
theorem aiU(rs:Rs){i:Nat}(h:i<rs.length):(nb rs).take (i+1)=(nb rs).take i++[(rs[i].1,rs[i].2.2)]:=by
 rw[eY _ _ (by unfold nb;rw[aP];exact h),WR rs h]
theorem Qy{E:NP}{D:RD}{es:List mg}{ts:List Tt}(x:tj h E r D)(R:ak h a (es.flatMap mg.cells))(off:∀ p,a=some p->p.block<h.size/\¬ E p.block)(t:vM h E es ts)
  (hl:es.length<100000) (rM:∀i (hi:i<es.length),es[i].l<=140737488355328) (ht:D.tape.length+es.length<1000000000)
  (hK:∀h' E',Fr E h h'->Gw h E h' E'->tj h' E' r (qj (ts.map vm) D).1->K (vI (qj (ts.map vm) D).2) h') :
  ∃(I3:IP) (M3:IM),I3 0 h/\
   ∀(n4:Int),∀iG:ad,I3 n4 iG->
   bif(decide (n4<(es.length:Int)))then(
   (0<=n4/\n4<(es.length:Int))/\
   ae a λp3=>
   ∃wQ:LV,List.length wQ=3/\ai iG (Addr.add p3 ((Int.toNat n4)*3)) wQ/\
   aF z146 146 wQ 3 iG λqD=>
   ∃(n5:Int),cellOf qD (Addr.add (bA iG) 0)=some (vI n5)/\
   bif(n5==1)then(
   ∃(n6:Int),cellOf qD (Addr.add (bA iG) 1)=some (vI n6)/\
   ∃(EL:OA) (Df:Nat) (H3:Nat),cellOf qD (Addr.add (bA iG) 2)=some (vS EL Df H3)/\
   C.dG r n6 EL Df H3 qD λr2 pg=>
   ∃(n7:Int),r2 = vI n7/\
   bif(n7 != 0)then(
   K (vI n7) pg)else(
   I3 (wI (n4+1)) pg/\M3 (wI (n4+1)) pg<M3 n4 iG))else(
   C.dH r qD λr3 sX=>
   ∃(n8:Int),r3 = vI n8/\
   bif(n8 != 0)then(
   K (vI n8) sX)else(
   I3 (wI (n4+1)) sX/\M3 (wI (n4+1)) sX<M3 n4 iG)))else(
   K (vI 0) iG):=by
 refine⟨λm hh=>∃n:Nat,m=n/\n<=es.length/\∃E' D',tj hh E' r D'/\Fr E h hh/\Gw h E hh E'/\D'.tape.length<=D.tape.length+n/\qj (ts.map vm) D=qj ((ts.drop n).map vm) D',λm _=>((es.length:Int)-m).toNat,
  ⟨0,rfl,bN _,E,D,x,Fr.refl _ _,Gw.refl (bE _) (λb hb=>x.lt hb),bE _,rfl⟩,?_⟩
 rintro _ h2 ⟨n,rfl,hn,E',D',x',f,g,t1,e⟩;refine cd (λbV=>?_) λbV=>?_
 ·have hi:n<es.length:=oX;have Xi:n<ts.length:=by rw[<-t.len];exact hi
  obtain⟨p,ep,cp⟩:=Xj (ak.fr f R λp e=>(off p e).2) hi;have hb:=rM n hi;rw[cA,wq ((n:Int)+1)];have hd:(ts.drop n).map vm=vm ts[n]::(ts.drop (n+1)).map vm:=by rw[lh Xi];rfl
  have er:qj (ts.map vm) D=if((vm ts[n]).on D').2=0 then qj ((ts.drop (n+1)).map vm) ((vm ts[n]).on D').1 else(vm ts[n]).on D':=by rw[e,hd];rfl
  refine⟨⟨oX,bV⟩,Rz.oe ep ⟨_,rfl,cp,aF.intro rfl (λv hv=>by
   unfold mg.cells at hv;simp only[fO,nT,or_false]at hv
   rcases hv with rfl|rfl|rfl <;> rfl) rfl λh4 n4=>⟨_,ah n4.rd 0 _ rfl,?_⟩⟩⟩
  have z4:=n4.size;have x4:=x'.no n4.fr;have f4:Fr E h h4:=f.new n4;have g4:Gw h E h4 E':=⟨g.old,λb y=>by have:=g.lt b y;omega⟩;obtain⟨k1,k2,k3,k4⟩:=(t.step f4 g4).at_ n hi Xi;refine ce (λh1=>⟨_,ah n4.rd 1 _ rfl,_,_,_,ah n4.rd 2 _ rfl,?_⟩) λh1=>?_
  ·have es1:vm ts[n] = .w ts[n].2.1 ts[n].2.2:=(by unfold vm;rw[if_pos (by rw[<-k1];exact h1)]);rw[es1]at er;rw[k2];refine x4.write k3 hb oX λh3 E3 f3 g3 x3=>⟨_,rfl,?_⟩;have F3:Fr E h h3:=f4.trans f3 λb hb y=>(g.old b hb).mp y;have G3:=g4.trans g3 f4.size;refine cn (λfP=>?_) λh0=>⟨⟨n+1,rfl,oX,E3,_,x3,F3,G3,?_,?_⟩,bW bV⟩
   ·have er:qj (ts.map vm) D=D'.write ts[n].2.1 ts[n].2.2:=er.trans (if_neg fP);rw[er]at hK;exact hK h3 E3 F3 G3 x3
   ·have:=(zz D' (.w ts[n].2.1 ts[n].2.2)).1;have this:(D'.write ts[n].2.1 ts[n].2.2).1.tape.length<=D'.tape.length+1:=this;omega
   ·exact er.trans (if_pos h0)
  ·have es1:vm ts[n] = .f:=(by unfold vm;rw[if_neg (by rw[<-k1];exact h1)]);rw[es1]at er;refine x4.flush oX λh3 E3 f3 g3 x3=>⟨_,rfl,?_⟩;have F3:Fr E h h3:=f4.trans f3 λb hb y=>(g.old b hb).mp y;have G3:=g4.trans g3 f4.size;refine cn (λfP=>?_) λh0=>⟨⟨n+1,rfl,oX,E3,_,x3,F3,G3,?_,?_⟩,bW bV⟩
   ·have er:qj (ts.map vm) D=D'.flush:=er.trans (if_neg fP);rw[er]at hK;exact hK h3 E3 F3 G3 x3
   ·have:=(zz D' .f).1;have this:D'.flush.1.tape.length<=D'.tape.length+1:=this;omega
   ·exact er.trans (if_pos h0)
 ·have en:n=ts.length:=by have:=t.len;omega
  rw[en,xG]at e;have e:qj (ts.map vm) D=(D',0):=e;rw[e]at hK;exact hK h2 E' f g x'
theorem LS{E:NP}{D:RD}{rs:Rs}(x:tj h E r D)(b:Bx h a rs)(off:∀ r ∈ rs,∀ p,r.2.1.a=some p->r.2.1.l≠0->¬ E p.block)
  (hm:rs≠[]->Dm (nb rs) D.aE.length=true) (h5:∀r∈rs,r.2.2.length=512) (hx:∀r∈rs,0<=r.1/\r.1<4294967296) (ht:D.tape.length<100000000)
  (hK:∀h' E',Fr E h h'->Gw h E h' E'->tj h' E' r (Dn D (nb rs)).1->K (vI (Dn D (nb rs)).2) h'):C.iN r a rs.length c h K:=by
 have hE:∀b,E b->b<h.size:=λb y=>x.lt y;have hb:(xC).bytes<=64:=by decide
 refine iN.ok (ce (λh0=>?_) λh0=>?_)
 ·have e:rs=[]:=Vb oX;have ew:Dn D (nb rs)=(D,0):=by rw[e];exact if_pos rfl
  rw[ew]at hK;exact hK h E (Fr.refl _ _) (Gw.refl (bE _) hE) x
 have fP:rs≠[]:=λe=>by subst e;exact h0 rfl
 have hm:=hm fP;have hl:=GU hm;have nbl:(nb rs).length=rs.length:=by unfold nb;rw[aP]
 rw[nbl]at hl;have dl:(rs.map (·.2.2)).length=rs.length:=aP ..
 refine aF.intro rfl (λv hv=>by
  simp only[fO,nT,or_false]at hv
  rcases hv with rfl|rfl|rfl <;> rfl) rfl λh3 n3=>?_
 have z3:=n3.size;have b3:=b.no n3.fr;have fl:∀{hh:ad},Fr No h3 hh->rd hh h.size=[vI 2,vI 0,vS none 0 0]:=fun {hh} f=>(f.r0).trans n3.rd
 -- what the aiV blocks are
 have dat:∀{hh:ad} {F:NP} (i:Nat) (hi:i<rs.length),Fr No h3 hh->(∀b,F b->h3.size<=b)->av hh rs[i].2.1.a rs[i].2.1.l rs[i].2.2/\∀p,rs[i].2.1.a=some p->rs[i].2.1.l≠0->¬(E p.block∨F p.block):=fun {hh F} i hi f g=>by
  have B:=b3.ok _ (ff hi);refine⟨av.fr f B λ_ _ y=>y,λp e hl y=>?_⟩
  rcases y with y|y
  ·exact off _ (ff hi) p e hl y
  ·rw[e]at B;have:=Lw B hl;have:=g _ y;omega
 refine⟨λa l c m hh=>∃es F,m=(List.length es:Int)/\es.length<=rs.length/\es.length=l/\Fr No h3 hh/\Row h3.size hh F 3 a es.length c (es.flatMap mg.cells)/\vM hh (λb=>E b∨F b) es (Ix (rs.map (·.2.2)) es.length),λ_ _ _ m _=>((rs.length:Int)-m).toNat,
  ⟨[],No,rfl,bN _,rfl,Fr.refl _ _,Row.nil _ _ _,vM.nil _ _⟩,?_⟩
 rintro aa _ ac _ h4 ⟨es,F,rfl,hi,rfl,f,R,T⟩;have z4:=f.size;refine cd (λbV=>?_) λbV=>?_
 ·have tK:es.length<rs.length:=oX;have hd:es.length<(rs.map (·.2.2)).length:=oX;obtain⟨p,ep,cp⟩:=(b3.no f).get tK;rw[cA,wq ((es.length:Int)+1),wq (2+(es.length:Int))];refine⟨⟨oX,bV⟩,Rz.oe ep ⟨_,rfl,cp,aF.intro rfl (mQ _) rfl λh6 n6=>⟨_,_,_,ah n6.rd 1 _ rfl,rfl,?_⟩⟩⟩;have z6:=n6.size;have R6:=R.keep n6.fr λ_ _ y=>y;obtain⟨B,O⟩:=dat (F:=F) es.length tK (f.new n6) λb y=>(R.ge b y).1;refine zA R6 (vs:=(vN (2+(es.length:Int)) rs[es.length].2.1.a rs[es.length].2.1.l rs[es.length].2.1.c).cells) rfl (λv hv=>Cg [vN (2+(es.length:Int)) rs[es.length].2.1.a rs[es.length].2.1.l rs[es.length].2.1.c] v (by rw[qO,Ar,gi];exact hv)) rfl rfl hb oX oX λa' c' h8 F8 f8 g8 R8=>?_;have el:(es++[vN (2+(es.length:Int)) rs[es.length].2.1.a rs[es.length].2.1.l rs[es.length].2.1.c]).length=es.length+1:=by rw[bg];rfl
  refine⟨⟨es++[vN (2+(es.length:Int)) rs[es.length].2.1.a rs[es.length].2.1.l rs[es.length].2.1.c],F8,by rw[el];rfl,oX,el,Lx R6 (f.new n6) rfl f8,by rw[el,JZ];exact R8,?_⟩,bW bV⟩;rw[el,Un];have eg:(rs.map (·.2.2)).getD es.length []=rs[es.length].2.2:=by rw[gh,fg hd,mu];rfl
  rw[eg];exact((T.no n6.fr).app (vM.vN B O)).grow f8 g8
 have ei:es.length=rs.length:=oX;refine⟨_,rfl,ah (fl f),_,rfl,ah (fl f),Cr.LR (b3.no f) hl hx h5 λha hc h9 f9 sh=>⟨_,_,_,rfl,⟨rfl,ah (fl (f.no f9))⟩,⟨rfl,ah (fl (f.no f9))⟩,rfl,rfl,rfl,aC.intro λbG n10=>⟨[wC,vN 1 ha 512 hc,wC].flatMap mg.cells,rfl,ah n10.rd,Cg _,?_⟩⟩⟩;have q:=f9.new n10;have z9:=f9.size;have Vu:=q.size;have R10:=R.keep q λ_ _ y=>y;have hlen:(pj (nb rs)).length=512:=by have:=sh.1;rw[aP]at this;omega
 have aiW:∀{hh:ad} {F:NP} {p:Addr},hh.size<=p.block->(∀b,F b->b<hh.size)->h3.size<=hh.size->¬(E p.block∨F p.block):=fun {hh F p} g l z y=>by
  rcases y with y|y
  ·have:=hE _ y;omega
  ·have:=l _ y;omega
 have Th:vM bG (λb=>E b∨F b) [wC,vN 1 ha 512 hc,wC] [(2,0,[]),(1,1,pj (nb rs)),(2,0,[])]:=
  (vM.wC _ _).app ((vM.vN ⟨hlen,ak.fr n10.fr sh.cells λ_ _ y=>y⟩ λp e _=>by
   subst e
   exact aiW (hh:=h4) sh.2.2.1 (λb y=>(R.ge b y).2) z4).app (vM.wC _ _))
 have T10:=(T.no q).app Th;have el2:(es++[wC,vN 1 ha 512 hc,wC]).length=es.length+3:=by rw[bg];rfl
 refine Nw R10 (n:=3) rfl rfl rfl hb oX oX λa11 c11 cu Ng f11 g11 R11=>?_;have T11:=T10.grow f11 g11;have F3':Fr No h3 cu:=Lx R10 (f.no q) rfl f11;obtain⟨YG,afe⟩:∃YG,YG=es++[wC,vN 1 ha 512 hc,wC]:=⟨_,rfl⟩;obtain⟨t2,et2⟩:∃t2,t2=Ix (rs.map (·.2.2)) es.length++[(2,0,[]),(1,1,pj (nb rs)),(2,0,[])]:=⟨_,rfl⟩;rw[<-afe,<-et2]at T11;rw[<-afe]at el2;have R11:Row h3.size cu Ng 3 a11 (es.length+3) c11 (YG.flatMap mg.cells):=by rw[afe,iy];exact R11
 clear R10 T10 Th sh n10 q f9 R T f bV
 refine⟨λa l c m hh=>∃fs F,m=(List.length fs:Int)/\fs.length<=rs.length/\es.length+3+fs.length=l/\Fr No h3 hh/\Row h3.size hh F 3 a (es.length+3+fs.length) c ((YG++fs).flatMap mg.cells)/\vM hh (λb=>E b∨F b) (YG++fs) (t2++wT ((nb rs).take fs.length)),λ_ _ _ m _=>((rs.length:Int)-m).toNat,
  ⟨[],Ng,rfl,bN _,rfl,F3',by rw[gi];exact R11,by rw[gi,List.length_nil,vi];unfold wT;rw[HC,gi];exact T11⟩,?_⟩
 rintro aa2 _ ac2 _ bf ⟨fs,F,rfl,Xi,rfl,f,R,T⟩;have z12:=f.size;refine cd (λbV=>?_) λbV=>?_
 ·have tK:fs.length<rs.length:=oX;obtain⟨p,ep,cp⟩:=(b3.no f).get tK;rw[cA,wq ((fs.length:Int)+1)];refine⟨⟨oX,bV⟩,Rz.oe ep ⟨_,rfl,cp,aF.intro rfl (mQ _) rfl λcX n14=>⟨_,ah n14.rd 0 _ rfl,_,_,_,ah n14.rd 1 _ rfl,rfl,?_⟩⟩⟩;have WI:=n14.size;have R14:=R.keep n14.fr λ_ _ y=>y;obtain⟨B,O⟩:=dat (F:=F) fs.length tK (f.new n14) λb y=>(R.ge b y).1;refine zA R14 (vs:=(vN rs[fs.length].1 rs[fs.length].2.1.a rs[fs.length].2.1.l rs[fs.length].2.1.c).cells) rfl (λv hv=>Cg [vN rs[fs.length].1 rs[fs.length].2.1.a rs[fs.length].2.1.l rs[fs.length].2.1.c] v (by rw[qO,Ar,gi];exact hv)) rfl rfl hb oX oX λa' c' gN F16 f16 g16 R16=>?_;have el:(fs++[vN rs[fs.length].1 rs[fs.length].2.1.a rs[fs.length].2.1.l rs[fs.length].2.1.c]).length=fs.length+1:=by rw[bg];rfl
  refine⟨⟨fs++[vN rs[fs.length].1 rs[fs.length].2.1.a rs[fs.length].2.1.l rs[fs.length].2.1.c],F16,by rw[el];rfl,oX,oX,Lx R14 (f.new n14) rfl f16,by rw[el,<-iW,JZ];exact R16,?_⟩,bW bV⟩;rw[el,aiU rs tK,aad,<-iW,<-iW];exact((T.no n14.fr).app (vM.vN B O)).grow f16 g16
 have ef:fs.length=rs.length:=oX;rw[gL oX]at T;refine⟨_,rfl,ah (fl f),_,rfl,ah (fl f),⟨by decide,by decide,by decide,by decide⟩,aC.intro λgO n17=>⟨⟨rfl,ah (fl (f.new n17))⟩,⟨rfl,ah (fl (f.new n17))⟩,rfl,rfl,rfl,aC.intro λjk n18=>⟨[wC,vN 1 (some (bA bf)) 512 512,wC].flatMap mg.cells,rfl,ah n18.rd,Cg _,?_⟩⟩⟩;have z17:=n17.size;have z18:=n18.size;have q:=n17.fr.new n18;have R18:=R.keep q λ_ _ y=>y;have er17:rd gO bf.size=(Hd.aV 512).map bv:=n17.rd.trans (afc _)
 have Tz:vM jk (λb=>E b∨F b) [wC,vN 1 (some (bA bf)) 512 512,wC] [(2,0,[]),(1,1,Hd.aV 512),(2,0,[])]:=
  (vM.wC _ _).app ((vM.vN (yv (by rw[n18.at_];exact er17) (Hd.eN _)) λp e _=>by
   cases e
   exact aiW (hh:=bf) (bE _) (λb y=>(R.ge b y).2) z12).app (vM.wC _ _))
 have T18:=(T.no q).app Tz;refine Nw R18 (n:=3) rfl rfl rfl hb oX oX λa19 c19 eX F19 f19 g19 R19=>?_;have T19:=T18.grow f19 g19;have F3':Fr No h3 eX:=Lx R18 (f.no q) rfl f19;have Fh:Fr No h eX:=n3.fr.no F3';have z19:=Fh.size;obtain⟨es3,aff⟩:∃es3,es3=(YG++fs)++[wC,vN 1 (some (bA bf)) 512 512,wC]:=⟨_,rfl⟩;have el3:es3.length=es.length+3+fs.length+3:=by rw[aff,bg,bg,el2];rfl
 have ets:(t2++wT (nb rs))++[(2,0,[]),(1,1,Hd.aV 512),(2,0,[])]=zB (nb rs) (pj (nb rs)):=by
  rw[et2,ei];unfold zB Nx;rw[Xm,nbl];simp only[iW]
 rw[<-aff,ets]at T19;have R19:Row h3.size eX F19 3 a19 (es.length+3+fs.length+3) c19 (es3.flatMap mg.cells):=by rw[aff,iy];exact R19
 have Tf:vM eX E es3 (zB (nb rs) (pj (nb rs))):=T19.aex λb y=>.inl y
 have h5n:∀p∈nb rs,p.2.length<=512:=λp hp=>by
  obtain⟨r,hr,rfl⟩:=jc.mp hp;have:=h5 r hr;show r.2.2.length<=512;omega
 have ew:=Δ (S:=D) (l:=nb rs) (λe=>fP (by unfold nb at e;exact qx.mp e)) hm (List.all_eq_true.mpr λd hd=>by
  rw[Xm]at hd;obtain⟨r,hr,rfl⟩:=jc.mp hd
  exact beq_iff_eq.mpr (h5 r hr))
 rw[<-el3]
 refine Qy (x.no Fh) R19.s.cells (λp e=>by
  subst e;refine⟨R19.s.lt,λy=>?_⟩;have:=hE _ y;have:=(R19.ge _ R19.s.2.2.1).1
  omega) Tf oX (Tf.small λt ht=>?_) oX λh5' E5 f5 g5 x5=>?_
 ·unfold zB at ht
  rcases nB.mp ht with ht|ht
  ·rcases nB.mp ht with ht|ht
   ·unfold Ix at ht;obtain⟨k,hk,rfl⟩:=jc.mp ht;show(((nb rs).map (·.2)).getD k []).length<=512;rw[gh]
    rcases rI k ((nb rs).map (·.2)).length with h|h
    ·rw[fg h,mu];exact h5n _ (ff _)
    ·rw[List.getElem?_eq_none h];exact bN _
   ·exact El oX t ht
  ·exact Ny h5n t ht
 ·rw[PX,<-ew]at x5 ⊢;exact hK h5' E5 ((Fh.mono λ_ _ y=>y.elim).trans f5 λ_ _ y=>y) ⟨λb hb=>g5.old b oX,g5.lt⟩ x5
end Wd
namespace Tm
open Hp W Ad Spc
def TM.blocks(T:TM):Wc.Nb:=T.written.map λi=>(i,(dx T.put i).getD [])
def TM.jv(T:TM):TM×Int:=
 if T.over=true then(T,61)else if T.put=[]then(TM.ended T.cB,0)else(TM.ended (Wc.Dn T.cB T.blocks).1,(Wc.Dn T.cB T.blocks).2)
theorem Qz(l:List Int):(xH l).Perm l:=SD l _
theorem SJ{n:Int}:∀(l:List Int) (last:Int),l.Pairwise (· < ·)->(∀x∈l,last<x/\x<n)->Hd.vK n last l=true
 | [],_,_,_=>rfl
 | a::r,last,hp,h=>by
  rw[List.pairwise_cons]at hp;have h1:=h a (kj ..);show(!(decide (a<=last) || decide (a>=n)) && Hd.vK n a r)=true;rw[SJ r a hp.2 λx hx=>⟨hp.1 x hx,(h x (gV _ hx)).2⟩,decide_eq_false oX,decide_eq_false oX];rfl
theorem UN{α:Type}{m:List (Int×α)}(h:i ∈ m.map (·.1)):∃b,dx m i=some b:=by
 cases e:dx m i with
 | some b=>exact⟨b,rfl⟩
 | none=>
  obtain⟨p,hp,ep⟩:=jc.mp h;exact absurd ep (zr.mp e p hp)
end Tm
namespace Tm
open Hp W Ad
def Oh(ps:List (Int×(Sc×cC)))(l:List Int):Wc.Rs:=l.map λi=>(i,(dx ps i).getD (⟨none,0,0⟩,[]))
theorem UO{r:TR}{T:TM}(X:PD h ao d r T):Wc.nb (Oh r.ps T.written)=T.blocks:=by
 unfold Wc.nb Oh TM.blocks;rw[qJ];refine Fu λi _=>?_;show(i,((dx r.ps i).getD _).2)=(i,(dx T.put i).getD []);rw[X.put,BZ (λx:Sc×cC=>x.2) i r.ps]
 cases dx r.ps i <;> rfl
theorem tf{h:ad}{F:NP}{t d:OA}{T:TM}{K:KT}(G:Re.lT h)(x:Tx h F t d T)(hp:T.put.length<10000)(hq:T.cB.bS.length<100000000)(ht:T.cB.tape.length<100000000)
  (hK:∀h' F',Fr F h h'->Gw h F h' F'->Tx h' F' t d T.jv.1->K (vI T.jv.2) h'):C.gZ t h K:=by
 have bV:=λb hb=>x.lt (b:=b) hb;have x0:=x
 rcases x with⟨ao,r,rfl,X,hF⟩|⟨ao,tb,rfl,X,hF⟩
 rotate_left
 ·refine gZ.ok (os ⟨_,aZ X.cell rfl,ct rfl ?_⟩);have e0:T.jv=(T,61):=by unfold TM.jv;rw[X.over,if_pos rfl]
  rw[e0]at hK;exact hK h F (Fr.refl _ _) (Gw.refl (bE _) bV) (.inr ⟨ao,tb,rfl,X,hF⟩)
 have live:=X.live;have Lp:T.put.length=r.ps.length:=by rw[X.put,aP]
 have em:(mm (λx:Sc×cC=>x.1.v) r.ps).length=r.ps.length:=zv _ _;refine gZ.ok (os ⟨_,aZ X.cell rfl,cf rfl (os ⟨_,aZ X.cell rfl,_,X.map,ce (λh0=>?_) λh0=>?_⟩)⟩)
 ·have e:T.put=[]:=Vb oX;have e0:T.jv=(TM.ended T.cB,0):=by unfold TM.jv;rw[live,if_neg (by simp),if_pos e]
  rw[e0]at hK;refine bz.FE (Ck X.own X.cell λh2 d2=>?_);obtain⟨F',f,g,y⟩:=X.shut hF (Fr.refl _ _) (Gw.refl (bE _) λb hb=>X.dk.lt hb) X.dk d2;exact hK h2 F' f g y
 have fP:T.put≠[]:=λe=>by rw[e]at Lp;have:(0:Nat)=r.ps.length:=Lp;omega
 have e0:T.jv=(TM.ended (Wc.Dn T.cB T.blocks).1,(Wc.Dn T.cB T.blocks).2):=by unfold TM.jv;rw[live,if_neg (by simp),if_neg fP]
 rw[e0]at hK;refine CK x0 oX λa l c h3 f3 el s3=>⟨_,_,_,rfl,?_⟩;have wl:T.written.length=l:=by have:=s3.1;rw[aP]at this;omega
 have z3:=f3.size
 have mem:∀i∈T.written,∃x,dx r.ps i=some x/\(i,x)∈r.ps:=λi hi=>by
  have hi:i∈T.put.map (·.1):=(Qz _).mem_iff.mp hi;rw[X.put,qJ]at hi;obtain⟨v,e⟩:=UN (m:=r.ps) hi;exact⟨v,e,wz e⟩
 have rl:(Oh r.ps T.written).length=l:=by unfold Oh;rw[aP,wl]
 refine⟨λla ll lc n hh=>0<=n/\n<=l/\ll=n.toNat/\Fr No h3 hh/\∃F1:NP,Wc.Row h3.size hh F1 2 la ll lc (((Oh r.ps T.written).take n.toNat).flatMap Wc.mz),
  λ_ _ _ n _=>((l:Int)-n).toNat,⟨oX,oX,rfl,Fr.refl _ _,No,Wc.Row.nil _ _ _⟩,?_⟩
 rintro la ll lc n h4 ⟨n0,n1,rfl,f4,F1,r1⟩;have z4:=f4.size;have f34:=f3.no f4;refine cd (λhn=>?_) λhn=>?_
 ·have nE:n.toNat<T.written.length:=oX;have cc:=ak.fr f4 s3.cells λ_ _ x=>x;obtain⟨p,rfl,cv⟩:=Hd.my (ns:=T.written) cc nE;obtain⟨v,ev,mv⟩:=mem _ (ff nE);refine⟨⟨n0,hn⟩,os ⟨_,cv,os ⟨_,aZ ((f34.rd X.own.lt λx=>x).trans X.cell) rfl,_,xn X.map f34 (λx=>x),v.1.a,v.1.l,v.1.c,?_,rfl,?_⟩⟩⟩
  ·rw[B7,ev];rfl
  have erg:(Oh r.ps T.written)[n.toNat]'(by rw[rl,<-wl];exact nE)=(T.written[n.toNat],v):=by
   unfold Oh;rw[mu,ev];rfl
  refine Wc.zA (vs:=[vI T.written[n.toNat],v.1.v]) r1 rfl (Wc.mQ (T.written[n.toNat],v)) rfl rfl (Nat.le_of_ble_eq_true rfl) oX oX λla' lc' h6 F1' f6 g6 r1'=>?_;rw[wrap_i64 oX oX];have en:(n+1).toNat=n.toNat+1:=oX;refine⟨⟨oX,oX,en.symm,f4.trans f6 λb hb y=>by have:=r1.ge b y;omega,F1',?_⟩,bW hn⟩;rw[en,eY _ _ (by rw[rl];omega),iy,erg,qO,Ar,gi];exact r1'
 have ln:n.toNat=l:=oX;rw[gL oX,ln]at r1;rw[ln,<-rl];have A4:dD h4 (λb=>ao b=5) d T.cB:=X.dk.no f34
 have bl:Wc.Bl h4 (λb=>ao b=5) la (Oh r.ps T.written):=by
  refine⟨r1.s.cells,λp e=>?_,λq hq=>?_⟩
  ·subst e;obtain⟨_,_,k,o,_⟩:=r1.s;refine⟨o.lt,λy=>?_⟩;have y:ao p.block=5:=y;have:=X.wA p.block (by have:=(r1.ge _ k).1;omega);omega
  ·obtain⟨i,hi,rfl⟩:=jc.mp hq;obtain⟨v,ev,mv⟩:=mem i hi;show av h4 ((dx r.ps i).getD _).1.a _ _/\_;rw[ev];have bk:=X.pok _ mv;refine⟨av.fr f34 bk.s λ_ _ x=>x,λp e=>⟨by have:=(bk.at_ p e).1;omega,λy=>?_⟩⟩;have y:ao p.block=5:=y;have:=(bk.at_ p e).2;omega
 refine os ⟨_,aZ ((f34.rd X.own.lt λx=>x).trans X.cell) rfl,Wc.tf (G.no f34) A4 bl oX hq ht λh7 D7 f7 g7 A7=>⟨_,rfl,?_⟩⟩;rw[UO X]at A7 ⊢;have f07:Fr (λb=>ao b=5) h h7:=(f34.mono λ_ _ x=>x.elim).trans f7 λ_ _ x=>x;have s1:=X.sc;have tl:=X.own.lt;have nt:¬ao r.tb=5:=oX;refine bz.FE (Ck (f07.own tl nt X.own) ((f07.rd tl nt).trans X.cell) λh8 d8=>?_);obtain⟨F',f,g,y⟩:=X.shut hF f07 ⟨λb hb=>g7.old b oX,g7.lt⟩ A7 d8;exact hK h8 F' f g y
end Tm
namespace Rx
open Hp W Ad Tm Spc Re
theorem afg{D:NP}(hk:k≠0)(g:Gw h (λb=>ao b=k) h' D)(wA:∀ b,h.size<=b->ao b=0) :
  ∃aB:Nat->Nat,Ag h.size ao aB/\(∀b,h'.size<=b->h.size<=h'.size->aB b=0)/\(∀b,aB b=k↔D b)/\∀b,h.size<=b->aB b=0∨aB b=k:=by
 obtain⟨aB,k1,k2⟩:∃aB:Nat->Nat,(∀b,D b->aB b=k)/\∀b,¬D b->aB b=if b<h.size/\ao b≠k then ao b else 0:=
  ⟨λb=>@ite _ (D b) (Classical.propDecidable _) k (if b<h.size/\ao b≠k then ao b else 0),λb x=>if_pos x,λb x=>if_neg x⟩
 have old:∀b,b<h.size->aB b=ao b:=λb hb=>by
  by_cases x:D b
  ·rw[k1 b x];exact((g.old b hb).mp x).symm
  ·have:ao b≠k:=λe=>x ((g.old b hb).mpr e);rw[k2 b x,if_pos ⟨hb,this⟩]
 refine⟨aB,old,λb hb hs=>?_,λb=>⟨λe=>?_,k1 b⟩,λb hb=>?_⟩
 ·have x:¬D b:=λx=>by have:=g.lt b x;omega
  rw[k2 b x,if_neg oX]
 ·by_cases x:D b
  ·exact x
  ·rw[k2 b x]at e
   split at e
   ·rename_i y;exact absurd e y.2
   ·exact absurd e.symm hk
 ·by_cases x:D b
  ·exact .inr (k1 b x)
  ·rw[k2 b x,if_neg oX];exact .inl rfl
theorem IE.DJ{R:RR}{M:RM}{S:RD}{D:NP}(X:IE h ao R M)(f:Fr (λb=>ao b=3) h h')(g:Gw h (λb=>ao b=3) h' D)(A:Rf.tj h' D R.q S) :
  ∃aB,Ag h.size ao aB/\(∀b,h.size<=b->aB b=0∨aB b=3)/\(∀b,h'.size<=b->aB b=0)/\IE h' aB R { M with cB:=S }:=by
 obtain⟨aB,old,Xx,three,new⟩:=afg (k:=3) dX g X.wA;have s1:=X.rc;have tl:=X.ro.lt;have hs:=f.size;refine⟨aB,old,new,λb hb=>Xx b hb hs,λb hb=>Xx b hb hs,(old _ tl).trans s1,f.own tl oX X.ro,(f.rd tl oX).trans X.rr,aaC A three,?_,X.rm⟩;refine(Bg (X.row.fr f λb _ hk y=>by have hk:ao b=4:=hk;omega)).mono λb hb=>?_;have h1:ao b=4:=hb.1;show aB b=4
 rcases rI b h.size with y|y
 ·rw[old b y];exact h1
 ·have:=X.wA b y;omega
theorem IE.gw{aB:Nat->Nat}(hF:∀ b,F b↔1<=ao b/\ao b<=4)(old:Ag h.size ao aB)(Xx:∀ b,h'.size<=b->aB b=0):Gw h F h' λb=>1<=aB b/\aB b<=4:=by
 refine⟨λb hb=>by rw[old b hb];exact(hF b).symm,λb hb=>?_⟩
 rcases rI b h'.size with y|y
 ·exact y
 ·rw[Xx b y]at hb;omega
theorem IE.ended{R:RR}{M:RM}(X:IE h ao R M)(d:xN R.rb h h' [vP R.q,vS R.ra M.row.length R.rc,.bool true]):IE h' ao R { M with ends:=true }:=by
 have s1:=X.rc;have z:=d.size;refine⟨λb hb=>X.wA b oX,s1,d.own,d.rd,X.dk.fr d.fr λb y e=>?_,X.row.fr d.fr λb _ y e=>?_,X.rm⟩
 ·have y:ao b=3:=y;have e:b=R.rb:=e;rw[e]at y;omega
 ·have y:ao b=4:=y;have e:b=R.rb:=e;rw[e]at y;omega
theorem lG.afh{D:NP}{S:RD}(x:Rf.tj h D q S)
  (hK:∀F h',Fr No h h'->lG h' F (some (bA h)) q ⟨S,[],[],false⟩->(∀b,F b↔D b∨b=h.size)->K (vP (some (bA h))) h'):C.iz q h K:=
 A1 x λF h' f x' e=>hK F h' f ⟨_,aaB S,x'⟩ e
theorem lG.DJ{h:ad}{F:NP}{r e:OA}{T:TM}(x:lG h F r e T):∃D,Rf.tj h D e T.cB/\(∀b,D b->F b)/\
  ∀h' D' S,Fr D h h'->Gw h D h' D'->Rf.tj h' D' e S->S.aE.length=T.N->∃F',Gw h F h' F'/\lG h' F' r e { T with cB:=S }:=by
 obtain⟨M,s,ao,R,rfl,rfl,X,hF⟩:=x;refine⟨_,by rw[<-s.dk];exact X.dk,λb y=>(hF b).mpr (by have y:ao b=3:=y;omega),λh' D' S f g A hN=>?_⟩;obtain⟨aB,old,new,Xx,X'⟩:=X.DJ f g A;exact⟨_,IE.gw hF old Xx,_,s.DJ hN,aB,R,rfl,rfl,X',λb=>yC⟩
theorem Oi{T:TM}(x:lG h F r e T)
  (hK:∀h',Fr F h h'->lG h' F r e (TM.ended T.cB)->K (.tuple #[]) h'):C.dO r h K:=by
 obtain⟨M,s,ao,R,rfl,rfl,X,hF⟩:=x;have s1:=X.rc;refine dO.ok (os (bD.add X.ro (by rw[X.rr];show 0+2<3;omega) λh2 d2=>?_));rw[X.rr]at d2;have X2:=X.ended d2;have s2:=s.over (S:=T.cB) rfl;rw[<-s.dk]at s2;refine hK h2 (d2.fr.mono λb _ y=>(hF b).mpr (by have y:b=R.rb:=y;rw[y];omega)) ⟨_,?_,ao,R,rfl,rfl,X2,hF⟩;rw[<-s.dk];exact s2
theorem xI.keys{T:TM}{M:RM}(s:xI T M)(hl:T.over=false){i:Int}(hi:i ∈ M.written):∃b,nN M.row i=some b/\(i,b)∈M.row:=by
 unfold RM.written at hi;rw[s.ends,hl,if_neg (by simp),Bn]at hi
 cases e:nN M.row i with
 | none=>rw[e]at hi;exact absurd hi.2.2 (by simp)
 | some b=>exact⟨b,rfl,CL rfl e⟩
theorem xI.jv{T:TM}{M:RM}(s:xI T M)(hl:T.over=false):T.jv=(TM.ended (Wc.Dn T.cB T.blocks).1,(Wc.Dn T.cB T.blocks).2):=by
 unfold TM.jv;rw[hl,if_neg (by simp)]
 split
 ·rename_i e;have hw:T.written=[]:=by unfold TM.written;rw[e];exact SC
  have:T.blocks=[]:=by unfold TM.blocks;rw[hw];rfl
  rw[this];have:Wc.Dn T.cB []=(T.cB,0):=if_pos rfl;rw[this]
 ·rfl
theorem xI.may{T:TM}{M:RM}(s:xI T M)(hl:T.over=false):Wc.Dm T.blocks (T.N:Int)=true:=by
 have hw:(T.written).Pairwise (· < ·):=by rw[s.written];unfold RM.written;rw[s.ends,hl,if_neg (by simp)];exact Kb _ _
 have hr:∀x∈T.written,97<x/\x<T.N:=λx hx=>by
  rw[s.written]at hx;obtain⟨b,_,hb⟩:=s.keys hl hx;have:=s.rr _ hb;simp only at this;omega
 have fst:T.blocks.map (·.1)=T.written:=by
  unfold TM.blocks;rw[qJ];exact List.map_id'' (λ_=>rfl) _
 have len:T.blocks.length=T.put.length:=by
  unfold TM.blocks TM.written;rw[aP,CM,aP]
 unfold Wc.Dm;rw[fst,SJ T.written 97 hw hr,len,decide_eq_true (by have:=s.most hl;omega)];rfl
theorem xI.block{T:TM}{M:RM}(s:xI T M)(hl:T.over=false):T.blocks=M.written.map λi=>(i,(nN M.row i).getD []):=by
 unfold TM.blocks;rw[s.written];exact Fu λi _=>by rw[s.now hl]
theorem tf{T:TM}(x:lG h F r e T)(ht:T.cB.tape.length<100000000)(hW:(Wc.Dn T.cB T.blocks).1.aE.length=T.N)
  (hK:∀h' F',Fr F h h'->Gw h F h' F'->lG h' F' r e T.jv.1->K (vI T.jv.2) h'):C.eE r h K:=by
 have bV:=λb hb=>x.lt (b:=b) hb;obtain⟨M,s,ao,R,rfl,rfl,X,hF⟩:=x;have s1:=X.rc;refine eE.ok (os ⟨_,aZ X.rr rfl,?_⟩)
 cases hl:T.over with
 | true=>
  have e0:T.jv=(T,61):=by unfold TM.jv;rw[hl,if_pos rfl]
  rw[e0]at hK;rw[s.ends,hl];exact ct rfl (hK h F (Fr.refl _ _) (Gw.refl (bE _) bV) ⟨M,s,ao,R,rfl,rfl,X,hF⟩)
 | false=>
 rw[s.jv hl]at hK;rw[s.ends,hl];refine cf rfl (vQ X λwa wc h2 f2 sw=>⟨_,_,_,rfl,?_⟩);have z2:=f2.size;have X2:=X.keep f2 λ_ _ _ _ y=>y;have wl96:M.written.length<=96:=by rw[s.many];exact s.most hl
 have rm:=X.rm
 refine⟨λla ll lc m hh=>∃(rs:Wc.Rs) (G:NP),m=(List.length rs:Int)/\rs.length<=M.written.length/\rs.length=ll/\Fr No h2 hh/\Wc.Row h2.size hh G 2 la rs.length lc (rs.flatMap Wc.mz)/\Wc.nb rs=(M.written.take rs.length).map (λi=>(i,(nN M.row i).getD []))/\
   ∀r∈rs,av hh r.2.1.a r.2.1.l r.2.2/\∀p,r.2.1.a=some p->h2.size<=p.block/\p.block<hh.size/\¬G p.block,λ_ _ _ m _=>((M.written.length:Int)-m).toNat,
  ⟨[],No,rfl,bN _,rfl,Fr.refl _ _,Wc.Row.nil _ _ _,rfl,λr hr=>by cases hr⟩,?_⟩
 rintro la _ lc _ h3 ⟨rs,G,rfl,hi,rfl,f3,RG,en,ok⟩;have z3:=f3.size;refine cd (λbV=>?_) λbV=>?_
 ·have tK:rs.length<M.written.length:=oX;obtain⟨p,ep,cp⟩:=Hd.my (ns:=M.written) (ak.fr f3 sw.cells λ_ _ y=>y) tK;obtain⟨b,eb,mb⟩:=s.keys hl (ff tK);have hb:=(s.rr _ mb).2.2;have hb:b.length=512:=hb;have X3:=X2.keep f3 λ_ _ _ _ y=>y;rw[cA,wq ((rs.length:Int)+1)];refine⟨⟨oX,bV⟩,Rz.oe ep ⟨_,cp,os ⟨_,_,_,aZ X3.rr rfl,CN X3 λn3 ha=>⟨_,rfl,aZ X3.rr rfl,?_⟩⟩⟩⟩
  rcases ha with⟨_,y⟩|⟨k,hk,rfl,ek⟩
  ·rw[eb]at y;cases y
  have ebk:M.row[k].2=b:=by rw[eb]at ek;exact(Option.some.inj ek).symm
  obtain⟨p2,ep2,cc2⟩:=X3.oL hk;rw[cA];refine⟨⟨oX,oX⟩,Rz.oe ep2 ⟨_,ai.cell cc2 (i:=1) rfl,?_⟩⟩;rw[ebk];refine HE λcap h5 f5 s5=>⟨rfl,?_⟩;have z5:h3.size<h5.size:=s5.lt;have R5:=RG.keep f5 λ_ _ y=>y;refine Wc.zA R5 (vs:=Wc.mz (M.written[rs.length],⟨some (bA h3),b.length,cap⟩,b)) rfl (Wc.mQ _) rfl rfl dX oX oX λla' lc' h7 G7 f7 g7 R7=>?_;have z7:=f7.size;have el:(rs++[((M.written[rs.length]:Int),(⟨some (bA h3),b.length,cap⟩:Tm.Sc),b)]:Wc.Rs).length=rs.length+1:=by rw[bg];rfl
  have nG:∀{p:Addr},h2.size<=p.block->p.block<h5.size->¬G p.block->¬G7 p.block:=fun {p} _ xR L6 y=>by
   rcases g7 _ y with w|w
   ·exact L6 w
   ·omega
  refine⟨⟨rs++[((M.written[rs.length]:Int),(⟨some (bA h3),b.length,cap⟩:Tm.Sc),b)],G7,by rw[el];rfl,oX,el,(f3.no f5).trans f7 λx hx y=>by have:=(R5.ge x y).1;omega,?_,?_,λr hr=>?_⟩,bW bV⟩
  ·rw[el,iy];simp only[qO,Ar,gi];exact R7
  ·rw[el,eY _ _ tK,eT,<-en];unfold Wc.nb;rw[eT,lI,HC,lI,HC,eb];rfl
  ·rcases nB.mp hr with hr|hr
   ·obtain⟨B,O⟩:=ok r hr;refine⟨av.fr f7 (av.fr f5 B λ_ _ y=>y) λp e=>(O p e).2.2,λp e=>?_⟩;obtain⟨o1,o2,o3⟩:=O p e;exact⟨o1,oX,nG o1 oX o3⟩
   ·rw[kU.mp hr];have o3:¬G h3.size:=λy=>by have:=(RG.ge _ y).2;omega
    refine⟨av.fr f7 s5.str λp e=>by cases e;exact o3,λp e=>?_⟩
    cases e
    exact⟨z3,by show h3.size<h7.size;omega,nG (p:=(bA h3)) z3 z5 o3⟩
 ·have ei:rs.length=M.written.length:=oX;rw[ei,mZ,<-s.block hl]at en;have X3:=X2.keep f3 λ_ _ _ _ y=>y;refine os (bD.add X3.ro (by rw[X3.rr];show 0+2<3;omega) λh8 d8=>?_);rw[X3.rr]at d8;have X8:=X3.ended d8;have z8:=d8.size;have nr:∀{p:Addr},h2.size<=p.block->¬p.block=R.rb:=fun {p} hp y=>by have:=X.ro.lt;omega
  have b8:Wd.Bx h8 la rs:=⟨ak.fr d8.fr RG.s.cells λp e=>by
   have sg:=RG.s;subst e
   exact nr (RG.ge _ sg.2.2.1).1,λr hr=>av.fr d8.fr (ok r hr).1 λp e=>nr ((ok r hr).2 p e).1⟩
  have h5:∀r∈rs,r.2.2.length=512/\98<=r.1/\r.1<T.N:=λr hr=>by
   have hm:(r.1,r.2.2)∈Wc.nb rs:=jc.mpr ⟨r,hr,rfl⟩;rw[en,s.block hl]at hm;obtain⟨i,hi,ei⟩:=jc.mp hm;obtain⟨b,eb,mb⟩:=s.keys hl hi;rw[eb]at ei;have:=s.rr _ mb;simp only[Prod.mk.injEq,Option.getD_some]at ei this;rw[<-ei.1,<-ei.2];exact⟨this.2.2,this.1,this.2.1⟩
  have aiM:=X.max;rw[s.N]at aiM
  have mayE:Wc.Dm (Wc.nb rs) (M.cB.aE.length:Int)=true:=by
   rw[en,s.dk];exact s.may hl
  refine os ⟨_,aZ d8.rd rfl,Wd.LS X8.dk b8 (λr hr p e _ y=>?_) (λ_=>mayE) (λr hr=>(h5 r hr).1) (λr hr=>by have:=(h5 r hr).2;omega) (by show M.cB.tape.length<_;rw[s.dk];exact ht) λh9 E9 f9 g9 x9=>⟨_,rfl,?_⟩⟩
  ·have y:ao p.block=3:=y;have:=X.wA p.block (by have:=((ok r hr).2 p e).1;omega);omega
  have x9:Rf.tj h9 E9 R.q (Wc.Dn M.cB (Wc.nb rs)).1:=x9;show K (vI (Wc.Dn M.cB (Wc.nb rs)).2) h9;rw[en,s.dk]at x9 ⊢;obtain⟨aB,old,new,Xx,X9⟩:=X8.DJ f9 g9 x9;have f8:Fr F h h8:=(((f2.no f3).mono λ_ _ y=>y.elim).trans d8.fr λb _ y=>(hF b).mpr (by have y:b=R.rb:=y;rw[y];omega));refine hK h9 _ (f8.trans f9 λb _ y=>(hF b).mpr (by have y:ao b=3:=y;omega)) (IE.gw hF (λb hb=>old b oX) Xx) ⟨_,s.over hW,aB,R,rfl,rfl,X9,λb=>yC⟩
end Rx
namespace Wc
open Hp W Ad
structure Cn(B:Int)(S:RD):Prop where
 w0:0<=S.writes
 w1:S.writes<=B
 f0:0<=S.ax
 f1:S.ax<=B
 l0:0<=S.left
theorem Cn.mono{C:Int}{S:RD}(c:Cn B S)(h:B<=C):Cn C S:=⟨c.w0,SH c.w1 h,c.f0,SH c.f1 h,c.l0⟩
theorem SK{S:RD}{f:RD->RD}(c:Cn B S)(hf:∀ S',Cn B S'->Cn B (f S')/\(f S').aE.length=S'.aE.length):Cn B (S.step f).1/\(S.step f).1.aE.length=S.aE.length:=by
 unfold RD.step;have l0:=c.l0
 by_cases a:0<S.left
 ·rw[if_pos a]
  by_cases b:S.left-1=0
  ·rw[if_pos b];exact⟨⟨c.w0,c.w1,c.f0,c.f1,th _⟩,iq _ _⟩
  ·rw[if_neg b];exact hf { S with left:=S.left-1 } ⟨c.w0,c.w1,c.f0,c.f1,by show 0<=S.left-1;omega⟩
 ·rw[if_neg a];exact hf S c
theorem aiZ{S:RD}(s:PG)(c:Cn B S)(hB:B<1000000000):Cn (B+1) (s.on S).1/\(s.on S).1.aE.length=S.aE.length:=by
 have no:Cn (B+1) S/\S.aE.length=S.aE.length:=⟨c.mono oX,rfl⟩;have w0:=c.w0;have w1:=c.w1;have f0:=c.f0;have f1:=c.f1
 cases s with
 | w i b=>
  show Cn (B+1) (S.write i b).1/\(S.write i b).1.aE.length=_;unfold RD.write
  split
  ·exact no
  ·split
   ·exact no
   ·split
    ·exact no
    ·refine SK (S:=S.rk i b) ⟨?_,?_,c.f0,by show S.ax<=_;omega,c.l0⟩ λS' h=>⟨h,rfl⟩
     ·show 0<=wI (S.writes+1);rw[wrap_i64 oX oX];omega
     ·show wI (S.writes+1)<=_;rw[wrap_i64 oX oX];omega
 | f=>
  show Cn (B+1) S.flush.1/\S.flush.1.aE.length=_;unfold RD.flush
  split
  ·exact no
  ·refine SK (S:={ S with ax:=wI (S.ax+1) }) ⟨c.w0,by show S.writes<=_;omega,?_,?_,c.l0⟩ λS' h=>⟨⟨h.w0,h.w1,h.f0,h.f1,h.l0⟩,iq _ _⟩
   ·show 0<=wI (S.ax+1);rw[wrap_i64 oX oX];omega
   ·show wI (S.ax+1)<=_;rw[wrap_i64 oX oX];omega
theorem SL : ∀(xs:List PG) {S:RD} {B:Int},Cn B S->B+xs.length<1000000000->Cn (B+xs.length) (qj xs S).1/\(qj xs S).1.aE.length=S.aE.length
 | [],S,B,c,_=>⟨c.mono oX,rfl⟩
 | s::r,S,B,c,hB=>by
  rw[pA]at hB ⊢;obtain⟨a,b⟩:=aiZ s c oX
  have e:qj (s::r) S=if(s.on S).2=0 then qj r (s.on S).1 else s.on S:=rfl
  rw[e]
  split
  ·obtain⟨c2,d⟩:=SL r a oX;exact⟨c2.mono oX,d.trans b⟩
  ·exact⟨a.mono oX,b⟩
theorem afi{S:RD}(c:Cn B S)(hB:B+198<1000000000)(l:Nb):Cn (B+198) (Dn S l).1/\(Dn S l).1.aE.length=S.aE.length:=by
 have no:Cn (B+198) S/\S.aE.length=S.aE.length:=⟨c.mono oX,rfl⟩;unfold Dn
 split
 ·exact no
 ·split
  ·exact no
  ·rename_i hm;have:=GU (l:=l) (n:=S.aE.length) (by cases e:Dm l S.aE.length <;> simp_all)
   split
   ·exact no
   ·split
    ·exact no
    ·have hl:=yL l (pj l);obtain⟨a,b⟩:=SL (ru l (pj l)) c (by rw[hl];omega);rw[hl]at a;exact⟨a.mono oX,b⟩
theorem Cn.new(L:List LB):Cn 0 (fresh L):=⟨th _,th _,th _,th _,th _⟩
end Wc
namespace Tp
open Hp W Ad Tm
def Kp(P:ad->(NP)->Prop):Prop:=(∀{h h' F G},P h F->Fr G h h'->(∀b,F b->¬G b)->P h' F)/\∀{h F b},P h F->F b->b<h.size
theorem rD(t d:OA)(T:TM):Kp λh F=>Tx h F t d T:=⟨λx f hG=>x.fr f hG,λx hb=>x.lt hb⟩
theorem tz(u q:OA)(T:TM):Kp λh F=>Rx.lG h F u q T:=⟨λx f hG=>x.fr f hG,λx hb=>x.lt hb⟩
theorem acv(d:OA)(S:RD):Kp λh F=>dD h F d S:=⟨λx f hG=>x.fr f hG,λx hb=>x.lt hb⟩
theorem SM(q:OA)(S:RD):Kp λh F=>Rf.tj h F q S:=⟨λx f hG=>x.fr f hG,λx hb=>x.lt hb⟩
noncomputable def more(ao:Nat->Nat)(n k:Nat)(F:NP):Nat->Nat:=λb=>if b<n then ao b else @ite _ (F b) (Classical.propDecidable _) k 0
theorem SN(ao:Nat->Nat)(n k:Nat)(F:NP):Ag n ao (more ao n k F):=λb hb=>if_pos hb
theorem Oj{b:Nat}(h:n<=b)(hF:F b):more ao n k F b=k:=by unfold more;rw[if_neg oX,if_pos hF]
theorem SO{b:Nat}(h:n<=b)(hF:¬ F b):more ao n k F b=0:=by unfold more;rw[if_neg oX,if_neg hF]
theorem Ol{T:TM}(x:Rx.lG h F u q T):T.put.length<=96:=by
 obtain⟨M,s,_⟩:=x
 cases hl:T.over with
 | true=>rw[(s.gone hl).1];exact bN _
 | false=>exact s.most hl
theorem sI(T:TM)(i:Int)(bs:cC):(T.write i bs).1.cB=T.cB/\(T.write i bs).1.aD.length<=T.aD.length+1:=by
 unfold TM.write
 split
 ·exact⟨rfl,qw _⟩
 ·split
  ·exact⟨rfl,qw _⟩
  ·split
   ·exact⟨rfl,qw _⟩
   ·split
    ·exact⟨rfl,qw _⟩
    ·exact⟨rfl,by show(T.aD++[_]).length<=_;rw[bg];exact bE _⟩
theorem wK(T:TM)(m:Int):(T.back m).1.cB=T.cB/\(T.back m).1.aD.length<=T.aD.length+1:=by
 unfold TM.back
 split
 ·exact⟨rfl,qw _⟩
 ·split
  ·exact⟨rfl,qw _⟩
  ·exact⟨rfl,by show(T.aD.take m.toNat).length<=_;rw[dL];omega⟩
end Tp
namespace Sx
open Hp W Ad Tm Spc Av Tp
structure Sx(h1:ad)(sb:Nat)(vs:LV)(P Q:ad->(NP)->Prop)(hh:ad)(ao:Nat->Nat):Prop where
 fr:Fr No h1 hh
 wA:∀b,hh.size<=b->ao b=0
 base:∀b,b<h1.size->ao b=0
 sc:ao sb=1
 so:dA hh sb
 sr:rd hh sb=vs
 x:∃F,P hh F/\∀b,F b->ao b=2
 y:∃F,Q hh F/\∀b,F b->ao b=3
section
variable{h1 hh h' : ad}{sb : Nat}{vs : LV}{P Q P' Q' : ad -> (Nat -> Prop) -> Prop}{ao aB : Nat -> Nat}
theorem Sx.Vs(X:Sx h1 sb vs P Q hh ao)(kp:Kp P)(kq:Kp Q){F:NP}(f:Fr F hh h')(g:Ag hh.size ao aB)(n:∀ b,h'.size<=b->aB b=0)(h0:∀ b,F b->(ao b=0∨4<=ao b)/\h1.size<=b):Sx h1 sb vs P Q h' aB:=by
 obtain⟨G,p,pG⟩:=X.x;obtain⟨E,q,qE⟩:=X.y;have l:=X.so.lt;have sc:=X.sc;have ns:¬F sb:=λy=>by have:=(h0 _ y).1;omega
 exact⟨X.fr.trans f λb hb y=>by have:=(h0 _ y).2;omega,n,λb hb=>(g b (mV hb X.fr.size)).trans (X.base b hb),(g _ l).trans sc,f.own l ns X.so,(f.rd l ns).trans X.sr,⟨G,kp.1 p f (λb y z=>by have:=pG _ y;have:=(h0 _ z).1;omega),λb hb=>(g _ (kp.2 p hb)).trans (pG b hb)⟩,⟨E,kq.1 q f (λb y z=>by have:=qE _ y;have:=(h0 _ z).1;omega),λb hb=>(g _ (kq.2 q hb)).trans (qE b hb)⟩⟩
theorem Sx.no(X:Sx h1 sb vs P Q hh ao)(kp:Kp P)(kq:Kp Q)(f:Fr No hh h'):Sx h1 sb vs P Q h' ao:=X.Vs kp kq f (Ag.refl _ _) (λb hb=>X.wA b (k9 f.size hb)) λ_ y=>y.elim
theorem Sx.prog(X:Sx h1 sb vs P Q hh ao)(kq:Kp Q){F F':NP}(pF:∀ b,F b->ao b=2)(f:Fr F hh h')(g:Gw hh F h' F')(p:P' h' F'):∃aB,Ag hh.size ao aB/\Sx h1 sb vs P' Q h' aB:=by
 obtain⟨G,q,qG⟩:=X.y;have l:=X.so.lt;have ag:=SN ao hh.size 2 F';have ns:¬F sb:=λy=>by have:=pF _ y;have:=X.sc;omega
 have hs:=f.size;refine⟨more ao hh.size 2 F',ag,⟨X.fr.trans f λb hb y=>?_,λb hb=>SO oX λy=>?_,λb hb=>(ag b (mV hb X.fr.size)).trans (X.base b hb),(ag _ l).trans X.sc,f.own l ns X.so,(f.rd l ns).trans X.sr,⟨F',p,λb hb=>?_⟩,⟨G,kq.1 q f (λb y z=>?_),λb hb=>(ag _ (kq.2 q hb)).trans (qG b hb)⟩⟩⟩
 ·have:=pF _ y;have:=X.base b hb;omega
 ·have:=g.lt b y;omega
 ·rcases rI b hh.size with y|y
  ·rw[ag b y];exact pF b ((g.old b y).mp hb)
  ·exact Oj y hb
 ·have:=qG _ y;have:=pF _ z;omega
theorem Sx.doc(X:Sx h1 sb vs P Q hh ao)(kp:Kp P){F F':NP}(pF:∀ b,F b->ao b=3)(f:Fr F hh h')(g:Gw hh F h' F')(p:Q' h' F'):∃aB,Ag hh.size ao aB/\Sx h1 sb vs P Q' h' aB:=by
 obtain⟨G,q,qG⟩:=X.x;have l:=X.so.lt;have ag:=SN ao hh.size 3 F';have ns:¬F sb:=λy=>by have:=pF _ y;have:=X.sc;omega
 have hs:=f.size;refine⟨more ao hh.size 3 F',ag,⟨X.fr.trans f λb hb y=>?_,λb hb=>SO oX λy=>?_,λb hb=>(ag b (mV hb X.fr.size)).trans (X.base b hb),(ag _ l).trans X.sc,f.own l ns X.so,(f.rd l ns).trans X.sr,⟨G,kp.1 q f (λb y z=>?_),λb hb=>(ag _ (kp.2 q hb)).trans (qG b hb)⟩,⟨F',p,λb hb=>?_⟩⟩⟩
 ·have:=pF _ y;have:=X.base b hb;omega
 ·have:=g.lt b y;omega
 ·have:=qG _ y;have:=pF _ z;omega
 ·rcases rI b hh.size with y|y
  ·rw[ag b y];exact pF b ((g.old b y).mp hb)
  ·exact Oj y hb
theorem Sx.did{ws:LV}(X:Sx h1 sb vs P Q hh ao)(kp:Kp P)(kq:Kp Q)(d:xN sb hh h' ws):Sx h1 sb ws P Q h' ao:=by
 obtain⟨F,p,pF⟩:=X.x;obtain⟨G,q,qG⟩:=X.y;have sc:=X.sc;have z:=d.size;refine⟨X.fr.trans d.fr λb hb y=>?_,λb hb=>X.wA b oX,X.base,sc,d.own,d.rd,⟨F,kp.1 p d.fr (λb y e=>?_),pF⟩,⟨G,kq.1 q d.fr (λb y e=>?_),qG⟩⟩
 ·have y:b=sb:=y;have:=X.base b hb;rw[y]at this;omega
 ·have e:b=sb:=e;have:=pF _ y;rw[e]at this;omega
 ·have e:b=sb:=e;have:=qG _ y;rw[e]at this;omega
theorem Sx.map(X:Sx h1 sb vs P Q hh ao)(hp:∀ F,P hh F->∃ F',P' hh F'/\∀ b,F' b->F b)(hq:∀ F,Q hh F->∃ F',Q' hh F'/\∀ b,F' b->F b):Sx h1 sb vs P' Q' hh ao:=by
 obtain⟨F,p,pF⟩:=X.x;obtain⟨G,q,qG⟩:=X.y;obtain⟨F',p',e1⟩:=hp F p;obtain⟨G',q',e2⟩:=hq G q;exact⟨X.fr,X.wA,X.base,X.sc,X.so,X.sr,⟨F',p',λb hb=>pF b (e1 b hb)⟩,⟨G',q',λb hb=>qG b (e2 b hb)⟩⟩
end
def sxV(d q t u:OA)(g:G):LV:=[vP d,vP q,vP t,vP u]++g.v
abbrev Xd(h1:ad)(sb:Nat)(d q t u:OA)(g:G)(S:RD):=Sx h1 sb (sxV d q t u g) (λh F=>dD h F d S) (λh F=>Rf.tj h F q S)
abbrev Xt(h1:ad)(sb:Nat)(d q t u:OA)(g:G)(T U:TM):=Sx h1 sb (sxV d q t u g) (λh F=>Tx h F t d T) (λh F=>Rx.lG h F u q U)
theorem acw{h1 hh:ad}{sb:Nat}{g:G}{T:TM}(X:Xt h1 sb d q t u g T T hh ao):Xd h1 sb d q t u g T.cB hh ao:=
 X.map (λF x=>by obtain⟨D,a,b⟩:=x.dk;exact⟨D,a,b⟩) λF x=>by obtain⟨D,a,b,_⟩:=x.DJ;exact⟨D,a,b⟩
end Sx
namespace Sx
open Hp W Ad Tm Bt Spc Av Tp
structure Iw(c U n:Nat)(T:TM):Prop where
 cn:Wc.Cn (200*(c:Int)) T.cB
 tp:T.cB.tape.length<=200*c
 pe:T.cB.bS.length<=200*c
 un:T.aD.length<=U
 n:T.N=n
theorem Iw.le{c' U':Nat}{T:TM}(i:Iw c U n T)(h:c<=c')(hU:U<=U'):Iw c' U' n T:=⟨i.cn.mono oX,by have:=i.tp;omega,by have:=i.pe;omega,by have:=i.un;omega,i.n⟩
theorem Iw.same{T T':TM}(i:Iw c U n T)(h:T'.cB=T.cB/\T'.aD.length<=T.aD.length+k):Iw c (U+k) n T':=by
 have hn:T'.N=T.N:=by unfold TM.N;rw[h.1]
 exact⟨by rw[h.1];exact i.cn,by rw[h.1];exact i.tp,by rw[h.1];exact i.pe,by have:=i.un;omega,hn.trans i.n⟩
theorem Iw.new{L:List LB}{n:Nat}(hn:L.length=n):Iw 0 0 n ⟨fresh L,[],[],false⟩:=⟨(Wc.Cn.new L).mono oX,bN _,bN _,bN _,hn⟩
theorem Iw.jv{c U n:Nat}{T:TM}(i:Iw c U n T)(hc:c<200000){h:ad}{F:NP}{u q:OA}(x:Rx.lG h F u q T):Iw (c+1) U n T.jv.1/\(Wc.Dn T.cB T.blocks).1.aE.length=T.N:=by
 have w:=Wc.afi i.cn oX T.blocks;have l:=Wc.Θ T.cB T.blocks;have tp:=i.tp;have pe:=i.pe;refine⟨?_,w.2⟩
 cases hl:T.over with
 | true=>
  have e0:T.jv=(T,61):=by unfold TM.jv;rw[hl,if_pos rfl]
  rw[e0];exact i.le oX (bE _)
 | false=>
  obtain⟨M,s,y⟩:=x;rw[s.jv hl];refine⟨w.1.mono oX,?_,?_,bN _,w.2.trans i.n⟩
  ·show(Wc.Dn T.cB T.blocks).1.tape.length<=_;omega
  ·show(Wc.Dn T.cB T.blocks).1.bS.length<=_;omega
section
variable{h1 hh : ad}{sb n c U : Nat}{d q t u : OA}{g : G}{T : TM}{ao : Nat -> Nat}{K : Value -> ad -> Prop}
theorem fC{P Q:ad->(NP)->Prop}(X:Sx h1 sb (sxV d q t u g) P Q hh ao):ai hh (Addr.add ⟨sb,0,none⟩ 4) g.v:=ai.part (ah X.sr) 4 5
end
end Sx
namespace Rx
open Hp W Ad Tm Spc Re Ino
open Hd (ints)
open In (rG qH ng tH uN aO aj Cs sQ iJ oI vu jT)
theorem rv : ∀(ys:LV) (X:LV) (o:Nat) (y:Value),put X o (ys++[y])=(put X o ys).set (o+ys.length) y
 | [],X,o,y=>rfl
 | a::r,X,o,y=>by
  show put (X.set o a) (o+1) (r++[y])=(put (X.set o a) (o+1) r).set _ y;rw[rv r,pA,show o+1+r.length=o+(r.length+1) by omega]
theorem vw{g:G}{n:Int}(ok:yP g)
  (hK:∀h',Fr No h h'->K (if 1<=n/\n<g.count then .tuple #[vI (pt g n),vI (rat n),vI 0]else .tuple #[vI 0,vI 0,vI 110]) h'):C.dS g.v n h K:=by
 have c1:=ok.c;have c2:=ok.ok.i;refine dS.ok (aC.intro λh2 n2=>?_);have hK:=hK h2 n2.fr;refine cd (λy=>?_) λy=>⟨_,aZ n2.rd rfl,cd (λy2=>?_) λy2=>?_⟩
 ·rw[if_neg oX]at hK;exact hK
 ·rw[if_neg oX]at hK;exact hK
 ·rw[if_pos oX]at hK;unfold dS.k1;refine⟨_,aZ n2.rd rfl,?_⟩;have e1:Int.tdiv n 8=n/8:=nL oX;have e2:Int.tmod n 8=n%8:=rL oX;rw[e1,e2,wq (n/8),wq ((g.eO:Int)+n/8),wq (n%8*64)];have e3:n%8*64=((rat n:Nat):Int):=by unfold rat;omega
  have e4:(g.eO:Int)+n/8=pt g n:=by unfold pt;omega
  rw[e3,e4];exact hK
theorem Hj{T:TM}{g:G}{n:Int}(x:lG h F r e T)(ok:yP g)
  (hK:∀h',Fr No h h'->K (.tuple #[.agg ⟨ints (getM T g n).1⟩,vI (getM T g n).2]) h'):C.lJ r g.v n h K:=by
 have ha:=LD n;refine lJ.ok (aC.intro λxR n2=>aC.intro λh3 n3=>⟨g.v,rfl,ah ((n3.at_ n2.own.lt).trans n2.rd),vw ok λh4 f4=>?_⟩);have s2:=n2.size;have s3:=n3.size;have f3:Fr No h h3:=n2.fr.new n3;have F4:=f3.no f4;have z4:=f4.size
 have row:∀{h':ad},Fr No h4 h'->dA h' xR.size/\(rd h' xR.size).length=15:=λf'=>by
  have f34:Fr No h3 _:=f4.no f';exact⟨f34.own n3.own.lt (λy=>y) n3.own,by rw[f34.rd n3.own.lt λy=>y,n3.rd];rfl⟩
 by_cases hn:1<=n/\n<g.count
 ·have e0:getM T g n=if(T.read (pt g n)).2≠0 then(rG,(T.read (pt g n)).2)else tH (((T.read (pt g n)).1.drop (rat n)).take 64):=by unfold getM;rw[if_neg (λy=>y hn)]
  rw[e0]at hK;rw[if_pos hn];refine⟨_,_,_,rfl,cn (λy=>absurd rfl y) λ_=>dv (x.no F4) λa l c h6 f6 hl s6=>⟨_,_,_,_,rfl,cn (λhe=>?_) λhe=>?_⟩⟩
  ·rw[if_pos he]at hK;obtain⟨w,OS⟩:=row f6;exact jT (h3:=h) (F4.no f6) oX w OS hK
  ·rw[if_neg (λy=>y he)]at hK;have hlen:(T.read (pt g n)).1.length=512:=x.lv he;have hc:=s6.le;rw[wrap_i64 oX oX];refine⟨⟨oX,oX,oX⟩,?_⟩;have B6:=av.cut s6.str hc (i:=(rat n:Int).toNat) (j:=((rat n:Int)+64).toNat) oX oX;rw[show((rat n:Int)+64).toNat-(rat n:Int).toNat=64 by omega]at B6 ⊢;refine In.LH B6 oX λh8 f8=>⟨_,_,rfl,?_⟩;rw[show(rat n:Int).toNat=rat n by omega];obtain⟨w,OS⟩:=row (f6.no f8);refine az.intro w (by rw[aj,oJ]) (aO _) oX λh9 d9=>⟨_,by rw[aj];exact oJ _,ah ?_,hK h9 (((F4.no f6).no f8).did d9 λhl=>oX)⟩;rw[d9.rd];exact fu _ _ (by rw[aj,oJ,OS])
 ·have e0:getM T g n=(rG,110):=by unfold getM;rw[if_pos hn]
  rw[e0]at hK;rw[if_neg hn];obtain⟨w,OS⟩:=row (Fr.refl _ _);exact⟨_,_,_,rfl,cn (λ_=>jT (h3:=h) F4 oX w OS hK) λy=>absurd (show(110:Int)=0 from y) dX⟩
theorem mw{T:TM}{g:G}{n:Int}(x:lG h F r e T)(hN:98<=T.N)(ok:yP g)(hR:R.length=15)(hu:T.aD.length<1000000000)
  (hK:∀h' F',Fr F h h'->Gw h F h' F'->lG h' F' r e (mE T g n R).1->K (vI (mE T g n R).2) h'):C.lO r g.v n (ints R) h K:=by
 have ha:=LD n
 have same:∀e h',Fr No h h'->mE T g n R=(T,e)->K (vI e) h':=λe h' f e0=>by
  rw[e0]at hK;exact hK h' F (f.mono λ_ _ y=>y.elim) (Gw.refl f.size λb hb=>x.lt hb) (x.no f)
 refine lO.ok (aC.intro λxR n2=>aC.intro λh3 n3=>⟨g.v,rfl,ah ((n3.at_ n2.own.lt).trans n2.rd),vw ok λh4 f4=>?_⟩);have s2:=n2.size;have s3:=n3.size;have F4:=(n2.fr.new n3).no f4;have z4:=f4.size
 by_cases hn:1<=n/\n<g.count
 ·rw[if_pos hn];refine⟨_,_,_,rfl,cn (λy=>absurd rfl y) λ_=>⟨ints R,by rw[aj,hR],ah ((f4.r0).trans n3.rd),In.xp hR (λhm h5 f5=>⟨_,_,_,_,rfl,cn (λ_=>?_) λy=>absurd (show(111:Int)=0 from y) dX⟩) λhm ea ec h5 f5 s5=>⟨_,_,_,_,rfl,cn (λy=>absurd rfl y) λ_=>?_⟩⟩⟩
  ·exact same _ h5 (F4.no f5) (by unfold mE;rw[if_neg (λy=>y hn),if_pos hm])
  have z5:=f5.size;have F5:=F4.no f5;refine dv (x.no F5) λa l c h6 f6 hl s6=>⟨_,_,_,_,rfl,cn (λhe=>?_) λhe=>?_⟩
  ·exact same _ h6 (F5.no f6) (by unfold mE;rw[if_neg (λy=>y hn),if_neg (by rw[hm];simp),if_pos he])
  have hlen:(T.read (pt g n)).1.length=512:=x.lv he;have e0:mE T g n R=T.write (pt g n) (kX (T.read (pt g n)).1 (rat n) (ng R)):=by unfold mE;rw[if_neg (λy=>y hn),if_neg (by rw[hm];simp),if_neg (λy=>y he)]
  rw[e0]at hK;generalize T.read (pt g n)=rd0 at hl s6 hlen hK;obtain⟨bs,er⟩:=rd0;simp only at hl s6 hlen hK;obtain⟨p,ep,_⟩:=s6.get oX;subst ep;obtain⟨pb,po,sp⟩:=p;have Xo:sp=none:=s6.2.1;subst Xo;have z6:=f6.size;have hc:=s6.le;have F6:=F5.no f6;have le:=vu hR;have Xp:h5.size<=pb:=s6.2.2.1;have e6:Sl h6 1 ea 64 ec ((ng R).map bv) (λb=>cW h4.size b/\b<h5.size):=(Bg s5).fr f6 λ_ _ _ y=>y
  refine⟨λi hh=>∃j:Nat,i=j/\j<=64/\Fr (λb=>b=pb) h6 hh/\Sl hh 1 (some ⟨pb,po,none⟩) l c (put (bs.map bv) (rat n) (((ng R).take j).map bv)) (cW h5.size),λi _=>((64:Int)-i).toNat,
   ⟨0,rfl,by decide,Fr.refl _ _,by rw[vi];exact s6⟩,?_⟩
  rintro i h7 ⟨j,rfl,hj,f7,s7⟩;have z7:=f7.size;refine cd (λYR=>?_) λYR=>?_
  ·have rA:j<(ng R).length:=oX;have s7e:=e6.fr f7 λb _ y y2=>by have y:=y.2;have y2:b=pb:=y2;omega
   obtain⟨q,eq,cc⟩:=s7e.get dX;have ew:wI ((rat n:Int)+j)=((rat n+j:Nat):Int):=(by rw[wrap_i64 oX oX];omega);have ew2:wI ((j:Int)+1)=((j+1:Nat):Int):=(by rw[wrap_i64 oX oX];omega);rw[ew,ew2,cA,cA];refine⟨⟨oX,oX⟩,oe eq ⟨((ng R)[j].toNat:Int),ai.cell cc (by rw[jH,fg rA];rfl),⟨oX,oX⟩,os ?_⟩⟩;obtain⟨w7,l7⟩:=s7.wr;refine bD.add w7 oX λh8 d8=>⟨⟨j+1,rfl,oX,f7.did d8 λ_=>rfl,?_⟩,by show((64:Int)-((j+1:Nat):Int)).toNat<((64:Int)-(j:Int)).toNat;omega⟩;rw[eY _ _ rA,eT,List.map_singleton,rv,aP,dL,xL oX];exact s7.putAt (j:=rat n+j) (new:=[bv (ng R)[j]]) (by rw[ik];omega) d8
  ·have ej:j=64:=oX;subst ej;rw[gL oX,te (by rw[hlen,le];omega)]at s7;have F7:Fr No h h7:=F6.trans f7 λb hb y=>by have y:b=pb:=y;omega
   refine fp (x.no F7) hN s7.str hu λh9 F9 f9 g9 x9=>⟨_,rfl,hK h9 F9 ((F7.mono λ_ _ y=>y.elim).trans f9 λ_ _ y=>y) ((Gw.refl F7.size λb hb=>x.lt hb).trans g9 F7.size) x9⟩
 ·rw[if_neg hn];exact⟨_,_,_,rfl,cn (λ_=>same _ h4 F4 (by unfold mE;rw[if_pos hn])) λy=>absurd (show(110:Int)=0 from y) dX⟩
end Rx
namespace Ry
open Hp W Ad Tm Spc Re Av Rx
open Hd (ints my cU jS)
open In (aj aO)
open Bm (oG tG Cm vt Cp nM kZ qz iK iI pO cM oH fT bT bR rG Co)
open Bt (vq)
theorem X1{l:cC}{o:Nat}(h:o+4<=l.length):(l.drop o).take 4=[l.getD o 0,l.getD (o+1) 0,l.getD (o+2) 0,l.getD (o+3) 0]:=by
 refine XQ (by rw[dL,jM];show min 4 _=4;omega) λi h1 h2=>?_;have h2:i<4:=h2;rw[List.getElem_take,List.getElem_drop]
 rcases(by omega:i=0∨i=1∨i=2∨i=3)with rfl|rfl|rfl|rfl <;> · rw[show ∀j,l.getD j 0=(l[j]?).getD 0 from λj=>gh ..];simp only[List.getElem_cons_zero,List.getElem_cons_succ,gh];rw[fg oX];rfl
theorem QA{b:cC}(hb:b.length=512)(hp:p<128):oG b p=(b.getD (4*p) 0).toNat+(b.getD (4*p+1) 0).toNat*256+(b.getD (4*p+2) 0).toNat*65536+(b.getD (4*p+3) 0).toNat*16777216:=by
 unfold Bm.oG;rw[X1 oX];show(b.getD (4*p) 0).toNat+256*((b.getD (4*p+1) 0).toNat+256*((b.getD (4*p+2) 0).toNat+256*((b.getD (4*p+3) 0).toNat+256*0)))=_;omega
theorem QB{bs:cC}(B:av h a l bs)(hl:bs.length=512)(hK:∀ a' c' h',Fr No h h'->Sl h' 1 a' 128 c' (ints (nM bs)) (cW h.size)->K (vS a' 128 c') h') :
  C.jE a l c h K:=by
 have el:l=512:=by rw[<-B.1];exact hl
 refine jE.ok ⟨λla ll lc i hh=>∃m:Nat,i=m/\m<=128/\ll=m/\Fr No h hh/\Sl hh 1 la m lc (ints ((nM bs).take m)) (cW h.size),λ_ _ _ i _=>((128:Int)-i).toNat,⟨0,rfl,bN _,rfl,Fr.refl _ _,Sl.nil _ _ _⟩,?_⟩;rintro la ll lc i h2 ⟨m,ei,hm,rfl,f2,s2⟩;refine cd (λbV=>?_) λbV=>?_
 ·have V3:ll<128:=oX;have B2:=av.fr f2 B λ_ _ y=>y;have cl:∀j,j<4->∃p,a=some p/\cellOf h2 (p.add (4*ll+j))=some (.int .u8 ((bs.getD (4*ll+j) 0).toNat:Int)):=λj hj=>vq B2 oX;obtain⟨p,rfl,c0⟩:=cl 0 dX;obtain⟨_,e1,c1⟩:=cl 1 dX
  cases e1
  obtain⟨_,e1,c2⟩:=cl 2 dX
  cases e1
  obtain⟨_,e1,c3⟩:=cl 3 dX
  cases e1
  rw[wq (4*i),wq (4*i+1),wq (4*i+2),wq (4*i+3)];have e0:(4*i).toNat=4*ll+0:=oX;have e1:(4*i+1).toNat=4*ll+1:=oX;have e2:(4*i+2).toNat=4*ll+2:=oX;have e3:(4*i+3).toNat=4*ll+3:=oX;rw[e0,e1,e2,e3];refine⟨oX,os ⟨_,c0,oX,os ⟨_,c1,oX,os ⟨_,c2,oX,os ⟨_,c3,aC.intro λh3 n3=>⟨_,rfl,ah n3.rd,by intro v hv;rw[kU.mp hv];rfl,?_⟩⟩⟩⟩⟩⟩;have nb:=QA hl V3;have b0:(bs.getD (4*ll+0) 0).toNat<256:=Am _;have b1:(bs.getD (4*ll+1) 0).toNat<256:=Am _;have b2:(bs.getD (4*ll+2) 0).toNat<256:=Am _;have b3:(bs.getD (4*ll+3) 0).toNat<256:=Am _;rw[Nat.add_zero]at b0
  have ev:wI ((wI ((wI ((wI ((bs.getD (4*ll+0) 0).toNat:Int))+(wI ((wI ((bs.getD (4*ll+1) 0).toNat:Int))*256))))+(wI ((wI ((bs.getD (4*ll+2) 0).toNat:Int))*65536))))+(wI ((wI ((bs.getD (4*ll+3) 0).toNat:Int))*16777216)))=((oG bs ll:Nat):Int):=by
   rw[nb,Nat.add_zero];generalize(bs.getD (4*ll) 0).toNat=x0 at b0;generalize(bs.getD (4*ll+1) 0).toNat=x1 at b1;generalize(bs.getD (4*ll+2) 0).toNat=x2 at b2;generalize(bs.getD (4*ll+3) 0).toNat=x3 at b3
   rw[wq ((x0:Int)),wq ((x1:Int)),wq ((x2:Int)),wq ((x3:Int)),wq ((x1:Int)*256),wq ((x2:Int)*65536),wq ((x3:Int)*16777216),
    wq ((x0:Int)+(x1:Int)*256),wq ((x0:Int)+(x1:Int)*256+(x2:Int)*65536),wrap_i64 oX oX]
   omega
  rw[ev];refine cY (s2.fr n3.fr λ_ _ _ y=>y) rfl rfl (by show(ll+1)*8<=_;omega) oX λa' c' h4 f4 s4=>?_;rw[wrap_i64 oX oX];have z2:=f2.size;have z3:=n3.size;refine⟨⟨ll+1,oX,oX,rfl,(f2.new n3).trans f4 λb hb y=>by have y:h.size<=b:=y;omega,?_⟩,by show((128:Int)-(i+1)).toNat<((128:Int)-i).toNat;omega⟩
  have et:(nM bs).take (ll+1)=(nM bs).take ll++[((oG bs ll:Nat):Int)]:=by
   have bV:ll<(nM bs).length:=(by rw[kZ];exact V3);rw[eY _ _ bV,qz bV]
  rw[et];have es:ints ((nM bs).take ll++[((oG bs ll:Nat):Int)])=ints ((nM bs).take ll)++[vI ((oG bs ll:Nat):Int)]:=by unfold Hd.ints;rw[eT];rfl
  rw[es];exact s4.mono λb hb=>hb.elim id λy=>by show h.size<=b;omega
 ·have em:ll=128:=oX;subst em;rw[gL (by rw[kZ];exact bE _)]at s2;exact hK la lc h2 f2 s2
theorem QC{l:List Int}(X:ak h a (ints l))(hl:l.length<=1000)(hr:∀ v ∈ l,0<=v)
  (hK:∀a' c' h',Fr No h h'->Sl h' 1 a' (4*l.length) c' ((cU l).map bv) (cW h.size)->K (vS a' (4*l.length) c') h'):C.jF a l.length c h K:=by
 refine jF.ok ⟨λba bl bc i hh=>∃m:Nat,i=m/\m<=l.length/\bl=4*m/\Fr No h hh/\Sl hh 1 ba (4*m) bc ((cU (l.take m)).map bv) (cW h.size),λ_ _ _ i _=>((l.length:Int)-i).toNat,⟨0,rfl,bN _,rfl,Fr.refl _ _,Sl.nil _ _ _⟩,?_⟩;rintro ba bl bc i h2 ⟨m,rfl,hm,rfl,f2,s2⟩;refine cd (λbV=>?_) λbV=>?_
 ·have V3:m<l.length:=oX;obtain⟨p,rfl,c0⟩:=my (ak.fr f2 X λ_ _ y=>y) V3;have v0:=hr l[m] (ff V3);obtain⟨v,ev⟩:∃v:Nat,l[m]=v:=⟨l[m].toNat,oX⟩;rw[ev]at c0;rw[cA];refine⟨oX,os ⟨_,c0,oX,os ⟨_,c0,oX,os ⟨_,c0,oX,os ⟨_,c0,aC.intro λh3 n3=>?_⟩⟩⟩⟩⟩
  have eb:([.int .u8 (IntKind.wrap .u8 ((v:Nat):Int)),.int .u8 (IntKind.wrap .u8 ((Int.fdiv ((v:Nat):Int) (2 ^ min (Int.toNat 8) 64)))),.int .u8 (IntKind.wrap .u8 ((Int.fdiv ((v:Nat):Int) (2 ^ min (Int.toNat 16) 64)))),.int .u8 (IntKind.wrap .u8 ((Int.fdiv ((v:Nat):Int) (2 ^ min (Int.toNat 24) 64))))]:LV)=(Re.bo 4 v).map bv:=by
   have d1:Int.fdiv ((v:Nat):Int) (2 ^ min (Int.toNat 8) 64)=((v/256:Nat):Int):=by
    have:(2:Int) ^ min (Int.toNat 8) 64=256:=(by decide);rw[this,vf _ dX];rfl
   have d2:Int.fdiv ((v:Nat):Int) (2 ^ min (Int.toNat 16) 64)=((v/256/256:Nat):Int):=by
    have:(2:Int) ^ min (Int.toNat 16) 64=65536:=(by decide);rw[this,vf _ dX];omega
   have d3:Int.fdiv ((v:Nat):Int) (2 ^ min (Int.toNat 24) 64)=((v/256/256/256:Nat):Int):=by
    have:(2:Int) ^ min (Int.toNat 24) 64=16777216:=(by decide);rw[this,vf _ dX];omega
   rw[d1,d2,d3,In.NH];simp only[lI,HC,In.G0]
  have r3:=n3.rd;rw[eb]at r3;refine⟨(Re.bo 4 v).map bv,by rw[aP,Re.bC],ah r3,jA _,?_⟩;refine cY (s2.fr n3.fr λ_ _ _ y=>y) (by rw[aP,Re.bC];rfl) rfl (by show(4*m+4)*1<=_;omega) oX λa' c' h4 f4 s4=>?_;rw[wrap_i64 oX oX];have z2:=f2.size;have z3:=n3.size;refine⟨⟨m+1,oX,oX,oX,(f2.new n3).trans f4 λb hb y=>by have y:h.size<=b:=y;omega,?_⟩,by show((l.length:Int)-((m:Int)+1)).toNat<((l.length:Int)-(m:Int)).toNat;omega⟩
  have et:cU (l.take (m+1))=cU (l.take m)++Re.bo 4 v:=by
   rw[eY _ _ V3,ev];unfold Hd.cU;rw[iy,List.flatMap_singleton,cA]
  rw[et,eT];exact s4.mono λb hb=>hb.elim id λy=>by show h.size<=b;omega
 ·have em:m=l.length:=oX;subst em;rw[mZ]at s2;exact hK ba bc h2 f2 s2
theorem UP{b:cC}(hb:b.length=512):cU (nM b)=b:=by
 have:∀k,k<=128->cU ((List.range k).map λi=>((oG b i:Nat):Int))=b.take (4*k):=by
  intro k
  induction k with
  | zero=>intro _;rfl
  | succ k ih=>
   intro hk;rw[Ei,eT]
   have e:cU ((List.range k).map (λi=>((oG b i:Nat):Int))++[k].map λi=>((oG b i:Nat):Int))=cU ((List.range k).map λi=>((oG b i:Nat):Int))++Re.bo 4 (oG b k):=by
    unfold Hd.cU;rw[iy];simp
   rw[e,ih oX];have l4:((b.drop (4*k)).take 4).length=4:=by rw[dL,jM];omega
   have e2:Re.bo 4 (oG b k)=(b.drop (4*k)).take 4:=by
    have:=Hd.xo ((b.drop (4*k)).take 4);rw[l4]at this;exact this
   rw[e2,show 4*(k+1)=4*k+4 by omega,List.take_add]
 unfold Bm.nM;rw[this 128 (bE _),gL oX]
theorem Ya{b:cC}{v:Nat}(hb:b.length=512)(hp:p<128)(hv:v<4294967296):nM (tG b p v)=(nM b).set p (v:Int):=by
 refine XQ (by rw[pL,kZ,kZ]) λi h1 h2=>?_;have hi:i<128:=by rw[kZ]at h1;exact h1
 rw[qz h1,Cp hb hp hi hv,List.getElem_set]
 by_cases e:i=p
 ·rw[if_pos e,if_pos e.symm]
 ·rw[if_neg e,if_neg λy=>e y.symm,qz]
theorem uj{g:G}{v:Int}(hK:∀ h',Fr No h h'->K (vI (if v=0 then 0 else iK g v)) h'):C.ig g.v v h K:=by
 refine ig.ok (aC.intro λh2 n2=>cn (λh0=>⟨_,aZ n2.rd rfl,cd (λh1=>?_) λh1=>⟨_,aZ n2.rd rfl,cd (λh3=>?_) λh3=>?_⟩⟩) λh0=>?_)
 ·have:=hK h2 n2.fr;rw[if_neg h0]at this;unfold Bm.iK at this;rw[if_pos (.inl h1)]at this;exact this
 ·have:=hK h2 n2.fr;rw[if_neg h0]at this;unfold Bm.iK at this;rw[if_pos (.inr h3)]at this;exact this
 ·have:=hK h2 n2.fr;rw[if_neg h0]at this;unfold Bm.iK at this;rw[if_neg oX]at this;exact this
 ·have:=hK h2 n2.fr;rw[if_pos h0]at this;exact this
theorem zK{T:TM}(x:lG h F r e T)
  (h1:(T.read i).2≠0->∀h',Fr No h h'->K (.tuple #[vS none 0 0,vI (T.read i).2]) h')
  (h2:(T.read i).2=0->∀a c h',Fr No h h'->Sl h' 1 a 128 c (ints (nM (T.read i).1)) (cW h.size)->K (.tuple #[vS a 128 c,vI 0]) h'):C.ji r i h K:=by
 refine ji.ok (Rx.dv x λa l c h3 f3 hl s=>⟨_,_,_,_,rfl,cn (λhe=>h1 he h3 f3) λhe=>?_⟩);exact QB s.str (x.Qx he) λa' c' h4 f4 s4=>⟨_,_,_,rfl,h2 he a' c' h4 (f3.no f4) (s4.mono λb hb=>k9 f3.size hb)⟩
def kQ(k:Nat):Nat:=if k<10 then k else if k<138 then 10 else 11
def pQ(k:Nat):List Nat:=if k<10 then[]else if k<138 then[k-10]else[(k-138)/128,(k-138)%128]
def tA(R:List Int)(i:Nat):Int:=if i=10 then R.getD 13 0 else if i=11 then R.getD 14 0 else R.getD (3+i) 0
def Ke(l:List Nat):List Int:=l.map λi:Nat=>((i:Nat):Int)
theorem Ex(hk:k<16522)(hK:∀ a c h',Fr No h h'->ak h' a (ints (Ke (pQ k)))->(∀ p,a=some p->h.size<=p.block/\p.block<h'.size)->K (.tuple #[vI (kQ k:Nat),vS a (pQ k).length c]) h'):C.gD k h K:=by
 obtain⟨k',ek⟩:∃k':Int,k'=(k:Int):=⟨_,rfl⟩;rw[<-ek];refine gD.ok (cd (λh1=>?_) λh1=>cd (λh2=>aC.intro λh3 n3=>?_) λh2=>aC.intro λh3 n3=>?_)
 ·have e1:kQ k=k:=by unfold kQ;rw[if_pos oX]
  have e2:pQ k=[]:=by unfold pQ;rw[if_pos oX]
  rw[e1,e2,<-ek]at hK;exact hK none 0 h (Fr.refl _ _) rfl λp y=>by cases y
 ·have e1:kQ k=10:=by unfold kQ;rw[if_neg oX,if_pos oX]
  have e2:pQ k=[k-10]:=by unfold pQ;rw[if_neg oX,if_pos oX]
  rw[e1,e2]at hK;have r3:=n3.rd;rw[wrap_i64 oX oX]at r3;refine hK _ 1 h3 n3.fr (ah (r3.trans ?_)) λp y=>by cases y;exact⟨bE _,n3.own.lt⟩
  show _=[vI ((k-10:Nat):Int)];rw[show((k-10:Nat):Int)=k' - 10 by omega]
 ·have e1:kQ k=11:=by unfold kQ;rw[if_neg oX,if_neg oX]
  have e2:pQ k=[(k-138)/128,(k-138)%128]:=by unfold pQ;rw[if_neg oX,if_neg oX]
  rw[e1,e2]at hK;have r3:=n3.rd;rw[wq (k' - 10),wq (k' - 10-128),nL oX,rL oX,wrap_i64 oX oX]at r3;refine hK _ 2 h3 n3.fr (ah (r3.trans ?_)) λp y=>by cases y;exact⟨bE _,n3.own.lt⟩
  show _=[vI (((k-138)/128:Nat):Int),vI (((k-138)%128:Nat):Int)];rw[show(((k-138)/128:Nat):Int)=(k' - 10-128)/128 by omega,show(((k-138)%128:Nat):Int)=(k' - 10-128)%128 by omega]
theorem LU(k:Nat):kQ k<12:=by
 unfold kQ
 split
 ·omega
 ·split <;> omega
theorem lA{i:Nat}(hR:R.length=15)(hi:i<12)(hK:∀ h',Fr No h h'->K (vI (tA R i)) h'):C.gE (ints R) i h K:=by
 have at_:∀j,j<15->(ints R)[j]?=some (vI (R.getD j 0)):=λj hj=>by
  unfold Hd.ints;rw[jH,gh,fg oX];rfl
 refine gE.ok (aC.intro λh2 n2=>ce (λh0=>⟨_,aZ n2.rd (at_ 13 dX),?_⟩) λh0=>ce (λh1=>⟨_,aZ n2.rd (at_ 14 dX),?_⟩) λh1=>⟨oX,R.getD (3+i) 0,?_,?_⟩)
 ·have:=hK h2 n2.fr;unfold tA at this;rw[if_pos oX]at this;exact this
 ·have:=hK h2 n2.fr;unfold tA at this;rw[if_neg oX,if_pos oX]at this;exact this
 ·show cellOf _ _=some _;rw[eA,eA,nj,n2.rd,wR,cA];exact at_ (3+i) oX
 ·have:=hK h2 n2.fr;unfold tA at this;rw[if_neg oX,if_neg oX]at this;exact this
def Kg(T:TM)(g:G)(R:List Int)(n:Int)(ps:List Nat):Int×Int:=if n=0 then(0,0)else if iK g n≠0 then(0,iK g n)else pO T g R (ps.map λp=>(3,p)) n
theorem UQ{T:TM}{g:G}(hk:k<16522):bT T g R k=Kg T g R (tA R (kQ k)) (pQ k):=by
 have e:fT k=(if kQ k=10 then(1,0)else if kQ k=11 then(2,0)else(0,kQ k))::(pQ k).map λp=>(3,p):=by
  unfold Bm.fT kQ pQ
  by_cases h1:k<10
  ·rw[if_pos h1,if_pos h1,if_pos h1,if_neg oX,if_neg oX];rfl
  ·rw[if_neg h1,if_neg h1,if_neg h1]
   by_cases h2:k<138
   ·rw[if_pos h2,if_pos h2,if_pos h2];rfl
   ·rw[if_neg h2,if_neg h2,if_neg h2];rfl
 unfold Bm.bT;rw[if_neg oX,cA,e]
 have en:iI T R (if kQ k=10 then(1,0)else if kQ k=11 then(2,0)else(0,kQ k)) 0=(tA R (kQ k),[],0):=by
  unfold tA
  by_cases h1:kQ k=10
  ·rw[if_pos h1,if_pos h1];rfl
  ·rw[if_neg h1,if_neg h1]
   by_cases h2:kQ k=11
   ·rw[if_pos h2,if_pos h2];rfl
   ·rw[if_neg h2,if_neg h2];rfl
 unfold Bm.pO;rw[en,if_neg (λy=>y rfl)];rfl
end Ry
namespace Ry
open Hp W Ad Tm Spc Re Av Rx
open Hd (ints my cU jS)
open In (aj aO)
open Bm (oG tG Cm vt Cp nM kZ qz iK iI pO cM oH fT bT bR rG Co Cq)
theorem SP(hk:k<16522):∀p∈pQ k,p<128:=by
 intro p hp;unfold pQ at hp
 split at hp
 ·cases hp
 ·split at hp
  ·rw[kU.mp hp];omega
  ·rcases fO.mp hp with rfl|hp
   ·omega
   ·rw[kU.mp hp];omega
theorem Om(k:Nat):(pQ k).length<=2:=by
 unfold pQ
 split
 ·exact bN _
 ·split
  ·show 1<=2;decide
  ·exact bE _
theorem LW{l:List Nat}{i:Nat}(X:ak h a (ints (Ke l)))(hi:i<l.length):∃p,a=some p/\cellOf h (p.add i)=some (vI (l[i]:Nat)):=by
 have tK:i<(Ke l).length:=by unfold Ke;rw[aP];exact hi
 obtain⟨p,e,c⟩:=my X tK;refine⟨p,e,?_⟩;have:(Ke l)[i]=((l[i]:Nat):Int):=mu _;rw[c,this]
theorem SQ{T:TM}{a:Int}(he:(T.read a).2=0):iI T R (3,p) a=(((oG (T.read a).1 p:Nat):Int),(T.read a).1,0):=by
 rw[Cq,if_neg (λy=>y he)]
theorem Oo{T:TM}{a:Int}(he:(T.read a).2≠0):iI T R (3,p) a=(0,[],(T.read a).2):=by
 rw[Cq,if_pos he]
theorem qy{T:TM}{g:G}{k:Int}(x:lG h F r e T)(hR:R.length=15)
  (hK:∀h',Fr No h h'->K (.tuple #[vI (bT T g R k).1,vI (bT T g R k).2]) h'):C.dJ r g.v (ints R) k h K:=by
 refine dJ.ok (aC.intro λh2 n2=>aC.intro λh3 n3=>?_);have z2:=n2.size;have z3:=n3.size;have F3:=n2.fr.new n3
 have Vs:k<0∨k>=16522->K (.tuple #[vI 0,vI 101]) h3:=λy=>by
  have:=hK h3 F3;have e1:bT T g R k=(0,101):=by unfold Bm.bT;rw[if_pos y]
  rw[e1]at this;exact this
 refine cd (λy=>Vs (.inl y)) λy0=>cd (λy=>Vs (.inr y)) λy1=>?_;obtain⟨k,rfl⟩:∃m:Nat,k=m:=⟨k.toNat,oX⟩;have hk:k<16522:=oX;rw[UQ hk]at hK;unfold dJ.k1;refine Ex hk λpa pc h4 f4 sp _=>⟨_,_,_,_,rfl,ints R,by rw[aj,hR],ah ((f4.r0).trans n3.rd |> λq=>by have:h3.size=h2.size+1:=z3;exact q),lA hR (LU k) λh5 f5=>⟨_,rfl,?_⟩⟩;have F5:=(F3.no f4).no f5;have rg5:rd h5 h.size=g.v:=(f5.rd (by have:=f4.size;omega) λy=>y).trans ((f4.r0).trans ((n3.at_).trans n2.rd));have tl:=Om k;have tlt:=SP hk;generalize pQ k=ps at sp hK tl tlt;refine⟨λn i hh=>∃j:Nat,i=j/\j<=ps.length/\Fr No h5 hh/\Kg T g R n (ps.drop j)=Kg T g R (tA R (kQ k)) ps,λ_ i _=>((ps.length:Int)-i).toNat,⟨0,rfl,bN _,Fr.refl _ _,rfl⟩,?_⟩;rintro n i h6 ⟨j,rfl,hj,f6,er⟩;rw[<-er]at hK;have F6:=F5.no f6;have z5:=F5.size;have lt5:h.size<h5.size:=by have:=f4.size;have:=f5.size;omega
 refine⟨_,rfl,ah ((f6.rd lt5 λy=>y).trans rg5),uj λh7 f7=>⟨_,rfl,?_⟩⟩;have F7:=F6.no f7;have Y1:=hK h7 F7;unfold Kg at Y1
 by_cases hn:n=0
 ·rw[if_pos hn]at Y1 ⊢;exact cn (λy=>absurd rfl y) λ_=>ct (by rw[beq_iff_eq];exact hn) Y1
 ·rw[if_neg hn]at Y1 ⊢;refine cn (λfP=>by rw[if_pos fP]at Y1;exact Y1) λCT=>cf (by rw[beq_eq_false_iff_ne];exact hn) ?_;rw[if_neg (λy=>y CT)]at Y1;unfold dJ.k2;refine ce (λhl=>?_) λhl=>?_
  ·have:j=ps.length:=oX;rw[this,xG]at Y1;exact Y1
  ·have DR:j<ps.length:=oX;rw[lh DR,lI]at Y1;have hp:=tlt _ (ff DR);refine zK (x.no F7) (λhe h8 f8=>⟨_,_,_,_,rfl,ct (by rw[bne_iff_ne];exact he) ?_⟩) λhe a c h8 f8 s8=>⟨_,_,_,_,rfl,cn (λy=>absurd rfl y) λ_=>?_⟩
   ·have:=hK h8 (F7.no f8);unfold Kg at this;rw[if_neg hn,if_neg (λy=>y CT),lh DR,lI]at this;unfold Bm.pO at this;rw[Oo he,if_pos he]at this;exact this
   ·obtain⟨p,rfl,cp⟩:=LW (ak.fr ((f6.no f7).no f8) (ak.fr f5 sp λ_ _ y=>y) λ_ _ y=>y) DR;obtain⟨q,rfl,cq⟩:=my s8.cells (i:=ps[j]) (by rw[kZ];exact hp);refine⟨oX,os ⟨_,cp,oX,os ⟨_,by rw[cA];exact cq,?_⟩⟩⟩;rw[wrap_i64 oX oX,qz];refine⟨⟨j+1,oX,oX,(f6.no f7).no f8,?_⟩,by show((ps.length:Int)-((j:Int)+1)).toNat<((ps.length:Int)-(j:Int)).toNat;omega⟩;rw[<-er]
    conv=>rhs;unfold Kg
    rw[if_neg hn,if_neg (λy=>y CT),lh DR,lI]
    conv=>rhs;unfold Bm.pO
    rw[SQ he,if_neg (λy=>y rfl)];rfl
end Ry
namespace Ry
open Hp W Ad Tm Spc Re Av Rx
open Hd (ints my cU jS)
open In (aj aO)
open Bm (oG tG Cm vt Cp nM kZ qz iK iI pO cM oH fT bT bR rG Co Cq wF lC)
theorem Yb(f:Fr F h h')(g:Gw h F h' F'){b:Nat}(hb:b<h.size)(hF:¬ F b):rd h' b=rd h b/\¬F' b/\b<h'.size/\(dA h b->dA h' b):=
 ⟨f.rd hb hF,λy=>hF ((g.old b hb).mp y),mV hb f.size,f.own hb hF⟩
def CP(R:List Int)(i:Nat)(v:Int):List Int:=if i=10 then R.set 13 v else if i=11 then R.set 14 v else R.set (3+i) v
theorem Oq(R:List Int)(i:Nat)(v:Int):(CP R i v).length=R.length:=by
 unfold CP
 split
 ·exact pL
 ·split <;> exact pL
theorem ints_set{i:Nat}{v:Int}:(ints R).set i (vI v)=ints (R.set i v):=by
 unfold Hd.ints;rw[yG]
theorem US{i:Nat}{v:Int}(hR:R.length=15)(hi:i<12)(hK:∀ h',Fr No h h'->K (.agg ⟨ints (CP R i v)⟩) h'):C.kK (ints R) i v h K:=by
 refine kK.ok (aC.intro λh2 n2=>aC.intro λh3 n3=>?_);have z2:=n2.size;have z3:=n3.size;have r2:rd h3 h.size=ints R:=(n3.at_).trans n2.rd;have F3:=n2.fr.new n3
 have fin:∀(j:Nat) (h4:ad),j<15->CP R i v=R.set j v->xN h.size h3 h4 ((rd h3 h.size).set j (vI v))->∃br:LV,List.length br=15/\ai h4 (bA h) br/\az (bA h2) br 15 h4 λh5=>∃dq:LV,List.length dq=15/\ai h5 (bA h2) dq/\K (.agg ⟨dq⟩) h5:=λj h4 hj ej d4=>by
  have r4:rd h4 h.size=ints (CP R i v):=by rw[d4.rd,r2,ints_set,ej]
  have l4:(ints (CP R i v)).length=15:=by rw[aj,Oq,hR]
  have l3:(rd h4 h2.size).length=15:=by rw[d4.at_,n3.rd];rfl
  refine⟨_,l4,ah r4,az.intro (d4.ow n3.own) l4 (aO _) oX λh5 d5=>⟨ints (CP R i v),l4,ah (by rw[d5.rd];exact fu _ _ (by rw[l4,l3])),?_⟩⟩;exact hK h5 ((F3.did d4 λy=>oX).did d5 λy=>oX)
 have l2:(rd h3 h.size).length=15:=by rw[r2,aj,hR]
 refine ce (λh0=>bD.add (n3.ow n2.own) oX λh4 d4=>fin 13 h4 dX (by unfold CP;rw[if_pos oX]) d4) λh0=>ce (λh1=>bD.add (n3.ow n2.own) oX λh4 d4=>fin 14 h4 dX (by unfold CP;rw[if_neg oX,if_pos oX]) d4) λh1=>⟨oX,?_⟩;rw[eA,cA];exact bD.add (n3.ow n2.own) oX λh4 d4=>fin (3+i) h4 oX (by unfold CP;rw[if_neg oX,if_neg oX]) (by rw[wR]at d4;exact d4)
theorem HF{T:TM}{g:G}(h:(bj T g).2.2=0):∃m:Nat,(bj T g).2.1=m/\g.data<=m/\m<g.blocks:=by
 unfold bj at h ⊢
 split at h
 ·rename_i m hm;have hp:=List.find?_some hm;have hp:=of_decide_eq_true hp;refine⟨m,?_,hp.2.1,hp.2.2⟩;unfold kN at h ⊢
  split at h
  ·rename_i h1;exact absurd h h1
  ·rename_i h1;rw[if_neg h1]
   split at h
   ·rename_i h2;exact absurd h h2
   ·rename_i h2;rw[if_neg h2]
 ·cases h
theorem Kh{g:G}(h1:g.data<=m)(h2:m<g.blocks):iK g m=0:=by
 unfold Bm.iK;rw[if_neg oX]
def xJ(T:TM)(g:G)(R:List Int)(n:Int)(ps:List Nat):(TM×List Int)×Int×Int:=cM g (ps.map λp=>(3,p)) T R n
theorem Yc{T:TM}(d:zV n){R:List Int}{k:Nat}:cM (af n) (fT k) T R 0 =
  if tA R (kQ k)≠0 then(if iK (af n) (tA R (kQ k))≠0 then((T,R),0,iK (af n) (tA R (kQ k)))else xJ T (af n) R (tA R (kQ k)) (pQ k))else
  if(bj T (af n)).2.2≠0 then(((bj T (af n)).1,R),0,(bj T (af n)).2.2)else xJ (bj T (af n)).1 (af n) (CP R (kQ k) (bj T (af n)).2.1) (bj T (af n)).2.1 (pQ k):=by
 have e:fT k=(if kQ k=10 then(1,0)else if kQ k=11 then(2,0)else(0,kQ k))::(pQ k).map λp=>(3,p):=by
  unfold Bm.fT kQ pQ
  by_cases h1:k<10
  ·rw[if_pos h1,if_pos h1,if_pos h1,if_neg oX,if_neg oX];rfl
  ·rw[if_neg h1,if_neg h1,if_neg h1]
   by_cases h2:k<138
   ·rw[if_pos h2,if_pos h2,if_pos h2];rfl
   ·rw[if_neg h2,if_neg h2,if_neg h2];rfl
 have en:iI T R (if kQ k=10 then(1,0)else if kQ k=11 then(2,0)else(0,kQ k)) 0=(tA R (kQ k),[],0):=by
  unfold tA
  by_cases h1:kQ k=10
  ·rw[if_pos h1,if_pos h1];rfl
  ·rw[if_neg h1,if_neg h1]
   by_cases h2:kQ k=11
   ·rw[if_pos h2,if_pos h2];rfl
   ·rw[if_neg h2,if_neg h2];rfl
 have es:∀(T':TM) (v:Int),oH T' R (if kQ k=10 then(1,0)else if kQ k=11 then(2,0)else(0,kQ k)) 0 [] v=((T',CP R (kQ k) v),0):=λT' v=>by
  unfold CP
  by_cases h1:kQ k=10
  ·rw[if_pos h1,if_pos h1];rfl
  ·rw[if_neg h1,if_neg h1]
   by_cases h2:kQ k=11
   ·rw[if_pos h2,if_pos h2];rfl
   ·rw[if_neg h2,if_neg h2];rfl
 rw[e];unfold Bm.cM;rw[en,if_neg (λy=>y rfl)];show(if tA R (kQ k)≠0 then _ else _)=_
 by_cases h0:tA R (kQ k)≠0
 ·rw[if_pos h0,if_pos h0];rfl
 ·rw[if_neg h0,if_neg h0]
  by_cases h1:(bj T (af n)).2.2≠0
  ·rw[if_pos h1,if_pos h1]
  ·rw[if_neg h1,if_neg h1];have h1:(bj T (af n)).2.2=0:=rB h1;obtain⟨m,em,m1,m2⟩:=HF h1;have hd:=d.data;rw[es,if_neg (λy=>y rfl),em,if_neg oX,Kh m1 m2,if_neg (λy=>y rfl)];rfl
theorem Yd{T:TM}(d:zV n){R:List Int}{p:Nat}{a:Int}{r:List Nat}:xJ T (af n) R a (p::r) =
  if(T.read a).2≠0 then((T,R),0,(T.read a).2)else if((oG (T.read a).1 p:Nat):Int)≠0 then(if iK (af n) (oG (T.read a).1 p:Nat)≠0 then((T,R),0,iK (af n) (oG (T.read a).1 p:Nat))else xJ T (af n) R (oG (T.read a).1 p:Nat) r)else
  if(bj T (af n)).2.2≠0 then(((bj T (af n)).1,R),0,(bj T (af n)).2.2)else
  if((bj T (af n)).1.write a (tG (T.read a).1 p (bj T (af n)).2.1.toNat)).2≠0 then((((bj T (af n)).1.write a (tG (T.read a).1 p (bj T (af n)).2.1.toNat)).1,R),0,((bj T (af n)).1.write a (tG (T.read a).1 p (bj T (af n)).2.1.toNat)).2)else
   xJ ((bj T (af n)).1.write a (tG (T.read a).1 p (bj T (af n)).2.1.toNat)).1 (af n) R (bj T (af n)).2.1 r:=by
 unfold xJ;rw[lI]
 conv=>lhs;unfold Bm.cM
 by_cases he:(T.read a).2≠0
 ·rw[Oo he,if_pos he,if_pos he]
 ·rw[SQ (rB he),if_neg (λy=>y rfl),if_neg he];show(if((oG (T.read a).1 p:Nat):Int)≠0 then _ else _)=_
  by_cases h0:((oG (T.read a).1 p:Nat):Int)≠0
  ·rw[if_pos h0,if_pos h0]
  ·rw[if_neg h0,if_neg h0]
   by_cases h1:(bj T (af n)).2.2≠0
   ·rw[if_pos h1,if_pos h1]
   ·rw[if_neg h1,if_neg h1];have h1:(bj T (af n)).2.2=0:=rB h1;obtain⟨m,em,m1,m2⟩:=HF h1;have hd:=d.data;have es:oH (bj T (af n)).1 R (3,p) a (T.read a).1 (bj T (af n)).2.1=(((((bj T (af n)).1).write a (tG (T.read a).1 p (bj T (af n)).2.1.toNat)).1,R),(((bj T (af n)).1).write a (tG (T.read a).1 p (bj T (af n)).2.1.toNat)).2):=rfl;rw[es]
    by_cases h2:(((bj T (af n)).1).write a (tG (T.read a).1 p (bj T (af n)).2.1.toNat)).2≠0
    ·rw[if_pos h2,if_pos h2]
    ·rw[if_neg h2,if_neg h2,if_neg (by rw[em];omega),em,Kh m1 m2,if_neg (λy=>y rfl)]
structure Aw(h:ad)(F:NP)(r e:OA)(g:G)(gb xb rb:Nat)(pa:OA)(ps:List Nat)(hh:ad)(F':NP)(T':TM)(R':List Int):Prop where
 fr:Fr F h hh
 gw:Gw h F hh F'
 x:lG hh F' r e T'
 rg:rd hh gb=g.v
 rx:rd hh xb=ints R'
 ox:dA hh xb
 or_:dA hh rb
 lr:(rd hh rb).length=15
 sp:ak hh pa (ints (Ke ps))
 lp:∀p,pa=some p->p.block<hh.size
 nf:¬F' gb/\¬F' xb/\¬F' rb/\∀p,pa=some p->¬F' p.block
 ne:gb≠xb/\gb≠rb/\xb≠rb/\∀p,pa=some p->p.block≠xb/\p.block≠rb
 lo:h.size<=gb/\h.size<=xb/\h.size<=rb
 len:R'.length=15
section
variable{h hh h' : ad}{F F' F'' : Nat -> Prop}{r e : OA}{g : G}{gb xb rb : Nat}{pa : OA}{ps : List Nat}{T' T'' : TM}{R' R'' : List Int}
theorem Aw.lg(A:Aw h F r e g gb xb rb pa ps hh F' T' R'):gb<hh.size:=pE (o:=0) (v:=vI g.blocks) (by rw[A.rg];rfl)
theorem Aw.call(A:Aw h F r e g gb xb rb pa ps hh F' T' R')(f:Fr F' hh h')(w:Gw hh F' h' F'')(x:lG h' F'' r e T''):Aw h F r e g gb xb rb pa ps h' F'' T'' R':=by
 obtain⟨n1,n2,n3,n4⟩:=A.nf;obtain⟨a1,a2,a3,a4⟩:=Yb f w A.lg n1;obtain⟨b1,b2,b3,b4⟩:=Yb f w A.ox.lt n2;obtain⟨c1,c2,c3,c4⟩:=Yb f w A.or_.lt n3;exact⟨A.fr.trans f λb hb y=>(A.gw.old b hb).mp y,A.gw.trans w A.fr.size,x,a1.trans A.rg,b1.trans A.rx,b4 A.ox,c4 A.or_,by rw[c1];exact A.lr,ak.fr f A.sp n4,λp ep=>mV (A.lp p ep) f.size,⟨a2,b2,c2,λp ep y=>n4 p ep ((w.old _ (A.lp p ep)).mp y)⟩,A.ne,A.lo,A.len⟩
theorem Aw.no(A:Aw h F r e g gb xb rb pa ps hh F' T' R')(f:Fr No hh h'):Aw h F r e g gb xb rb pa ps h' F' T' R':=
 A.call (f.mono λ_ _ y=>y.elim) (Gw.refl f.size λb hb=>A.x.lt hb) (A.x.no f)
theorem Aw.own(A:Aw h F r e g gb xb rb pa ps hh F' T' R'){b:Nat}{cs:LV}(d:xN b hh h' cs)(hb:h.size<=b)(hF:¬ F' b)(h1:b≠gb)(h2:b≠xb)(h3:b≠rb)(h4:∀ p,pa=some p->p.block≠b):Aw h F r e g gb xb rb pa ps h' F' T' R':=by
 have z:=d.size;exact⟨A.fr.did d λy=>oX,⟨A.gw.old,λx hx=>by rw[z];exact A.gw.lt x hx⟩,A.x.fr d.fr λx hx y=>hF (y▸hx),(d.at_ A.lg λy=>h1 y.symm).trans A.rg,(d.at_ A.ox.lt λy=>h2 y.symm).trans A.rx,d.ow A.ox,d.ow A.or_,by rw[d.at_ A.or_.lt λy=>h3 y.symm];exact A.lr,ak.fr d.fr A.sp λp ep y=>h4 p ep y,λp ep=>by rw[z];exact A.lp p ep,A.nf,A.ne,A.lo,A.len⟩
theorem Aw.setx(A:Aw h F r e g gb xb rb pa ps hh F' T' R')(hl:R''.length=15)(d:xN xb hh h' (put (rd hh xb) 0 (ints R''))):Aw h F r e g gb xb rb pa ps h' F' T' R'':=by
 have z:=d.size;obtain⟨e1,e2,e3,e4⟩:=A.ne;exact⟨A.fr.did d λy=>by have:=A.lo.2.1;omega,⟨A.gw.old,λx hx=>by rw[z];exact A.gw.lt x hx⟩,A.x.fr d.fr λx hx y=>A.nf.2.1 (y▸hx),(d.at_ A.lg e1).trans A.rg,by rw[d.rd,A.rx];exact fu _ _ (by rw[aj,aj,hl,A.len]),d.own,d.ow A.or_,by rw[d.at_ A.or_.lt λy=>e3 y.symm];exact A.lr,ak.fr d.fr A.sp λp ep y=>(e4 p ep).1 y,λp ep=>by rw[z];exact A.lp p ep,A.nf,A.ne,A.lo,hl⟩
theorem Aw.fin(A:Aw h F r e g gb xb rb pa ps hh F' T' R'){K:KT}{f:LV->Value}(hK:∀ h',Fr F h h'->Gw h F h' F'->lG h' F' r e T'->K (f (ints R')) h') :
  ∃zU:LV,List.length zU=15/\ai hh ⟨xb,0,none⟩ zU/\az ⟨rb,0,none⟩ zU 15 hh λgN=>∃fY:LV,List.length fY=15/\ai gN ⟨rb,0,none⟩ fY/\K (f fY) gN:=by
 have l:(ints R').length=15:=by rw[aj,A.len]
 refine⟨_,l,ah A.rx,az.intro A.or_ l (aO _) (by rw[A.lr];decide) λgN d16=>⟨ints R',l,ah (by rw[d16.rd];exact fu _ _ (by rw[l,A.lr])),?_⟩⟩;have z:=d16.size;exact hK gN (A.fr.did d16 λy=>by have:=A.lo.2.2;omega) ⟨A.gw.old,λx hx=>by rw[z];exact A.gw.lt x hx⟩ (A.x.fr d16.fr λx hx y=>A.nf.2.2.1 (y▸hx))
end
theorem HG{T:TM}{g:G}:(bj T g).1.cB=T.cB:=by
 unfold bj
 split
 ·unfold kN
  split
  ·rfl
  ·split
   ·rfl
   ·exact((Ext.refl _).write _ _).cB.trans (sH (Ext.refl _)).cB
 ·rfl
theorem QD(T:TM)(i:Int)(bs:cC):(T.write i bs).1.cB=T.cB:=((Ext.refl T).write i bs).cB
theorem Ye{h2 h3 bQ:ad}{F1:NP}{pa:OA}{ps:List Nat}{T1:TM}{R1:List Int}{n6:Int}(d:zV n)(A:Aw h F r e (af n) h.size h2.size h3.size pa ps bQ F1 T1 R1)(hN:98<=T1.N)(hu:T1.aD.length<800000000)(hps:∀ p ∈ ps,p<128)(MZ:ps.length<=2)
  (hK:∀h' F',Fr F h h'->Gw h F h' F'->lG h' F' r e (xJ T1 (af n) R1 n6 ps).1.1->K (.tuple #[.agg ⟨ints (xJ T1 (af n) R1 n6 ps).1.2⟩,vI (xJ T1 (af n) R1 n6 ps).2.1,vI (xJ T1 (af n) R1 n6 ps).2.2]) h') :
  fM.k1 r h h2 h3 pa ps.length n6 bQ K:=by
 have hd:=d.data;unfold fM.k1;refine⟨λnn i hh=>∃(j:Nat) (F':NP) (T':TM) (R':List Int),i=j/\j<=ps.length/\Aw h F r e (af n) h.size h2.size h3.size pa ps hh F' T' R'/\98<=T'.N/\T'.aD.length<=T1.aD.length+3*j/\xJ T' (af n) R' nn (ps.drop j)=xJ T1 (af n) R1 n6 ps,λ_ i _=>((ps.length:Int)-i).toNat,⟨0,F1,T1,R1,rfl,bN _,A,hN,bE _,rfl⟩,?_⟩;rintro nn i cX ⟨j,F',T',R',rfl,hj,A4,hN4,hu4,er⟩;rw[<-er]at hK;refine cd (λbV=>?_) λbV=>?_
 rotate_left
 ·have:j=ps.length:=oX;rw[this,xG]at hK;exact A4.fin (f:=λcs=>.tuple #[.agg ⟨cs⟩,vI nn,vI 0]) λh'=>hK h' F'
 have DR:j<ps.length:=oX;have hp:=hps _ (ff DR);have z4:=A4.fr.size;obtain⟨pp,rfl,cp⟩:=LW A4.sp DR;rw[lh DR,Yd d]at hK er
 have cp':∀{hx:ad},Fr (λb=>b≠pp.block) cX hx->cellOf hx (pp.add j)=some (vI (ps[j]:Nat)):=λf=>by
  have:=(ak.fr f A4.sp λq eq y=>y (by cases eq;rfl):ak _ (some pp) _);obtain⟨q,eq,c⟩:=LW this DR
  cases eq;exact c
 have nxt:wI ((j:Int)+1)=((j+1:Nat):Int):=by rw[wrap_i64 oX oX];omega
 have ai1:((ps.length:Int)-((j+1:Nat):Int)).toNat<((ps.length:Int)-(j:Int)).toNat:=oX;generalize hpe:ps[j]=p at hp hK er cp cp';refine zK A4.x (λhe fN f15=>⟨_,_,_,_,rfl,ct (by rw[bne_iff_ne];exact he) ?_⟩) λhe sa sc fN f15 s15=>⟨_,_,_,_,rfl,cn (λy=>absurd rfl y) λ_=>?_⟩
 ·rw[if_pos he]at hK;exact(A4.no f15).fin (f:=λcs=>.tuple #[.agg ⟨cs⟩,vI 0,vI (T'.read nn).2]) λh'=>hK h' F'
 rw[if_neg (λy=>y he)]at hK er;have A5:=A4.no f15;have hlen:=A4.x.Qx he;obtain⟨q,rfl,cq⟩:=my s15.cells (i:=p) (by rw[kZ];exact hp);rw[qz]at cq;have rG:=f15.size;refine⟨oX,os ⟨_,by rw[cA];exact cp' (f15.mono λ_ _ y=>y.elim),oX,os ⟨_,by rw[cA];exact cq,_,rfl,ah A5.rg,uj λgO f17=>⟨_,rfl,?_⟩⟩⟩⟩;have A7:=A5.no f17;have nl:=Cm (T'.read nn).1 p
 by_cases h0:((oG (T'.read nn).1 p:Nat):Int)=0
 · -- nothing stands there
  rw[if_neg (λy=>y h0)]at hK er;refine cn (λy=>absurd (if_pos h0) y) λ_=>ct (by rw[beq_iff_eq];exact h0) ⟨_,rfl,ah A7.rg,?_⟩;have tu:=wF T' (af n);refine zF A7.x d hN4 oX λeX F19 f19 g19 x19=>⟨_,_,rfl,?_⟩;have A9:=A7.call f19 g19 x19;refine cn (λfP=>?_) λhe1=>?_
  ·rw[if_pos fP]at hK;exact A9.fin (f:=λcs=>.tuple #[.agg ⟨cs⟩,vI 0,vI (bj T' (af n)).2.2]) λh'=>hK h' F19
  rw[if_neg (λy=>y he1)]at hK er;obtain⟨m,em,m1,m2⟩:=HF he1;have hmn:(af n).blocks=n:=rfl;have hhi:=d.hi;rw[em]at hK er ⊢;rw[cA]at hK er;have cpq:=cp' (hx:=eX) (((f15.no f17).mono (G:=λb=>b≠pp.block) λ_ _ y=>y.elim).trans f19 λb hb y e=>(A4.nf.2.2.2 pp rfl) (e▸y))
  -- the local row stands
  have nq:∀b,b<gO.size->cX.size<=b->¬F' b:=λb _ hb y=>by have:=A4.x.lt y;omega
  have s19:=(s15.fr f17 λ_ _ _ y=>y).fr f19 λb hb y z=>nq b hb y z;obtain⟨qb,qo,sp⟩:=q;have Xo:sp=none:=s19.2.1;subst Xo;have hq:cX.size<=qb:=s19.2.2.1;obtain⟨w9,l9⟩:=s19.wr;have ql7:qb<gO.size:=mV (s15.lt) f17.size;refine⟨oX,os ⟨_,by rw[cA];exact cpq,oX,os (bD.add w9 (by rw[cA];omega) λoM d21=>?_)⟩⟩;rw[cA]at d21;have s21:=s19.putAt (new:=[vI (m:Int)]) (j:=p) (by show p+1<=128*1;omega) d21
  have e21:put (ints (nM (T'.read nn).1)) p [vI (m:Int)]=ints (nM (tG (T'.read nn).1 p m)):=by
   rw[Ya hlen hp oX];exact ints_set
  rw[e21]at s21;have z9:=f19.size;obtain⟨n1,n2,n3,n4⟩:=A4.nf;have lgx:=A4.lg;have lxx:=A4.ox.lt;have lrr:=A4.or_.lt;have A21:=A9.own d21 oX (λy=>nq qb ql7 hq ((g19.old qb ql7).mp y)) oX oX oX λp' ep'=>by have:=A4.lp p' ep';omega
  have hB:=fun {K'} hK'=>QC (a:=some ⟨qb,qo,none⟩) (c:=sc) (l:=nM (tG (T'.read nn).1 p m)) (h:=oM) (K:=K') s21.cells (by rw[kZ];decide) (λv hv=>by
   unfold Bm.nM at hv;obtain⟨i,_,rfl⟩:=jc.mp hv
   exact Int.natCast_nonneg _) hK'
  rw[kZ,UP (vt hlen hp)]at hB;refine hB λa22 c22 qD f22 s22=>⟨_,_,_,rfl,?_⟩;have A22:=A21.no f22;have hNt:98<=(bj T' (af n)).1.N:=by unfold TM.N;rw[HG];exact hN4
  refine Rx.fp A22.x hNt s22.str oX λpg F23 f23 g23 x23=>⟨_,rfl,?_⟩;have A23:=A22.call f23 g23 x23;have wu:=lC (bj T' (af n)).1 nn (tG (T'.read nn).1 p m);refine cn (λfP=>?_) λZr=>?_
  ·rw[if_pos fP]at hK;exact A23.fin (f:=λcs=>.tuple #[.agg ⟨cs⟩,vI 0,vI ((bj T' (af n)).1.write nn (tG (T'.read nn).1 p m)).2]) λh'=>hK h' F23
  ·rw[if_neg (λy=>y Zr)]at er;rw[nxt];exact⟨⟨j+1,F23,_,R',rfl,DR,A23,by unfold TM.N;rw[QD];exact hNt,oX,er⟩,ai1⟩
 ·rw[if_pos h0]at hK er;refine cn (λfP=>?_) λhe1=>?_
  ·rw[if_neg h0]at fP ⊢;rw[if_pos fP]at hK;exact A7.fin (f:=λcs=>.tuple #[.agg ⟨cs⟩,vI 0,vI (iK (af n) (oG (T'.read nn).1 p:Nat))]) λh'=>hK h' F'
  ·rw[if_neg h0]at he1;rw[if_neg (λy=>y he1)]at er;refine cf (by rw[beq_eq_false_iff_ne];exact h0) ?_;rw[nxt];exact⟨⟨j+1,F',T',R',rfl,DR,A7,hN4,oX,er⟩,ai1⟩
end Ry
namespace Ry
open Hp W Ad Tm Spc Re Av Rx
open Hd (ints my)
open In (aj aO)
open Bm (iK cM fT bR rG wF)
theorem Yf{T:TM}(x:lG h F r e T)(d:zV n)(hN:98<=T.N)(hR:R.length=15)(hk:k<16522)(hu:T.aD.length<700000000)
  (hK:∀h' F',Fr F h h'->Gw h F h' F'->lG h' F' r e (cM (af n) (fT k) T R 0).1.1->K (.tuple #[.agg ⟨ints (cM (af n) (fT k) T R 0).1.2⟩,vI (cM (af n) (fT k) T R 0).2.1,vI (cM (af n) (fT k) T R 0).2.2]) h') :
  C.fM r (af n).v (ints R) k h K:=by
 have vv:=λb (hb:F b)=>x.lt hb;refine fM.ok (aC.intro λh2 n2=>aC.intro λh3 n3=>aC.intro λh4 n4=>?_);have z2:=n2.size;have z3:=n3.size;have z4:=n4.size;have F4:Fr No h h4:=(n2.fr.new n3).new n4;rw[Yc d]at hK;refine Ex hk λpa pc h5 f5 sp lp=>⟨_,_,_,_,rfl,?_⟩;have z5:=f5.size
 have A5:Aw h F r e (af n) h.size h2.size h3.size pa (pQ k) h5 F T R:=⟨(F4.no f5).mono λ_ _ y=>y.elim,Gw.refl (F4.no f5).size vv,x.no (F4.no f5),(f5.r0).trans ((n4.at_).trans ((n3.at_).trans n2.rd)),(f5.r0).trans ((n4.at_).trans n3.rd),f5.own oX (λy=>y) (n4.ow n3.own),f5.own oX (λy=>y) n4.own,
  by rw[f5.rd oX λy=>y,n4.rd];rfl,sp,λp ep=>(lp p ep).2,⟨λy=>by have:=vv _ y;omega,λy=>by have:=vv _ y;omega,λy=>by have:=vv _ y;omega,λp ep y=>by have:=vv _ y;have:=(lp p ep).1;omega⟩,⟨oX,oX,oX,λp ep=>by have:=(lp p ep).1;omega⟩,oX,hR⟩
 refine⟨ints R,by rw[aj,hR],ah A5.rx,lA hR (LU k) λh6 f6=>⟨_,rfl,?_⟩⟩;have A6:=A5.no f6;refine⟨_,rfl,ah A6.rg,uj λh7 f7=>⟨_,rfl,?_⟩⟩;have A7:=A6.no f7;have tlt:=SP hk;have tle:=Om k;generalize tA R (kQ k)=nn at hK ⊢
 by_cases h0:nn=0
 ·rw[if_neg (λy=>y h0)]at hK;refine cn (λy=>absurd (if_pos h0) y) λ_=>ct (by rw[beq_iff_eq];exact h0) ⟨_,rfl,ah A7.rg,?_⟩;have tu:=wF T (af n);refine zF A7.x d hN oX λh9 F9 f9 g9 x9=>⟨_,_,rfl,?_⟩;have A9:=A7.call f9 g9 x9;refine cn (λfP=>?_) λhe1=>?_
  ·rw[if_pos fP]at hK;exact A9.fin (f:=λcs=>.tuple #[.agg ⟨cs⟩,vI 0,vI (bj T (af n)).2.2]) λh'=>hK h' F9
  rw[if_neg (λy=>y he1)]at hK;refine⟨ints R,by rw[aj,hR],ah A9.rx,US hR (LU k) λcu f11=>⟨_,rfl,?_⟩⟩;have A11:=A9.no f11;have OS:(CP R (kQ k) (bj T (af n)).2.1).length=15:=by rw[Oq,hR]
  refine az.intro A11.ox (by rw[aj,OS]) (aO _) (by rw[A11.rx,aj,hR];decide) λbf d12=>?_;exact Ye d (A11.setx OS d12) (by unfold TM.N;rw[HG];exact hN) oX tlt tle hK
 ·rw[if_pos h0]at hK;rw[if_neg h0];refine cn (λfP=>?_) λhe1=>cf (by rw[beq_eq_false_iff_ne];exact h0) ?_
  ·rw[if_pos fP]at hK;exact A7.fin (f:=λcs=>.tuple #[.agg ⟨cs⟩,vI 0,vI (iK (af n) nn)]) λh'=>hK h' F
  ·rw[if_neg (λy=>y he1)]at hK;exact Ye d A7 hN oX tlt tle hK
theorem UT{T T':TM}(h:T'.over=T.over):(T'.back T.mark.1).1=(T'.back T.aD.length).1:=by
 cases e:T.over with
 | false=>rw[SI e]
 | true=>
  have:T'.over=true:=h.trans e;unfold TM.back;rw[if_pos this,if_pos this]
theorem QE(g:G):∀(l:List (Nat×Nat)) (T0 T:TM) (R:List Int) (a:Int),T.over=T0.over->(cM g l T R a).1.1.over=T0.over:=by
 intro l
 induction l with
 | nil=>intro T0 T R a h;exact h
 | cons s r ih=>
  intro T0 T R a h
  have tk:∀T',T'.over=T0.over->(bj T' g).1.over=T0.over:=λT' h'=>by
   unfold bj
   split
   ·unfold kN
    split
    ·exact h'
    ·split
     ·exact h'
     ·exact(((Ext.refl _).write _ _).over.trans (sH (Ext.refl _)).over).trans h'
   ·exact h'
  have st:∀T' b v,T'.over=T0.over->(Bm.oH T' R s a b v).1.1.over=T0.over:=λT' b v h'=>by
   unfold Bm.oH
   split
   ·exact h'
   ·split
    ·exact h'
    ·split
     ·exact h'
     ·exact((Ext.refl T').write _ _).over.trans h'
  unfold Bm.cM
  split
  ·exact h
  ·split
   ·split
    ·exact h
    ·exact ih _ _ _ _ h
   ·split
    ·exact tk _ h
    ·split
     ·exact st _ _ _ (tk _ h)
     ·split
      ·exact st _ _ _ (tk _ h)
      ·split
       ·exact st _ _ _ (tk _ h)
       ·exact ih _ _ _ _ (st _ _ _ (tk _ h))
theorem uO{T:TM}{k:Int}(x:lG h F r e T)(d:zV n)(hN:98<=T.N)(hR:R.length=15)(hu:T.aD.length<700000000)
  (hK:∀h' F',Fr F h h'->Gw h F h' F'->lG h' F' r e (bR T (af n) R k).1->K (.tuple #[.agg ⟨ints (bR T (af n) R k).2.1⟩,vI (bR T (af n) R k).2.2.1,vI (bR T (af n) R k).2.2.2]) h') :
  C.gT r (af n).v (ints R) k h K:=by
 have vv:=λb (hb:F b)=>x.lt hb;refine gT.ok (aC.intro λh2 n2=>aC.intro λh3 n3=>aC.intro λh4 n4=>?_);have z2:=n2.size;have z3:=n3.size;have z4:=n4.size;have F4:Fr No h h4:=(n2.fr.new n3).new n4;have l4:(rd h4 h3.size).length=15:=by rw[n4.rd];rfl
 have Vs:k<0∨k>=16522->az (bA h3) z32 15 h4 λh5=>
   ∃dq:LV,List.length dq=15/\ai h5 (bA h3) dq/\K (.tuple #[.agg ⟨dq⟩,vI 0,vI 101]) h5:=λy=>by
  have e1:bR T (af n) R k=(T,rG,0,101):=by unfold Bm.bR;rw[if_pos y]
  rw[e1]at hK;refine az.intro n4.own rfl (aO rG) (by rw[l4];decide) λh5 d5=>⟨ints rG,rfl,ah (by rw[d5.rd];exact fu _ _ (by rw[l4];rfl)),?_⟩;have f5:Fr No h h5:=F4.did d5 λy=>by omega
  exact hK h5 F (f5.mono λ_ _ y=>y.elim) (Gw.refl f5.size vv) (x.no f5)
 refine cd (λy=>Vs (.inl y)) λy0=>cd (λy=>Vs (.inr y)) λy1=>?_;obtain⟨k,rfl⟩:∃m:Nat,k=m:=⟨k.toNat,oX⟩;have hk:k<16522:=oX
 have e1:bR T (af n) R k=if(cM (af n) (fT k) T R 0).2.2≠0 then(((cM (af n) (fT k) T R 0).1.1.back T.aD.length).1,rG,0,(cM (af n) (fT k) T R 0).2.2)else((cM (af n) (fT k) T R 0).1.1,(cM (af n) (fT k) T R 0).1.2,(cM (af n) (fT k) T R 0).2.1,0):=by
  unfold Bm.bR;rw[if_neg oX,cA]
 rw[e1]at hK;have ov:=QE (af n) (fT k) T T R 0 rfl;have lR:(cM (af n) (fT k) T R 0).1.2.length=15:=by rw[Fi.zH,hR]
 unfold gT.k1;have rg4:rd h4 h.size=(af n).v:=(n4.at_).trans ((n3.at_).trans n2.rd);have rx4:rd h4 h2.size=ints R:=(n4.at_).trans n3.rd;refine Rx.sE (x.no F4) ⟨_,_,rfl,_,rfl,ah rg4,ints R,by rw[aj,hR],ah rx4,Yf (x.no F4) d hN hR hk hu λh9 F9 f9 g9 x9=>⟨_,_,_,rfl,?_⟩⟩;have z9:=f9.size;generalize cM (af n) (fT k) T R 0=W at hK ov lR x9 ⊢;obtain⟨⟨T',R'⟩,v,er⟩:=W;have hF3:¬F h3.size:=λy=>by have:=vv _ y;omega
 refine aF.intro (by rw[aj];exact lR) (aO _) rfl λcu n11=>?_;have Ua:=n11.size;have o11:dA cu h3.size:=n11.ow (f9.own oX hF3 n4.own);have l11:(rd cu h3.size).length=15:=by rw[n11.at_,f9.rd oX hF3];exact l4
 have Ng:Fr F h cu:=(((F4.mono λ_ _ y=>y.elim).trans f9 λ_ _ y=>y)).new n11;have G11:Gw h F cu F9:=⟨λb hb=>(g9.old b oX),λb hb=>by have:=g9.lt b hb;omega⟩;have nF9:¬F9 h3.size:=λy=>hF3 ((g9.old _ oX).mp y);refine cn (λfP=>?_) λhe=>?_
 ·have hne':er≠0:=fP;rw[if_pos hne']at hK;refine Rx.sF (x9.no n11.fr) λbf Dw f12 g12 x12=>⟨_,rfl,?_⟩;rw[UT ov]at x12;have z12:=f12.size;have l12:(rd bf h3.size).length=15:=by rw[f12.rd oX nF9];exact l11
  refine az.intro (f12.own oX nF9 o11) rfl (aO rG) (by rw[l12];decide) λbQ d13=>⟨ints rG,rfl,ah (by rw[d13.rd];exact fu _ _ (by rw[l12];rfl)),?_⟩;have Vp:=d13.size;have F12h:Fr F h bf:=Ng.trans f12 λb hb y=>(G11.old b hb).mp y;have G12:=G11.trans g12 oX;have nF12:¬Dw h3.size:=λy=>nF9 ((g12.old _ oX).mp y);exact hK bQ Dw (F12h.did d13 λy=>oX) ⟨G12.old,λb hb=>by rw[Vp];exact G12.lt b hb⟩ (x12.fr d13.fr λb hb y=>nF12 (y▸hb))
 ·have he':er=0:=he;rw[if_neg (λy=>y he')]at hK;refine⟨ints R',by rw[aj];exact lR,ah n11.rd,az.intro o11 (by rw[aj];exact lR) (aO _) (by rw[l11];decide) λcX d14=>⟨ints R',by rw[aj];exact lR,ah (by rw[d14.rd];exact fu _ _ (by rw[l11,aj];exact lR)),?_⟩⟩;have WI:=d14.size;exact hK cX F9 (Ng.did d14 λy=>oX) ⟨G11.old,λb hb=>by rw[WI];exact G11.lt b hb⟩ ((x9.no n11.fr).fr d14.fr λb hb y=>nF9 (y▸hb))
end Ry
namespace Bx
open Hp W Ad Tm Spc Re Av
open Hd (ints my)
open In (aj aO sQ)
open Bm (Si bR cM fT rG)
open Rx (lG)
theorem yZ{T0 T:TM}(e:Ext T0 T)(g:G):Ext T0 (bj T g).1:=by
 unfold bj
 split
 ·exact P5 e _ _
 ·exact e
theorem Ki(g:G){T0:TM}:∀(l:List (Nat×Nat)) (T:TM) (R:List Int) (a:Int),Ext T0 T->Ext T0 (cM g l T R a).1.1:=by
 intro l
 induction l with
 | nil=>intro T R a h;exact h
 | cons s r ih=>
  intro T R a h
  have st:∀T' b v,Ext T0 T'->Ext T0 (Bm.oH T' R s a b v).1.1:=λT' b v h'=>by
   unfold Bm.oH
   split
   ·exact h'
   ·split
    ·exact h'
    ·split
     ·exact h'
     ·exact h'.write _ _
  unfold Bm.cM
  split
  ·exact h
  ·split
   ·split
    ·exact h
    ·exact ih _ _ _ h
   ·split
    ·exact yZ h g
    ·split
     ·exact st _ _ _ (yZ h g)
     ·split
      ·exact st _ _ _ (yZ h g)
      ·split
       ·exact st _ _ _ (yZ h g)
       ·exact ih _ _ _ (st _ _ _ (yZ h g))
end Bx
namespace Fq
open Hp W Ad Tm Bt Spc Av Fi Bm Ino
open Hd (ints)
open In (aj aO)
open Re (kX)
section
variable{h h2 h3 : ad}{F : Nat -> Prop}{r e : OA}{T : TM}{n off : Nat}{i : Int}{R : List Int}{s : cC}{K : Value -> ad -> Prop}
theorem Yg{T T':TM}(e:Ext T T')(g:G)(n:Int)(R:List Int):Ext T (mE T' g n R).1:=by
 unfold mE
 split
 ·exact e
 ·split
  ·exact e
  ·split
   ·exact e
   ·exact e.write _ _
end
end Fq
namespace Fq
open Hp W Ad Tm Bt Spc Av
open Hd (ints)
open In (aj aO ng qH)
open Fi (iaT)
structure Iq(n:Nat)(h h2 h3 hh:ad):Prop where
 fr:Fr No h hh
 sz:h3.size<hh.size
 rg:rd hh h.size=(af n).v
 ob:dA hh h2.size
 bs:∃bs:LB,bs.length=n*512/\rd hh h2.size=bs.map bv
 oo:dA hh h3.size
 on:∃on:List Bool,on.length=((af n).eO-98)*4096/\rd hh h3.size=on.map .bool
section
variable{n N2 : Nat}{h h2 h3 hh h' : ad}
theorem Iq.no(X:Iq n h h2 h3 hh)(hz:h.size<h2.size/\h2.size<h3.size)(f:Fr No hh h'):Iq n h h2 h3 h':=by
 obtain⟨bs,b1,b2⟩:=X.bs;obtain⟨on,o1,o2⟩:=X.on;have sz:=X.sz;have z:=f.size;exact⟨X.fr.no f,oX,(f.r0).trans X.rg,f.own oX (λy=>y) X.ob,⟨bs,b1,(f.r0).trans b2⟩,f.own oX (λy=>y) X.oo,on,o1,(f.r0).trans o2⟩
theorem Iq.put(X:Iq n h h2 h3 hh)(hz:h.size<h2.size/\h2.size<h3.size){i:Nat}{x:UInt8}(hi:i<n*512){k:HP}(hK:∀ h',Iq n h h2 h3 h'->Fr (λb=>b=h2.size) hh h'->k h'):bD (Addr.add (bA h2) i) (bv x) hh k:=by
 obtain⟨bs,e1,e2⟩:=X.bs;obtain⟨on,o1,o2⟩:=X.on;have sz:=X.sz;refine bD.add X.ob (by rw[e2,aP];omega) λh' d=>hK h' ⟨X.fr.did d λy=>oX,by rw[d.size];exact sz,(d.at_ oX oX).trans X.rg,d.own,⟨bs.set i x,by rw[pL,e1],?_⟩,d.fr.own oX (λy=>by have y:h3.size=h2.size:=y;omega) X.oo,on,o1,(d.at_ oX oX).trans o2⟩ d.fr;rw[d.rd,e2,wR,yG]
theorem Iq.afk(X:Iq n h h2 h3 hh)(hz:h.size<h2.size/\h2.size<h3.size){i:Nat}{x:Bool}(hi:i<((af n).eO - 98)*4096){k:HP}(hK:∀ h',Iq n h h2 h3 h'->Fr (λb=>b=h3.size) hh h'->k h'):bD (Addr.add (bA h3) i) (.bool x) hh k:=by
 obtain⟨bs,e1,e2⟩:=X.bs;obtain⟨on,o1,o2⟩:=X.on;have sz:=X.sz;refine bD.add X.oo (by rw[o2,aP];omega) λh' d=>hK h' ⟨X.fr.did d λy=>oX,by rw[d.size];exact sz,(d.at_ oX oX).trans X.rg,d.fr.own oX (λy=>by have y:h2.size=h3.size:=y;omega) X.ob,⟨bs,e1,(d.at_ oX oX).trans e2⟩,d.own,on.set i x,by rw[pL,o1],?_⟩ d.fr;rw[d.rd,o2,wR,yG]
theorem Yh{qm:List (List Int)}(A:ak h a (qm.flatMap ints))(hR:∀ R ∈ qm,R.length=15){j:Nat}(hj:j<qm.length):∃p,a=some p/\ai h (p.add (j*15)) (ints qm[j]):=by
 have hl:∀l:List (List Int),(∀R∈l,R.length=15)->(l.flatMap ints).length=15*l.length:=by
  intro l
  induction l with
  | nil=>intro _;rfl
  | cons R r ih=>
   intro h;rw[qO,bg,aj,h R (kj ..),ih λx hx=>h x (gV _ hx),pA];omega
 have part:∀(l:List (List Int)) (j:Nat) (hj:j<l.length),(∀R∈l,R.length=15)->((l.flatMap ints).drop (j*15)).take 15=ints l[j]:=by
  intro l
  induction l with
  | nil=>intro j hj;exact absurd hj (Nat.not_lt_zero _)
  | cons R r ih=>
   intro j hj h;have lR:(ints R).length=15:=by rw[aj,h R (kj ..)]
   cases j with
   | zero=>rw[qO,Nat.zero_mul,mW,List.take_left' lR];rfl
   | succ j=>
    rw[qO,show(j+1)*15=15+j*15 by omega,<-List.drop_drop,List.drop_left' lR];exact ih j (by rw[pA]at hj;omega) λx hx=>h x (gV _ hx)
 have l:=hl qm hR
 cases a with
 | none=>have A:qm.flatMap ints=[]:=A;rw[A]at l;exact absurd l (by simp;omega)
 | some p=>
  refine⟨p,rfl,?_⟩;have:=ai.part A (j*15) 15;rw[part qm j hj hR]at this;exact this
theorem UU{h8 cu:ad}{I:IP}{M:IM}(dm:zV n)(hz:h.size<h2.size/\h2.size<h3.size)(X:Iq n h h2 h3 cu)(hN:N2=((af n).eO - 98)*4096)(hk:k+1<(af n).count)(hs:h3.size<h8.size/\h8.size<cu.size)(lR:R.length=15)(r8:rd cu h8.size=ints R)
  (s:Sl cu 1 a 64 c ((ng R).map bv) (cW h8.size)) (hI:∀h',Iq n h h2 h3 h'->I ((k:Int)+1) h'/\M ((k:Int)+1) h'<M k h8) :
  eV.k1 h h2 n h3 (af n).eO 98 k h8 I M cu a 64 K:=by
 have hi:=dm.hi;have ah6:(af n).eO=98+(n+4095)/4096:=rfl;have hcnt:(af n).count=8*(n/64):=rfl;obtain⟨dd1,dd2,dd3,dd4⟩:=dm.data;have en:((Int.toNat (wI ((n:Int)*512)):Nat):Int)=((n*512:Nat):Int):=by rw[wq ((n:Int)*512)];omega
 have e2:((Int.toNat (wI (wI ((((af n).eO:Nat):Int)-98)*4096)):Nat):Int)=(N2:Int):=by
  rw[wq ((((af n).eO:Nat):Int)-98),wrap_i64 oX oX];omega
 unfold eV.k1;rw[en,e2,wq ((k:Int)+1),wq (64*((k:Int)+1))];have lE:(ng R).length=64:=by have:=s.str.1;exact this
 refine⟨λj hx=>∃m:Nat,j=m/\m<=64/\Iq n h h2 h3 hx/\Fr (λb=>b=h2.size) cu hx,λj _=>(((64:Nat):Int)-j).toNat,⟨0,rfl,bN _,X,Fr.refl _ _⟩,?_⟩;rintro _ bf ⟨m,rfl,hm,Vv,f12⟩;have z12:=f12.size;refine cd (λbV=>⟨_,aZ Vv.rg rfl,⟨oX,bV⟩,?_⟩) λbV=>?_
 ·have H5:=s.fr f12 λb _ y e=>by have e:b=h2.size:=e;have y:h8.size<=b:=y;omega
  obtain⟨p,ep,cp⟩:=vq H5.str (j:=m) oX;rw[cA];refine Rz.oe ep ⟨_,cp,?_⟩;rw[wq ((((af n).eO:Nat):Int)*512),wq ((((af n).eO:Nat):Int)*512+64*((k:Int)+1)),wq ((((af n).eO:Nat):Int)*512+64*((k:Int)+1)+(m:Int)),wq ((m:Int)+1)];have et:((((af n).eO:Nat):Int)*512+64*((k:Int)+1)+(m:Int)).toNat=(af n).eO*512+64*(k+1)+m:=oX;rw[et];exact⟨⟨oX,oX⟩,Vv.put hz oX λbQ X13 f13=>⟨⟨m+1,rfl,oX,X13,f12.trans f13 λ_ _ y=>y⟩,bW bV⟩⟩
 ·have EM:rd bf h8.size=ints R:=(f12.rd oX oX).trans r8;have C:=ai.part (ah EM) 3 10;refine⟨_,by rw[dL,jM,aj,lR];decide,C,?_⟩;refine⟨λj hx=>∃m:Nat,j=m/\m<=10/\Iq n h h2 h3 hx,λj _=>(((10:Nat):Int)-j).toNat,⟨0,rfl,bN _,Vv⟩,?_⟩;rintro _ cX ⟨q,rfl,hq,X14⟩;refine cd (λDK=>⟨⟨oX,DK⟩,R.getD (3+q) 0,?_,?_⟩) λ_=>hI cX X14
  ·rw[cA,List.getElem?_take,if_pos oX,List.getElem?_drop];exact iaT oX
  ·rw[wq ((q:Int)+1)];have next:∀{hx:ad},Iq n h h2 h3 hx->(∃m:Nat,(q:Int)+1=m/\m<=10/\Iq n h h2 h3 hx)/\(((10:Nat):Int)-((q:Int)+1)).toNat<(((10:Nat):Int)-(q:Int)).toNat:=λY=>⟨⟨q+1,rfl,oX,Y⟩,bW DK⟩;refine⟨_,aZ X14.rg rfl,cd (λh5=>⟨_,aZ X14.rg rfl,cd (λh6=>⟨⟨oX,?_⟩,?_⟩) λ_=>next X14⟩) λ_=>next X14⟩
   ·have:((af n).blocks:Int)=n:=rfl;omega
   ·have:((af n).blocks:Int)=n:=rfl;exact X14.afk hz oX λfN X15 _=>next X15
theorem Ot{qm:List (List Int)}{ra:OA}{rc:Nat}(dm:zV n)(Y:ak h ra (qm.flatMap ints))(hR:∀ R ∈ qm,R.length=15)(hl:qm.length<=140737488355328)
  (hK:∀h' b bs,Fr No h h'->h.size<=b->b<h'.size->bs.length=n*512->av h' (some ⟨b,0,none⟩) (n*512) bs->K (vS (some ⟨b,0,none⟩) (n*512) (n*512)) h'):C.eV (af n).v ra qm.length rc h K:=by
 have hi:=dm.hi;have ah6:(af n).eO=98+(n+4095)/4096:=rfl;have hcnt:(af n).count=8*(n/64):=rfl;obtain⟨dd1,dd2,dd3,dd4⟩:=dm.data;have rM:(((af n).blocks:Nat):Int)=n:=rfl;have hbm:(((af n).cO:Nat):Int)=98:=rfl;refine eV.ok (aC.intro λh2 n2=>⟨_,aZ n2.rd rfl,?_⟩);rw[rM];have e1:wI ((n:Int)*512)=((n*512:Nat):Int):=by rw[wq ((n:Int)*512)];omega
 refine⟨by rw[e1];exact⟨oX,oX,oX,oX⟩,aC.intro λh3 n3=>?_⟩;have rg3:rd h3 h.size=(af n).v:=(n3.at_ n2.own.lt).trans n2.rd;refine⟨_,aZ rg3 rfl,_,aZ rg3 rfl,?_⟩;rw[hbm];obtain⟨N2,hN⟩:∃N2,N2=((af n).eO-98)*4096:=⟨_,rfl⟩
 have e2:wI (wI ((((af n).eO:Nat):Int)-98)*4096)=(N2:Int):=by
  rw[wq ((((af n).eO:Nat):Int)-98),wrap_i64 oX oX];omega
 refine⟨by rw[e2];exact⟨oX,oX,oX,oX⟩,aC.intro λh4 n4=>?_⟩;have z2:=n2.size;have z3:=n3.size;have s4:=n4.size;have hz:h.size<h2.size/\h2.size<h3.size:=oX
 have X4:Iq n h h2 h3 h4:=by
  refine⟨(n2.fr.new n3).new n4,oX,(n4.at_).trans rg3,n4.ow n3.own,⟨List.replicate (n*512) 0,dU,?_⟩,n4.own,List.replicate N2 false,by rw[dU,hN],?_⟩
  ·rw[n4.at_ n3.own.lt,n3.rd,e1,cA,show(z5:LV)=[bv 0] from rfl,Spc.Fl,Gu]
  ·rw[n4.rd,e2,cA,show(z4:LV)=[Value.bool false] from rfl,Spc.Fl,Gu]
 rw[e2,cA];refine⟨λi hx=>∃m:Nat,i=m/\m<=N2/\Iq n h h2 h3 hx,λi _=>((N2:Int)-i).toNat,⟨0,rfl,bN _,X4⟩,?_⟩;rintro _ h5 ⟨m,rfl,hm,X5⟩;refine cd (λbV=>⟨_,aZ X5.rg rfl,?_⟩) λbV=>?_
 ·rw[wq ((m:Int)+1),cA];refine cd (λ_=>⟨⟨oX,bV⟩,X5.afk hz oX λh6 X6 _=>⟨⟨m+1,rfl,oX,X6⟩,bW bV⟩⟩) λ_=>⟨_,aZ X5.rg rfl,⟨oX,bV⟩,X5.afk hz oX λh6 X6 _=>⟨⟨m+1,rfl,oX,X6⟩,bW bV⟩⟩
 clear bV hm m;refine⟨λi hx=>∃m:Nat,i=m/\m<=qm.length/\Iq n h h2 h3 hx,λi _=>((qm.length:Int)-i).toNat,⟨0,rfl,bN _,X5⟩,?_⟩;rintro _ h8 ⟨k,rfl,hk,X8⟩;have z8:=X8.sz;refine cd (λbV=>?_) λbV=>?_
 ·have wO:k<qm.length:=oX;obtain⟨p,ep,cp⟩:=Yh (ak.fr X8.fr Y λ_ _ y=>y) hR wO;have lR:=hR _ (ff wO);generalize qm[k]=R at cp lR;rw[cA];refine⟨⟨oX,bV⟩,Rz.oe ep ⟨ints R,by rw[aj,lR],cp,aF.intro (by rw[aj,lR]) (aO _) rfl λbG n10=>⟨ints R,by rw[aj,lR],ah n10.rd,?_⟩⟩⟩;have Vu:=n10.size;have next:∀{hx:ad},Iq n h h2 h3 hx->(∃m:Nat,(k:Int)+1=m/\m<=qm.length/\Iq n h h2 h3 hx)/\((qm.length:Int)-((k:Int)+1)).toNat<((qm.length:Int)-(k:Int)).toNat:=λY=>⟨⟨k+1,rfl,oX,Y⟩,bW bV⟩;have RJ:=X8.no hz n10.fr;have ek:wI ((k:Int)+1)=(k:Int)+1:=wq ((k:Int)+1);refine In.xp lR (λ_ cu f11=>⟨_,_,_,_,rfl,cn (λ_=>?_) λy=>absurd y dX⟩) λ_ a1 c1 cu f11 E2=>⟨_,_,_,_,rfl,cn (λy=>absurd rfl y) λ_=>?_⟩
  ·rw[ek];exact next (RJ.no hz f11)
  ·have X11:=RJ.no hz f11;have Ua:=f11.size;refine⟨_,aZ X11.rg rfl,?_⟩;rw[ek];refine cd (λ_=>next X11) λhc=>?_;exact UU dm hz X11 hN oX ⟨oX,oX⟩ lR ((f11.r0).trans n10.rd) (E2.mono λb y=>by have y:bG.size<=b:=y;show h8.size<=b;omega) λh' Z=>next Z
 ·clear bV hk k;refine⟨λi hx=>∃m:Nat,i=m/\m<=N2/\Iq n h h2 h3 hx,λi _=>((N2:Int)-i).toNat,⟨0,rfl,bN _,X8⟩,?_⟩;rintro _ gN ⟨j,rfl,hj,X⟩;obtain⟨bs,b1,b2⟩:=X.bs;refine cd (λbV=>?_) λbV=>?_
  ·obtain⟨on,o1,o2⟩:=X.on;have step:∀{hx:ad},Iq n h h2 h3 hx->(∃m:Nat,(j:Int)+1=m/\m<=N2/\Iq n h h2 h3 hx)/\((N2:Int)-((j:Int)+1)).toNat<((N2:Int)-(j:Int)).toNat:=λY=>⟨⟨j+1,rfl,oX,Y⟩,bW bV⟩;rw[wq ((j:Int)+1),cA];refine⟨⟨oX,bV⟩,on.getD j false,?_,cs (λ_=>?_) λ_=>step X⟩
   ·refine aZ o2 ?_;show(on.map Value.bool)[0+j]?=_;rw[wR,jH,fg oX,gh,fg oX];rfl
   ·have em8:Int.tmod (j:Int) 8=((j%8:Nat):Int):=rfl;have e8:wI (Int.tdiv (j:Int) 8)=((j/8:Nat):Int):=(by rw[show Int.tdiv (j:Int) 8=((j/8:Nat):Int) from rfl];exact wq _);rw[em8];refine⟨λ_ q hx=>∃m:Nat,q=m/\m<=j%8/\gN=hx,λ_ q _=>(((j%8:Nat):Int)-q).toNat,⟨0,rfl,bN _,rfl⟩,?_⟩;rintro v _ _ ⟨q,rfl,hq,rfl⟩;refine cd (λai4=>?_) λai4=>?_
    ·rw[wq ((q:Int)+1)];exact⟨⟨q+1,rfl,oX,rfl⟩,bW ai4⟩
    ·refine⟨_,aZ X.rg rfl,_,aZ X.rg rfl,?_⟩;rw[hbm,e1,wrap_i64 (n:=98*512) dX dX,e8,wq (98*512+((j/8:Nat):Int)),cA];have et:((98:Int)*512+((j/8:Nat):Int)).toNat=98*512+j/8:=oX;have hlt9:98*512+j/8<n*512:=oX;rw[et];refine⟨⟨oX,oX⟩,((bs.getD (98*512+j/8) 0).toNat:Int),?_,⟨oX,oX⟩,?_⟩
     ·refine aZ b2 ?_;show(bs.map bv)[0+(98*512+j/8)]?=some (bv (bs.getD (98*512+j/8) 0));rw[wR,jH,fg oX,gh,fg oX];rfl
     ·rw[Hd.Ls];exact X.put hz hlt9 λjk X18 _=>step X18
  ·rw[e1,cA];exact hK gN h2.size bs X.fr oX (by have:=X.sz;omega) b1 (yv b2 b1)
end
end Fq
namespace Sx
open Hp W Ad Tm Spc Av Tp Fi Bm Ino
open Hd (ints)
theorem DL(T:TM)(g:G)(R:List Int)(k:Int):(bR T g R k).1.cB=T.cB:=by
 have w:=Bx.Ki g (fT k.toNat) T R 0 (Ext.refl T);unfold bR
 split
 ·rfl
 ·split
  ·exact(wK _ _).1.trans w.cB
  ·exact w.cB
theorem QF{T T0:TM}{r:TM×Int}(h:r.1.cB=T0.cB/\r.1.aD.length<=T0.aD.length+k):(uP T r).1.cB=T0.cB/\(uP T r).1.aD.length<=T0.aD.length+(k+1):=by
 unfold uP
 split
 ·obtain⟨a,b⟩:=wK r.1 T.mark.1;exact⟨a.trans h.1,by show(r.1.back T.mark.1).1.aD.length<=_;omega⟩
 ·exact⟨h.1,oX⟩
theorem UW(T:TM)(g:G)(n:Int)(R:List Int):(mE T g n R).1.cB=T.cB/\(mE T g n R).1.aD.length<=T.aD.length+1:=⟨(Fq.Yg (Ext.refl T) g n R).cB,LF⟩
end Sx
end Go.Proofs.YtlbckoblcdoceaaGreatDoor
