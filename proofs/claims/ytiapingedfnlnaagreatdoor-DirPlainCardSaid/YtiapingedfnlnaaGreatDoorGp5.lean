/-
  TEXTS FOR dirPlain_card: FiG FiT FiU DiO DiQ DiR DiS TaA DiT ChA SlA SlB DwA DwB DwC DwE DwF LyA.
-/
import Derived.Test.YtiapingedfnlnaaGreatDoorGp4
namespace Go.Proofs.YtiapingedfnlnaaGreatDoor.Fi
open Go Go.Proofs Wx Hp W Ad Tm Bt Spc Re Av
open Hd (ints)
open In (Glo ints_length ints_one mayR encR encR_length)
open Bm (Im updU edge lowU lowU_hit lowU_miss)
theorem set_range {α:Type} {N k:Nat} {f:Nat→α} {v:α}:((List.range N).map f).set k v=(List.range N).map fun j=>if j=k then v else f j:=by
 refine List.ext_getElem (by rw [List.length_set,List.length_map,List.length_map]) fun i h1 h2=>?_
 rw [List.getElem_set,List.getElem_map,List.getElem_map,List.getElem_range]
 by_cases e:k=i
 ·rw [if_pos e,if_pos e.symm]
 ·rw [if_neg e,if_neg (fun y=>e y.symm)]
theorem putU_snoc {Z W:Txt} {o m:Nat} (hm:m<W.length) (ho:o+W.length≤Z.length):(putU Z o (W.take m)).set (o+m) W[m]=putU Z o (W.take (m+1)):=by
 have l1:(W.take m).length=m:=by rw [List.length_take]; omega
 have l2:(W.take (m+1)).length=m+1:=by rw [List.length_take]; omega
 unfold putU
 rw [l1,l2,List.append_assoc,List.set_append_right _ _ (by rw [List.length_take]; omega),List.length_take,show o+m - min o Z.length=m by omega,List.set_append_right _ _ (by rw [l1]; exact Nat.le_refl _),l1,Nat.sub_self]
 have ed:Z.drop (o+m)=Z[o+m]::Z.drop (o+m+1):=List.drop_eq_getElem_cons (by omega)
 rw [ed,List.set_cons_zero,List.take_succ_eq_append_getElem hm,List.append_assoc,List.append_assoc]
 rfl
theorem bit_add : ∀ n:Fin 256,∀ s:Fin 8,n.val.testBit s.val=false→IntKind.wrap .u8 ((n.val:Int)+((2 ^ s.val:Nat):Int))=(setB n.val s.val true:Nat):=by decide +kernel
structure Ib (n:Nat) (W:Txt) (m:Nat) (L:Txt):Prop where
 im:Im n (lowU n m) L
 rest:∀ q,512*(geoN n).inodes≤q→L.getD q 0=(putU (List.replicate (512*n) 0) (512*(geoN n).inodes+64) W).getD q 0
theorem Ib.zero {n:Nat} {W:Txt} (hn:128≤n∧n<4428) (hW:W.length≤448):Ib n W 0 (putU (List.replicate (512*n) 0) (512*(geoN n).inodes+64) W):=by
 have hino:(geoN n).inodes=98+(n+4095) / 4096:=rfl
 refine ⟨⟨(putU_length (by rw [List.length_replicate]; omega)).trans List.length_replicate,fun j hj=>?_⟩,fun _ _=>rfl⟩
 have:lowU n 0 j=false:=by unfold lowU; rw [decide_eq_false (by omega)]; rfl
 rw [this]
 unfold bitAt putU
 rw [List.getD_eq_getElem?_getD,List.append_assoc,List.getElem?_append_left (by rw [List.length_take,List.length_replicate]; omega),List.getElem?_take,if_pos (by omega),List.getElem?_replicate]
 split <;> exact Nat.zero_testBit _
theorem Ib.miss {n m:Nat} {W L:Txt} (a:Ib n W m L) (h:edge n m=false):Ib n W (m+1) L:=⟨a.im.congr (lowU_miss h),a.rest⟩
theorem Ib.hit {n m:Nat} {W L:Txt} (a:Ib n W m L) (hn:128≤n∧n<4428) (hm:m<4096*((geoN n).inodes - 98)) (h:edge n m=true):Ib n W (m+1) (putBit L (98*4096+m) true):=by
 refine ⟨(a.im.put hn hm).congr (lowU_hit h),fun q hq=>?_⟩
 rw [← a.rest q hq]
 have h98:98≤(geoN n).inodes:=by show 98≤98+_; omega
 unfold putBit
 rw [List.getD_eq_getElem?_getD,List.getD_eq_getElem?_getD,List.getElem?_set,if_neg (by omega),← List.getD_eq_getElem?_getD]
theorem pow_step : ∀ s:Fin 7,IntKind.wrap .u8 (((2 ^ s.val:Nat):Int)*2)=((2 ^ (s.val+1):Nat):Int):=by decide +kernel
theorem image_spec {n:Nat} {recs:List (List Int)} {ra:Option Addr} {rc:Nat} {h:Heap} {K:Value→Heap→Prop} (hn:128≤n∧n<4428) (Y:SlCells h ra (recs.flatMap ints)) (hR:∀ R ∈ recs,R.length=15) (hm:∀ R ∈ recs,mayR R=true)
  (hd:∀ R ∈ recs,∀ i,i<10→R.getD (3+i) 0=0) (hc:recs.length≤7)
  (hK:∀ ib L h',Fr No h h'→Ib n (recs.flatMap encR) (4096*((geoN n).inodes - 98)) L→Own h' ib→h.size≤ib→rd h' ib=L.map bv→K (.slice (some ⟨ib,0,none⟩) (512*n) (512*n)) h'):C.boleref12_Image (geoN n).v ra recs.length rc h K:=by
 have hdat:(geoN n).data=98+(n+4095) / 4096+n / 64:=rfl
 have hino:(geoN n).inodes=98+(n+4095) / 4096:=rfl
 have hbit:(geoN n).bitmap=98:=rfl
 have hcnt:(geoN n).count=8*(n / 64):=rfl
 have hblk:(geoN n).blocks=n:=rfl
 refine boleref12_Image.ok (New.intro fun h2 n2=>⟨((geoN n).blocks:Int),rda n2.rd rfl,?_⟩)
 have e1:IntKind.wrap .i64 (((geoN n).blocks:Int)*512)=((512*n:Nat):Int):=by rw [wrap_i64 (by omega) (by omega)]; omega
 rw [e1,Int.toNat_natCast]
 refine ⟨⟨by omega,by omega,by omega,by omega⟩,New.intro fun h3 n3=>?_⟩
 have z2:=n2.size
 have z3:=n3.size
 have rg3:rd h3 h.size=(geoN n).v:=(n3.at_ n2.own.lt).trans n2.rd
 refine ⟨((geoN n).inodes:Int),rda rg3 rfl,((geoN n).bitmap:Int),rda rg3 rfl,?_⟩
 have e2:IntKind.wrap .i64 (IntKind.wrap .i64 (((geoN n).inodes:Int) - ((geoN n).bitmap:Int))*4096)=((4096*((geoN n).inodes - 98):Nat):Int):=by rw [wrap_i64 (n:=((geoN n).inodes:Int) - ((geoN n).bitmap:Int)) (by omega) (by omega),wrap_i64 (by omega) (by omega)]; omega
 rw [e2,Int.toNat_natCast]
 generalize hN:4096*((geoN n).inodes - 98)=N at hK ⊢
 refine ⟨⟨by omega,by omega,by omega,by omega⟩,New.intro fun h4 n4=>?_⟩
 have z4:=n4.size
 have F4:Fr No h h4:=(n2.fr.new n3).new n4
 have rg4:rd h4 h.size=(geoN n).v:=(n4.at_ (by omega)).trans rg3
 have rb4:rd h4 h2.size=(List.replicate (512*n) (0:UInt8)).map bv:=by rw [n4.at_ (by omega),n3.rd,List.map_replicate]; rfl
 have ob4:Own h4 h2.size:=n4.ow n3.own
 have ro4:rd h4 h3.size=(List.range N).map fun j=>Value.bool (lowU n 0 j):=by
  rw [n4.rd]
  show List.replicate N (Value.bool false)=_
  refine List.ext_getElem (by rw [List.length_replicate,List.length_map,List.length_range]) fun i h1 h2=>?_
  rw [List.getElem_replicate,List.getElem_map,List.getElem_range]
  unfold lowU
  rw [decide_eq_false (by omega)]; rfl
 -- which bits
 refine ⟨fun i hh=>∃ k:Nat,i=k∧k≤N∧Fr (fun b=>b=h3.size) h4 hh∧Own hh h3.size∧rd hh h3.size=(List.range N).map fun j=>Value.bool (lowU n k j),fun i _=>((N:Int) - i).toNat,⟨0,rfl,Nat.zero_le _,Fr.refl _ _,n4.own,ro4⟩,?_⟩
 rintro i h5 ⟨k,ei,hk,f5,o5,r5⟩
 have z5:=f5.size
 have rg5:rd h5 h.size=(geoN n).v:=(f5.rd (by omega) (by omega)).trans rg4
 have l5:(rd h5 h3.size).length=N:=by rw [r5,List.length_map,List.length_range]
 refine cd (fun hl=>?_) fun hl=>?_
 ·have hk':k<N:=by omega
  have set:∀ v,v=edge n k→(0≤i∧i<(N:Int))∧Put (Addr.add ⟨h3.size,0,none⟩ (Int.toNat i)) (.bool v) h5 fun h6=>(∃ k:Nat,IntKind.wrap .i64 (i+1)=k∧k≤N∧Fr (fun b=>b=h3.size) h4 h6∧Own h6 h3.size∧rd h6 h3.size=(List.range N).map fun j=>Value.bool (lowU n k j))∧((N:Int) - IntKind.wrap .i64 (i+1)).toNat<((N:Int) - i).toNat:=fun v hv=>by
   refine ⟨⟨by omega,by omega⟩,Put.add o5 (by rw [l5]; omega) fun h6 d6=>?_⟩
   rw [wrap_i64 (n:=i+1) (by omega) (by omega)]
   refine ⟨⟨k+1,by omega,hk',f5.trans d6.fr fun _ _ e=>e,d6.own,?_⟩,by omega⟩
   rw [d6.rd,r5,show 0+i.toNat=k by omega,set_range]
   refine List.map_congr_left fun j hj=>?_
   unfold lowU
   by_cases e:j=k
   ·subst e; rw [if_pos rfl,decide_eq_true (by omega),hv]; rfl
   ·have:decide (j<k+1)=decide (j<k):=decide_eq_decide.mpr (by omega)
    rw [if_neg e,this]
  refine ⟨((geoN n).data:Int),rda rg5 rfl,cd (fun hlt=>?_) fun hlt=>⟨((geoN n).blocks:Int),rda rg5 rfl,?_⟩⟩
  ·exact set true (by unfold edge; rw [decide_eq_true (by omega)]; rfl)
  ·refine set _ ?_
   unfold edge
   rw [decide_eq_false (show ¬ k<(geoN n).data by omega),Bool.false_or,decide_eq_decide]
   omega
 have ek:N=k:=by omega
 subst ek
 clear hl hk ei i
 -- the records
 have hW:∀ R ∈ recs,(encR R).length=64:=fun R hr=>encR_length (hR R hr)
 have lW:(recs.flatMap encR).length=recs.length*64:=by
  have:∀ l:List (List Int),(∀ R ∈ l,(encR R).length=64)→(l.flatMap encR).length=l.length*64:=by
   intro l
   induction l with
   | nil=>intro _; rfl
   | cons R l ih=>intro h; rw [List.flatMap_cons,List.length_append,h R (List.mem_cons_self ..),ih fun x hx=>h x (List.mem_cons_of_mem _ hx),List.length_cons]; omega
  exact this recs hW
 have hwr:recs.length*64≤448:=by omega
 have hz:(List.replicate (512*n) (0:UInt8)).length=512*n:=List.length_replicate
 have lP:∀ m,(putU (List.replicate (512*n) (0:UInt8)) (512*(geoN n).inodes+64) ((recs.flatMap encR).take m)).length=512*n:=fun m=>(putU_length (by rw [List.length_take,hz,lW]; omega)).trans hz
 have f5':Fr No h h5:=F4.trans f5 fun b hb y=>by omega
 have Y5:SlCells h5 ra (recs.flatMap ints):=SlCells.fr f5' Y fun _ _ y=>y
 refine ⟨fun i hh=>∃ k:Nat,i=k∧k≤recs.length∧Fr (fun b=>b=h2.size) h5 hh∧Own hh h2.size∧rd hh h2.size=(putU (List.replicate (512*n) (0:UInt8)) (512*(geoN n).inodes+64) ((recs.flatMap encR).take (64*k))).map bv,fun i _=>((recs.length:Int) - i).toNat,
  ⟨0,rfl,Nat.zero_le _,Fr.refl _ _,f5.own (by omega) (by omega) ob4,by rw [f5.rd (by omega) (by omega),rb4]; show _=(putU _ _ []).map bv; rw [putU_nil]⟩,?_⟩
 rintro i h8 ⟨k,ei,hk,f8,o8,r8⟩
 have z8:=f8.size
 have F8:Fr No h h8:=f5'.trans f8 fun b hb y=>by omega
 have rg8:rd h8 h.size=(geoN n).v:=(f8.rd (by omega) (by omega)).trans rg5
 refine cd (fun hl=>?_) fun hl=>?_
 ·have hk':k<recs.length:=by omega
  have Y8:=SlCells.fr f8 Y5 fun p hp y=>by
   subst hp
   have hb:p.block<h.size:=by
    have hl:0<(recs.flatMap ints).length:=by
     rw [flat_length ints 15 recs fun R hr=>by rw [ints_length,hR R hr]]; omega
    have:=Y 0 _ (List.getElem?_eq_getElem hl)
    obtain ⟨_,e2⟩:=cellOf_some this
    rw [Addr.add_zero] at e2
    exact rd_lt e2
   omega
  have hw:∀ R ∈ recs,(ints R).length=15:=fun R hr=>by rw [ints_length,hR R hr]
  obtain ⟨p,ep,cc⟩:∃ p,ra=some p∧Cells h8 (p.add (k*15)) (ints (recs[k]'hk')):=by
   cases ra with
   | none =>
    have c:recs.flatMap ints=[]:=Y8
    have:=flat_length ints 15 recs hw
    rw [c] at this
    exact absurd this (by simp; omega)
   | some p =>
    refine ⟨p,rfl,?_⟩
    have:=Cells.take (Cells.drop Y8 (k*15)) 15
    rw [flat_part ints 15 recs hw k hk'] at this
    exact this
  have hr:=List.getElem_mem hk'
  have lR:=hR _ hr
  have lE:=hW _ hr
  have mR:=hm _ hr
  have dR:=hd _ hr
  have eW:∀ m (h:m<64),(recs.flatMap encR)[64*k+m]'(by rw [lW]; omega)=(encR (recs[k]'hk'))[m]'(by rw [lE]; exact h):=fun m hm=>by
   have:∀ (l:List (List Int)),(∀ R ∈ l,(encR R).length=64)→∀ k (hk:k<l.length) (hx:64*k+m<(l.flatMap encR).length) (hy:m<(encR l[k]).length),(l.flatMap encR)[64*k+m]=(encR l[k])[m]:=by
    intro l
    induction l with
    | nil=>intro _ k hk; exact absurd hk (Nat.not_lt_zero _)
    | cons R l ih =>
     intro h k hk hx hy
     have hR:=h R (List.mem_cons_self ..)
     cases k with
     | zero =>
      simp only [List.flatMap_cons,Nat.mul_zero,Nat.zero_add,List.getElem_cons_zero]
      rw [List.getElem_append_left]
     | succ k =>
      simp only [List.flatMap_cons,List.getElem_cons_succ]
      rw [List.getElem_append_right (by omega)]
      have hx':64*k+m<(l.flatMap encR).length:=by rw [List.flatMap_cons,List.length_append] at hx; omega
      have:=ih (fun x hx=>h x (List.mem_cons_of_mem _ hx)) k (by rw [List.length_cons] at hk; omega) hx' hy
      rw [← this]
      congr 1; omega
   exact this recs hW k hk' _ _
  generalize recs[k]'hk'=R at cc lR lE mR dR eW
  refine ⟨⟨by omega,hl⟩,Tm.oe ep ⟨_,by rw [ints_length,lR],by rw [show i.toNat=k by omega]; exact cc,NewRow.intro (by rw [ints_length,lR]) (ints_one _) rfl fun h10 n10=>⟨_,by rw [ints_length,lR],cellsAll n10.rd,?_⟩⟩⟩
  have z10:=n10.size
  refine In.rEncode_spec lR (fun y=>by rw [mR] at y; cases y) fun _ a1 c1 h11 f11 s11=>⟨_,_,_,_,rfl,cn (fun y=>absurd rfl y) fun _=>?_⟩
  have z11:=f11.size
  have rg11:rd h11 h.size=(geoN n).v:=(f11.rd (by omega) fun y=>y).trans ((n10.at_ (by omega)).trans rg8)
  have r11:rd h11 h8.size=ints R:=(f11.rd (by omega) fun y=>y).trans n10.rd
  refine ⟨((geoN n).count:Int),rda rg11 rfl,?_⟩
  rw [wrap_i64 (n:=i+1) (by omega) (by omega)]
  refine cd (fun y=>by exfalso; omega) fun _=>?_
  unfold boleref12_Image.k1
  have ew:IntKind.wrap .i64 (i+1)=i+1:=wrap_i64 (by omega) (by omega)
  rw [ew,e1,Int.toNat_natCast]
  have f11':Fr (fun b=>b=h2.size) h5 h11:=(f8.new n10).no f11
  have b11:rd h11 h2.size=_:=(f11.rd (by omega) fun y=>y).trans ((n10.at_ (by omega)).trans r8)
  have o11:Own h11 h2.size:=f11.own (by omega) (fun y=>y) (n10.ow o8)
  obtain ⟨p2,ep2,c2⟩:=s11.get (by omega)
  subst ep2
  obtain ⟨pb,po,sp⟩:=p2
  have esp:sp=none:=s11.2.1
  subst esp
  have hfrom:h10.size≤pb:=s11.2.2.1
  refine ⟨fun j hh=>∃ m:Nat,j=m∧m≤64∧Fr (fun b=>b=h2.size) h11 hh∧Own hh h2.size∧rd hh h2.size=(putU (List.replicate (512*n) (0:UInt8)) (512*(geoN n).inodes+64) ((recs.flatMap encR).take (64*k+m))).map bv,fun j _=>(64 - j).toNat,⟨0,rfl,by omega,Fr.refl _ _,o11,b11⟩,?_⟩
  rintro j h12 ⟨m,ej,hm,f12,o12,r12⟩
  have z12:=f12.size
  have rg12:rd h12 h.size=(geoN n).v:=(f12.rd (by omega) (by omega)).trans rg11
  refine cd (fun hlt=>?_) fun hlt=>?_
  ·have hm':m<64:=by omega
   have s12:=s11.fr f12 fun b _ hb y=>by have hb:h10.size≤b:=hb; omega
   have c12:cellOf h12 (Addr.add ⟨pb,po,none⟩ m)=some (bv ((encR R)[m]'(by rw [lE]; exact hm'))):=s12.cells m _ (by rw [List.getElem?_map,List.getElem?_eq_getElem (by rw [lE]; exact hm')]; rfl)
   have eidx:IntKind.wrap .i64 ((IntKind.wrap .i64 ((IntKind.wrap .i64 (((geoN n).inodes:Int)*512))+(IntKind.wrap .i64 (64*(i+1)))))+j)=((512*(geoN n).inodes+64+(64*k+m):Nat):Int):=by
    rw [wrap_i64 (n:=((geoN n).inodes:Int)*512) (by omega) (by omega),wrap_i64 (n:=64*(i+1)) (by omega) (by omega),wrap_i64 (n:=((geoN n).inodes:Int)*512+64*(i+1)) (by omega) (by omega),wrap_i64 (by omega) (by omega)]
    omega
   refine ⟨((geoN n).inodes:Int),rda rg12 rfl,⟨by omega,by omega⟩,os ⟨_,by rw [show j.toNat=m by omega]; exact c12,?_⟩⟩
   rw [eidx]
   refine ⟨⟨by omega,by omega⟩,Put.add o12 (by rw [r12,List.length_map,lP]; omega) fun h13 d13=>?_⟩
   rw [wrap_i64 (n:=j+1) (by omega) (by omega)]
   refine ⟨⟨m+1,by omega,hm',f12.trans d13.fr fun _ _ e=>e,d13.own,?_⟩,by show (64 - (j+1)).toNat<(64 - j).toNat; omega⟩
   rw [d13.rd,r12,Int.toNat_natCast,Nat.zero_add]
   show (List.map bv _).set _ (bv _)=_
   rw [← List.map_set,← eW m hm',putU_snoc (by rw [lW]; omega) (by rw [lW,hz]; omega)]
   rfl
  have em:m=64:=by omega
  subst em
  have r12':rd h12 h8.size=ints R:=(f12.rd (by omega) (by omega)).trans r11
  refine ⟨ints ((R.drop 3).take 10),by rw [ints_length,List.length_take,List.length_drop,lR]; rfl,cellsa r12' ?_,?_⟩
  ·unfold ints
   rw [List.length_map,List.length_take,List.length_drop,lR,List.map_take,List.map_drop]
   rfl
  refine ⟨fun j hh=>∃ m:Nat,j=m∧m≤10∧hh=h12,fun j _=>(10 - j).toNat,⟨0,rfl,by omega,rfl⟩,?_⟩
  rintro j h14 ⟨m,ej',hm',rfl⟩
  refine cd (fun hlt=>⟨⟨by omega,by omega⟩,0,?_,((geoN n).data:Int),rda rg12 rfl,cd (fun y=>by exfalso; omega) fun _=>?_⟩) fun hlt=>?_
  ·have h10:m<10:=by omega
   have:=dR m h10
   rw [show j.toNat=m by omega]
   unfold ints
   rw [List.getElem?_map,List.getElem?_take_of_lt h10,List.getElem?_drop]
   rw [List.getD_eq_getElem?_getD,List.getElem?_eq_getElem (by omega)] at this
   rw [List.getElem?_eq_getElem (by omega)]
   show some (Value.int .i64 _)=_
   rw [show R[3+m]'(by omega)=0 from this]
  ·rw [wrap_i64 (n:=j+1) (by omega) (by omega)]
   exact ⟨⟨m+1,by omega,by omega,rfl⟩,by show (10 - (j+1)).toNat<(10 - j).toNat; omega⟩
  ·refine ⟨⟨k+1,by omega,hk',f11'.trans f12 fun _ _ e=>e,o12,?_⟩,by show ((recs.length:Int) - (i+1)).toNat<((recs.length:Int) - i).toNat; omega⟩
   rw [r12,show 64*(k+1)=64*k+64 by omega]
 have ek:k=recs.length:=by omega
 subst ek
 rw [List.take_of_length_le (by rw [lW]; omega)] at r8
 clear hl hk ei i
 -- the bits are set
 have ro8:rd h8 h3.size=(List.range N).map fun j=>Value.bool (lowU n N j):=(f8.rd (by omega) (by omega)).trans r5
 refine ⟨fun i hh=>∃ (k:Nat) (L:Txt),i=k∧k≤N∧Fr (fun b=>b=h2.size) h8 hh∧Own hh h2.size∧rd hh h2.size=L.map bv∧Ib n (recs.flatMap encR) k L,fun i _=>((N:Int) - i).toNat,⟨0,_,rfl,Nat.zero_le _,Fr.refl _ _,o8,r8,Ib.zero hn (by rw [lW]; exact hwr)⟩,?_⟩
 rintro i h16 ⟨k,L,ei,hk,f16,o16,r16,I⟩
 have z16:=f16.size
 have rg16:rd h16 h.size=(geoN n).v:=(f16.rd (by omega) (by omega)).trans rg8
 have lL:=I.im.len
 refine cd (fun hl=>⟨⟨by omega,hl⟩,edge n k,?_,?_⟩) fun hl=>?_
 ·have hk':k<N:=by omega
  refine rda ((f16.rd (by omega) (by omega)).trans ro8) ?_
  rw [List.getElem?_map,List.getElem?_eq_getElem (by rw [List.length_range]; omega),List.getElem_range]
  show some (Value.bool (lowU n N (0+i.toNat)))=_
  rw [show 0+i.toNat=k by omega]
  unfold lowU
  rw [decide_eq_true hk',Bool.true_and]
 ·have hk':k<N:=by omega
  rw [wrap_i64 (n:=i+1) (by omega) (by omega)]
  cases he:edge n k with
  | false=>exact cf rfl ⟨⟨k+1,L,by omega,hk',f16,o16,r16,I.miss he⟩,by show ((N:Int) - (i+1)).toNat<((N:Int) - i).toNat; omega⟩
  | true =>
   refine ct rfl ⟨fun v j hh=>∃ s:Nat,j=s∧s≤k % 8∧v=((2 ^ s:Nat):Int)∧hh=h16,fun _ j _=>(8 - j).toNat,⟨0,rfl,Nat.zero_le _,rfl,rfl⟩,?_⟩
   rintro v j h17 ⟨s,ej,hs,ev,rfl⟩
   rw [ei,tmod8,tdiv8]
   refine cd (fun hlt=>?_) fun hlt=>?_
   ·have h7:s<7:=by omega
    rw [wrap_i64 (n:=j+1) (by omega) (by omega),ev,pow_step ⟨s,h7⟩]
    exact ⟨⟨s+1,by omega,by omega,rfl,rfl⟩,by show (8 - (j+1)).toNat<(8 - j).toNat; omega⟩
   ·have es:s=k % 8:=by omega
    subst es
    have eidx:IntKind.wrap .i64 ((IntKind.wrap .i64 (((geoN n).bitmap:Int)*512))+(IntKind.wrap .i64 ((k / 8:Nat):Int)))=((98*512+k / 8:Nat):Int):=by
     rw [wrap_i64 (n:=((geoN n).bitmap:Int)*512) (by omega) (by omega),wrap_i64 (n:=((k / 8:Nat):Int)) (by omega) (by omega),wrap_i64 (by omega) (by omega)]
     omega
    have hi2:98*512+k / 8<L.length:=by omega
    have c17:cellOf h17 (Addr.add ⟨h2.size,0,none⟩ (98*512+k / 8))=some (bv (L.getD (98*512+k / 8) 0)):=by
     refine rda r16 ?_
     rw [Nat.zero_add,List.getElem?_map,List.getD_eq_getElem?_getD,List.getElem?_eq_getElem hi2]; rfl
    refine ⟨((geoN n).bitmap:Int),rda rg16 rfl,((geoN n).bitmap:Int),rda rg16 rfl,?_⟩
    rw [eidx,Int.toNat_natCast]
    refine ⟨⟨by omega,by omega⟩,_,c17,⟨by omega,by omega⟩,Put.add o16 (by rw [r16,List.length_map]; omega) fun h18 d18=>?_⟩
    have hx:(L.getD (98*512+k / 8) 0).toNat<256:=UInt8.toNat_lt _
    have hb:(L.getD (98*512+k / 8) 0).toNat.testBit (k % 8)=false:=by
     have:=I.im.bits k (by omega)
     unfold bitAt at this
     rw [show (98*4096+k) / 8=98*512+k / 8 by omega,show (98*4096+k) % 8=k % 8 by omega] at this
     rw [this]; unfold lowU; rw [decide_eq_false (by omega)]; rfl
    have ob:IntKind.wrap .u8 (((L.getD (98*512+k / 8) 0).toNat:Int)+v)=(setB (L.getD (98*512+k / 8) 0).toNat (k % 8) true:Nat):=by
     rw [ev]; exact bit_add ⟨_,hx⟩ ⟨k % 8,by omega⟩ hb
    have ex:(.int .u8 ((setB (L.getD (98*512+k / 8) 0).toNat (k % 8) true:Nat):Int):Value)=bv (UInt8.ofNat (setB (L.getD (98*512+k / 8) 0).toNat (k % 8) true)):=by
     show _=Value.int .u8 _
     rw [UInt8.toNat_ofNat_of_lt' (setB_lt' hx (by omega) true)]
    refine ⟨⟨k+1,putBit L (98*4096+k) true,by omega,hk',f16.trans d18.fr fun _ _ e=>e,d18.own,?_,I.hit hn (by omega) he⟩,by show ((N:Int) - ((k:Int)+1)).toNat<((N:Int) - (k:Int)).toNat; omega⟩
    rw [d18.rd,r16,ob,ex,← List.map_set,Nat.zero_add]
    unfold putBit
    rw [show (98*4096+k) / 8=98*512+k / 8 by omega,show (98*4096+k) % 8=k % 8 by omega]
 ·have ek:N=k:=by omega
  subst ek
  exact hK h2.size L h16 (F8.trans f16 fun b hb y=>by omega) I o16 (by omega) r16
end Go.Proofs.YtiapingedfnlnaaGreatDoor.Fi
namespace Go.Proofs.YtiapingedfnlnaaGreatDoor.Fi
open Go Go.Proofs Wx Hp W Ad Tm Bt Spc Re Av
open Hd (ints)
open In (Glo ints_length ints_one mayR decA encR encR_length decOk getR_enc wordOk kindOk)
open Ino (getM putM Cok getM_length rblk rat)
open Bm (findM addM allM num num4 nS Wf Tight path find_ok many Im edge Z0 fresh_av rowN tabN allS_ok tabs_eq Dom rowN_fst mem_rowN)
theorem dom_row (f:Nat→Nat):Dom f (rowN f 0 16522):=by
 refine ⟨rowN_fst 16522 0,fun p hp=>?_,fun k hk=>?_⟩
 ·obtain ⟨x,_,h2,_,rfl⟩:=(mem_rowN 16522 0).mp hp
  exact ⟨by show (0:Int)≤(x:Int); omega,by show (x:Int)<16522; omega⟩
 ·rw [List.mem_map]
  constructor
  ·rintro ⟨p,hp,e⟩
   obtain ⟨x,_,h2,h3,rfl⟩:=(mem_rowN 16522 0).mp hp
   have e:(x:Int)=(k:Int):=e
   have:x=k:=by omega
   rw [← this]; exact h3
  ·intro h
   exact ⟨_,(mem_rowN 16522 0).mpr ⟨k,Nat.zero_le _,by omega,h,rfl⟩,rfl⟩
theorem all_len {n:Nat} {Z:Nat→Txt} {R:List Int} {T:TM} (a:Av n Z T) (w:Wf n Z R):(allM T (geoN n) R).2.2=0∧(allM T (geoN n) R).1.length+(allM T (geoN n) R).2.1.length=many Z R:=by
 have e:=allS_ok a w
 rw [tabs_eq] at e
 rw [e]
 exact ⟨rfl,(dom_row (num Z R)).split.symm⟩
theorem cnt_le' (p:Nat→Bool):∀ m,cnt p m≤m
 | 0=>Nat.le_refl _
 | m+1=>by
  have:=cnt_le' p m
  show cnt p m+(if p m=true then 1 else 0)≤m+1
  split <;> omega
theorem many_le (Z:Nat→Txt) (R:List Int):many Z R≤16652:=cnt_le' _ _
def dirR : List Int:=[2,2,0,0,0,0,0,0,0,0,0,0,0,0,0]
def filR : List Int:=[1,1,0,0,0,0,0,0,0,0,0,0,0,0,0]
theorem getD_putU {Z W:Txt} {o:Nat} (h:o+W.length≤Z.length) (p:Nat):(putU Z o W).getD p 0=if o≤p∧p<o+W.length then W.getD (p - o) 0 else Z.getD p 0:=by
 have lo:(Z.take o).length=o:=by rw [List.length_take]; omega
 unfold putU
 rw [List.getD_eq_getElem?_getD,List.append_assoc]
 by_cases h1:p<o
 ·rw [List.getElem?_append_left (by omega),List.getElem?_take_of_lt h1,if_neg (by omega),List.getD_eq_getElem?_getD]
 ·rw [List.getElem?_append_right (by omega),lo]
  by_cases h2:p - o<W.length
  ·rw [List.getElem?_append_left h2,if_pos (by omega),List.getD_eq_getElem?_getD]
  ·rw [List.getElem?_append_right (by omega),List.getElem?_drop,if_neg (by omega),List.getD_eq_getElem?_getD,show o+W.length+(p - o - W.length)=p by omega]
theorem slice0 {n k:Nat} {L:Txt} (d:Dim n) (hL:L.length=512*n) (h:k<(geoN n).count):((Z0 L (blkZ n k)).drop (64*(k % 8))).take 64=(List.range 64).map fun p=>L.getD (512*(geoN n).inodes+64*k+p) 0:=by
 have r:=blkZ_rng d h
 unfold Z0
 refine List.ext_getElem ?_ fun p h1 h2=>?_
 ·rw [List.length_take,List.length_drop,List.length_take,List.length_drop,hL,List.length_map,List.length_range]; omega
 ·rw [List.length_map,List.length_range] at h2
  rw [List.getElem_map,List.getElem_range,List.getElem_take,List.getElem_drop,List.getElem_take,List.getElem_drop]
  have e:blkZ n k*512+(64*(k % 8)+p)=512*(geoN n).inodes+64*k+p:=by unfold blkZ; omega
  rw [← e,List.getD_eq_getElem?_getD,List.getElem?_eq_getElem (by omega)]; rfl
end Go.Proofs.YtiapingedfnlnaaGreatDoor.Fi
namespace Go.Proofs.YtiapingedfnlnaaGreatDoor.Fi
open Go Go.Proofs Wx Hp W Ad Tm Bt Spc Re Av
open Hd (ints)
open In (Glo ints_length ints_one mayR decA encR encR_length)
open Ino (getM putM Cok getM_length rblk rat)
open Bm (num nS Wf Tight path path_self many miss Im edge Z0 fresh_av num_nil tight_nil wf_nil miss_zero path_chain chain_nS)
theorem cnt_from (a:Nat):∀ m,cnt (fun j=>decide (a≤j)) m=m - a
 | 0=>by rw [Nat.zero_sub]; rfl
 | m+1=>by
  show cnt (fun j=>decide (a≤j)) m+(if decide (a≤m)=true then 1 else 0)=_
  rw [cnt_from a m]
  by_cases h:a≤m
  ·rw [if_pos (decide_eq_true h)]; omega
  ·rw [if_neg (by rw [decide_eq_true_eq]; exact h)]; omega
theorem cnt_none {p:Nat→Bool}:∀ m,(∀ s,s<m→p s=false)→cnt p m=0
 | 0,_=>rfl
 | m+1,h=>by
  show cnt p m+(if p m=true then 1 else 0)=0
  rw [cnt_none m fun s hs=>h s (by omega),h m (by omega)]; rfl
end Go.Proofs.YtiapingedfnlnaaGreatDoor.Fi
namespace Go.Proofs.YtiapingedfnlnaaGreatDoor.Di
open Go Go.Proofs Ad Tm Bt Spc Av Ss Re
open Fi (blockM getM_at putM_at recZ recZ_put blkZ blkZ_rng pc pc_up pc_add pc_same pc_low pc_size blockM_ok undoM Gr Gr.refl num_up bit_data Wf.up num_size Wf.alike tight_alike many_alike frees_alike num_low bit_low num_same)
open Bm (findM addM num nS Wf Tight path Added find_ok add_ok path_self miss miss_zero many roots_num write_un addM_un)
open Ino (getM putM)
open In (mayR encR encR_length kindOk wordOk)
open Sk (E ents low nameOk dec dec_blk blk_length zero_good)
theorem mayR_dir {n:Nat} {Z:Nat→Tm.Txt} {R:List Int} (d:Dim n) (w:Wf n Z R) (h0:R.getD 0 0=2) (h1:2≤R.getD 1 0∧R.getD 1 0≤65535) (h2:0≤R.getD 2 0∧R.getD 2 0≤8459264) (h3:R.getD 2 0 % 512=0):mayR R=true:=by
 have hn:=d.hi
 unfold mayR
 rw [Bool.and_eq_true]
 constructor
 ·rw [List.all_eq_true]
  intro v hv
  obtain ⟨i,hi,e⟩:=List.mem_iff_getElem.mp hv
  rw [List.length_drop,w.rl] at hi
  rw [List.getElem_drop] at e
  have eg:R.getD (3+i) 0=v:=by rw [List.getD_eq_getElem?_getD,List.getElem?_eq_getElem (by rw [w.rl]; omega)]; exact e
  have lo:=w.rr (3+i) (by omega) (by omega)
  have hi2:v≤n:=by
   obtain ⟨a1,a2,a3⟩:=roots_num w
   have bd:∀ s,s<nS→((num Z R s:Nat):Int)≤n:=fun s hs=>by
    by_cases h:num Z R s=0
    ·omega
    ·have:=(w.rng s hs h).2.1; omega
   rw [← eg]
   rcases Nat.lt_or_ge i 10 with h|h
   ·rw [a1 i h]; exact bd i (by unfold nS; omega)
   ·rcases Nat.lt_or_ge i 11 with h'|h'
    ·rw [show 3+i=13 by omega,a2]; exact bd _ (by decide)
    ·rw [show 3+i=14 by omega,a3]; exact bd _ (by decide)
  unfold wordOk
  rw [Bool.and_eq_true,decide_eq_true_eq,decide_eq_true_eq]
  omega
 ·rw [In.kindOk,h0,if_neg (by decide),if_neg (by decide),if_pos rfl,Bool.and_eq_true,Bool.and_eq_true,Bool.and_eq_true,Bool.and_eq_true,decide_eq_true_eq,decide_eq_true_eq,decide_eq_true_eq,decide_eq_true_eq,decide_eq_true_eq]
  exact ⟨h1,h2,h3⟩
theorem Dir.alike {Z Z':Nat→Tm.Txt} {R:List Int} {H:List Cl} (D:Dir Z R H) (N:∀ s,s<nS→num Z' R s=num Z R s) (P:∀ k,k<16522→pc Z' R k=pc Z R k):Dir Z' R H :=
 ⟨D.kind,D.links,D.size,D.sixt,D.most,D.good,fun s hs=>by rw [N s hs]; exact D.dom s hs,fun k hk=>by
  have:=D.most
  rw [P k (by omega)]; exact D.blk k hk⟩
structure Dd (n u:Nat) (A:List Int) (Z:Nat→Tm.Txt) (T:TM) (i:Nat) (R:List Int) (H:List Cl) (j:Nat) (S:List Int) (J:List Cl):Prop where
 av:Av n Z T
 w:Wf n Z R
 w':Wf n Z S
 tg:Tight Z R
 tg':Tight Z S
 dis:∀ s s',s<nS→s'<nS→num Z R s≠0→num Z R s≠num Z S s'
 gi:recZ n Z i=(R,0)
 gj:recZ n Z j=(S,0)
 di:Dir Z R H
 dj:Dir Z S J
 ri:1≤i∧i<(geoN n).count
 rj:1≤j∧j<(geoN n).count
 ij:i≠j
 tot:frees n Z+many Z R+many Z S+u=n
 kin:∀ x ∈ ks T,x ∈ A∨x<(geoN n).data∨(∃ s,s<10∧x=((num Z R s:Nat):Int))∨∃ s,s<10∧x=((num Z S s:Nat):Int)
section
variable {n u i j : Nat} {A : List Int} {Z : Nat → Tm.Txt} {T : TM} {R S : List Int} {H J : List Cl}
theorem Dd.sym (f:Dd n u A Z T i R H j S J):Dd n u A Z T j S J i R H :=
 ⟨f.av,f.w',f.w,f.tg',f.tg,fun s s' hs hs' h e=>f.dis s' s hs' hs (by rw [← e]; exact h) e.symm,f.gj,f.gi,f.dj,f.di,f.rj,f.ri,fun e=>f.ij e.symm,by have:=f.tot; omega,fun x hx=>(f.kin x hx).imp id fun h=>h.imp id Or.symm⟩
theorem Dd.kl (f:Dd n u A Z T i R H j S J):(ks T).length≤A.length+((geoN n).data - 98)+20:=by
 have:=nodup_len (m:=A++((List.range ((geoN n).data - 98)).map fun k=>((98+k:Nat):Int))++(((List.range 10).map fun s=>((num Z R s:Nat):Int))++(List.range 10).map fun s=>((num Z S s:Nat):Int))) f.av.keys fun x hx=>by
  rw [List.mem_append,List.mem_append,List.mem_append]
  have r:=f.av.rng x hx
  rcases f.kin x hx with h|h|⟨s,hs,e⟩|⟨s,hs,e⟩
  ·exact .inl (.inl h)
  ·exact .inl (.inr (List.mem_map.mpr ⟨(x - 98).toNat,List.mem_range.mpr (by omega),by omega⟩))
  ·exact .inr (.inl (List.mem_map.mpr ⟨s,List.mem_range.mpr hs,e.symm⟩))
  ·exact .inr (.inr (List.mem_map.mpr ⟨s,List.mem_range.mpr hs,e.symm⟩))
 simp only [List.length_append,List.length_map,List.length_range] at this
 omega
theorem Dd.cell (d:Dim n) (f:Dd n u A Z T i R H j S J) (hA:A.length+((geoN n).data - 98)<60) {p:Nat} (hp:p<H.length) {c:Cl} (gc:Sk.Good c) :
  (T.write ((num Z R (p / 16):Nat):Int) (Sk.blk ((seg H (p / 16)).set (p % 16) c))).2=0∧Dd n u A (up Z (num Z R (p / 16)) (Sk.blk ((seg H (p / 16)).set (p % 16) c))) (T.write ((num Z R (p / 16):Nat):Int) (Sk.blk ((seg H (p / 16)).set (p % 16) c))).1 i R (H.set p c) j S J:=by
 have h6:=f.di.sixt
 have hm:=f.di.most
 have hk:p / 16<16522:=by omega
 have hkn:p / 16<nS:=by unfold nS; omega
 have h0:num Z R (p / 16)≠0:=(f.di.dom _ hkn).mpr (by omega)
 have r:=f.w.rng _ hkn h0
 have hd:=d.data
 have l16:=seg_len (H:=H) (k:=p / 16) h6 (by omega)
 have gs:∀ x ∈ (seg H (p / 16)).set (p % 16) c,Sk.Good x:=Sk.set_good (fun x hx=>f.di.good x (seg_mem hx)) gc
 have hl:(Sk.blk ((seg H (p / 16)).set (p % 16) c)).length=512:=by rw [blk_length gs,List.length_set,l16]
 have kl:=f.kl
 have hw:(T.write ((num Z R (p / 16):Nat):Int) (Sk.blk ((seg H (p / 16)).set (p % 16) c))).2=0:=by
  rcases f.av.write_full (i:=num Z R (p / 16)) (by omega) r.2.1 hl with h|⟨_,h,_⟩
  ·exact h
  ·exfalso; omega
 refine ⟨hw,?_⟩
 have kw:=write_keys hw
 generalize hbs:Sk.blk ((seg H (p / 16)).set (p % 16) c)=bs at hl hw kw ⊢
 have N:=num_up (bs:=bs) f.w hk h0
 have oz:∀ s,s<nS→num Z S s≠0→up Z (num Z R (p / 16)) bs (num Z S s)=Z (num Z S s):=fun s hs h=>up_ne _ _ fun e=>f.dis _ s hkn hs h0 e.symm
 have NS:=num_same oz
 have eb:∀ x,x<n→bit (up Z (num Z R (p / 16)) bs) x=bit Z x:=fun x hx=>bit_data d r.1 hx
 have reck:∀ k,k<(geoN n).count→recZ n (up Z (num Z R (p / 16)) bs) k=recZ n Z k:=fun k hk=>by
  have rb:=blkZ_rng d hk
  unfold recZ; rw [up_ne _ _ (by omega)]
 refine ⟨f.av.write (by omega) r.2.1 hl hw,Wf.up d f.w hk h0,Wf.alike f.w' f.w'.rl f.w'.rr NS fun x hx h=>by rw [eb x hx]; exact h,tight_alike f.tg N,tight_alike f.tg' NS,fun s s' hs hs' h=>?_,?_,?_,?_,f.dj.alike NS fun k hk=>pc_same oz hk,f.ri,f.rj,f.ij,?_,fun x hx=>?_⟩
 ·rw [N s hs] at h ⊢; rw [NS s' hs']; exact f.dis s s' hs hs' h
 ·rw [reck i f.ri.2]; exact f.gi
 ·rw [reck j f.rj.2]; exact f.gj
 ·have D:=f.di
  refine ⟨D.kind,D.links,by rw [List.length_set]; exact D.size,by rw [List.length_set]; exact h6,by rw [List.length_set]; exact hm,Sk.set_good D.good gc,fun s hs=>by rw [N s hs,List.length_set]; exact D.dom s hs,fun k hk'=>?_⟩
  rw [List.length_set] at hk'
  rw [pc_up f.w hk h0 (by omega),seg_set]
  by_cases e:p / 16=k
  ·rw [if_pos e.symm,if_pos e,← e,hbs]
  ·rw [if_neg fun y=>e y.symm,if_neg e]; exact D.blk k hk'
 ·rw [frees_alike eb,many_alike N,many_alike NS]; exact f.tot
 ·rcases (kw x).mp hx with h|h
  ·rcases f.kin x h with h|h|⟨s,hs,e⟩|⟨s,hs,e⟩
   ·exact .inl h
   ·exact .inr (.inl h)
   ·exact .inr (.inr (.inl ⟨s,hs,by rw [N s (by unfold nS; omega)]; exact e⟩))
   ·exact .inr (.inr (.inr ⟨s,hs,by rw [NS s (by unfold nS; omega)]; exact e⟩))
  ·exact .inr (.inr (.inl ⟨p / 16,by omega,by rw [N _ hkn]; exact h⟩))
theorem pathS {k:Nat} (h:k<10):path k=[k]:=by unfold path; rw [if_pos h]
def fresh16 (c:Cl):List Cl:=c::List.replicate 15 (0,[])
theorem fresh16_good {c:Cl} (g:Sk.Good c):∀ x ∈ fresh16 c,Sk.Good x:=fun x hx=>by
 rcases List.mem_cons.mp hx with rfl|hx
 ·exact g
 ·rw [List.eq_of_mem_replicate hx]; exact zero_good
theorem Dd.grow (d:Dim n) (f:Dd n u A Z T i R H j S J) (hA:A.length+((geoN n).data - 98)<60) (hH:H.length<160) (hf:1≤frees n Z) {c:Cl} (gc:Sk.Good c) :
  ∃ T2 R2 v,addM T (geoN n) R ((H.length / 16:Nat):Int)=(T2,R2,v,0)∧T2.read v=(Sk.blk (List.replicate 16 (0,[])),0)∧(T2.write v (Sk.blk (fresh16 c))).2=0∧R2.set 2 (R2.getD 2 0+512)≠R∧R2.length=15 ∧
   ∃ Z' T',putM (T2.write v (Sk.blk (fresh16 c))).1 (geoN n) i (R2.set 2 (R2.getD 2 0+512))=(T',0)∧Dd n u A Z' T' i (R2.set 2 (R2.getD 2 0+512)) (H++fresh16 c) j S J∧frees n Z'+1=frees n Z∧T'.undo.length≤T.undo.length+11∧T'.disk=T.disk:=by
 have D:=f.di
 have h6:=D.sixt
 have hm:=D.most
 have hsz:=D.size
 have kl:=f.kl
 have hk:H.length / 16<16522:=by omega
 have hkn:H.length / 16<nS:=by unfold nS; omega
 have k10:H.length / 16<10:=by omega
 have hz:num Z R (H.length / 16)=0:=Classical.byContradiction fun y=>by have:=(D.dom _ hkn).mp y; omega
 have hd:=d.data
 have hin:(geoN n).inodes≤(geoN n).data:=Nat.le_add_right _ _
 generalize hK:H.length / 16=k at hk hkn k10 hz ⊢
 have m1:miss Z R (path k)=1:=by rw [pathS k10]; unfold miss; rw [if_pos hz]; rfl
 rcases add_ok d f.av f.w hk with ⟨_,h⟩|⟨_,h⟩|⟨T2,R2,Z2,e,av2,ad,_,kk,_⟩
 ·exfalso; omega
 ·exfalso; omega
 have un2:=addM_un (T:=T) (g:=geoN n) (R:=R) (k:=(k:Int))
 rw [e] at un2
 have un2:T2.undo.length≤T.undo.length+9:=un2
 have x2:=Fi.add_ext d f.av f.w hk (Ext.refl T)
 rw [e] at x2
 have x3:=x2.write ((num Z2 R2 k:Nat):Int) (Sk.blk (fresh16 c))
 have g2:=(Gr.refl f.w f.tg).add hk ad
 have v0:num Z2 R2 k≠0:=ad.got _ (path_self _)
 have rv:=ad.w.rng _ hkn v0
 have ez:Z2 (num Z2 R2 k)=zeros:=ad.zero k (path_self _) hk hz
 have gs:=fresh16_good gc
 have lb:(Sk.blk (fresh16 c)).length=512:=by rw [blk_length gs]; rfl
 have k2:(ks T2).length≤A.length+((geoN n).data - 98)+21:=by
  have:=nodup_len (m:=ks T++((List.range ((geoN n).data - 98)).map fun k=>((98+k:Nat):Int))++[((num Z2 R2 k:Nat):Int)]) av2.keys fun x hx=>by
   rw [List.mem_append,List.mem_append]
   have r:=av2.rng x hx
   rcases kk x hx with h|h|⟨s,hs,e⟩
   ·exact .inl (.inl h)
   ·exact .inl (.inr (List.mem_map.mpr ⟨(x - 98).toNat,List.mem_range.mpr (by omega),by omega⟩))
   ·rw [pathS k10,List.mem_singleton] at hs
    rw [hs] at e
    exact .inr (List.mem_singleton.mpr e)
  simp only [List.length_append,List.length_map,List.length_range,List.length_singleton] at this
  have:=nodup_len (m:=A++((List.range ((geoN n).data - 98)).map fun k=>((98+k:Nat):Int))++(((List.range 10).map fun s=>((num Z R s:Nat):Int))++((List.range 10).map fun s=>((num Z S s:Nat):Int))++[((num Z2 R2 k:Nat):Int)])) av2.keys fun x hx=>by
   rw [List.mem_append,List.mem_append,List.mem_append,List.mem_append]
   have r:=av2.rng x hx
   rcases kk x hx with h|h|⟨s,hs,e⟩
   ·rcases f.kin x h with h|h|⟨s,hs,e⟩|⟨s,hs,e⟩
    ·exact .inl (.inl h)
    ·exact .inl (.inr (List.mem_map.mpr ⟨(x - 98).toNat,List.mem_range.mpr (by omega),by omega⟩))
    ·exact .inr (.inl (.inl (List.mem_map.mpr ⟨s,List.mem_range.mpr hs,e.symm⟩)))
    ·exact .inr (.inl (.inr (List.mem_map.mpr ⟨s,List.mem_range.mpr hs,e.symm⟩)))
   ·exact .inl (.inr (List.mem_map.mpr ⟨(x - 98).toNat,List.mem_range.mpr (by omega),by omega⟩))
   ·rw [pathS k10,List.mem_singleton] at hs
    rw [hs] at e
    exact .inr (.inr (List.mem_singleton.mpr e))
  simp only [List.length_append,List.length_map,List.length_range,List.length_singleton] at this
  omega
 have hw:(T2.write ((num Z2 R2 k:Nat):Int) (Sk.blk (fresh16 c))).2=0:=by
  rcases av2.write_full (i:=num Z2 R2 k) (by omega) rv.2.1 lb with h|⟨_,h,_⟩
  ·exact h
  ·exfalso; omega
 have l2:R2.length=15:=ad.w.rl
 have hd2:R2.getD 2 0=R.getD 2 0:=ad.head 2 (by decide)
 have gR3:(R2.set 2 (R2.getD 2 0+512)).getD 2 0=R2.getD 2 0+512:=by rw [List.getD_eq_getElem?_getD,List.getElem?_set_self (by omega)]; rfl
 have gn:∀ x,x≠2→(R2.set 2 (R2.getD 2 0+512)).getD x 0=R2.getD x 0:=fun x hx=>by
  rw [List.getD_eq_getElem?_getD,List.getElem?_set_ne (by omega),← List.getD_eq_getElem?_getD]
 refine ⟨T2,R2,_,e,?_,hw,fun y=>?_,l2,?_⟩
 ·rw [av2.z _ rv.2.1,ez]
  have:zeros=Sk.blk (List.replicate 16 (0,[])):=by decide +kernel
  rw [this]
 ·have:=congrArg (fun l:List Int=>l.getD 2 0) y
  simp only [gR3] at this
  omega
 have av3:=av2.write (by omega) rv.2.1 lb hw
 have kw:=write_keys hw
 have kl3:=(write_len hw).1
 have un3:=write_un T2 ((num Z2 R2 k:Nat):Int) (Sk.blk (fresh16 c))
 have x3:Ext T (T2.write ((num Z2 R2 k:Nat):Int) (Sk.blk (fresh16 c))).1:=x3
 generalize hT3:(T2.write ((num Z2 R2 k:Nat):Int) (Sk.blk (fresh16 c))).1=T3 at av3 kw kl3 un3 x3 ⊢
 have g3:=g2.put d hk v0 (Sk.blk (fresh16 c))
 have N3:=num_up (bs:=Sk.blk (fresh16 c)) ad.w hk v0
 have P3:∀ x,x<16522→pc (up Z2 (num Z2 R2 k) (Sk.blk (fresh16 c))) R2 x=if x=k then Sk.blk (fresh16 c) else pc Z R x:=fun x hx=>by rw [pc_up ad.w hk v0 hx,pc_add f.w ad hk hx]
 have k3:∀ x ∈ ks T3,x ∈ A∨x<(geoN n).data∨(∃ s,s<10∧x=((num (up Z2 (num Z2 R2 k) (Sk.blk (fresh16 c))) R2 s:Nat):Int))∨∃ s,s<10∧x=((num Z S s:Nat):Int):=fun x hx=>by
  have mine:x=((num Z2 R2 k:Nat):Int)→∃ s,s<10∧x=((num (up Z2 (num Z2 R2 k) (Sk.blk (fresh16 c))) R2 s:Nat):Int):=fun h=>⟨k,k10,by rw [N3 k hkn]; exact h⟩
  rcases (kw x).mp hx with h|h
  ·rcases kk x h with h|h|⟨s,hs,ex⟩
   ·rcases f.kin x h with h|h|⟨s,hs,ex⟩|h
    ·exact .inl h
    ·exact .inr (.inl h)
    ·by_cases hs0:num Z R s=0
     ·rw [hs0] at ex; exact .inr (.inl (by omega))
     ·have hsn:s<nS:=by unfold nS; omega
      exact .inr (.inr (.inl ⟨s,hs,by rw [g3.keep s hsn hs0]; exact ex⟩))
    ·exact .inr (.inr (.inr h))
   ·exact .inr (.inl (by omega))
   ·rw [pathS k10,List.mem_singleton] at hs
    rw [hs] at ex
    exact .inr (.inr (.inl (mine ex)))
  ·exact .inr (.inr (.inl (mine h)))
 generalize hZ3:up Z2 (num Z2 R2 k) (Sk.blk (fresh16 c))=Z3 at av3 g3 P3 k3
 obtain ⟨oz,od⟩:=g3.other f.w' f.dis
 have rb:=blkZ_rng d f.ri.2
 generalize hR3:R2.set 2 (R2.getD 2 0+512)=R3 at gR3 gn ⊢
 have NN:∀ Zx x,x<nS→num Zx R3 x=num Zx R2 x:=fun Zx x hx=>by rw [← hR3]; exact num_size x hx
 have l3:R3.length=15:=by rw [← hR3,List.length_set,l2]
 have w3:Wf n Z3 R3:=Wf.alike g3.w l3 (fun x hx _=>by rw [gn x (by omega)]; exact g3.w.rr x hx (by omega)) (NN Z3) fun _ _ h=>h
 have q0:R3.getD 0 0=2:=by rw [gn 0 (by decide),ad.head 0 (by decide)]; exact D.kind
 have q1:2≤R3.getD 1 0∧R3.getD 1 0≤65535:=by rw [gn 1 (by decide),ad.head 1 (by decide)]; exact D.links
 have q2:R3.getD 2 0=((32*(H.length+16):Nat):Int):=by rw [gR3,hd2,hsz]; omega
 have m3:mayR R3=true:=mayR_dir d w3 q0 q1 (by omega) (by omega)
 have ep:=putM_at av3 d f.ri.1 f.ri.2 m3
 have lz:=av3.len _ rb.2.2.1
 have lp:(putU (Z3 (blkZ n i)) (64*(i % 8)) (encR R3)).length=512:=by rw [putU_length (by rw [encR_length l3]; omega),lz]
 have hw4:(T3.write ((blkZ n i:Nat):Int) (putU (Z3 (blkZ n i)) (64*(i % 8)) (encR R3))).2=0:=by
  rcases av3.write_full rb.2.2.2 rb.2.2.1 lp with h|⟨_,h,_⟩
  ·exact h
  ·exfalso; omega
 have av4:=av3.write rb.2.2.2 rb.2.2.1 lp hw4
 have kw4:=write_keys hw4
 have un4:=write_un T3 ((blkZ n i:Nat):Int) (putU (Z3 (blkZ n i)) (64*(i % 8)) (encR R3))
 have rp:=fun k=>recZ_put (n:=n) (i:=i) (k:=k) (Z:=Z3) l3 m3 lz
 have rec3:∀ q,1≤q→q<(geoN n).count→recZ n Z3 q=recZ n Z q:=fun q _ h2=>by
  have r:=blkZ_rng d h2
  unfold recZ
  rw [g3.cont _ r.2.2.1 r.1 (.inl r.2.1) fun x hx h e=>by have:=(g3.w.rng x hx h).1; omega]
 have x4:=(x3.write ((blkZ n i:Nat):Int) (putU (Z3 (blkZ n i)) (64*(i % 8)) (encR R3))).disk
 generalize hbs:putU (Z3 (blkZ n i)) (64*(i % 8)) (encR R3)=bs at ep av4 kw4 rp un4 hw4 x4
 have bl:∀ x,x<n→bit (up Z3 (blkZ n i) bs) x=bit Z3 x:=fun x hx=>bit_low d rb.1 hx
 have NR:∀ x,x<nS→num (up Z3 (blkZ n i) bs) R3 x=num Z3 R2 x:=fun x hx=>(num_low w3 rb.2.1 x hx).trans (NN Z3 x hx)
 have wS3:Wf n Z3 S:=Wf.alike f.w' f.w'.rl f.w'.rr (num_same oz) fun x hx h=>(g3.bits x hx).mpr (.inl h)
 have NS:∀ x,x<nS→num (up Z3 (blkZ n i) bs) S x=num Z S x:=fun x hx=>(num_low wS3 rb.2.1 x hx).trans (num_same oz x hx)
 have PS:∀ x,x<16522→pc (up Z3 (blkZ n i) bs) S x=pc Z S x:=fun x hx=>by rw [pc_low wS3 rb.2.1 hx]; exact pc_same oz hx
 have PR:∀ x,x<16522→pc (up Z3 (blkZ n i) bs) R3 x=if x=k then Sk.blk (fresh16 c) else pc Z R x:=fun x hx=>by rw [pc_low w3 rb.2.1 hx,← hR3,pc_size hx,P3 x hx]
 have fr:frees n (up Z3 (blkZ n i) bs)=frees n Z3:=frees_alike bl
 have mR:many (up Z3 (blkZ n i) bs) R3=many Z3 R2:=many_alike NR
 have mS:many (up Z3 (blkZ n i) bs) S=many Z S:=many_alike NS
 have tot3:=g3.tot
 have tot:=f.tot
 have m2:many Z3 R2=many Z R+1:=by
  have:=ad.many
  rw [m1] at this
  rw [← this]
  exact many_alike fun x hx=>by rw [← hZ3]; exact N3 x hx
 refine ⟨up Z3 (blkZ n i) bs,(T3.write ((blkZ n i:Nat):Int) bs).1,by rw [ep]; exact Prod.ext rfl hw4,⟨av4,Wf.alike w3 l3 w3.rr (num_low w3 rb.2.1) (fun x hx h=>by rw [bl x hx]; exact h),Wf.alike wS3 wS3.rl wS3.rr (num_low wS3 rb.2.1) (fun x hx h=>by rw [bl x hx]; exact h),
  tight_alike g3.tg NR,tight_alike f.tg' NS,fun x x' hx hx' h=>?_,?_,?_,?_,f.dj.alike NS PS,f.ri,f.rj,f.ij,by omega,fun x hx=>?_⟩,by omega,by omega,x4⟩
 ·rw [NR x hx] at h ⊢
  rw [NS x' hx']
  exact od x x' hx hx' h
 ·rw [rp i,if_pos rfl]
 ·rw [rp j,if_neg (fun e=>f.ij e.symm),rec3 j f.rj.1 f.rj.2]; exact f.gj
 ·have lf:(fresh16 c).length=16:=rfl
  refine ⟨q0,q1,by rw [List.length_append,lf]; exact q2,by rw [List.length_append,lf]; omega,by rw [List.length_append,lf]; omega,fun x hx=>(List.mem_append.mp hx).elim (D.good x) (gs x),fun s hs=>?_,fun q hq=>?_⟩
  ·rw [NR s hs,g3.dom s hs,D.dom s hs,List.length_append,lf]
   constructor
   ·rintro (h|⟨q,hq,h⟩)
    ·omega
    ·rw [List.mem_singleton] at hq
     rw [hq,pathS k10,List.mem_singleton] at h
     omega
   ·intro h
    by_cases e:s=k
    ·exact .inr ⟨k,List.mem_singleton.mpr rfl,by rw [pathS k10,e]; exact List.mem_singleton.mpr rfl⟩
    ·left; omega
  ·rw [List.length_append,lf] at hq
   rw [PR q (by omega)]
   by_cases e:q=k
   ·rw [if_pos e,e]
    have:seg (H++fresh16 c) k=fresh16 c:=by
     unfold seg
     rw [List.drop_append,List.drop_of_length_le (by omega),List.nil_append,show 16*k - H.length=0 by omega,List.drop_zero,List.take_of_length_le (by rw [lf]; exact Nat.le_refl _)]
    rw [this]
   ·rw [if_neg e]
    have:seg (H++fresh16 c) q=seg H q:=by
     unfold seg
     rw [List.drop_append_of_le_length (by omega),List.take_append_of_le_length (by rw [List.length_drop]; omega)]
    rw [this]; exact D.blk q (by omega)
 ·rcases (kw4 x).mp hx with h|h
  ·rcases k3 x h with h|h|⟨s,hs,ex⟩|⟨s,hs,ex⟩
   ·exact .inl h
   ·exact .inr (.inl h)
   ·exact .inr (.inr (.inl ⟨s,hs,by rw [NR s (by unfold nS; omega)]; exact ex⟩))
   ·exact .inr (.inr (.inr ⟨s,hs,by rw [NS s (by unfold nS; omega)]; exact ex⟩))
  ·exact .inr (.inl (by omega))
end
end Go.Proofs.YtiapingedfnlnaaGreatDoor.Di
namespace Go.Proofs.YtiapingedfnlnaaGreatDoor.Di
open Go Go.Proofs Ad Tm Bt Spc Av Ss Re
open Fi (recZ pc undoM)
open Bm (findM addM num nS Wf path add_ok miss_zero write_un)
open Ino (getM putM)
open Sk (E ents low nameOk dec dec_blk blk_length zero_good form blk_set)
theorem clr_blk {hs:List Cl} {k:Nat} (hl:hs.length=16) (g:∀ x ∈ hs,Sk.Good x) (hk:k<16):clrA (Sk.blk hs) (k:Int)=(0,Sk.blk (hs.set k (0,[]))):=by
 unfold clrA
 rw [if_neg (fun y=>y (by rw [blk_length g,hl])),if_pos ⟨by omega,by omega⟩,Int.toNat_natCast,← blk_set g zero_good (by omega)]
 rfl
theorem put_blk {hs:List Cl} {k v:Nat} {s:Tm.Txt} (hl:hs.length=16) (g:∀ x ∈ hs,Sk.Good x) (hk:k<16) (h1:1≤v) (h2:v<4294967296) (hs':nameOk s=true):putA (Sk.blk hs) ⟨(k:Int),s,(v:Int)⟩=(0,Sk.blk (hs.set k (v,s))):=by
 have ok:putOk ⟨(k:Int),s,(v:Int)⟩=true:=by
  unfold putOk
  simp only [Bool.and_eq_true,decide_eq_true_eq]
  exact ⟨⟨⟨⟨by omega,by omega⟩,by omega⟩,by omega⟩,hs'⟩
 unfold putA
 rw [if_neg (fun y=>y (by rw [blk_length g,hl])),if_pos ok,← blk_set g (.inr ⟨h1,h2,hs'⟩) (by omega)]
 rfl
theorem good_cell {v:Nat} {s:Tm.Txt} (h1:1≤v) (h2:v<4294967296) (hs:nameOk s=true):Sk.Good (v,s) := .inr ⟨h1,h2,hs⟩
theorem hasI_iff {g:G} {v:Int}:hasI g v=true↔1≤v∧v<g.count:=by
 unfold hasI
 rw [Bool.and_eq_true,decide_eq_true_eq,decide_eq_true_eq]
theorem count_lt {n:Nat} (d:Dim n):(geoN n).count<4294967296:=by
 have:=d.hi
 have:(geoN n).count=8*(n / 64):=rfl
 omega
section
variable {n u i j : Nat} {A : List Int} {Z : Nat → Tm.Txt} {T : TM} {R S : List Int} {H J : List Cl} {s : Tm.Txt}
theorem Dd.find (d:Dim n) (f:Dd n u A Z T i R H j S J) (hs:nameOk s=true):findD T (geoN n) i s=match pos s H with
  | some p=>((((H.getD p (0,[])).1:Nat):Int),0)
  | none=>(0,160):=find_dir f.av d f.w f.ri.1 f.ri.2 f.gi f.di hs
theorem Dd.seek (d:Dim n) (f:Dd n u A Z T i R H j S J) (hs:nameOk s=true):seekM T (geoN n) i s=match pos s H with
  | some p=>(some (hit Z R H s p),0)
  | none=>(none,160):=seek_ok f.av d f.w f.ri.1 f.ri.2 f.gi f.di hs
structure Done (n u:Nat) (A:List Int) (Z:Nat→Tm.Txt) (T:TM) (i:Nat) (H:List Cl) (j:Nat) (S:List Int) (J:List Cl) (T':TM) (H':List Cl):Prop where
 ex:∃ Z' R',Dd n u A Z' T' i R' H' j S J∧frees n Z'=frees n Z
 un:T'.undo.length≤T.undo.length+20
theorem Dd.remove_some {p:Nat} (d:Dim n) (f:Dd n u A Z T i R H j S J) (hA:A.length+((geoN n).data - 98)<60) (hs:nameOk s=true) (hp:pos s H=some p) :
  ∃ T',removeD T (geoN n) i s=(T',(((H.getD p (0,[])).1:Nat):Int),0)∧Done n u A Z T i H j S J T' (H.set p (0,[])):=by
 have hl:=(pos_some hp).1
 have l16:=seg_len (H:=H) (k:=p / 16) f.di.sixt (by have:=f.di.sixt; omega)
 obtain ⟨hw,D⟩:=f.cell d hA hl zero_good
 have e1:removeD T (geoN n) i s=putD T (hit Z R H s p) (clrA (Sk.blk (seg H (p / 16))) ((p % 16:Nat):Int)):=by
  unfold removeD
  rw [f.seek d hs,hp]; rfl
 have un:=write_un T ((num Z R (p / 16):Nat):Int) (Sk.blk ((seg H (p / 16)).set (p % 16) (0,[])))
 have e2:=clr_blk l16 (fun x hx=>f.di.good x (seg_mem hx)) (show p % 16<16 by omega)
 refine ⟨_,?_,⟨_,R,D,?_⟩,by omega⟩
 ·rw [e1,e2]
  show (if (0:Int)≠0 then _ else if (T.write ((num Z R (p / 16):Nat):Int) (Sk.blk ((seg H (p / 16)).set (p % 16) (0,[])))).2≠0 then _ else _)=_
  rw [if_neg (fun y=>y rfl),if_neg (fun y=>y hw)]; rfl
 ·have h6:=f.di.sixt
  have h0:num Z R (p / 16)≠0:=(f.di.dom _ (by have:=f.di.most; unfold nS; omega)).mpr (by omega)
  have r:=f.w.rng _ (by have:=f.di.most; unfold nS; omega) h0
  exact Fi.frees_alike fun x hx=>Fi.bit_data d r.1 hx
theorem Dd.remove_none (d:Dim n) (f:Dd n u A Z T i R H j S J) (hs:nameOk s=true) (hp:pos s H=none):removeD T (geoN n) i s=(T,0,160):=by
 unfold removeD
 rw [f.seek d hs,hp]
theorem Dd.replace_some {p:Nat} {v:Nat} (d:Dim n) (f:Dd n u A Z T i R H j S J) (hA:A.length+((geoN n).data - 98)<60) (hs:nameOk s=true) (hv:1≤v∧v<(geoN n).count) (hp:pos s H=some p) :
  ∃ T',replaceD T (geoN n) i s v=(T',(((H.getD p (0,[])).1:Nat):Int),0)∧Done n u A Z T i H j S J T' (H.set p (v,s)):=by
 have hc:=count_lt d
 have hl:=(pos_some hp).1
 have l16:=seg_len (H:=H) (k:=p / 16) f.di.sixt (by have:=f.di.sixt; omega)
 obtain ⟨hw,D⟩:=f.cell d hA hl (good_cell hv.1 (by omega) hs)
 have e1:replaceD T (geoN n) i s v=putD T (hit Z R H s p) (putA (Sk.blk (seg H (p / 16))) ⟨((p % 16:Nat):Int),s,(v:Int)⟩):=by
  unfold replaceD
  rw [if_neg (by rw [hs]; simp),if_neg (by rw [hasI_iff.mpr ⟨by omega,by omega⟩]; simp),f.seek d hs,hp]; rfl
 have un:=write_un T ((num Z R (p / 16):Nat):Int) (Sk.blk ((seg H (p / 16)).set (p % 16) (v,s)))
 have e2:=put_blk l16 (fun x hx=>f.di.good x (seg_mem hx)) (show p % 16<16 by omega) hv.1 (show v<4294967296 by omega) hs
 refine ⟨_,?_,⟨_,R,D,?_⟩,by omega⟩
 ·rw [e1,e2]
  show (if (0:Int)≠0 then _ else if (T.write ((num Z R (p / 16):Nat):Int) (Sk.blk ((seg H (p / 16)).set (p % 16) (v,s)))).2≠0 then _ else _)=_
  rw [if_neg (fun y=>y rfl),if_neg (fun y=>y hw)]; rfl
 ·have h6:=f.di.sixt
  have h0:num Z R (p / 16)≠0:=(f.di.dom _ (by have:=f.di.most; unfold nS; omega)).mpr (by omega)
  have r:=f.w.rng _ (by have:=f.di.most; unfold nS; omega) h0
  exact Fi.frees_alike fun x hx=>Fi.bit_data d r.1 hx
theorem Dd.replace_none {v:Nat} (d:Dim n) (f:Dd n u A Z T i R H j S J) (hs:nameOk s=true) (hv:1≤v∧v<(geoN n).count) (hp:pos s H=none):replaceD T (geoN n) i s v=(T,0,160):=by
 unfold replaceD
 rw [if_neg (by rw [hs]; simp),if_neg (by rw [hasI_iff.mpr ⟨by omega,by omega⟩]; simp),f.seek d hs,hp]
theorem Dd.mark (f:Dd n u A Z T i R H j S J):T.mark=((T.undo.length:Int),0):=by
 unfold TM.mark
 rw [f.av.live]; rfl
theorem Dd.add_have {v:Nat} (d:Dim n) (f:Dd n u A Z T i R H j S J) (hs:nameOk s=true) (hv:1≤v∧v<(geoN n).count) (hp:pos s H≠none):addD T (geoN n) i s v=(T,150):=by
 have e:(pos s H).isSome=true:=by
  cases h:pos s H with
  | none=>exact absurd h hp
  | some p=>rfl
 unfold addD
 rw [if_neg (by rw [hs]; simp),if_neg (by rw [hasI_iff.mpr ⟨by omega,by omega⟩]; simp),open_ok f.av d f.ri.1 f.ri.2 f.gi f.di,if_neg (fun y=>y rfl),leaves_ok f.av f.w f.di,if_neg (fun y=>y rfl)]
 refine if_pos ?_
 show (placeGo s ((List.range' 0 (H.length / 16)).map (leafOf Z R H)) (R.getD 2 0 / 512,-1,false)).2.2=true
 rw [place_ok f.di]
 cases free H <;> exact e
theorem Dd.add_eq {v:Nat} (d:Dim n) (f:Dd n u A Z T i R H j S J) (hs:nameOk s=true) (hv:1≤v∧v<(geoN n).count) (hp:pos s H=none):addD T (geoN n) i s v=undoM T (match free H with
  | some q=>addAt T (geoN n) i R ((q / 16:Nat):Int) ((q % 16:Nat):Int) s v
  | none=>addAt T (geoN n) i R ((H.length / 16:Nat):Int) (-1) s v):=by
 unfold addD
 rw [if_neg (by rw [hs]; simp),if_neg (by rw [hasI_iff.mpr ⟨by omega,by omega⟩]; simp),open_ok f.av d f.ri.1 f.ri.2 f.gi f.di,if_neg (fun y=>y rfl),leaves_ok f.av f.w f.di,if_neg (fun y=>y rfl),f.mark]
 have e:=place_ok (s:=s) f.di
 rw [hp] at e
 show (if (placeGo s ((List.range' 0 (H.length / 16)).map (leafOf Z R H)) (R.getD 2 0 / 512,-1,false)).2.2=true then _ else if (0:Int)≠0 then _ else undoM T (addAt T (geoN n) i R (placeGo s ((List.range' 0 (H.length / 16)).map (leafOf Z R H)) (R.getD 2 0 / 512,-1,false)).1 (placeGo s ((List.range' 0 (H.length / 16)).map (leafOf Z R H)) (R.getD 2 0 / 512,-1,false)).2.1 s v))=_
 rw [e]
 cases free H with
 | none=>rw [if_neg (by show ¬ (none:Option Nat).isSome=true; simp),if_neg (fun y=>y rfl)]
 | some q=>rw [if_neg (by show ¬ (none:Option Nat).isSome=true; simp),if_neg (fun y=>y rfl)]
theorem undoM_ok (T T':TM):undoM T (T',0)=(T',0):=if_neg fun y=>y rfl
theorem Dd.add_old {v q:Nat} (d:Dim n) (f:Dd n u A Z T i R H j S J) (hA:A.length+((geoN n).data - 98)<60) (hs:nameOk s=true) (hv:1≤v∧v<(geoN n).count) (hp:pos s H=none) (hq:free H=some q) :
  ∃ T',addD T (geoN n) i s v=(T',0)∧Done n u A Z T i H j S J T' (H.set q (v,s)):=by
 have hc:=count_lt d
 have h6:=f.di.sixt
 have hm:=f.di.most
 have hl:=(free_some hq).1
 have hkn:q / 16<nS:=by unfold nS; omega
 have h0:num Z R (q / 16)≠0:=(f.di.dom _ hkn).mpr (by omega)
 have r:=f.w.rng _ hkn h0
 have l16:=seg_len (H:=H) (k:=q / 16) h6 (by omega)
 obtain ⟨hw,D⟩:=f.cell d hA hl (good_cell hv.1 (by omega) hs)
 have ea:addM T (geoN n) R ((q / 16:Nat):Int)=(T,R,((num Z R (q / 16):Nat):Int),0):=by
  rcases add_ok d f.av f.w (show q / 16<16522 by omega) with ⟨_,h⟩|⟨_,h⟩|⟨T2,R2,Z2,e,_,ad,nf,_⟩
  ·exfalso; have:=f.kl; omega
  ·rw [miss_zero (by omega) h0] at h; exfalso; omega
  ·have m0:=miss_zero (Z:=Z) (R:=R) (show q / 16<16522 by omega) h0
   obtain ⟨rfl,rfl⟩:=ad.same m0
   rw [e,nf m0]
 have er:T.read ((num Z R (q / 16):Nat):Int)=(Sk.blk (seg H (q / 16)),0):=by
  rw [f.av.z _ r.2.1]
  have:=f.di.blk (q / 16) (by omega)
  unfold pc at this
  rw [if_neg h0] at this
  rw [this]
 have e2:=put_blk l16 (fun x hx=>f.di.good x (seg_mem hx)) (show q % 16<16 by omega) hv.1 (show v<4294967296 by omega) hs
 have un:=write_un T ((num Z R (q / 16):Nat):Int) (Sk.blk ((seg H (q / 16)).set (q % 16) (v,s)))
 refine ⟨_,?_,⟨_,R,D,?_⟩,by omega⟩
 ·rw [f.add_eq d hs hv hp,hq]
  show undoM T (addAt T (geoN n) i R ((q / 16:Nat):Int) ((q % 16:Nat):Int) s v)=_
  have:addAt T (geoN n) i R ((q / 16:Nat):Int) ((q % 16:Nat):Int) s v=((T.write ((num Z R (q / 16):Nat):Int) (Sk.blk ((seg H (q / 16)).set (q % 16) (v,s)))).1,0):=by
   unfold addAt
   rw [ea,if_neg (fun y=>y rfl)]
   show (if (T.read ((num Z R (q / 16):Nat):Int)).2≠0 then _ else _)=_
   rw [er,if_neg (fun y=>y rfl)]
   show (if (putA (Sk.blk (seg H (q / 16))) ⟨max ((q % 16:Nat):Int) 0,s,(v:Int)⟩).1≠0 then _ else _)=_
   rw [show max ((q % 16:Nat):Int) 0=((q % 16:Nat):Int) by omega,e2,if_neg (fun y=>y rfl)]
   show (if (T.write ((num Z R (q / 16):Nat):Int) (Sk.blk ((seg H (q / 16)).set (q % 16) (v,s)))).2≠0 then _ else _)=_
   rw [if_neg (fun y=>y hw),if_neg (show ¬ ((q % 16:Nat):Int)<0 by omega),if_pos rfl]
  rw [this,undoM_ok]
 ·exact Fi.frees_alike fun x hx=>Fi.bit_data d r.1 hx
theorem Dd.add_new {v:Nat} (d:Dim n) (f:Dd n u A Z T i R H j S J) (hA:A.length+((geoN n).data - 98)<60) (hs:nameOk s=true) (hv:1≤v∧v<(geoN n).count) (hp:pos s H=none) (hq:free H=none) (hH:H.length<160) (hf:1≤frees n Z) :
  ∃ T' Z' R',addD T (geoN n) i s v=(T',0)∧Dd n u A Z' T' i R' (H++fresh16 (v,s)) j S J∧frees n Z'+1=frees n Z∧T'.undo.length≤T.undo.length+20∧T'.disk=T.disk:=by
 have hc:=count_lt d
 obtain ⟨T2,R2,w,e,er,hw,hne,l2,Z',T',ep,D,hfr,un,dk⟩:=f.grow d hA hH hf (good_cell hv.1 (show v<4294967296 by omega) hs)
 have un:T'.undo.length≤T.undo.length+20:=by omega
 refine ⟨T',Z',_,?_,D,hfr,un,dk⟩
 rw [f.add_eq d hs hv hp,hq]
 show undoM T (addAt T (geoN n) i R ((H.length / 16:Nat):Int) (-1) s v)=_
 have e2:=put_blk (hs:=List.replicate 16 (0,[])) (k:=0) List.length_replicate (fun x hx=>by rw [List.eq_of_mem_replicate hx]; exact zero_good) (by decide) hv.1 (show v<4294967296 by omega) hs
 have e3:(List.replicate 16 ((0:Nat),([]:Tm.Txt))).set 0 (v,s)=fresh16 (v,s):=rfl
 rw [e3] at e2
 clear e3 D un hfr dk
 generalize Sk.blk (fresh16 (v,s))=bs at e2 hw ep
 generalize Sk.blk (List.replicate 16 (0,[]))=zs at e2 er
 have:addAt T (geoN n) i R ((H.length / 16:Nat):Int) (-1) s v=(T',0):=by
  unfold addAt
  rw [e]
  dsimp only
  rw [er]
  dsimp only
  rw [show max (-1:Int) 0=((0:Nat):Int) from rfl,e2]
  dsimp only
  rw [if_neg (fun y=>y rfl),if_neg (fun y=>y rfl),if_neg (fun y=>y rfl),if_neg (fun y=>y hw),if_pos (show (-1:Int)<0 by decide),if_neg hne]
  exact ep
 rw [this,undoM_ok]
end
end Go.Proofs.YtiapingedfnlnaaGreatDoor.Di
namespace Go.Proofs.YtiapingedfnlnaaGreatDoor.Di
open Go Go.Proofs Ad Tm Bt Spc Av Ss Re
open Bm (num nS many)
open Sk (E ents low nameOk NameOk nameOk_iff zero_good)
abbrev PC := Tm.Txt×Int
def toP (x:Cl):PC:=(x.2,(x.1:Int))
def atP (s:Tm.Txt):List PC→Option Nat
 | []=>none
 | c::r=>if c.1=s then some 0 else (atP s r).map (· + 1)
def plainM (l:List PC) (k:Int) (s:Tm.Txt) (v:Int):List PC×Int×Int :=
 if k=0 then match atP s l with
  | some _=>(l,0,150)
  | none=>match atP [] l with
   | some i=>(l.set i (s,v),0,0)
   | none=>((l++List.replicate 16 ([],0)).set l.length (s,v),0,0)
 else match atP s l with
  | none=>(l,0,160)
  | some i=>(l.set i (if k=1 then ([],0) else (s,v)),(l.getD i ([],0)).2,0)
theorem good_name {x:Cl} (g:Sk.Good x):(x.1=0∧x.2=[])∨(x.1≠0∧x.2≠[]∧nameOk x.2=true∧x.1<4294967296):=by
 rcases g with h|⟨h1,h2,h3⟩
 ·exact .inl h
 ·refine .inr ⟨by omega,fun y=>?_,h3,h2⟩
  have:=(nameOk_iff.mp h3).pos
  rw [y] at this
  exact absurd this (by decide)
theorem name_ne {s:Tm.Txt} (h:nameOk s=true):s≠[]:=fun y=>by
 have:=(nameOk_iff.mp h).pos
 rw [y] at this
 exact absurd this (by decide)
theorem atP_pos {s:Tm.Txt} (hs:s≠[]):∀ {H:List Cl},(∀ x ∈ H,Sk.Good x)→atP s (H.map toP)=pos s H
 | [],_=>rfl
 | x::r,g=>by
  have ih:=atP_pos hs (H:=r) fun y hy=>g y (List.mem_cons_of_mem _ hy)
  rw [List.map_cons]
  unfold atP pos
  rw [ih]
  show (if x.2=s then _ else _)=_
  rcases good_name (g x (List.mem_cons_self ..)) with ⟨h1,h2⟩|⟨h1,_⟩
  ·rw [if_neg (fun y=>hs (by rw [← y,h2])),if_neg (fun y=>y.1 h1)]
  ·by_cases e:x.2=s
   ·rw [if_pos e,if_pos ⟨h1,e⟩]
   ·rw [if_neg e,if_neg fun y=>e y.2]
theorem atP_free : ∀ {H:List Cl},(∀ x ∈ H,Sk.Good x)→atP [] (H.map toP)=free H
 | [],_=>rfl
 | x::r,g=>by
  have ih:=atP_free (H:=r) fun y hy=>g y (List.mem_cons_of_mem _ hy)
  rw [List.map_cons]
  unfold atP free
  rw [ih]
  show (if x.2=[] then _ else _)=_
  rcases good_name (g x (List.mem_cons_self ..)) with ⟨h1,h2⟩|⟨h1,h2,_⟩
  ·rw [if_pos h2,if_pos h1]
  ·rw [if_neg h2,if_neg h1]
theorem map_getD {H:List Cl} {p:Nat}:(H.map toP).getD p ([],0)=toP (H.getD p (0,[])):=by
 rw [List.getD_eq_getElem?_getD,List.getD_eq_getElem?_getD,List.getElem?_map]
 cases H[p]? <;> rfl
def Uq (H:List Cl):Prop:=∀ p q,p<H.length→q<H.length→(H.getD p (0,[])).1≠0→(H.getD q (0,[])).1≠0→(H.getD p (0,[])).2=(H.getD q (0,[])).2→p=q
theorem getD_set' {H:List Cl} {p q:Nat} {c:Cl} (hp:p<H.length):(H.set p c).getD q (0,[])=if q=p then c else H.getD q (0,[]):=by
 rw [List.getD_eq_getElem?_getD,List.getElem?_set]
 by_cases e:p=q
 ·rw [if_pos e,if_pos e.symm,if_pos (by omega)]; rfl
 ·rw [if_neg e,if_neg fun y=>e y.symm,List.getD_eq_getElem?_getD]
theorem getD_mem {H:List Cl} {p:Nat} (hp:p<H.length):H.getD p (0,[]) ∈ H:=by
 rw [List.getD_eq_getElem?_getD,List.getElem?_eq_getElem hp]
 exact List.getElem_mem hp
theorem Uq.set {H:List Cl} {p:Nat} {c:Cl} (u:Uq H) (hp:p<H.length) (h:c.1≠0→∀ q,q<H.length→q≠p→(H.getD q (0,[])).1≠0→(H.getD q (0,[])).2≠c.2):Uq (H.set p c):=by
 intro a b ha hb
 rw [List.length_set] at ha hb
 rw [getD_set' hp,getD_set' hp]
 by_cases e1:a=p
 ·by_cases e2:b=p
  ·intro _ _ _; rw [e1,e2]
  ·rw [if_pos e1,if_neg e2]
   intro h1 h2 h3; exact absurd h3.symm (h h1 b hb e2 h2)
 ·by_cases e2:b=p
  ·rw [if_neg e1,if_pos e2]
   intro h1 h2 h3; exact absurd h3 (h h2 a ha e1 h1)
  ·rw [if_neg e1,if_neg e2]
   exact u a b ha hb
theorem Uq.grow {H:List Cl} {c:Cl} (u:Uq H) (h:∀ q,q<H.length→(H.getD q (0,[])).1≠0→(H.getD q (0,[])).2≠c.2):Uq (H++fresh16 c):=by
 have key:∀ a,a<(H++fresh16 c).length→((H++fresh16 c).getD a (0,[])).1≠0→(a<H.length∧(H++fresh16 c).getD a (0,[])=H.getD a (0,[]))∨(a=H.length∧(H++fresh16 c).getD a (0,[])=c):=fun a ha hn=>by
  rw [List.getD_eq_getElem?_getD] at hn ⊢
  rcases Nat.lt_or_ge a H.length with hl|hl
  ·rw [List.getElem?_append_left hl,List.getD_eq_getElem?_getD]; exact .inl ⟨hl,rfl⟩
  ·rw [List.getElem?_append_right hl] at hn ⊢
   obtain ⟨k,hk⟩:∃ k,a - H.length=k:=⟨_,rfl⟩
   rw [hk] at hn ⊢
   cases k with
   | zero=>exact .inr ⟨by omega,rfl⟩
   | succ k =>
    exfalso
    unfold fresh16 at hn
    rw [List.getElem?_cons_succ,List.getElem?_replicate] at hn
    split at hn <;> exact hn rfl
 intro a b ha hb h1 h2 h3
 rcases key a ha h1 with ⟨la,ea⟩|⟨la,ea⟩
 ·rcases key b hb h2 with ⟨lb,eb⟩|⟨lb,eb⟩
  ·rw [ea] at h1 h3
   rw [eb] at h2 h3
   exact u a b la lb h1 h2 h3
  ·rw [ea] at h1 h3
   rw [eb] at h3
   exact absurd h3 (h a la h1)
 ·rcases key b hb h2 with ⟨lb,eb⟩|⟨lb,eb⟩
  ·rw [eb] at h2 h3
   rw [ea] at h3
   exact absurd h3.symm (h b lb h2)
  ·rw [la,lb]
def nm (i:Nat):Tm.Txt:=[110,UInt8.ofNat (48+i / 10),UInt8.ofNat (48+i % 10)]
theorem nm_ok : ∀ i,i<100→nameOk (nm i)=true:=by decide +kernel
structure Nm (m:Nat) (H:List Cl):Prop where
 uq:Uq H
 nam:∀ x ∈ H,x.1≠0→∃ i,i<m∧x.2=nm i
theorem Nm.len {m:Nat} {H:List Cl} (N:Nm m H) (hm:m≤100) (hf:free H=none) {i:Nat} (hi:i<m) (hp:pos (nm i) H=none):H.length+1≤m:=by
 have all:=free_none hf
 have key:∀ x ∈ H,∃ q,q<m∧x.2=nm q:=fun x hx=>N.nam x hx (all x hx)
 have nd:(H.map fun x=>(x.2:Tm.Txt)).Nodup:=by
  rw [List.nodup_iff_pairwise_ne,List.pairwise_iff_getElem]
  intro a b ha hb hab e
  rw [List.length_map] at ha hb
  rw [List.getElem_map,List.getElem_map] at e
  have ga:H.getD a (0,[])=H[a]:=by rw [List.getD_eq_getElem?_getD,List.getElem?_eq_getElem ha]; rfl
  have gb:H.getD b (0,[])=H[b]:=by rw [List.getD_eq_getElem?_getD,List.getElem?_eq_getElem hb]; rfl
  have:=N.uq a b ha hb (by rw [ga]; exact all _ (List.getElem_mem ha)) (by rw [gb]; exact all _ (List.getElem_mem hb)) (by rw [ga,gb]; exact e)
  omega
 have nd2:(nm i::H.map fun x=>(x.2:Tm.Txt)).Nodup:=List.nodup_cons.mpr ⟨fun h=>by
  obtain ⟨x,hx,e⟩:=List.mem_map.mp h
  exact pos_none hp x hx ⟨all x hx,e⟩,nd⟩
 have hsub:(nm i::H.map fun x=>(x.2:Tm.Txt)) ⊆ (List.range m).map nm:=fun y hy=>by
  rcases List.mem_cons.mp hy with rfl|hy
  ·exact List.mem_map.mpr ⟨i,List.mem_range.mpr hi,rfl⟩
  ·obtain ⟨x,hx,rfl⟩:=List.mem_map.mp hy
   obtain ⟨q,hq,e⟩:=key x hx
   exact List.mem_map.mpr ⟨q,List.mem_range.mpr hq,e.symm⟩
 have:=nd2.length_le_of_subset hsub
 rw [List.length_cons,List.length_map,List.length_map,List.length_range] at this
 exact this
theorem cnt_lt (m:Nat):∀ k,cnt (fun s=>decide (16*s<m)) k=min k ((m+15) / 16)
 | 0=>by rw [Nat.zero_min]; rfl
 | k+1=>by
  show cnt (fun s=>decide (16*s<m)) k+(if decide (16*k<m)=true then 1 else 0)=_
  rw [cnt_lt m k]
  by_cases h:16*k<m
  ·rw [if_pos (decide_eq_true h)]; omega
  ·rw [if_neg (by rw [decide_eq_true_eq]; exact h)]; omega
theorem Dir.many {Z:Nat→Tm.Txt} {R:List Int} {H:List Cl} (D:Dir Z R H):many Z R=H.length / 16:=by
 have h6:=D.sixt
 have hm:=D.most
 have e:cnt (fun s=>decide (num Z R s≠0)) nS=cnt (fun s=>decide (16*s<H.length)) nS:=cnt_congr fun s hs=>decide_eq_decide.mpr (D.dom s hs)
 unfold Bm.many
 rw [e,cnt_lt]
 unfold nS
 omega
def opM (T:TM) (g:G) (i:Int) (k:Int) (s:Tm.Txt) (v:Int):TM×Int×Int :=
 if k=0 then ((addD T g i s v).1,0,(addD T g i s v).2) else if k=1 then removeD T g i s else replaceD T g i s v
theorem map_set (H:List Cl) (p:Nat) (c:Cl):(H.set p c).map toP=(H.map toP).set p (toP c):=by rw [List.map_set]
theorem grow_map (H:List Cl) (c:Cl):(H++fresh16 c).map toP=(H.map toP++List.replicate 16 ([],0)).set (H.map toP).length (toP c):=by
 rw [List.map_append,List.set_append_right _ _ (Nat.le_refl _),Nat.sub_self]
 rfl
section
variable {n u i j m : Nat} {A : List Int} {Z : Nat → Tm.Txt} {T : TM} {R S : List Int} {H J : List Cl}
theorem nam_set {m:Nat} {H:List Cl} {p:Nat} {c:Cl} (N:∀ x ∈ H,x.1≠0→∃ i,i<m∧x.2=nm i) (hc:c.1≠0→∃ i,i<m∧c.2=nm i):∀ x ∈ H.set p c,x.1≠0→∃ i,i<m∧x.2=nm i:=fun x hx=>by
 rcases List.mem_or_eq_of_mem_set hx with h|rfl
 ·exact N x h
 ·exact hc
theorem Dd.op (d:Dim n) (f:Dd n u A Z T i R H j S J) (N:Nm m H) (hA:A.length+((geoN n).data - 98)<60) (hm:m≤100) (hu:u+20<n) {k:Int} {q v:Nat} (hq:q<m) (hv:1≤v∧v<(geoN n).count) :
  ∃ Z' T' R' H',opM T (geoN n) i k (nm q) v=(T',(plainM (H.map toP) k (nm q) v).2.1,(plainM (H.map toP) k (nm q) v).2.2)∧(plainM (H.map toP) k (nm q) v).1=H'.map toP∧Dd n u A Z' T' i R' H' j S J∧Nm m H'∧T'.undo.length≤T.undo.length+20:=by
 have hs:=nm_ok q (by omega)
 have ne:=name_ne hs
 have ep:atP (nm q) (H.map toP)=pos (nm q) H:=atP_pos ne f.di.good
 have ef:atP [] (H.map toP)=free H:=atP_free f.di.good
 have hc:=count_lt d
 unfold plainM opM
 rw [ep,ef]
 by_cases k0:k=0
 ·rw [if_pos k0,if_pos k0]
  cases hp:pos (nm q) H with
  | some p=>exact ⟨Z,T,R,H,by rw [f.add_have d hs hv (by rw [hp]; exact fun y=>by cases y)],rfl,f,N,Nat.le_add_right _ _⟩
  | none =>
   have no:=pos_none hp
   cases hf:free H with
   | some p =>
    obtain ⟨T',e,⟨Z',R',D,_⟩,un⟩:=f.add_old d hA hs hv hp hf
    refine ⟨Z',T',R',_,by rw [e],(map_set H p (v,nm q)).symm,D,⟨N.uq.set (free_some hf).1 fun _ a ha _ hn e=>no _ (getD_mem ha) ⟨hn,e⟩,nam_set N.nam fun _=>⟨q,hq,rfl⟩⟩,un⟩
   | none =>
    have hl:=N.len hm hf hq hp
    have mR:=f.di.many
    have mS:=f.dj.many
    have lS:=f.dj.most
    have tot:=f.tot
    obtain ⟨T',Z',R',e,D,_,un,_⟩:=f.add_new d hA hs hv hp hf (by omega) (by omega)
    refine ⟨Z',T',R',_,by rw [e],(grow_map H (v,nm q)).symm,D,⟨N.uq.grow fun a ha hn e=>no _ (getD_mem ha) ⟨hn,e⟩,fun x hx hn=>?_⟩,un⟩
    rcases List.mem_append.mp hx with h|h
    ·exact N.nam x h hn
    ·rcases List.mem_cons.mp h with rfl|h
     ·exact ⟨q,hq,rfl⟩
     ·rw [List.eq_of_mem_replicate h] at hn; exact absurd rfl hn
 ·rw [if_neg k0,if_neg k0]
  cases hp:pos (nm q) H with
  | none =>
   refine ⟨Z,T,R,H,?_,rfl,f,N,Nat.le_add_right _ _⟩
   by_cases k1:k=1
   ·rw [if_pos k1,f.remove_none d hs hp]
   ·rw [if_neg k1,f.replace_none d hs hv hp]
  | some p =>
   obtain ⟨hl,h1,h2⟩:=pos_some hp
   have eg:((H.map toP).getD p ([],0)).2=(((H.getD p (0,[])).1:Nat):Int):=by rw [map_getD]; rfl
   by_cases k1:k=1
   ·rw [if_pos k1]
    obtain ⟨T',e,⟨Z',R',D,_⟩,un⟩:=f.remove_some d hA hs hp
    refine ⟨Z',T',R',_,by rw [e,← eg],?_,D,⟨N.uq.set hl fun y=>absurd rfl y,nam_set N.nam fun y=>absurd rfl y⟩,un⟩
    show (H.map toP).set p (if k=1 then ([],0) else (nm q,(v:Int)))=_
    rw [if_pos k1,map_set]; rfl
   ·rw [if_neg k1]
    obtain ⟨T',e,⟨Z',R',D,_⟩,un⟩:=f.replace_some d hA hs hv hp
    refine ⟨Z',T',R',_,by rw [e,← eg],?_,D,⟨N.uq.set hl fun _ a ha hne hn e=>hne (N.uq a p ha hl hn h1 (by rw [h2]; exact e)),nam_set N.nam fun _=>⟨q,hq,rfl⟩⟩,un⟩
    show (H.map toP).set p (if k=1 then ([],0) else (nm q,(v:Int)))=_
    rw [if_neg k1,map_set]; rfl
end
end Go.Proofs.YtiapingedfnlnaaGreatDoor.Di
namespace Go.Proofs.YtiapingedfnlnaaGreatDoor.Di
open Go Go.Proofs Ad Tm Bt Spc Av Ss Re
open Bm (num nS many allM)
open Sk (E ents low nameOk NameOk nameOk_iff zero_good)
open Go.Op (bytesLess)
theorem bl_irr : ∀ x:Tm.Txt,bytesLess x x=false
 | []=>rfl
 | a::r=>by
  unfold bytesLess
  rw [bl_irr r,Bool.and_false,Bool.or_false,decide_eq_false_iff_not]
  exact UInt8.lt_irrefl a
theorem bl_cons (a b:UInt8) (x y:Tm.Txt):bytesLess (a::x) (b::y)=true↔a<b∨(a=b∧bytesLess x y=true):=by
 show (decide (a<b) || (a == b && bytesLess x y))=true↔_
 rw [Bool.or_eq_true,Bool.and_eq_true,decide_eq_true_eq,beq_iff_eq]
theorem bl_nil (x:Tm.Txt):bytesLess x []=false:=by cases x <;> rfl
theorem bl_trans : ∀ {x y z:Tm.Txt},bytesLess x y=true→bytesLess y z=true→bytesLess x z=true
 | _,_,[],_,h=>by rw [bl_nil] at h; cases h
 | _,[],_::_,h,_=>by rw [bl_nil] at h; cases h
 | [],_::_,_::_,_,_=>rfl
 | a::x,b::y,c::z,h1,h2=>by
  rw [bl_cons] at h1 h2 ⊢
  rcases h1 with h1|⟨rfl,h1⟩
  ·rcases h2 with h2|⟨rfl,h2⟩
   ·exact .inl (UInt8.lt_trans h1 h2)
   ·exact .inl h1
  ·rcases h2 with h2|⟨rfl,h2⟩
   ·exact .inl h2
   ·exact .inr ⟨rfl,bl_trans h1 h2⟩
theorem bl_tri : ∀ {x y:Tm.Txt},bytesLess x y=false→bytesLess y x=false→x=y
 | [],[],_,_=>rfl
 | [],_::_,h,_=>by cases h
 | _::_,[],_,h=>by cases h
 | a::x,b::y,h1,h2=>by
  have h1:¬ (a<b∨(a=b∧bytesLess x y=true)):=fun z=>by rw [(bl_cons a b x y).mpr z] at h1; cases h1
  have h2:¬ (b<a∨(b=a∧bytesLess y x=true)):=fun z=>by rw [(bl_cons b a y x).mpr z] at h2; cases h2
  have e:a=b:=by
   have n1:¬ a<b:=fun z=>h1 (.inl z)
   have n2:¬ b<a:=fun z=>h2 (.inl z)
   rw [UInt8.lt_iff_toNat_lt] at n1 n2
   exact UInt8.toNat_inj.mp (by omega)
  subst e
  have:=bl_tri (x:=x) (y:=y) (by cases q:bytesLess x y with|false=>rfl|true=>exact absurd (.inr ⟨rfl,q⟩) h1) (by cases q:bytesLess y x with|false=>rfl|true=>exact absurd (.inr ⟨rfl,q⟩) h2)
  rw [this]
theorem bl_asym {x y:Tm.Txt} (h:bytesLess x y=true):bytesLess y x=false:=by
 cases q:bytesLess y x with
 | false=>rfl
 | true=>have:=bl_trans h q; rw [bl_irr] at this; cases this
def ltE (a b:E):Bool:=bytesLess a.name b.name || (a.name == b.name && decide (a.place<b.place))
theorem ltE_iff {a b:E}:ltE a b=true↔bytesLess a.name b.name=true∨(a.name=b.name∧a.place<b.place):=by
 unfold ltE
 rw [Bool.or_eq_true,Bool.and_eq_true,decide_eq_true_eq,beq_iff_eq]
theorem ltE_irr (a:E):ltE a a=false:=by
 cases q:ltE a a with
 | false=>rfl
 | true =>
  rcases ltE_iff.mp q with h|⟨_,h⟩
  ·rw [bl_irr] at h; cases h
  ·omega
theorem ltE_trans {a b c:E} (h1:ltE a b=true) (h2:ltE b c=true):ltE a c=true:=by
 rw [ltE_iff] at h1 h2 ⊢
 rcases h1 with h1|⟨e1,h1⟩
 ·rcases h2 with h2|⟨e2,h2⟩
  ·exact .inl (bl_trans h1 h2)
  ·rw [← e2]; exact .inl h1
 ·rcases h2 with h2|⟨e2,h2⟩
  ·rw [e1]; exact .inl h2
  ·exact .inr ⟨e1.trans e2,by omega⟩
theorem ltE_tri {a b:E} (h1:ltE a b=false) (h2:ltE b a=false):a.name=b.name∧a.place=b.place:=by
 have h1:¬ (bytesLess a.name b.name=true∨(a.name=b.name∧a.place<b.place)):=fun z=>by rw [ltE_iff.mpr z] at h1; cases h1
 have h2:¬ (bytesLess b.name a.name=true∨(b.name=a.name∧b.place<a.place)):=fun z=>by rw [ltE_iff.mpr z] at h2; cases h2
 have e:a.name=b.name:=bl_tri (by cases q:bytesLess a.name b.name with|false=>rfl|true=>exact absurd (.inl q) h1) (by cases q:bytesLess b.name a.name with|false=>rfl|true=>exact absurd (.inl q) h2)
 refine ⟨e,?_⟩
 have n1:¬ a.place<b.place:=fun z=>h1 (.inr ⟨e,z⟩)
 have n2:¬ b.place<a.place:=fun z=>h2 (.inr ⟨e.symm,z⟩)
 omega
def leE (a b:E):Prop:=ltE b a=false
def insE (c:E):List E→List E
 | []=>[c]
 | x::r=>if ltE c x=true then c::x::r else x::insE c r
def sortE : List E→List E
 | []=>[]
 | c::r=>insE c (sortE r)
theorem insE_perm (c:E):∀ l,(insE c l).Perm (c::l)
 | [] => .refl _
 | x::r=>by
  unfold insE
  split
  ·exact .refl _
  ·exact ((insE_perm c r).cons x).trans (.swap c x r)
theorem sortE_perm : ∀ l,(sortE l).Perm l
 | [] => .refl _
 | c::r=>(insE_perm c (sortE r)).trans ((sortE_perm r).cons c)
theorem insE_sorted {c:E}:∀ {l:List E},l.Pairwise leE→(insE c l).Pairwise leE
 | [],_=>List.pairwise_singleton _ _
 | x::r,h=>by
  have ⟨h1,h2⟩:=List.pairwise_cons.mp h
  unfold insE
  by_cases q:ltE c x=true
  ·rw [if_pos q]
   refine List.pairwise_cons.mpr ⟨fun y hy=>?_,h⟩
   have nx:ltE x c=false:=by
    cases z:ltE x c with
    | false=>rfl
    | true=>have:=ltE_trans q z; rw [ltE_irr] at this; cases this
   rcases List.mem_cons.mp hy with rfl|hy
   ·exact nx
   ·show ltE y c=false
    cases z:ltE y c with
    | false=>rfl
    | true=>have:=ltE_trans z q; rw [show ltE y x=false from h1 y hy] at this; cases this
  ·rw [if_neg q]
   refine List.pairwise_cons.mpr ⟨fun y hy=>?_,insE_sorted h2⟩
   rcases List.mem_cons.mp ((insE_perm c r).mem_iff.mp hy) with rfl|hy
   ·show ltE y x=false
    cases z:ltE y x with
    | false=>rfl
    | true=>exact absurd z q
   ·exact h1 y hy
theorem sortE_sorted : ∀ l:List E,(sortE l).Pairwise leE
 | [] => .nil
 | _::r=>insE_sorted (sortE_sorted r)
def Rise (l:List E):Prop:=l.Pairwise fun a b=>a.place<b.place
theorem Rise.inj : ∀ {l:List E},Rise l→∀ a ∈ l,∀ b ∈ l,a.place=b.place→a=b
 | [],_,a,ha,_,_,_=>by cases ha
 | x::r,h,a,ha,b,hb,e=>by
  have ⟨h1,h2⟩:=List.pairwise_cons.mp h
  rcases List.mem_cons.mp ha with ea|ha'
  ·rcases List.mem_cons.mp hb with eb|hb'
   ·rw [ea,eb]
   ·have:=h1 b hb'; rw [ea] at e; omega
  ·rcases List.mem_cons.mp hb with eb|hb'
   ·have:=h1 a ha'; rw [eb] at e; omega
   ·exact Rise.inj h2 a ha' b hb' e
theorem sorted_eq {l m:List E} (u:Rise l) (p:m.Perm l) (s:m.Pairwise leE):m=sortE l :=
 List.Perm.eq_of_pairwise (fun a b ha hb h1 h2=>u.inj a (p.mem_iff.mp ha) b ((sortE_perm l).mem_iff.mp hb) (ltE_tri h2 h1).2) s (sortE_sorted l) (p.trans (sortE_perm l).symm)
theorem ents_rise : ∀ (hs:List Cl) (k:Nat),Rise (ents k hs)
 | [],_ => .nil
 | x::r,k=>by
  unfold ents
  split
  ·exact ents_rise r (k+1)
  ·refine List.pairwise_cons.mpr ⟨fun y hy=>?_,ents_rise r (k+1)⟩
   obtain ⟨a,_,_⟩:=Sk.ents_range r (k+1) y hy
   show (k:Int)<y.place
   omega
theorem ans_rise (bs:List UInt8):Rise (ans bs).1∧∀ e ∈ (ans bs).1,0≤e.place∧e.place<16:=by
 unfold ans
 split
 ·exact ⟨.nil,fun _ h=>by cases h⟩
 ·rename_i hl
  cases hd:Sk.dec 16 bs with
  | none=>exact ⟨.nil,fun _ h=>by cases h⟩
  | some hs =>
   refine ⟨ents_rise hs 0,fun e he=>?_⟩
   obtain ⟨a,b,_⟩:=Sk.ents_range hs 0 e he
   have:=(Sk.blk_dec (n:=16) (b:=bs) (by have:¬ bs.length≠512:=hl; omega) hd).1
   omega
structure LeafOk (l:Leaf):Prop where
 rise:Rise l.cells
 rng:∀ e ∈ l.cells,0≤e.place∧e.place<16
theorem leafM_ok (T:TM) (g:G) (R:List Int) (k:Nat):LeafOk (leafM T g R k).1:=⟨(ans_rise _).1,(ans_rise _).2⟩
theorem leavesGo_rise (T:TM) (g:G) (R:List Int):∀ m k,Rise (allE (leavesGo T g R m k).1)∧∀ e ∈ allE (leavesGo T g R m k).1,16*(k:Int)≤e.place∧e.place<16*((k+m:Nat):Int)
 | 0,k=>⟨.nil,fun _ h=>by cases h⟩
 | m+1,k=>by
  unfold leavesGo
  split
  ·exact ⟨.nil,fun _ h=>by cases h⟩
  ·obtain ⟨a,b⟩:=leavesGo_rise T g R m (k+1)
   obtain ⟨c1,c2⟩:=leafM_ok T g R k
   have key:∀ e ∈ (leafM T g R k).1.cells.map (fun c=>(⟨c.place+16*((leafM T g R k).1.index:Int),c.name,c.inode⟩:E)),16*(k:Int)≤e.place∧e.place<16*((k:Nat):Int)+16:=fun e he=>by
    obtain ⟨c,hc,rfl⟩:=List.mem_map.mp he
    have:=c2 c hc
    show 16*(k:Int)≤c.place+16*(k:Int)∧c.place+16*(k:Int)<_
    omega
   show Rise ((leafM T g R k).1.cells.map _++allE _)∧∀ e ∈ (leafM T g R k).1.cells.map _++allE _,_
   refine ⟨List.pairwise_append.mpr ⟨List.pairwise_map.mpr (c1.imp fun h=>?_),a,fun x hx y hy=>?_⟩,fun e he=>?_⟩
   ·rename_i x y
    show x.place+16*(k:Int)<y.place+16*(k:Int)
    omega
   ·have:=key x hx
    have:=b y hy
    show x.place<y.place
    omega
   ·rcases List.mem_append.mp he with h|h
    ·have:=key e h; omega
    ·have:=b e h; omega
def listD (T:TM) (g:G) (n:Int):List E×Int:=if (openM T g n).2≠0 then ([],(openM T g n).2) else if (leavesM T g (openM T g n).1).2≠0 then ([],(leavesM T g (openM T g n).1).2) else (sortE (allE (leavesM T g (openM T g n).1).1),0)
def insN (c:E):List E→List E
 | []=>[c]
 | x::r=>if bytesLess x.name c.name=true then x::insN c r else c::x::r
theorem insN_perm (c:E):∀ l,(insN c l).Perm (c::l)
 | [] => .refl _
 | x::r=>by
  unfold insN
  split
  ·exact ((insN_perm c r).cons x).trans (.swap c x r)
  ·exact .refl _
def entGo : Nat→List PC→List E→List E
 | _,[],out=>out
 | i,c::r,out=>if c.1=[] then entGo (i+1) r out else entGo (i+1) r (insN ⟨i,c.1,c.2⟩ out)
def strictN (a b:E):Prop:=bytesLess a.name b.name=true
theorem insN_sorted {c:E}:∀ {l:List E},l.Pairwise strictN→(∀ x ∈ l,x.name≠c.name)→(insN c l).Pairwise strictN
 | [],_,_=>List.pairwise_singleton _ _
 | x::r,h,n=>by
  have ⟨h1,h2⟩:=List.pairwise_cons.mp h
  unfold insN
  by_cases q:bytesLess x.name c.name=true
  ·rw [if_pos q]
   refine List.pairwise_cons.mpr ⟨fun y hy=>?_,insN_sorted h2 fun y hy=>n y (List.mem_cons_of_mem _ hy)⟩
   rcases List.mem_cons.mp ((insN_perm c r).mem_iff.mp hy) with rfl|hy
   ·exact q
   ·exact h1 y hy
  ·rw [if_neg q]
   have cx:bytesLess c.name x.name=true:=by
    cases z:bytesLess c.name x.name with
    | true=>rfl
    | false=>exact absurd (bl_tri (by cases w:bytesLess x.name c.name with|false=>rfl|true=>exact absurd w q) z) (n x (List.mem_cons_self ..))
   refine List.pairwise_cons.mpr ⟨fun y hy=>?_,h⟩
   rcases List.mem_cons.mp hy with rfl|hy
   ·exact cx
   ·exact bl_trans cx (h1 y hy)
def UqP : List PC→Prop
 | []=>True
 | c::r=>(c.1≠[]→∀ d ∈ r,d.1≠c.1)∧UqP r
def entP : Nat→List PC→List E
 | _,[]=>[]
 | i,c::r=>if c.1=[] then entP (i+1) r else ⟨i,c.1,c.2⟩::entP (i+1) r
theorem entGo_ok : ∀ {l:List PC} {i:Nat} {out:List E},UqP l→out.Pairwise strictN→(∀ x ∈ out,∀ c ∈ l,x.name≠c.1)→(entGo i l out).Perm (out++entP i l)∧(entGo i l out).Pairwise strictN
 | [],i,out,_,s,_=>by unfold entGo entP; rw [List.append_nil]; exact ⟨.refl _,s⟩
 | c::r,i,out,u,s,n=>by
  obtain ⟨u1,u2⟩:=u
  unfold entGo entP
  by_cases h:c.1=[]
  ·rw [if_pos h,if_pos h]
   exact entGo_ok u2 s fun x hx d hd=>n x hx d (List.mem_cons_of_mem _ hd)
  ·rw [if_neg h,if_neg h]
   have s':=insN_sorted (c:=⟨i,c.1,c.2⟩) s fun x hx=>n x hx c (List.mem_cons_self ..)
   have:=entGo_ok (i:=i+1) u2 s' fun x hx d hd=>by
    rcases List.mem_cons.mp ((insN_perm _ out).mem_iff.mp hx) with rfl|hx
    ·exact fun y=>u1 h d hd y.symm
    ·exact n x hx d (List.mem_cons_of_mem _ hd)
   refine ⟨this.1.trans ?_,this.2⟩
   exact ((insN_perm _ out).append_right _).trans (List.perm_middle.symm)
theorem entP_ents : ∀ {H:List Cl} {k:Nat},(∀ x ∈ H,Sk.Good x)→entP k (H.map toP)=ents k H
 | [],_,_=>rfl
 | x::r,k,g=>by
  have ih:=entP_ents (H:=r) (k:=k+1) fun y hy=>g y (List.mem_cons_of_mem _ hy)
  rw [List.map_cons]
  unfold entP ents
  rw [ih]
  show (if x.2=[] then _ else _)=_
  rcases good_name (g x (List.mem_cons_self ..)) with ⟨h1,h2⟩|⟨h1,h2,_⟩
  ·rw [if_pos h2,if_pos h1]
  ·rw [if_neg h2,if_neg h1]; rfl
theorem uqP_of : ∀ {H:List Cl},(∀ x ∈ H,Sk.Good x)→Uq H→UqP (H.map toP)
 | [],_,_=>trivial
 | x::r,g,u=>by
  refine ⟨fun hn d hd e=>?_,uqP_of (fun y hy=>g y (List.mem_cons_of_mem _ hy)) fun p q hp hq h1 h2 h3=>?_⟩
  ·obtain ⟨y,hy,rfl⟩:=List.mem_map.mp hd
   obtain ⟨q,hq,ey⟩:=List.mem_iff_getElem.mp hy
   have e:y.2=x.2:=e
   have hn:x.2≠[]:=hn
   have x0:x.1≠0:=by
    rcases good_name (g x (List.mem_cons_self ..)) with ⟨_,h⟩|⟨h,_⟩
    ·exact absurd h hn
    ·exact h
   have y0:y.1≠0:=by
    rcases good_name (g y (List.mem_cons_of_mem _ hy)) with ⟨_,h⟩|⟨h,_⟩
    ·exact absurd (e.symm.trans h) hn
    ·exact h
   have gy:(x::r).getD (q+1) (0,[])=y:=by
    rw [List.getD_cons_succ,List.getD_eq_getElem?_getD,List.getElem?_eq_getElem hq,ey]; rfl
   have:=u 0 (q+1) (Nat.succ_pos _) (Nat.succ_lt_succ hq) x0 (by rw [gy]; exact y0) (by rw [gy]; exact e.symm)
   omega
  ·have:=u (p+1) (q+1) (Nat.succ_lt_succ hp) (Nat.succ_lt_succ hq) h1 h2 h3
   omega
theorem entGo_sort {H:List Cl} (g:∀ x ∈ H,Sk.Good x) (u:Uq H):entGo 0 (H.map toP) []=sortE (ents 0 H):=by
 obtain ⟨p,s⟩:=entGo_ok (i:=0) (out:=[]) (uqP_of g u) .nil fun x hx=>by cases hx
 rw [entP_ents g,List.nil_append] at p
 refine sorted_eq (ents_rise H 0) p (s.imp fun {a b} h=>?_)
 show ltE b a=false
 have h:bytesLess a.name b.name=true:=h
 cases q:ltE b a with
 | false=>rfl
 | true =>
  rcases ltE_iff.mp q with z|⟨e,_⟩
  ·rw [bl_asym h] at z; cases z
  ·rw [e,bl_irr] at h; cases h
section
variable {n u i j m : Nat} {A : List Int} {Z : Nat → Tm.Txt} {T : TM} {R S : List Int} {H J : List Cl}
theorem Dd.list (d:Dim n) (f:Dd n u A Z T i R H j S J):listD T (geoN n) i=(sortE (ents 0 H),0):=by
 have h6:=f.di.sixt
 unfold listD
 rw [open_ok f.av d f.ri.1 f.ri.2 f.gi f.di,if_neg (fun y=>y rfl),leaves_ok f.av f.w f.di,if_neg (fun y=>y rfl)]
 show (sortE (allE ((List.range' 0 (H.length / 16)).map (leafOf Z R H))),(0:Int))=_
 rw [all_ok f.di (H.length / 16) 0 (by omega),Nat.mul_zero,List.drop_zero]
theorem Dd.blocks (d:Dim n) (f:Dd n u A Z T i R H j S J):Fi.blocksM T (geoN n) i=(((H.length / 16:Nat):Int),0):=by
 have e:Fi.getF T (geoN n) i=(R,0):=by
  have k:=f.di.kind
  unfold Fi.getF
  rw [Fi.getM_at f.av d f.ri.1 f.ri.2,f.gi]
  exact if_neg fun y=>by have:=y.2; have this:R.getD 0 0=0:=this; omega
 obtain ⟨a1,a2⟩:=Fi.all_len f.av f.w
 unfold Fi.blocksM
 rw [e,if_neg (fun y=>y rfl),if_neg (fun y=>y a1),← f.di.many,← a2]
 rfl
end
end Go.Proofs.YtiapingedfnlnaaGreatDoor.Di
namespace Go.Proofs.YtiapingedfnlnaaGreatDoor.Tm
open Go Go.Proofs Wx Hp W Ad
def TM.ended (S:RD):TM:=⟨S,[],[],true⟩
theorem end_body {h:Heap} {b:Nat} {q x y z:Value} {K:Value→Heap→Prop} (o:Own h b) (e:rd h b=[q,x,y,z]) (hK:∀ h',Did b h h' [q,.map none,.slice none 0 0,.bool true]→K (.tuple #[]) h'):txn_Txn_end (some ⟨b,0,none⟩) K h:=by
 refine os (Put.add o (by rw [e]; show 1<4; omega) fun h2 d2=>?_)
 rw [e] at d2
 refine os (Put.add d2.own (by rw [d2.rd]; show 2<4; omega) fun h3 d3=>?_)
 rw [d2.rd] at d3
 refine os (Put.add d3.own (by rw [d3.rd]; show 3<4; omega) fun h4 d4=>?_)
 rw [d3.rd] at d4
 exact hK h4 ⟨by rw [d4.size,d3.size,d2.size],(d2.fr.trans d3.fr fun _ _ x=>x).trans d4.fr fun _ _ x=>x,d4.own,d4.rd⟩
theorem TxC.shut {h h7 h8:Heap} {F:Nat→Prop} {col:Nat→Nat} {d:Option Addr} {r:TR} {T:TM} {S:RD} {D:Nat→Prop} (X:TxC h col d r T) (hF:∀ b,F b↔1≤col b∧col b≤5) (f:Fr (fun b=>col b=5) h h7) (g:Gw h (fun b=>col b=5) h7 D) (A:DiskF h7 D d S)
  (d8:Did r.tb h7 h8 [.pointer d,.map none,.slice none 0 0,.bool true]):∃ F',Fr F h h8∧Gw h F h8 F'∧Tx h8 F' (some ⟨r.tb,0,none⟩) d (TM.ended S):=by
 have tl:=X.own.lt
 have s1:=X.sc
 have z7:=f.size
 have z8:=d8.size
 obtain ⟨col',k1,k2⟩:∃ col':Nat→Nat,(∀ b,D b→col' b=5)∧∀ b,¬ D b→col' b=if b<h.size∧col b≠5 then col b else 0 :=
  ⟨fun b=>@ite _ (D b) (Classical.propDecidable _) 5 (if b<h.size∧col b≠5 then col b else 0),fun b x=>if_pos x,fun b x=>if_neg x⟩
 have old:∀ b,b<h.size→col' b=col b:=fun b hb=>by
  by_cases x:D b
  ·rw [k1 b x]; exact ((g.old b hb).mp x).symm
  ·have:col b≠5:=fun e=>x ((g.old b hb).mpr e)
   rw [k2 b x,if_pos ⟨hb,this⟩]
 have five:∀ b,col' b=5↔D b:=fun b=>⟨fun e=>by
  by_cases x:D b
  ·exact x
  ·rw [k2 b x] at e
   split at e
   ·rename_i y; exact absurd e y.2
   ·exact absurd e (by decide),k1 b⟩
 have big:∀ b,h8.size≤b→col' b=0:=fun b hb=>by
  have x:¬ D b:=fun x=>by have:=A.lt x; omega
  rw [k2 b x,if_neg (by omega)]
 refine ⟨fun b=>1≤col' b∧col' b≤5,?_,⟨fun b hb=>by rw [old b hb]; exact (hF b).symm,fun b hb=>?_⟩,.inr ⟨col',r.tb,rfl,⟨big,(old _ tl).trans s1,d8.own,d8.rd,⟨rfl,rfl⟩,rfl,?_⟩,fun b=>Iff.rfl⟩⟩
 ·refine (f.mono fun b _ e=>(hF b).mpr ?_).trans d8.fr fun b _ e=>(hF b).mpr ?_
  ·have e:col b=5:=e; omega
  ·have e:b=r.tb:=e; subst e; omega
 ·rcases Nat.lt_or_ge b h8.size with x|x
  ·exact x
  ·rw [big b x] at hb; omega
 ·refine (A.fr d8.fr fun b hb e=>?_).iff five
  have e:b=r.tb:=e
  subst e
  have:=(g.old _ tl).mp hb
  have this:col r.tb=5:=this
  omega
theorem Abort_spec {h:Heap} {F:Nat→Prop} {t d:Option Addr} {T:TM} {K:Value→Heap→Prop} (x:Tx h F t d T) (hK:∀ h' F',Fr F h h'→Gw h F h' F'→Tx h' F' t d (TM.ended T.disk)→K (.tuple #[]) h'):C.txn_Txn_Abort t h K:=by
 have hlt:=fun b hb=>x.lt (b:=b) hb
 rcases x with ⟨col,r,rfl,X,hF⟩|⟨col,tb,rfl,X,hF⟩
 ·refine txn_Txn_Abort.ok (txn_Txn_end.ok (end_body X.own X.cell fun h2 d2=>⟨rfl,?_⟩))
  obtain ⟨F',f,g,y⟩:=X.shut hF (Fr.refl _ _) (Gw.refl (Nat.le_refl _) fun b hb=>X.dk.lt hb) X.dk d2
  exact hK h2 F' f g y
 ·refine txn_Txn_Abort.ok (txn_Txn_end.ok (end_body X.own X.cell fun h2 d2=>⟨rfl,?_⟩))
  have s1:=X.sc
  have f2:Fr F h h2:=d2.fr.mono fun b _ e=>by have e:b=tb:=e; subst e; exact (hF _).mpr (by omega)
  have z2:=d2.size
  exact hK h2 F f2 (Gw.refl f2.size hlt) (.inr ⟨col,tb,rfl,⟨fun b hb=>X.nrm b (by omega),s1,d2.own,d2.rd,⟨rfl,rfl⟩,rfl,X.dk.fr d2.fr fun b hb e=>by
   have e:b=tb:=e
   subst e
   have hb:col b=5:=hb
   omega⟩,hF⟩)
end Go.Proofs.YtiapingedfnlnaaGreatDoor.Tm
namespace Go.Proofs.YtiapingedfnlnaaGreatDoor.Di
open Go Go.Proofs Ad Tm Bt Spc Av Ss Re
open Bm (num nS many allM Z0 edge num_nil wf_nil tight_nil fresh_av)
open Sk (E ents low nameOk)
open In (encR mayR)
open Fi (recZ blkZ dirR filR slice0 getD_putU cnt_from cnt_none)
def recsD : List (List Int):=[dirR,dirR,filR]
theorem recZD {n k:Nat} {L:Tm.Txt} (d:Dim n) (hn:n<4428) (I:Fi.Ib n (recsD.flatMap encR) (4096*((geoN n).inodes - 98)) L) (h1:1≤k) (h:k<(geoN n).count):recZ n (Z0 L) k=if k≤2 then (dirR,0) else if k=3 then (filR,0) else (List.replicate 15 0,0):=by
 have hL:=I.im.len
 have hlo:=d.lo
 have hino:(geoN n).inodes=98+(n+4095) / 4096:=rfl
 have hc:(geoN n).count=8*(n / 64):=rfl
 have lW:(recsD.flatMap encR).length=192:=rfl
 have e:((Z0 L (blkZ n k)).drop (64*(k % 8))).take 64=(List.range 64).map fun p=>if 64≤64*k+p∧64*k+p<256 then (recsD.flatMap encR).getD (64*k+p - 64) 0 else 0:=by
  rw [slice0 d hL h]
  refine List.map_congr_left fun p hp=>?_
  rw [I.rest _ (by omega),getD_putU (by rw [lW,List.length_replicate]; omega),lW]
  by_cases hx:64≤64*k+p∧64*k+p<256
  ·rw [if_pos (by omega),if_pos hx]; congr 1; omega
  ·rw [if_neg (by omega),if_neg hx,List.getD_eq_getElem?_getD,List.getElem?_replicate]
   split <;> rfl
 unfold recZ
 rw [e]
 by_cases k1:k=1
 ·subst k1; rw [if_pos (by decide)]; decide +kernel
 ·by_cases k2:k=2
  ·subst k2; rw [if_pos (by decide)]; decide +kernel
  ·rw [if_neg (by omega)]
   by_cases k3:k=3
   ·subst k3; rw [if_pos rfl]; decide +kernel
   ·rw [if_neg (by omega)]
    have:(List.range 64).map (fun p=>if 64≤64*k+p∧64*k+p<256 then (recsD.flatMap encR).getD (64*k+p - 64) 0 else 0)=List.replicate 64 0:=by
     refine List.ext_getElem (by simp) fun p h1 h2=>?_
     rw [List.getElem_map,List.getElem_range,List.getElem_replicate,if_neg (by omega)]
    rw [this]; decide +kernel
theorem dir_zero : ∀ i,3≤i→i<15→dirR.getD i 0=0:=fun i h1 h2=>by
 have:∀ i:Fin 15,3≤i.val→dirR.getD i.val 0=0:=by decide
 exact this ⟨i,h2⟩ h1
theorem dd0 {n:Nat} {L:Tm.Txt} (d:Dim n) (hn:n<4428) (I:Fi.Ib n (recsD.flatMap encR) (4096*((geoN n).inodes - 98)) L):Dd n (geoN n).data [] (Z0 L) ⟨fresh (chunks L),[],[],false⟩ 1 dirR [] 2 dirR []∧frees n (Z0 L)=n - (geoN n).data:=by
 have hlo:=d.lo
 have hd:=d.data
 have hc:(geoN n).count=8*(n / 64):=rfl
 have hino:(geoN n).inodes=98+(n+4095) / 4096:=rfl
 have z:=num_nil (Z:=Z0 L) (R:=dirR) dir_zero
 have m0:many (Z0 L) dirR=0:=by
  unfold many
  exact cnt_none _ fun s hs=>decide_eq_false fun y=>y (z s hs)
 have fl:Dir (Z0 L) dirR []:=⟨rfl,⟨by decide,by decide⟩,rfl,rfl,Nat.zero_le _,fun x hx=>(by cases hx),fun s hs=>⟨fun y=>absurd (z s hs) y,fun y=>absurd y (Nat.not_lt_zero _)⟩,fun k hk=>absurd hk (Nat.not_lt_zero _)⟩
 have fr:frees n (Z0 L)=n - (geoN n).data:=by
  rw [← cnt_from]
  unfold frees
  refine cnt_congr fun j hj=>?_
  unfold isFree
  rw [I.im.bit ⟨hlo,hn⟩ hj]
  unfold Bm.lowU edge
  rw [decide_eq_true hj,decide_eq_true (show j<4096*((geoN n).inodes - 98) by omega),decide_eq_false (show ¬ n≤j by omega)]
  by_cases h:(geoN n).data≤j
  ·rw [decide_eq_true h,decide_eq_false (by omega)]; rfl
  ·rw [decide_eq_false h,decide_eq_true (by omega)]; rfl
 refine ⟨⟨fresh_av I.im.len,wf_nil rfl dir_zero,wf_nil rfl dir_zero,tight_nil dir_zero,tight_nil dir_zero,fun s _ hs _ h=>absurd (z s hs) h,?_,?_,fl,fl,⟨by decide,by show (1:Nat)<_; omega⟩,⟨by decide,by show (2:Nat)<_; omega⟩,by decide,?_,fun x hx=>by cases hx⟩,fr⟩
 ·rw [recZD d hn I (by decide) (by omega),if_pos (by decide)]
 ·rw [recZD d hn I (by decide) (by omega),if_pos (by decide)]
 ·rw [m0,fr]; omega
def nmA : Tm.Txt:=[97]
theorem first_dir {n:Nat} {L:Tm.Txt} (d:Dim n) (hn:n<1000) (I:Fi.Ib n (recsD.flatMap encR) (4096*((geoN n).inodes - 98)) L) :
  ∃ T',addD ⟨fresh (chunks L),[],[],false⟩ (geoN n) 1 nmA 2=(T',0)∧findD T' (geoN n) 1 nmA=(2,0)∧findD T' (geoN n) 2 nmA=(0,160)∧T'.disk=fresh (chunks L)∧T'.undo.length≤100:=by
 obtain ⟨f0,fr⟩:=dd0 d (by omega) I
 have hlo:=d.lo
 have hd:=d.data
 have hc:(geoN n).count=8*(n / 64):=rfl
 have hino:(geoN n).inodes=98+(n+4095) / 4096:=rfl
 have hda:(geoN n).data=98+(n+4095) / 4096+n / 64:=rfl
 have ok:nameOk nmA=true:=by decide
 obtain ⟨T',Z',R',e,D,_,un,dk⟩:=f0.add_new (s:=nmA) (v:=2) d (by show 0+_<60; omega) ok ⟨by decide,by omega⟩ rfl rfl (by decide) (by omega)
 refine ⟨T',e,?_,?_,dk,?_⟩
 ·show findD T' (geoN n) ((1:Nat):Int) nmA=_
  rw [D.find d ok]; rfl
 ·show findD T' (geoN n) ((2:Nat):Int) nmA=_
  rw [D.sym.find d ok]; rfl
 ·have:T'.undo.length≤0+20:=un
  omega
end Go.Proofs.YtiapingedfnlnaaGreatDoor.Di
namespace Go.Proofs.YtiapingedfnlnaaGreatDoor.Ch
open Go Go.Proofs Wx Hp W Re
theorem get_mk {ss:List UInt8} {j:Nat} (hj:j<ss.length):(mkStr ss).get! j=ss[j]:=by
 simp [mkStr,ByteArray.get!,hj]
theorem decode_low {ss:List UInt8} {i:Nat} (hi:i<ss.length) (h:ss[i].toNat<128):Utf8.decode (mkStr ss) i=(ss[i].toNat,1):=by
 have g:=get_mk hi
 simp only [Utf8.decode,Nat.add_zero,g,if_pos (show ss[i].toNat<0x80 from h)]
theorem decode_high {ss:List UInt8} {i:Nat} (hi:i<ss.length) (h:128≤ss[i].toNat) :
  128≤(Utf8.decode (mkStr ss) i).1∧1≤(Utf8.decode (mkStr ss) i).2∧∀ k,k<(Utf8.decode (mkStr ss) i).2→∃ h:i+k<ss.length,128≤ss[i+k].toNat:=by
 have g:=get_mk hi
 have c:∀ k,(decide (i+k<(mkStr ss).size) && ((mkStr ss).get! (i+k)).toNat / 64 == 2)=true→∃ h:i+k<ss.length,128≤ss[i+k].toNat:=by
  intro k hk
  rw [Bool.and_eq_true,decide_eq_true_eq,beq_iff_eq] at hk
  have h1:i+k<ss.length:=hk.1
  refine ⟨h1,?_⟩
  have:=hk.2
  rw [get_mk h1] at this
  omega
 have z:∀ k,k<1→∃ h:i+k<ss.length,128≤ss[i+k].toNat:=by
  intro k hk
  obtain rfl:k=0:=by omega
  exact ⟨hi,h⟩
 have e:128≤Utf8.runeError:=by decide
 simp only [Utf8.decode,Nat.add_zero,g,if_neg (show ¬ ss[i].toNat<0x80 by omega)]
 split
 ·rename_i h1
  rw [Bool.and_eq_true] at h1
  have c1:=c 1 h1.2
  split
  ·rename_i h2
   refine ⟨h2,by show 1≤2; omega,fun k hk=>?_⟩
   have hk:k<2:=hk
   obtain rfl|rfl:k=0∨k=1:=by omega
   ·exact ⟨hi,h⟩
   ·exact c1
  ·exact ⟨e,Nat.le_refl _,z⟩
 ·split
  ·rename_i _ h1
   rw [Bool.and_eq_true,Bool.and_eq_true] at h1
   have c1:=c 1 h1.1.2
   have c2:=c 2 h1.2
   split
   ·rename_i h2
    rw [Bool.and_eq_true,decide_eq_true_eq] at h2
    refine ⟨Nat.le_trans (by omega) h2.1,by show 1≤3; omega,fun k hk=>?_⟩
    have hk:k<3:=hk
    obtain rfl|rfl|rfl:k=0∨k=1∨k=2:=by omega
    ·exact ⟨hi,h⟩
    ·exact c1
    ·exact c2
   ·exact ⟨e,Nat.le_refl _,z⟩
  ·split
   ·rename_i _ _ h1
    rw [Bool.and_eq_true,Bool.and_eq_true,Bool.and_eq_true] at h1
    have c1:=c 1 h1.1.1.2
    have c2:=c 2 h1.1.2
    have c3:=c 3 h1.2
    split
    ·rename_i h2
     rw [Bool.and_eq_true,decide_eq_true_eq] at h2
     refine ⟨Nat.le_trans (by omega) h2.1,by show 1≤4; omega,fun k hk=>?_⟩
     have hk:k<4:=hk
     obtain rfl|rfl|rfl|rfl:k=0∨k=1∨k=2∨k=3:=by omega
     ·exact ⟨hi,h⟩
     ·exact c1
     ·exact c2
     ·exact c3
    ·exact ⟨e,Nat.le_refl _,z⟩
   ·exact ⟨e,Nat.le_refl _,z⟩
theorem encode_high {r:Int} (h:128≤r):∃ l b,Utf8.encode r=mkStr (l++[b])∧1≤l.length∧l.length≤3∧128≤b.toNat:=by
 have hc:128≤(if Utf8.valid r then r.toNat else Utf8.runeError):=by
  split
  ·omega
  ·show 128≤65533; omega
 have hb:∀ c:Nat,128≤(UInt8.ofNat (0x80+c % 64)).toNat:=fun c=>by rw [UInt8.toNat_ofNat']; omega
 unfold Utf8.encode
 dsimp only
 generalize (if Utf8.valid r=true then r.toNat else Utf8.runeError)=c at hc ⊢
 rw [if_neg (by omega)]
 split
 ·exact ⟨[_],_,rfl,by simp,by simp,hb _⟩
 ·split
  ·exact ⟨[_,_],_,rfl,by simp,by simp,hb _⟩
  ·exact ⟨[_,_,_],_,rfl,by simp,by simp,hb _⟩
def slz : List UInt8:=[47,0]
def isBad (b:UInt8):Bool:=b == 47 || b == 0
theorem fr_push {h:Heap} (o:Obj):Fr No h (h.push o):=⟨by rw [Array.size_push]; omega,fun b hb _=>by rw [Array.getElem?_push,if_neg (by omega)]⟩
theorem get_push {h:Heap} (o:Obj):(h.push o)[h.size]?=some o:=by rw [Array.getElem?_push,if_pos rfl]
theorem NewI.intro {s:ByteArray} {h:Heap} {k:Heap→Prop} (H:∀ h',Fr No h h'→h'.size=h.size+1→h'[h.size]?=some (.stringIter s 0)→k h'):NewI s h k:=H _ (fr_push _) (Array.size_push _) (get_push _)
theorem slz_next {pos:Nat} (h:pos<2):Utf8.decode (mkStr slz) pos=((slz[pos]'h).toNat,1)∧(slz[pos]'h).toNat<128:=by
 obtain rfl|rfl:pos=0∨pos=1:=by omega
 ·exact ⟨decode_low (ss:=slz) (i:=0) (by decide) (by show (47:UInt8).toNat<128; decide),by show (47:UInt8).toNat<128; decide⟩
 ·exact ⟨decode_low (ss:=slz) (i:=1) (by decide) (by show (0:UInt8).toNat<128; decide),by show (0:UInt8).toNat<128; decide⟩
theorem IndexByte_spec {ss:List UInt8} {c:UInt8} {h:Heap} {K:Value→Heap→Prop} (hK:K (.int .i64 (byteIn ss c)) h):C.strings_IndexByte (mkStr ss) (c.toNat:Int) h K:=by
 refine strings_IndexByte.ok (internal_stringslite_IndexByte.ok ⟨rfl,_,rfl,?_⟩)
 have e:UInt8.ofNat ((c.toNat:Int)).toNat=c:=by
  rw [Int.toNat_natCast]
  apply UInt8.toNat_inj.mp
  have:=c.toNat_lt
  rw [UInt8.toNat_ofNat']
  omega
 rw [toList_mkStr,e]; exact hK
theorem IndexRune_spec {r:Nat} {h:Heap} {K:Value→Heap→Prop} (hr:r≤1114111) (hK:∀ h' n,Fr No h h'→decide (n≥0)=(decide (r=47) || decide (r=0))→K (.int .i64 n) h'):C.strings_IndexRune (mkStr slz) (r:Int) h K:=by
 generalize hri:((r:Nat):Int)=ri
 refine strings_IndexRune.ok (ct (decide_eq_true (by omega)) (cd (fun hlt=>?_) fun hge=>?_))
 ·have e:IntKind.wrap .u8 ri=((UInt8.ofNat r).toNat:Int):=by
   rw [wrap_u8 (by omega) (by omega),UInt8.toNat_ofNat']; omega
  rw [e]
  refine IndexByte_spec ⟨_,rfl,hK h _ (Fr.refl _ _) ?_⟩
  have:∀ k:Fin 128,decide (byteIn slz (UInt8.ofNat k.val)≥0)=(decide (k.val=47) || decide (k.val=0)):=by decide +kernel
  exact this ⟨r,by omega⟩
 ·have no:(decide (r=47) || decide (r=0))=false:=by
   rw [decide_eq_false (by omega),decide_eq_false (by omega)]; rfl
  rw [no] at hK
  have fin:∀ h',Fr No h h'→K (.int .i64 (-1)) h':=fun h' f=>hK h' (-1) f (by decide)
  refine ce (fun _=>?_) fun hne=>?_
  ·refine NewI.intro fun h3 f3 _ g3=>?_
   refine ⟨fun hh=>∃ pos,Fr No h hh∧hh[h.size]?=some (.stringIter (mkStr slz) pos),fun hh=>match hh[h.size]? with|some (.stringIter _ pos)=>2 - pos|_=>0,⟨0,f3,g3⟩,?_⟩
   rintro h4 ⟨pos,f4,g4⟩
   refine ⟨rfl,_,_,g4,fun hp h5 it=>?_,fun _=>fin h4 f4⟩
   have hp:pos<2:=hp
   obtain ⟨e1,e2⟩:=slz_next hp
   have f5:Fr No h h5:=f4.trans (G:=fun x=>x=h.size) ⟨by rw [it.size]; exact Nat.le_refl _,fun b _ hb=>it.same b hb⟩ (fun b hb e=>by omega)
   refine ce (fun x=>?_) fun _=>⟨⟨_,f5,it.at_⟩,?_⟩
   ·exfalso; rw [e1] at x; have x:(((slz[pos]'hp).toNat:Nat):Int)=65533:=x; omega
   ·have i1:h5[h.size]?=some (.stringIter (mkStr slz) (pos+(Utf8.decode (mkStr slz) pos).2)):=it.at_
    rw [e1] at i1
    simp only [i1,g4]
    omega
  ·have vr:∀ (K':Value→Heap→Prop),(∀ b,K' (.bool b) h)→C.unicode_utf8_ValidRune ri h K':=fun K' hk=>by
    refine unicode_utf8_ValidRune.ok (ct (decide_eq_true (by omega)) (cd (fun _=>hk _) fun _=>cd (fun _=>cd (fun _=>hk _) fun _=>hk _) fun _=>hk _))
   refine vr _ fun b=>⟨b,rfl,?_⟩
   cases b with
   | false=>exact fin h (Fr.refl _ _)
   | true =>
    show ∃ _,_
    obtain ⟨l,b,ee,l1,l3,hb⟩:=encode_high (r:=ri) (by omega)
    have es:(Utf8.encode ri).size=l.length+1:=by rw [ee]; show (l++[b]).length=_; rw [List.length_append]; rfl
    rw [es,wrap_i64 (n:=((l.length+1:Nat):Int) - 1) (by omega) (by omega)]
    refine ⟨fun i hh=>h=hh∧i=l.length,fun _ _=>0,⟨rfl,by omega⟩,?_⟩
    rintro i _ ⟨rfl,rfl⟩
    refine cd (fun hi=>?_) fun hi=>fin h (Fr.refl _ _)
    have hi:((l.length:Nat):Int)<2:=hi
    have e1:l.length=1:=by omega
    have gl:(Utf8.encode ri).toList[(((l.length+1:Nat):Int) - 1).toNat]?=some b:=by
     rw [ee,toList_mkStr,show (((l.length+1:Nat):Int) - 1).toNat=l.length by omega,List.getElem?_append_right (Nat.le_refl _),Nat.sub_self]; rfl
    refine ⟨⟨by omega,by show ((l.length:Nat):Int)<2; omega⟩,0,?_,⟨by omega,by omega⟩,b,gl,?_⟩
    ·rw [toList_mkStr,Int.toNat_natCast,e1]; rfl
    ·refine cn (fun _=>?_) fun x=>?_
     ·rw [wrap_i64 (n:=((l.length:Nat):Int)+1) (by omega) (by omega)]
      refine ⟨⟨by omega,by show ((l.length:Nat):Int)+1≤2; omega⟩,⟨by omega,by omega⟩,b,gl,?_⟩
      have ex:ByteArray.extract (mkStr slz) (((l.length:Nat):Int)+1).toNat (mkStr slz).size=mkStr []:=by
       rw [show (((l.length:Nat):Int)+1).toNat=2 by omega]
       show (mkStr slz).extract 2 2=_
       decide +kernel
      rw [ex]
      refine IndexByte_spec ⟨_,rfl,ct (decide_eq_true (by show (-1:Int)<0; decide)) (fin h (Fr.refl _ _))⟩
     ·exfalso
      have x:(0:Int)=(b.toNat:Int):=x
      omega
theorem decode_max (s:ByteArray) (pos:Nat):(Utf8.decode s pos).1≤1114111:=by
 have v:∀ c:Nat,(decide (c≥2048) && Utf8.valid (c:Int))=true→c≤1114111:=by
  intro c h
  rw [Bool.and_eq_true] at h
  have:=h.2
  simp only [Utf8.valid,Bool.or_eq_true,Bool.and_eq_true,decide_eq_true_eq] at this
  omega
 have v4:∀ c:Nat,(decide (c≥65536) && Utf8.valid (c:Int))=true→c≤1114111:=by
  intro c h
  rw [Bool.and_eq_true] at h
  have:=h.2
  simp only [Utf8.valid,Bool.or_eq_true,Bool.and_eq_true,decide_eq_true_eq] at this
  omega
 have e:Utf8.runeError≤1114111:=by decide
 have b:∀ k,(s.get! k).toNat<256:=fun k=>(s.get! k).toNat_lt
 simp only [Utf8.decode]
 split
 ·have:=b (pos+0); show (s.get! (pos+0)).toNat≤_; omega
 ·split
  ·split
   ·show _≤1114111
    have:=b (pos+1)
    have:=Nat.mod_lt (s.get! (pos+0)).toNat (show 0<32 by omega)
    have:=Nat.mod_lt (s.get! (pos+1)).toNat (show 0<64 by omega)
    simp only [Nat.add_zero] at *
    omega
   ·exact e
  ·split
   ·split
    ·rename_i h; exact v _ h
    ·exact e
   ·split
    ·split
     ·rename_i h; exact v4 _ h
     ·exact e
    ·exact e
def setL : List Bool:=(List.range 256).map fun k=>decide (k=47) || decide (k=0)
theorem makeASCIISet_spec {h:Heap} {K:Value→Heap→Prop} (hK:∀ h',Fr No h h'→K (.tuple #[.agg ⟨setL.map .bool⟩,.bool true]) h'):C.strings_makeASCIISet (mkStr slz) h K:=by
 refine strings_makeASCIISet.ok (New.intro fun h2 n2=>?_)
 have hs2:=n2.size
 refine ⟨fun i hh=>0≤i∧i≤2∧Fr No h hh∧Own hh h.size∧rd hh h.size=(((slz.take i.toNat).foldl (fun (l:List Bool) b=>l.set b.toNat true) (List.replicate 256 false)).map .bool),fun i _=>(2 - i).toNat,⟨by omega,by omega,n2.fr,n2.own,n2.rd.trans (by kernel_rfl)⟩,?_⟩
 rintro i h3 ⟨i0,i2,f3,o3,r3⟩
 have hs3:=f3.size
 have lf:∀ l:List UInt8,(l.foldl (fun (l:List Bool) b=>l.set b.toNat true) (List.replicate 256 false)).length=256:=by
  have:∀ (l:List UInt8) (x:List Bool),(l.foldl (fun (l:List Bool) b=>l.set b.toNat true) x).length=x.length:=by
   intro l
   induction l with
   | nil=>intro x; rfl
   | cons b r ih=>intro x; rw [List.foldl_cons,ih,List.length_set]
  intro l; rw [this,List.length_replicate]
 refine cd (fun hi=>?_) fun hi=>?_
 ·have hi:i<2:=hi
  have hi':i.toNat<slz.length:=by show i.toNat<2; omega
  refine ⟨⟨i0,hi⟩,slz[i.toNat],by rw [toList_mkStr,List.getElem?_eq_getElem hi'],?_⟩
  have hb:(slz[i.toNat]).toNat<128:=(slz_next (pos:=i.toNat) hi').2
  generalize hbb:slz[i.toNat]=b at hb
  refine cf (decide_eq_false (by omega)) ⟨⟨by omega,by omega⟩,Put.add o3 (by rw [r3,List.length_map,lf]; omega) fun h5 d5=>?_⟩
  rw [wrap_i64 (by omega) (by omega)]
  refine ⟨⟨by omega,by omega,f3.did d5 (fun x=>by omega),d5.own,?_⟩,by show (2 - (i+1)).toNat<(2 - i).toNat; omega⟩
  rw [d5.rd,r3,show (i+1).toNat=i.toNat+1 by omega,List.take_succ_eq_append_getElem hi',List.foldl_append,hbb]
  show _=(List.set (List.foldl (fun (l:List Bool) b=>l.set b.toNat true) (List.replicate 256 false) (slz.take i.toNat)) b.toNat true).map Value.bool
  rw [List.map_set,Nat.zero_add,Int.toNat_natCast]
 ·have hi:¬ i<2:=hi
  have e:slz.take i.toNat=slz:=List.take_of_length_le (by show 2≤i.toNat; omega)
  have es:slz.foldl (fun (l:List Bool) b=>l.set b.toNat true) (List.replicate 256 false)=setL:=by decide +kernel
  rw [e,es] at r3
  have ml:(setL.map Value.bool).length=256:=by rw [List.length_map,setL,List.length_map,List.length_range]
  refine ⟨setL.map .bool,ml,cellsAll r3,PutRow.intro o3 ml (fun v hv=>by obtain ⟨b,_,rfl⟩:=List.mem_map.mp hv; rfl) (by rw [r3,ml]; omega) fun h6 d6=>⟨setL.map .bool,ml,cellsAll ?_,hK h6 (f3.did d6 fun x=>by omega)⟩⟩
  rw [d6.rd,put_all _ _ (by rw [r3])]
theorem setL_get (b:UInt8):(setL.map Value.bool)[b.toNat]?=some (.bool (isBad b)):=by
 have hb:=b.toNat_lt
 rw [List.getElem?_map,setL,List.getElem?_map,List.getElem?_range hb]
 show some (Value.bool (decide (b.toNat=47) || decide (b.toNat=0)))=_
 congr 2
 unfold isBad
 congr 1
 ·by_cases h:b=47
  ·subst h; decide
  ·rw [beq_eq_false_iff_ne.mpr h]; exact decide_eq_false (fun e=>h (UInt8.toNat_inj.mp e))
 ·by_cases h:b=0
  ·subst h; decide
  ·rw [beq_eq_false_iff_ne.mpr h]; exact decide_eq_false (fun e=>h (UInt8.toNat_inj.mp e))
theorem bad_nat (b:UInt8):(decide (b.toNat=47) || decide (b.toNat=0))=isBad b:=by
 have:=setL_get b
 have hb:=b.toNat_lt
 rw [List.getElem?_map,setL,List.getElem?_map,List.getElem?_range hb] at this
 have this:=Option.some.inj this
 have this:Value.bool (decide (b.toNat=47) || decide (b.toNat=0)) = .bool (isBad b):=this
 exact Value.bool.inj this
theorem IndexAny_slow {ss:List UInt8} {h h10:Heap} {K:Value→Heap→Prop} (f10:Fr No h h10) (hK:∀ h' n,Fr No h h'→decide (n≥0)=ss.any isBad→K (.int .i64 n) h'):strings_IndexAny.k1 (mkStr ss) (mkStr slz) h10 K:=by
 have hs10:=f10.size
 refine NewI.intro fun h11 f11 s11 g11=>?_
 refine ⟨fun hh=>∃ pos,Fr No h hh∧h10.size<hh.size∧hh[h10.size]?=some (.stringIter (mkStr ss) pos)∧(ss.take pos).any isBad=false,fun hh=>match hh[h10.size]? with|some (.stringIter _ pos)=>ss.length - pos|_=>0,⟨0,f10.no f11,by omega,g11,rfl⟩,?_⟩
 rintro h12 ⟨pos,f12,s12,g12,nb⟩
 refine ⟨rfl,_,_,g12,fun hp h13 it=>?_,fun hp=>?_⟩
 ·have hp:pos<ss.length:=hp
  have f13:Fr No h h13:=f12.trans (G:=fun x=>x=h10.size) ⟨by rw [it.size]; exact Nat.le_refl _,fun b _ hb=>it.same b hb⟩ (fun b hb e=>by omega)
  have g13:=it.at_
  have hsplit:ss.any isBad=(ss.drop pos).any isBad:=by
   conv=>lhs; rw [← List.take_append_drop pos ss,List.any_append,nb,Bool.false_or]
  refine IndexRune_spec (decode_max _ _) fun h14 n f14 hn=>⟨n,rfl,?_⟩
  have s13:h10.size<h13.size:=by rw [it.size]; exact s12
  have g14:h14[h10.size]?=some (.stringIter (mkStr ss) (pos+(Utf8.decode (mkStr ss) pos).2)):=(f14.same _ s13 fun x=>x).trans g13
  have go:1≤(Utf8.decode (mkStr ss) pos).2→(ss.take (pos+(Utf8.decode (mkStr ss) pos).2)).any isBad=false →
    (∃ p,Fr No h h14∧h10.size<h14.size∧h14[h10.size]?=some (.stringIter (mkStr ss) p)∧(ss.take p).any isBad=false)∧(match h14[h10.size]? with|some (.stringIter _ pos)=>ss.length - pos|_=>0)<(match h12[h10.size]? with|some (.stringIter _ pos)=>ss.length - pos|_=>0):=by
   intro w1 w2
   refine ⟨⟨_,f13.no f14,by have:=f14.size; omega,g14,w2⟩,?_⟩
   simp only [g14,g12]
   exact Nat.sub_lt_sub_left hp (by omega)
  rcases Nat.lt_or_ge ss[pos].toNat 128 with hlow|hhigh
  ·have e1:=decode_low hp hlow
   rw [e1] at hn go
   have hn:decide (n≥0)=(decide (ss[pos].toNat=47) || decide (ss[pos].toNat=0)):=hn
   rw [bad_nat] at hn
   cases hb:isBad ss[pos] with
   | true =>
    rw [hb] at hn
    refine ct hn (hK h14 _ (f13.no f14) ?_)
    rw [hsplit,List.drop_eq_getElem_cons hp,List.any_cons,hb,decide_eq_true (by omega)]; rfl
   | false =>
    rw [hb] at hn
    refine cf hn (go (Nat.le_refl _) ?_)
    show (ss.take (pos+1)).any isBad=false
    rw [List.take_succ_eq_append_getElem hp,List.any_append,nb,List.any_cons,hb]; rfl
  ·obtain ⟨e1,e2,e3⟩:=decode_high hp hhigh
   have a1:¬ (Utf8.decode (mkStr ss) pos).1=47:=by omega
   have a2:¬ (Utf8.decode (mkStr ss) pos).1=0:=by omega
   rw [decide_eq_false a1,decide_eq_false a2] at hn
   refine cf hn (go e2 ?_)
   generalize (Utf8.decode (mkStr ss) pos).2=w at e2 e3
   clear hn go g14 g13 it e1 e2
   induction w with
   | zero=>exact nb
   | succ w ih =>
    obtain ⟨hl,hb⟩:=e3 w (by omega)
    rw [← Nat.add_assoc,List.take_succ_eq_append_getElem hl,List.any_append,ih fun k hk=>e3 k (by omega),List.any_cons]
    have:isBad ss[pos+w]=false:=by rw [← bad_nat,decide_eq_false (by omega),decide_eq_false (by omega)]; rfl
    rw [this]; rfl
 ·have hp:¬ pos<ss.length:=hp
  refine hK h12 _ f12 ?_
  rw [List.take_of_length_le (by omega)] at nb
  rw [nb]; decide
theorem ContainsAny_spec {ss:List UInt8} {h:Heap} {K:Value→Heap→Prop} (hl:ss.length≤140737488355328) (hK:∀ h',Fr No h h'→K (.bool (ss.any isBad)) h'):C.strings_ContainsAny (mkStr ss) (mkStr slz) h K:=by
 have fin:∀ h' n,Fr No h h'→decide (n≥0)=ss.any isBad→(fun v h'=>∃ n:Int,v = .int .i64 n∧K (.bool (decide (n≥0))) h') (Value.int .i64 n) h':=fun h' n f e=>⟨n,rfl,by rw [e]; exact hK h' f⟩
 refine strings_ContainsAny.ok (strings_IndexAny.ok (cf (by rw [toList_mkStr,toList_mkStr]; rfl) (cf (by show ((2:Int) == 1)=false; decide) ?_)))
 refine strings_shouldUseASCIISet.ok ⟨_,rfl,?_⟩
 refine cs (fun hb=>?_) fun _=>IndexAny_slow (Fr.refl _ _) fin
 refine makeASCIISet_spec fun h5 f5=>⟨_,_,rfl,?_⟩
 have ml:(setL.map Value.bool).length=256:=by rw [List.length_map,setL,List.length_map,List.length_range]
 refine NewRow.intro ml (fun v hv=>by obtain ⟨b,_,rfl⟩:=List.mem_map.mp hv; rfl) (by kernel_rfl) fun h7 n7=>ct rfl ?_
 have f7:=f5.new n7
 have hsz:((mkStr ss).size:Int)=ss.length:=rfl
 rw [hsz]
 refine ⟨fun i hh=>0≤i∧i≤ss.length∧h7=hh∧ss.any isBad=(ss.drop i.toNat).any isBad,fun i _=>(ss.length - i).toNat,⟨by omega,by omega,rfl,rfl⟩,?_⟩
 rintro i _ ⟨i0,i1,rfl,e⟩
 refine cd (fun hi=>?_) fun hi=>?_
 ·have hi':i.toNat<ss.length:=by omega
  refine ⟨⟨i0,hi⟩,ss[i.toNat],by rw [toList_mkStr,List.getElem?_eq_getElem hi'],strings_asciiSet_contains.ok (os ⟨⟨by omega,by have:=(ss[i.toNat]).toNat_lt; omega⟩,isBad ss[i.toNat],?_,_,rfl,?_⟩)⟩
  ·refine rda n7.rd ?_
   rw [Nat.zero_add,Int.toNat_natCast]; exact setL_get _
  ·rw [List.drop_eq_getElem_cons hi',List.any_cons] at e
   cases hb:isBad ss[i.toNat] with
   | true =>
    rw [hb] at e
    exact ct rfl (fin h7 _ f7 (by rw [e,decide_eq_true (by omega)]; rfl))
   | false =>
    rw [hb,Bool.false_or] at e
    rw [wrap_i64 (by omega) (by omega)]
    refine cf rfl ⟨⟨by omega,by omega,rfl,by rw [e,show (i+1).toNat=i.toNat+1 by omega]⟩,by show ((ss.length:Int) - (i+1)).toNat<((ss.length:Int) - i).toNat; omega⟩
 ·rw [List.drop_of_length_le (by omega)] at e
  exact fin h7 _ f7 (by rw [e]; decide)
theorem mapTo_fr {d:D} {h h':Heap} {r:Nat} {m:MapC} (t:MapTo d h r m h'):Fr (fun x=>x=r) h h':=⟨by rw [t.size]; exact Nat.le_refl _,fun b _ hb=>t.same b hb⟩
theorem NewM.intro {d:D} {h:Heap} {k:Heap→Prop} (H:∀ h',Fr No h h'→h'.size=h.size+1→MapAt d h' h.size []→k h'):NewM h k :=
 H _ (fr_push _) (Array.size_push _) ⟨#[],0,get_push _,rfl,fun _ h=>absurd h (by simp),MapKept.stamped_empty _⟩
theorem does_spec {ss:List UInt8} {h:Heap} {K:Value→Heap→Prop} (hK:∀ h' v,Fr No h h'→K (.tuple #[v,.bool (ss == [46] || ss == [46,46])]) h'):C.path_does (mkStr ss) h K:=by
 refine path_does.ok ?_
 unfold path_does
 simp only [toList_mkStr]
 refine NewM.intro (d := .str) fun h2 f2 s2 m2=>⟨[],m2,fun h3 m3=>⟨_,m3.at_,fun h4 m4=>⟨_,m4.at_,_,rfl,?_⟩⟩⟩
 have f4:Fr No h h4:=(f2.trans (mapTo_fr m3) fun b hb e=>by omega).trans (mapTo_fr m4) fun b hb e=>by omega
 refine (show ∀ b v,b=(ss == [46] || ss == [46,46])→K (.tuple #[v,.bool b]) h4 from fun b v e=>by rw [e]; exact hK h4 v f4) _ _ ?_
 show (mget (bif MKey.same (.s [46,46]) (.s [46]) then _ else _) (.s ss)).isSome=_
 rw [show MKey.same (.s [46,46]) (.s [46])=false from by decide]
 show (bif ss == [46] then some _ else bif ss == [46,46] then some _ else none).isSome=_
 cases h1:ss == [46] <;> cases h2:ss == [46,46] <;> rfl
theorem Name_spec {ss:List UInt8} {h:Heap} {K:Value→Heap→Prop} (hK:∀ h',Fr No h h'→K (.bool (Sk.nameOk ss)) h'):C.path_Name (mkStr ss) h K:=by
 have hsz:(mkStr ss).size=ss.length:=rfl
 refine path_Name.ok (does_spec fun h2 v f2=>⟨_,_,rfl,?_⟩)
 rw [hsz]
 have no:Sk.nameOk ss=false→K (.bool false) h2:=fun e=>by rw [← e]; exact hK h2 f2
 have nn:∀ x,(Sk.nameOk ss=true→x)→(¬ x)→Sk.nameOk ss=false:=fun x hx hn=>by
  cases e:Sk.nameOk ss with
  | false=>rfl
  | true=>exact absurd (hx e) hn
 refine cd (fun h1=>cd (fun h3=>cnot ?_) fun h3=>?_) fun h1=>?_
 ·cases hd:(ss == [46] || ss == [46,46]) with
  | true =>
   refine no (nn (¬ ((ss == [46] || ss == [46,46])=true)) (fun e=>?_) (by rw [hd]; simp))
   have:=Sk.nameOk_iff.mp e
   rw [Bool.or_eq_true,beq_iff_eq,beq_iff_eq]
   rintro (x|x)
   ·exact this.dot x
   ·exact this.dots x
  | false =>
   rw [Bool.or_eq_false_iff,beq_eq_false_iff_ne,beq_eq_false_iff_ne] at hd
   refine ContainsAny_spec (by omega) fun h3' f3=>⟨_,rfl,?_⟩
   have e:(!ss.any isBad)=Sk.nameOk ss:=by
    unfold Sk.nameOk
    rw [decide_eq_true (by omega),decide_eq_true (by omega),show (ss != [46])=true from bne_iff_ne.mpr hd.1,show (ss != [46,46])=true from bne_iff_ne.mpr hd.2]
    rw [Bool.true_and,Bool.true_and,Bool.true_and,List.not_any_eq_all_not]
    congr 1
    funext b
    unfold isBad
    rw [Bool.not_or]; rfl
   rw [e]; exact hK h3' (f2.no f3)
 ·exact no (nn _ (fun e=>(Sk.nameOk_iff.mp e).le) (by omega))
 ·exact no (nn _ (fun e=>(Sk.nameOk_iff.mp e).pos) (by omega))
end Go.Proofs.YtiapingedfnlnaaGreatDoor.Ch
namespace Go.Proofs.YtiapingedfnlnaaGreatDoor.Ss
open Go Go.Proofs Wx Hp W Re Sk Ch
def E.v (e:E):List Value:=[.int .i64 e.place,.string (mkStr e.name),.int .i64 e.inode]
theorem E.len (e:E):(E.v e).length=3:=rfl
theorem E.one (e:E):∀ v ∈ E.v e,v.oneCell'=true:=by
 intro v hv
 simp only [E.v,List.mem_cons,List.not_mem_nil,or_false] at hv
 rcases hv with rfl|rfl|rfl <;> rfl
theorem cell_spec {a:Option Addr} {l c:Nat} {bs:List UInt8} {k:Int} {h:Heap} {K:Value→Heap→Prop} (B:StrAt h a l bs) (hl:l=512) (hlc:l≤c) (h0:0≤k) (h1:k<16)
  (hK:StrAt h (Option.map (Addr.add · (32*k.toNat)) a) 32 ((bs.drop (32*k.toNat)).take 32)→K (.slice (Option.map (Addr.add · (32*k.toNat)) a) 32 32) h):C.slots_cell a l c k h K:=by
 refine slots_cell.ok ?_
 unfold slots_cell
 rw [wrap_i64 (n:=32*k) (by omega) (by omega),wrap_i64 (n:=32*k+32) (by omega) (by omega)]
 refine ⟨⟨by omega,by omega,by omega,by omega⟩,?_⟩
 rw [if_neg (by omega),show (32*k+32).toNat - (32*k).toNat=32 by omega,show (32*k).toNat=32*k.toNat by omega]
 exact hK (StrAt.take (StrAt.drop B (32*k.toNat)) (by omega))
theorem read_spec {a:Option Addr} {bs:List UInt8} {h:Heap} {K:Value→Heap→Prop} (g:In.Glo h) (B:StrAt h a 32 bs)
  (hK:∀ h' x,Fr No h h'→one bs=some x→K (.tuple #[.int .i64 (x.1:Nat),.string (mkStr x.2),.bool true]) h') (hN:∀ h' n s,Fr No h h'→one bs=none→K (.tuple #[.int .i64 n,.string s,.bool false]) h'):C.slots_read a 32 32 h K:=by
 have hb:=B.1
 have e0:one bs=one bs:=rfl
 refine slots_read.ok (In.Get_w g B (by omega) (by omega) (by omega) (by omega) ⟨_,_,rfl,In.Get_w g B (by omega) (by omega) (by omega) (by omega) ⟨_,_,rfl,?_⟩⟩)
 rw [show (0:Int).toNat=0 from rfl,show (4:Int).toNat=4 from rfl,show (1:Int).toNat=1 from rfl,List.drop_zero]
 have h4:4<bs.length:=by omega
 have e1:leN ((bs.drop 4).take 1)=(bs.getD 4 0).toNat:=by
  rw [List.drop_eq_getElem_cons h4,List.getD_eq_getElem?_getD,List.getElem?_eq_getElem h4]
  show bs[4].toNat+256*0=bs[4].toNat
  omega
 rw [e1]
 have lt:leN (bs.take 4)<4294967296:=by
  have:=leN_lt (bs.take 4)
  rw [List.length_take,show min 4 bs.length=4 by omega] at this
  exact this
 conv at e0=>rhs; unfold one
 generalize leN (bs.take 4)=i at lt e0 ⊢
 have bt:=(bs.getD 4 0).toNat_lt
 generalize (bs.getD 4 0).toNat=n at bt e0 ⊢
 refine ce (fun hi=>?_) fun hi=>?_
 ·refine Zero_spec B (by omega) (by omega) (by omega) (by omega) (by omega) ⟨_,_,rfl,?_⟩
  rw [if_pos (by omega)] at e0
  rw [show (0:Int).toNat=0 from rfl,show (32:Int).toNat=32 from rfl,List.drop_zero,List.take_of_length_le (by omega)]
  cases hz:allZero bs with
  | true=>rw [hz] at e0; exact hK h _ (Fr.refl _ _) e0
  | false=>rw [hz] at e0; exact hN h _ _ (Fr.refl _ _) e0
 ·rw [if_neg (by omega)] at e0
  refine cd (fun hn=>hN h _ _ (Fr.refl _ _) (by rw [e0,if_pos (by omega)])) fun hn=>cd (fun hn2=>hN h _ _ (Fr.refl _ _) (by rw [e0,if_pos (by omega)])) fun hn2=>?_
  rw [if_neg (by omega)] at e0
  have wu:IntKind.wrap .u64 (5+(n:Int))=5+n:=by
   show (5+(n:Int)) % 18446744073709551616=_
   omega
  unfold slots_read.k1
  rw [wu,wrap_i64 (n:=(n:Int)) (by omega) (by omega),wrap_i64 (n:=5+(n:Int)) (by omega) (by omega),wrap_i64 (n:=27 - (n:Int)) (by omega) (by omega),wrap_i64 (n:=(i:Int)) (by omega) (by omega)]
  refine ⟨⟨by omega,by omega,by omega,by omega⟩,(bs.drop 5).take n,?_,?_⟩
  ·have:=StrAt.cut B (c:=32) (by omega) (i:=5) (j:=5+n) (by omega) (by omega)
   rw [show (5+(n:Int)).toNat=5+n by omega,show (5:Int).toNat=5 from rfl,if_neg (by omega)]
   rw [if_neg (by omega),show 5+n - 5=n by omega] at this
   rw [show 5+n - 5=n by omega]
   exact this
  ·refine Zero_spec B (by omega) (by omega) (by omega) (by omega) (by omega) ⟨_,_,rfl,?_⟩
   have ez:List.take (27 - (n:Int)).toNat (List.drop (5+(n:Int)).toNat bs)=bs.drop (5+n):=by
    rw [show (5+(n:Int)).toNat=5+n by omega,List.take_of_length_le (by rw [List.length_drop]; omega)]
   rw [ez]
   cases hz:allZero (bs.drop (5+n)) with
   | false =>
    rw [hz] at e0
    exact hN h _ _ (Fr.refl _ _) e0
   | true =>
    refine Name_spec fun h' f'=>⟨_,rfl,?_⟩
    rw [hz,Bool.true_and] at e0
    cases hn:nameOk ((bs.drop 5).take n) with
    | true=>rw [hn] at e0; exact hK h' _ f' e0
    | false=>rw [hn] at e0; exact hN h' _ _ f' e0
theorem Read_spec {a:Option Addr} {l c:Nat} {bs:List UInt8} {h:Heap} {K:Value→Heap→Prop} (g:In.Glo h) (B:StrAt h a l bs) (hlc:l≤c)
  (hK:∀ h' a' l' c',Fr No h h'→Sl h' 3 a' l' c' ((ans bs).1.flatMap E.v) (From h.size)→K (.tuple #[.slice a' l' c',.int .i64 (ans bs).2]) h'):C.slots_Read a l c h K:=by
 have hb:=B.1
 refine slots_Read.ok (cn (fun hl=>?_) fun hl=>?_)
 ·have e:ans bs=([],32):=by rw [ans,if_pos (by omega)]
  rw [e] at hK
  exact hK h none 0 0 (Fr.refl _ _) (Sl.nil _ _ _)
 have hl:l=512:=by omega
 have e:ans bs=match dec 16 bs with
  | none=>([],140)
  | some hs=>(ents 0 hs,0):=by
  rw [ans,if_neg (by omega)]
  cases dec 16 bs <;> rfl
 refine ⟨fun la ll lc n hh=>0≤n∧n≤16∧Fr No h hh∧∃ pre:List (Nat×Txt),pre.length=n.toNat∧dec 16 bs=(dec (16 - n.toNat) (bs.drop (32*n.toNat))).map (pre ++ ·)∧Sl hh 3 la ll lc ((ents 0 pre).flatMap E.v) (From h.size),fun _ _ _ n _=>(16 - n).toNat,
  ⟨by omega,by omega,Fr.refl _ _,[],rfl,by rw [show (0:Int).toNat=0 from rfl,Nat.mul_zero,List.drop_zero]; simp,Sl.nil _ _ _⟩,?_⟩
 rintro la ll lc n h2 ⟨n0,n1,f2,pre,pl,pd,ps⟩
 have hs2:=f2.size
 have pll:=ents_len pre 0
 have hll:ll=(ents 0 pre).length:=by
  have:=ps.1
  rw [flat_length E.v 3 _ (fun x _=>E.len x)] at this
  omega
 refine cd (fun hn=>?_) fun hn=>?_
 ·rw [dec_step (by omega)] at pd
  refine cell_spec (StrAt.fr f2 B fun _ _ x=>x) hl hlc n0 hn fun B2=>⟨_,_,_,rfl,?_⟩
  rw [wrap_i64 (n:=n+1) (by omega) (by omega)]
  refine read_spec (g.no f2) B2 (fun h4 x f4 ho=>⟨_,_,_,rfl,?_⟩) fun h4 m s f4 ho=>⟨_,_,_,rfl,?_⟩
  ·have f24:=f2.no f4
   rw [ho] at pd
   have pd':dec 16 bs=(dec (16 - (n+1).toNat) (bs.drop (32*(n+1).toNat))).map ((pre++[x]) ++ ·):=by
    rw [pd,show (n+1).toNat=n.toNat+1 by omega]
    cases dec (16 - (n.toNat+1)) (bs.drop (32*(n.toNat+1))) with
    | none=>rfl
    | some r=>simp
   have ee:ents 0 (pre++[x])=ents 0 pre++(if x.1=0 then [] else [⟨n,x.2,x.1⟩]):=by
    rw [ents_append,pl,ents,ents,show ((0+n.toNat:Nat):Int)=n by omega]
   have ps4:=ps.fr f4 fun _ _ _ x=>x
   refine cf rfl (cn (fun hx=>⟨rfl,New.intro fun h5 n5=>⟨E.v ⟨n,x.2,x.1⟩,rfl,cellsAll n5.rd,E.one _,?_⟩⟩) fun hx=>⟨⟨by omega,by omega,f24,pre++[x],by rw [List.length_append,pl,List.length_singleton]; omega,pd',?_⟩,by show (16 - (n+1)).toNat<(16 - n).toNat; omega⟩)
   ·have hx0:x.1≠0:=fun e=>hx (by rw [e]; rfl)
    rw [if_neg hx0] at ee
    have f25:=f24.new n5
    have hs5:=f25.size
    have hbytes:(ti113).bytes=32:=rfl
    refine append_own (elem:=ti113) (ps4.fr n5.fr fun _ _ _ x=>x) rfl rfl (by rw [hbytes]; omega) (by omega) fun a' c' h6 f6 s6=>⟨⟨by omega,by omega,?_,pre++[x],by rw [List.length_append,pl,List.length_singleton]; omega,pd',?_⟩,by show (16 - (n+1)).toNat<(16 - n).toNat; omega⟩
    ·exact f25.trans f6 fun b hb hF=>by have:h.size≤b:=hF; omega
    ·rw [ee,List.flatMap_append]
     refine Sl.mono (s6:Sl h6 3 a' (ll+1) c' _ _) fun b hF=>?_
     rcases hF with hF|hF
     ·exact hF
     ·show h.size≤b; omega
   ·have hx0:x.1=0:=by omega
    rw [if_pos hx0,List.append_nil] at ee
    rw [ee]; exact ps4
  ·rw [ho] at pd
   have e2:ans bs=([],140):=by rw [e,pd]; rfl
   rw [e2] at hK
   exact ct rfl (hK h4 none 0 0 (f2.no f4) (Sl.nil _ _ _))
 ·have en:n.toNat=16:=by omega
  rw [en] at pd
  have e2:ans bs=(ents 0 pre,0):=by
   have z:dec (16 - 16) (bs.drop (32*16))=some []:=by rw [Nat.sub_self]; rfl
   rw [e,pd,z,Option.map_some,List.append_nil]
  rw [e2] at hK
  exact hK h2 la ll lc f2 ps
theorem isPlace_spec {k:Int} {h:Heap} {K:Value→Heap→Prop} (hK:K (.bool (decide (0≤k) && decide (k<16))) h):C.slots_isPlace k h K:=by
 refine slots_isPlace.ok (cd (fun x=>?_) fun x=>?_)
 ·rw [decide_eq_true (by omega)] at hK; exact hK
 ·rw [decide_eq_false (by omega)] at hK; exact hK
theorem low_split : ∀ (hs pre:List (Nat×Txt)),(∀ x ∈ pre,x.1≠0)→(ents 0 (pre++hs)).length=pre.length+(ents pre.length hs).length∧low 0 (pre++hs)=low pre.length hs∧(ents 0 (pre++hs)).drop pre.length=ents pre.length hs:=by
 have full:∀ (pre:List (Nat×Txt)) (k:Nat),(∀ x ∈ pre,x.1≠0)→(ents k pre).length=pre.length:=by
  intro pre
  induction pre with
  | nil=>intro k _; rfl
  | cons x r ih =>
   intro k h
   rw [ents,if_neg (h x (List.mem_cons_self ..)),List.length_cons,List.length_cons,ih _ fun y hy=>h y (List.mem_cons_of_mem _ hy)]
 have lowp:∀ (pre hs:List (Nat×Txt)) (k:Nat),(∀ x ∈ pre,x.1≠0)→low k (pre++hs)=low (k+pre.length) hs:=by
  intro pre
  induction pre with
  | nil=>intro hs k _; rfl
  | cons x r ih =>
   intro hs k h
   rw [List.cons_append,low,if_neg (h x (List.mem_cons_self ..)),ih _ _ fun y hy=>h y (List.mem_cons_of_mem _ hy),List.length_cons]
   congr 1; omega
 intro hs pre h
 rw [ents_append,List.length_append,full pre 0 h,Nat.zero_add]
 refine ⟨rfl,?_,?_⟩
 ·rw [lowp pre hs 0 h,Nat.zero_add]
 ·have:=full pre 0 h
  rw [← this,List.drop_left]
theorem Lowest_spec {a:Option Addr} {l c:Nat} {bs:List UInt8} {h:Heap} {K:Value→Heap→Prop} (g:In.Glo h) (B:StrAt h a l bs) (hlc:l≤c)
  (hK:∀ h',Fr No h h'→K (.tuple #[.int .i64 (lowA bs).1,.int .i64 (lowA bs).2]) h'):C.slots_Lowest a l c h K:=by
 have hb:=B.1
 refine slots_Lowest.ok (Read_spec g B hlc fun h2 a' l' c' f2 s2=>⟨_,_,_,_,rfl,?_⟩)
 have out:∀ x y,ans bs=([],y)→lowA bs=(0,y)→x=(ans bs).2→K (.tuple #[.int .i64 0,.int .i64 x]) h2:=by
  intro x y e1 e2 e3
  have:=hK h2 f2
  rw [e2] at this
  rw [e3,e1]; exact this
 by_cases hl:bs.length≠512
 ·have e1:ans bs=([],32):=by rw [ans,if_pos hl]
  have e2:lowA bs=(0,32):=by rw [lowA,if_pos hl]
  exact ct (by rw [e1]; rfl) (out _ _ e1 e2 rfl)
 cases hd:dec 16 bs with
 | none =>
  have e1:ans bs=([],140):=by rw [ans,if_neg hl,hd]
  have e2:lowA bs=(0,140):=by rw [lowA,if_neg hl,hd]
  exact ct (by rw [e1]; rfl) (out _ _ e1 e2 rfl)
 | some hs =>
  have e1:ans bs=(ents 0 hs,0):=by rw [ans,if_neg hl,hd]
  have e2:lowA bs=(low 0 hs,0):=by rw [lowA,if_neg hl,hd]
  obtain ⟨hsl,_,_⟩:=blk_dec (by omega) hd
  rw [e1] at s2 ⊢
  rw [e2] at hK
  have hll:l'=(ents 0 hs).length:=by
   have:((ents 0 hs).flatMap E.v).length=l'*3:=s2.1
   rw [flat_length E.v 3 _ (fun x _=>E.len x)] at this
   omega
  refine cf rfl ⟨fun n hh=>0≤n∧n≤16∧h2=hh∧∃ pre rest:List (Nat×Txt),hs=pre++rest∧pre.length=n.toNat∧∀ x ∈ pre,x.1≠0,fun n _=>(16 - n).toNat,⟨by omega,by omega,rfl,[],hs,rfl,rfl,fun x hx=>absurd hx (by simp)⟩,?_⟩
  rintro n _ ⟨n0,n1,rfl,pre,rest,rfl,pl,pz⟩
  obtain ⟨q1,q2,q3⟩:=low_split rest pre pz
  rw [List.length_append] at hsl
  refine cd (fun hn=>?_) fun hn=>?_
  ·cases rest with
   | nil=>rw [List.length_nil] at hsl; omega
   | cons x r =>
    have eres:x.1=0→low 0 (pre++x::r)=n:=fun hx=>by rw [q2,low,if_pos hx]; omega
    refine ce (fun hx=>?_) fun hx=>?_
    ·have:x.1=0:=by
      rcases Nat.eq_zero_or_pos x.1 with h|h
      ·exact h
      ·rw [ents,if_neg (by omega),List.length_cons] at q1; omega
     rw [eres this] at hK; exact hK h2 f2
    ·have hlen:n.toNat<(ents 0 (pre++x::r)).length:=by omega
     have hd0:(ents 0 (pre++x::r)).drop n.toNat=ents n.toNat (x::r):=by rw [← pl]; exact q3
     have hel:ents n.toNat (x::r)=(ents 0 (pre++x::r))[n.toNat]::(ents 0 (pre++x::r)).drop (n.toNat+1):=by rw [← hd0,List.drop_eq_getElem_cons hlen]
     generalize hee:(ents 0 (pre++x::r))[n.toNat]=ee at hel
     obtain ⟨p,rfl,cc⟩:=s2.get (by omega)
     refine ⟨⟨n0,by omega⟩,os ⟨ee.place,?_,?_⟩⟩
     ·have c2:=Cells.part cc (n.toNat*3) 3
      rw [flat_part E.v 3 _ (fun x _=>E.len x) n.toNat hlen,hee] at c2
      exact c2 0 _ rfl
     ·rw [ents] at hel
      refine cn (fun hp=>?_) fun hp=>?_
      ·have hx0:x.1=0:=by
        rcases Nat.eq_zero_or_pos x.1 with h|h
        ·exact h
        ·rw [if_neg (by omega)] at hel
         have:=(List.cons.inj hel).1
         rw [← this] at hp
         exact absurd (show ((n.toNat:Nat):Int)=n by omega) hp
       rw [eres hx0] at hK; exact hK h2 f2
      ·have hx0:x.1≠0:=by
        intro h0
        rw [if_pos h0] at hel
        have:=(ents_range r (n.toNat+1) ee (by rw [hel]; exact List.mem_cons_self ..)).1
        omega
       rw [wrap_i64 (by omega) (by omega)]
       refine ⟨⟨by omega,by omega,rfl,pre++[x],r,by rw [List.append_assoc]; rfl,by rw [List.length_append,pl,List.length_singleton]; omega,fun y hy=>?_⟩,by show (16 - (n+1)).toNat<(16 - n).toNat; omega⟩
       rcases List.mem_append.mp hy with hy|hy
       ·exact pz y hy
       ·rw [List.mem_singleton.mp hy]; exact hx0
  ·have:rest=[]:=List.length_eq_zero_iff.mp (by omega)
   subst this
   rw [q2] at hK
   exact hK h2 f2
end Go.Proofs.YtiapingedfnlnaaGreatDoor.Ss
namespace Go.Proofs.YtiapingedfnlnaaGreatDoor.Ss
open Go Go.Proofs Wx Hp W Re Sk Ch
theorem put_self {h:Heap} {b o l c:Nat} {xs:List Value} {F:Nat→Prop} (s:Sl h 1 (some ⟨b,o,none⟩) l c xs F):put (rd h b) o xs=rd h b:=by
 obtain ⟨w1,w2⟩:=s.wr
 obtain ⟨h1,a1,a2,a3,a4,a5,a6⟩:=s
 simp only at a5 a6
 have e:=put_eq xs (rd h b) o (by omega)
 rw [e]
 conv=>rhs; rw [← List.take_append_drop o (rd h b),← List.take_append_drop xs.length ((rd h b).drop o),a5,List.drop_drop]
 rw [List.append_assoc]
theorem put_sub {h:Heap} {b o l c j:Nat} {bs ys:List UInt8} {F:Nat→Prop} (s:Sl h 1 (some ⟨b,o,none⟩) l c (bs.map bv) F) (hj:j+ys.length≤bs.length) :
  put (rd h b) (o+j) (ys.map bv)=put (rd h b) o ((putU bs j ys).map bv):=by
 obtain ⟨w1,w2⟩:=s.wr
 have hl:=s.1
 rw [List.length_map] at hl
 have e0:=put_self s
 have lp:=putU_length hj
 apply List.ext_getElem?
 intro i
 rw [put_get _ _ _ _ (by rw [List.length_map]; omega),put_get _ _ _ _ (by rw [List.length_map]; omega),List.length_map,List.length_map,lp,← putU_put hj]
 by_cases hi:o≤i∧i<o+bs.length
 ·rw [if_pos hi,put_get _ _ _ _ (by rw [List.length_map,List.length_map]; exact hj),List.length_map]
  by_cases h2:o+j≤i∧i<o+j+ys.length
  ·rw [if_pos h2,if_pos (by omega)]
   congr 1; omega
  ·rw [if_neg h2,if_neg (by omega)]
   have:=congrArg (·[i]?) e0
   simp only [put_get _ _ _ _ (show o+(bs.map bv).length≤(rd h b).length by rw [List.length_map]; omega),List.length_map,if_pos hi] at this
   exact this.symm
 ·rw [if_neg hi,if_neg (by omega)]
theorem Sl.all {h h':Heap} {b o l c:Nat} {bs bs':List UInt8} {F:Nat→Prop} (s:Sl h 1 (some ⟨b,o,none⟩) l c (bs.map bv) F) (hl:bs'.length=bs.length) (d:Wrote b h h' (put (rd h b) o (bs'.map bv))) :
  Sl h' 1 (some ⟨b,o,none⟩) l c (bs'.map bv) F:=by
 have e:=s.1
 rw [List.length_map] at e
 have:=Sl.wrote (j:=0) (new:=bs'.map bv) s (by rw [List.length_map]; omega) d
 rw [put_all _ _ (by rw [List.length_map,List.length_map,hl])] at this
 exact this
theorem wrote_id {h h':Heap} {b o l c:Nat} {bs:List UInt8} {F:Nat→Prop} (s:Sl h 1 (some ⟨b,o,none⟩) l c (bs.map bv) F) (f:Fr No h h'):Wrote b h h' (put (rd h b) o (bs.map bv)) :=
 ⟨f.mono fun _ _ x=>x.elim,f.own s.wr.1.lt (fun x=>x) s.wr.1,by rw [put_self s]; exact f.rd s.wr.1.lt fun x=>x⟩
theorem Put_spec {b o l c:Nat} {bs:List UInt8} {e:E} {F:Nat→Prop} {h:Heap} {K:Value→Heap→Prop} (g:In.Glo h) (hb1:1≤b) (s:Sl h 1 (some ⟨b,o,none⟩) l c (bs.map bv) F)
  (hK:∀ h',Wrote b h h' (put (rd h b) o ((putA bs e).2.map bv))→K (.int .i64 (putA bs e).1) h'):C.slots_Put (some ⟨b,o,none⟩) l c (E.v e) h K:=by
 have hbl:=s.1
 rw [List.length_map,Nat.mul_one] at hbl
 obtain ⟨w,wl⟩:=s.wr
 have hbs:=w.lt
 refine slots_Put.ok (New.intro fun h2 n2=>?_)
 have r2:=n2.rd
 have o2:=n2.own
 have f2:=n2.fr
 have hs2:=n2.size
 have no:∀ h' m,Fr No h h'→putA bs e=(m,bs)→K (.int .i64 m) h':=by
  intro h' m f ee
  have:=hK h'
  rw [ee] at this
  exact this (wrote_id s f)
 refine cn (fun hl=>no h2 32 f2 (by rw [putA,if_pos (by omega)])) fun hl=>?_
 have bad:∀ h',Fr No h h'→putOk e=false→K (.int .i64 140) h':=fun h' f ee=>no h' 140 f (by rw [putA,if_neg (by omega),ee]; rfl)
 refine ⟨e.place,rdc r2 rfl,isPlace_spec ⟨_,rfl,cnot ?_⟩⟩
 cases hp:(decide (0≤e.place) && decide (e.place<16)) with
 | false=>exact bad h2 f2 (by rw [putOk,hp]; rfl)
 | true =>
  refine ct rfl ⟨e.inode,rdc r2 rfl,cd (fun x=>bad h2 f2 (by rw [putOk,hp,decide_eq_false (by omega)]; rfl)) fun x1=>⟨e.inode,rdc r2 rfl,cd (fun x=>bad h2 f2 (by rw [putOk,hp,decide_eq_true (by omega),decide_eq_false (by omega)]; rfl)) fun x2=>⟨mkStr e.name,rdc r2 rfl,Name_spec fun h4 f4=>⟨_,rfl,cnot ?_⟩⟩⟩⟩
  have f24:=f2.no f4
  cases hn:nameOk e.name with
  | false=>exact bad h4 f24 (by rw [putOk,hn,Bool.and_false])
  | true =>
   have ok:putOk e=true:=by rw [putOk,hp,decide_eq_true (by omega),decide_eq_true (by omega),hn]; rfl
   obtain ⟨p0,p1,i0,i1,_,gd⟩:=putOk_good ok
   have nm:=nameOk_iff.mp hn
   have npos:=nm.pos
   have nle:=nm.le
   have fl:(form e.inode.toNat e.name).length=32:=form_length gd
   have ea:putA bs e=(0,putU bs (32*e.place.toNat) (form e.inode.toNat e.name)):=by rw [putA,if_neg (by omega),if_pos ok]
   rw [ea] at hK
   have r4:rd h4 h.size=E.v e:=(f4.rd o2.lt fun x=>x).trans r2
   have s4:=s.fr f24 fun _ _ _ x=>x
   refine ct rfl ⟨e.place,rdc r4 rfl,cell_spec s4.str (by omega) s4.le p0 p1 fun _=>⟨_,_,_,rfl,e.inode,rdc r4 rfl,?_⟩⟩
   rw [Option.map_some,add_mk]
   have wu:∀ n:Int,0≤n→n≤4294967295→IntKind.wrap .u64 n=((n.toNat:Nat):Int):=fun n a b=>by
    show n % 18446744073709551616=_
    omega
   rw [wu _ (by omega) i1]
   obtain ⟨w4,wl4⟩:=s4.wr
   have x4:rd h4 b=rd h b:=f24.rd hbs fun x=>x
   refine Put_did (g.no f24) w4 (by omega) (by omega) (by omega) (by omega) (by omega) (by show e.inode.toNat<256 ^ 4; omega) fun h7 d7=>⟨_,rfl,?_⟩
   have hne:h.size≠b:=by omega
   have lt4:h.size<h4.size:=by have:=f4.size; omega
   have r7:rd h7 h.size=E.v e:=(d7.fr.rd lt4 hne).trans r4
   have g7:In.Glo h7:=(g.no f24).fr d7.fr fun x hx=>by omega
   have l7:(rd h7 b).length=(rd h b).length:=by rw [d7.rd,put_length,x4]
   refine ⟨mkStr e.name,rdc r7 rfl,?_⟩
   have hsz:(mkStr e.name).size=e.name.length:=rfl
   rw [hsz,wu _ (by omega) (by omega),Int.toNat_natCast]
   refine Put_did g7 d7.own (by omega) (by omega) (by omega) (by omega) (by omega) (by show e.name.length<256 ^ 1; omega) fun h8 d8=>⟨_,rfl,?_⟩
   have lt7:h.size<h7.size:=by have:=d7.fr.size; omega
   have r8:rd h8 h.size=E.v e:=(d8.fr.rd lt7 hne).trans r7
   have l8:(rd h8 b).length=(rd h b).length:=by rw [d8.rd,put_length,l7]
   refine ⟨mkStr e.name,rdc r8 rfl,PutText_did d8.own (by omega) (by omega) (by omega) (by omega) (by omega) (by omega) (by omega) (fun x hx=>(nm.all x hx).2) fun h9 d9=>⟨_,rfl,?_⟩⟩
   refine hK h9 ⟨?_,d9.own,?_⟩
   ·exact (((f24.mono fun _ _ x=>x.elim).trans d7.fr fun _ _ x=>x).trans d8.fr fun _ _ x=>x).trans d9.fr fun _ _ x=>x
   ·rw [d9.rd,d8.rd,d7.rd,x4,← put_sub s (by omega)]
    have l4:=leB_length 4 e.inode.toNat
    have ef:form e.inode.toNat e.name=leBs 4 e.inode.toNat++(leBs 1 e.name.length++(e.name++List.replicate (27 - e.name.length) 0)):=by
     rw [form,if_neg (by omega)]
     congr 1
     rw [show leBs 1 e.name.length=[UInt8.ofNat e.name.length] by rw [leB_succ]; rfl]
     rfl
    have em:(form e.inode.toNat e.name).map bv=(leBs 4 e.inode.toNat).map bv++((leBs 1 e.name.length).map bv++(e.name++List.replicate (27 - e.name.length) 0).map bv):=by
     rw [ef,List.map_append,List.map_append]
    rw [em]
    have key:∀ (X A B C:List Value) (o:Nat),A.length=4→B.length=1→put (put (put X (o+0) A) (o+4) B) (o+5) C=put X o (A++(B++C)):=by
     intro X A B C o h1 h2
     rw [put_app,put_app,h1,h2]
     rfl
    exact key _ _ _ _ _ (by rw [List.length_map]; exact l4) (by rw [List.length_map]; exact leB_length 1 _)
theorem ClearP_did {b o l:Nat} {h:Heap} {K:Heap→Prop} (w:Own h b) (hw:o+l≤(rd h b).length) (hK:∀ h',Wrote b h h' (put (rd h b) o ((List.replicate l (0:UInt8)).map bv))→K h'):ClearP ti5 (some ⟨b,o,none⟩) l h K:=by
 have erep:∀ m,repCells [Value.int .u8 0] m=(List.replicate m (0:UInt8)).map bv:=fun m=>by
  induction m with
  | zero=>rfl
  | succ m ih=>rw [List.replicate_succ,List.map_cons,← ih]; rfl
 refine ⟨trivial,?_,?_⟩
 ·rw [show (ti5).cells=1 from rfl,Nat.mul_one]
  simp only [WrS,Addr.add_zero]
  exact wrN_rd w (by omega)
 ·show K (setS h _ 0 (repCells [Value.int .u8 0] l))
  rw [erep]
  simp only [setS,Addr.add_zero]
  refine hK _ ⟨Fr.setRow (F:=fun x=>x=b) (Or.inl rfl) (Fr.refl _ _),own_setRow w,?_⟩
  rw [rd_setRow_at,Nat.add_zero]
theorem Clear_spec {b o l c:Nat} {bs:List UInt8} {k:Int} {F:Nat→Prop} {h:Heap} {K:Value→Heap→Prop} (s:Sl h 1 (some ⟨b,o,none⟩) l c (bs.map bv) F)
  (hK:∀ h',Wrote b h h' (put (rd h b) o ((clrA bs k).2.map bv))→K (.int .i64 (clrA bs k).1) h'):C.slots_Clear (some ⟨b,o,none⟩) l c k h K:=by
 have hbl:=s.1
 rw [List.length_map,Nat.mul_one] at hbl
 obtain ⟨w,wl⟩:=s.wr
 have no:∀ m,clrA bs k=(m,bs)→K (.int .i64 m) h:=by
  intro m ee
  have:=hK h
  rw [ee] at this
  exact this (wrote_id s (Fr.refl _ _))
 refine slots_Clear.ok (cn (fun hl=>no 32 (by rw [clrA,if_pos (by omega)])) fun hl=>isPlace_spec ⟨_,rfl,cnot ?_⟩)
 cases hp:(decide (0≤k) && decide (k<16)) with
 | false =>
  have:¬ (0≤k∧k<16):=by
   rintro ⟨a,b⟩
   rw [decide_eq_true a,decide_eq_true b] at hp; cases hp
  exact no 140 (by rw [clrA,if_neg (by omega),if_neg this])
 | true =>
  rw [Bool.and_eq_true,decide_eq_true_eq,decide_eq_true_eq] at hp
  have ea:clrA bs k=(0,putU bs (32*k.toNat) (List.replicate 32 0)):=by rw [clrA,if_neg (by omega),if_pos hp]
  rw [ea] at hK
  refine ct rfl (cell_spec s.str (by omega) s.le hp.1 hp.2 fun _=>⟨_,_,_,rfl,?_⟩)
  rw [Option.map_some,add_mk]
  refine ClearP_did w (by omega) fun h4 d4=>hK h4 ⟨d4.fr,d4.own,?_⟩
  rw [d4.rd,put_sub s (by rw [List.length_replicate]; omega)]
theorem E.eq {x y:E}:pairsOk [(.int .i64),.str,(.int .i64)] (E.v x) (E.v y)=true∧cellsEq (E.v x) (E.v y)=decide (x=y):=by
 refine ⟨rfl,?_⟩
 obtain ⟨p,s,i⟩:=x
 obtain ⟨q,t,j⟩:=y
 show ((p == q) && (((mkStr s).toList == (mkStr t).toList) && ((i == j) && true)))=_
 rw [toList_mkStr,toList_mkStr,Bool.and_true,Bool.eq_iff_iff,Bool.and_eq_true,Bool.and_eq_true,beq_iff_eq,beq_iff_eq,beq_iff_eq,decide_eq_true_eq,E.mk.injEq]
end Go.Proofs.YtiapingedfnlnaaGreatDoor.Ss
namespace Go.Proofs.YtiapingedfnlnaaGreatDoor.Di
open Go Go.Proofs Wx Hp W Ad Tm Spc Re Av Rg Ss
open Hd (ints)
open In (Glo ints_length ints_one)
open Ino (getM Cok getM_length)
open Bm (findM)
open Fi (blockM hv_yield getM_may)
open Sk (E)
def rdV (t:Option Addr) (g:G) (n:Int) (R:List Int) (e:Int):List Value := .pointer t::(g.v++(.int .i64 n::(ints R++[.int .i64 e])))
theorem R15 {R:List Int} (h:R.length=15):∃ a b c d e f g i j k l m n o p,R=[a,b,c,d,e,f,g,i,j,k,l,m,n,o,p]:=by
 match R,h with
 | [a,b,c,d,e,f,g,i,j,k,l,m,n,o,p],_=>exact ⟨a,b,c,d,e,f,g,i,j,k,l,m,n,o,p,rfl⟩
section
variable {t : Option Addr} {g : G} {n e e' : Int} {R : List Int} {rest : List Value}
theorem rdV_len (hR:R.length=15):(rdV t g n R e).length=23:=by
 obtain ⟨_,_,_,_,_,_,_,_,_,_,_,_,_,_,_,rfl⟩:=R15 hR; rfl
theorem rdV_e (hR:R.length=15):(rdV t g n R e++rest)[22]?=some (.int .i64 e):=by
 obtain ⟨_,_,_,_,_,_,_,_,_,_,_,_,_,_,_,rfl⟩:=R15 hR; rfl
theorem rdV_g : ((rdV t g n R e++rest).drop 1).take 5=g.v:=rfl
theorem rdV_R (hR:R.length=15):((rdV t g n R e++rest).drop 7).take 15=ints R:=by
 obtain ⟨_,_,_,_,_,_,_,_,_,_,_,_,_,_,_,rfl⟩:=R15 hR; rfl
theorem rdV_0 (hR:R.length=15):(rdV t g n R e++rest)[7]?=some (.int .i64 (R.getD 0 0)):=by
 obtain ⟨_,_,_,_,_,_,_,_,_,_,_,_,_,_,_,rfl⟩:=R15 hR; rfl
theorem rdV_2 (hR:R.length=15):(rdV t g n R e++rest)[9]?=some (.int .i64 (R.getD 2 0)):=by
 obtain ⟨_,_,_,_,_,_,_,_,_,_,_,_,_,_,_,rfl⟩:=R15 hR; rfl
theorem rdV_set (hR:R.length=15):(rdV t g n R e++rest).set 22 (.int .i64 e')=rdV t g n R e'++rest:=by
 obtain ⟨_,_,_,_,_,_,_,_,_,_,_,_,_,_,_,rfl⟩:=R15 hR; rfl
theorem rdV_put {R':List Int} (hR:R.length=15) (hR':R'.length=15):put (rdV t g n R e++rest) 7 (ints R')=rdV t g n R' e++rest:=by
 rw [put_eq _ _ _ (by rw [ints_length,List.length_append,rdV_len hR]; omega),ints_length,hR']
 obtain ⟨_,_,_,_,_,_,_,_,_,_,_,_,_,_,_,rfl⟩:=R15 hR
 unfold rdV
 simp [G.v,ints]
theorem rdV_one : ∀ v ∈ rdV t g n R e,v.oneCell'=true:=by
 intro v hv
 unfold rdV at hv
 rcases List.mem_cons.mp hv with rfl|hv
 ·rfl
 ·rcases List.mem_append.mp hv with h|h
  ·exact G.one g v h
  ·rcases List.mem_cons.mp h with rfl|h
   ·rfl
   ·rcases List.mem_append.mp h with h|h
    ·exact ints_one R v h
    ·rw [List.mem_singleton.mp h]; rfl
end
theorem rdaa {h:Heap} {b o m n:Nat} {xs:List Value} {v:Value} (e:rd h b=xs) (hv:xs[o+m+n]?=some v):cellOf h (Addr.add (Addr.add ⟨b,o,none⟩ m) n)=some v:=by rw [add_mk]; exact rda e hv
theorem open_spec {h:Heap} {F:Nat→Prop} {t d:Option Addr} {T:TM} {g:G} {n:Int} {K:Value→Heap→Prop} (gl:In.Glo h) (x:Tx h F t d T) (ok:Cok g)
  (hK:∀ h',Fr No h h'→K (.agg ⟨rdV t g n (openM T g n).1 (openM T g n).2⟩) h'):C.dir_open t g.v n h K:=by
 have lR:=getM_length T g n
 refine dir_open.ok (New.intro fun h2 n2=>New.intro fun h3 n3=>⟨g.v,rfl,cellsAll ((n3.at_ n2.own.lt).trans n2.rd),rfl,NewRow.intro (z:=z144) rfl ?_ rfl fun h5 n5=>?_⟩)
 ·intro v hv
  have hz:∀ v ∈ z123,v.oneCell'=true:=by decide
  rcases List.mem_append.mp hv with h|h
  ·rw [List.mem_singleton.mp h]; rfl
  ·rcases List.mem_append.mp h with h|h
   ·exact G.one g v h
   ·rcases List.mem_append.mp h with h|h
    ·rw [List.mem_singleton.mp h]; rfl
    ·rcases List.mem_append.mp h with h|h
     ·exact hz v h
     ·rw [List.mem_singleton.mp h]; rfl
 have z2:=n2.size
 have z3:=n3.size
 have z5:=n5.size
 have F5:Fr No h h5:=(n2.fr.new n3).new n5
 have r5:rd h5 h3.size=rdV t g n (List.replicate 15 0) 0:=n5.rd
 refine ⟨g.v,rfl,cellsAll ((n5.at_ (by omega)).trans ((n3.at_ n2.own.lt).trans n2.rd)),Ino.Get_spec (gl.no F5) (x.no F5) ok fun h6 f6=>⟨_,_,rfl,?_⟩⟩
 have z6:=f6.size
 have r6:rd h6 h3.size=rdV t g n (List.replicate 15 0) 0:=(f6.rd (by omega) fun y=>y).trans r5
 have o6:Own h6 h3.size:=f6.own (by omega) (fun y=>y) n5.own
 refine PutRow.add o6 (by rw [ints_length,lR]) (ints_one _) (by rw [r6,rdV_len List.length_replicate]; decide) fun h7 d7=>Put.add d7.own (by rw [d7.rd,put_length,r6,rdV_len List.length_replicate]; decide) fun h8 d8=>?_
 have r8:rd h8 h3.size=rdV t g n (getM T g n).1 (getM T g n).2:=by
  have e1:rd h6 h3.size=rdV t g n (List.replicate 15 0) 0++[]:=by rw [r6,List.append_nil]
  rw [d8.rd,d7.rd,e1,show 0+7=7 from rfl,show 0+22=22 from rfl,rdV_put List.length_replicate lR,rdV_set lR,List.append_nil]
 have r8':rd h8 h3.size=rdV t g n (getM T g n).1 (getM T g n).2++[]:=by rw [List.append_nil]; exact r8
 have z7:=d7.size
 have z8:=d8.size
 have F8:Fr No h h8:=((F5.no f6).did d7 fun hl=>by omega).did d8 fun hl=>by omega
 have q8:rd h8 h2.size=z144:=(d8.at_ (by omega) (by omega)).trans ((d7.at_ (by omega) (by omega)).trans ((f6.rd (by omega) fun y=>y).trans ((n5.at_ (by omega)).trans n3.rd)))
 have p8:Own h8 h2.size:=d8.ow (d7.ow (f6.own (by omega) (fun y=>y) (n5.ow n3.own)))
 -- the answer
 have out:∀ (hh:Heap) (e:Int),Fr No h hh→rd hh h3.size=rdV t g n (getM T g n).1 e→rd hh h2.size=z144→Own hh h2.size→openM T g n=((getM T g n).1,e) →
   ∃ cs:List Value,List.length cs=23∧Cells hh ⟨h3.size,0,none⟩ cs∧PutRow ⟨h2.size,0,none⟩ cs 23 hh fun h9=>∃ res:List Value,List.length res=23∧Cells h9 ⟨h2.size,0,none⟩ res∧K (.agg ⟨res⟩) h9:=fun hh e f r q p ho=>by
  rw [ho] at hK
  refine ⟨_,rdV_len lR,cellsAll r,PutRow.intro p (rdV_len lR) rdV_one (by rw [q]; decide) fun h9 d9=>⟨_,rdV_len lR,cellsAll ?_,hK h9 (f.did d9 fun hl=>by omega)⟩⟩
  rw [d9.rd]; exact put_all _ _ (by rw [rdV_len lR,q]; rfl)
 refine ⟨_,rda r8' (rdV_e lR),cn (fun he=>out h8 _ F8 r8 q8 p8 (by unfold openM; rw [if_pos he])) fun he=>⟨_,rdaa r8' (rdV_0 lR),ce (fun h0=>?_) fun h0=>⟨_,rdaa r8' (rdV_0 lR),cn (fun h2'=>?_) fun h2'=>?_⟩⟩⟩
 ·refine Put.add d8.own (by rw [r8,rdV_len lR]; decide) fun h10 d10=>out h10 110 (F8.did d10 fun hl=>by omega) ?_ ((d10.at_ (by omega) (by omega)).trans q8) (d10.ow p8) (by unfold openM; rw [if_neg (fun y=>y he),if_pos h0])
  rw [d10.rd,r8']
  exact (rdV_set lR).trans (List.append_nil _)
 ·refine Put.add d8.own (by rw [r8,rdV_len lR]; decide) fun h10 d10=>out h10 161 (F8.did d10 fun hl=>by omega) ?_ ((d10.at_ (by omega) (by omega)).trans q8) (d10.ow p8) (by unfold openM; rw [if_neg (fun y=>y he),if_neg h0,if_pos h2'])
  rw [d10.rd,r8']
  exact (rdV_set lR).trans (List.append_nil _)
 ·exact out h8 _ F8 r8 q8 p8 (by unfold openM; rw [if_neg (fun y=>y he),if_neg h0,if_neg (fun y=>y h2')])
theorem failed_spec {h:Heap} {rb:Nat} {t:Option Addr} {g:G} {n e e':Int} {R:List Int} {rest:List Value} {K:Value→Heap→Prop} (hR:R.length=15) (w:Own h rb) (r:rd h rb=rdV t g n R e++rest)
  (hK:∀ h',Did rb h h' (rdV t g n R e'++rest)→K (.bool (e' != 0)) h'):C.dir_reader_failed (some ⟨rb,0,none⟩) e' h K:=by
 refine dir_reader_failed.ok (os (Put.add w (by rw [r,List.length_append,rdV_len hR]; omega) fun h2 d2=>hK h2 ?_))
 rw [r,show 0+22=22 from rfl,rdV_set hR] at d2
 exact d2
structure It (hh:Heap) (F:Nat→Prop) (t d:Option Addr) (T:TM) (g:G) (n:Int) (R:List Int) (e:Int) (rest:List Value) (cb rb:Nat):Prop where
 gl:In.Glo hh
 x:Tx hh F t d T
 cap:rd hh cb=[.pointer (some ⟨rb,0,none⟩)]
 ob:Own hh rb
 r:rd hh rb=rdV t g n R e++rest
 nf:¬ F rb
 b1:1≤rb
 ne:cb≠rb
section
variable {hh h' : Heap} {F : Nat → Prop} {t d : Option Addr} {T : TM} {g : G} {n e e' : Int} {R : List Int} {rest : List Value} {cb rb : Nat}
theorem It.clt (i:It hh F t d T g n R e rest cb rb):cb<hh.size:=rd_lt (o:=0) (by rw [i.cap]; rfl)
theorem It.fr (i:It hh F t d T g n R e rest cb rb) {G:Nat→Prop} (f:Fr G hh h') (h1:¬ G rb) (h2:¬ G cb) (h3:∀ b,F b→¬ G b) (h4:∀ b,b<1→¬ G b):It h' F t d T g n R e rest cb rb :=
 ⟨i.gl.fr f h4,i.x.fr f h3,(f.rd i.clt h2).trans i.cap,f.own i.ob.lt h1 i.ob,(f.rd i.ob.lt h1).trans i.r,i.nf,i.b1,i.ne⟩
theorem It.no (i:It hh F t d T g n R e rest cb rb) (f:Fr No hh h'):It h' F t d T g n R e rest cb rb:=i.fr f (fun y=>y) (fun y=>y) (fun _ _ y=>y) fun _ _ y=>y
theorem It.did (i:It hh F t d T g n R e rest cb rb) (f:Did rb hh h' (rdV t g n R e'++rest)):It h' F t d T g n R e' rest cb rb :=
 ⟨i.gl.fr f.fr fun b hb y=>by have:=i.b1; omega,i.x.fr f.fr fun b hb y=>i.nf (y▸hb),(f.at_ i.clt i.ne).trans i.cap,f.own,f.rd,i.nf,i.b1,i.ne⟩
end
def leafV (k:Nat) (b:Int) (ba:Option Addr) (bl bc:Nat) (ca:Option Addr) (cl cc:Nat):List Value:=[.int .i64 k,.int .i64 b,.slice ba bl bc,.slice ca cl cc]
theorem leafV_one {k:Nat} {b:Int} {ba:Option Addr} {bl bc:Nat} {ca:Option Addr} {cl cc:Nat}:∀ v ∈ leafV k b ba bl bc ca cl cc,v.oneCell'=true:=by
 intro v hv
 simp only [leafV,List.mem_cons,List.not_mem_nil,or_false] at hv
 rcases hv with rfl|rfl|rfl|rfl <;> rfl
structure Lf (h0 h:Heap) (l:Leaf) (ba:Option Addr) (bl bc:Nat) (ca:Option Addr) (cl cc:Nat):Prop where
 s:Sl h 1 ba bl bc (l.bytes.map bv) (From h0.size)
 c:Sl h 3 ca cl cc (l.cells.flatMap E.v) (From h0.size)
theorem Lf.fr {h0 h h':Heap} {l:Leaf} {ba:Option Addr} {bl bc:Nat} {ca:Option Addr} {cl cc:Nat} {G:Nat→Prop} (x:Lf h0 h l ba bl bc ca cl cc) (f:Fr G h h') (hG:∀ b,b<h.size→h0.size≤b→¬ G b):Lf h0 h' l ba bl bc ca cl cc :=
 ⟨x.s.fr f hG,x.c.fr f hG⟩
theorem size_div {z:Int} (h0:0≤z) (h1:z≤8459264):IntKind.wrap .i64 (Int.tdiv z 512)=z / 512:=by
 rw [Int.tdiv_eq_ediv_of_nonneg h0,wrap_i64 (by omega) (by omega)]
theorem leaves_iter {l cb rb:Nat} {F:Nat→Prop} {t d:Option Addr} {T:TM} {g:G} {n:Int} {R:List Int} {rest:List Value} {h:Heap} {K:Value→Heap→Prop} (hR:R.length=15) (hs0:0≤R.getD 2 0) (hs1:R.getD 2 0≤8459264) (J:Nat→Heap→Prop)
  (hc:∀ k hh,J k hh→It hh F t d T g n R 0 rest cb rb)
  (hY:∀ k hh h' ba bl bc ca cl cc,J k hh→k<(R.getD 2 0 / 512).toNat→(leafM T g R k).2=0→Fr (fun b=>b=rb) hh h'→rd h' rb=rdV t g n R 0++rest→Own h' rb→Lf hh h' (leafM T g R k).1 ba bl bc ca cl cc →
   YCalls Tryz.prog l [.agg ⟨leafV k (leafM T g R k).1.block ba bl bc ca cl cc⟩] h' fun v h''=>(v = .bool true∧J (k+1) h'')∨(v = .bool false∧K (.tuple #[]) h''))
  (h0:J 0 h) (hK:∀ hh,J (R.getD 2 0 / 512).toNat hh→K (.tuple #[]) hh)
  (hE:∀ k hh h',J k hh→k<(R.getD 2 0 / 512).toNat→(leafM T g R k).2≠0→Fr (fun b=>b=rb) hh h'→rd h' rb=rdV t g n R (leafM T g R k).2++rest→Own h' rb→K (.tuple #[]) h') :
  C.dir_reader_leaves_c1 (.func (.yield l) #[] #[]) (some ⟨cb,0,none⟩) h K:=by
 obtain ⟨m,em⟩:∃ m:Nat,R.getD 2 0 / 512=m:=⟨(R.getD 2 0 / 512).toNat,by omega⟩
 have hm:m≤16522:=by omega
 rw [em,Int.toNat_natCast] at hY hK hE
 refine dir_reader_leaves_c1.ok ⟨fun i hh=>∃ k:Nat,i=k∧k≤m∧J k hh,fun i _=>(m - i).toNat,⟨0,rfl,Nat.zero_le _,h0⟩,?_⟩
 rintro i h2 ⟨k,ei,hk,hJ⟩
 have I2:=hc k h2 hJ
 refine os ⟨_,rdc I2.cap rfl,os ⟨_,rda I2.r (rdV_e hR),ce (fun _=>os ⟨_,rdc I2.cap rfl,os ⟨_,rdaa I2.r (rdV_2 hR),?_⟩⟩) fun y=>absurd rfl y⟩⟩
 rw [size_div hs0 hs1,em]
 refine cd (fun hlt=>?_) fun hlt=>?_
 rotate_left
 ·have:k=m:=by omega
  subst this
  exact hK h2 hJ
 have hlt:k<m:=by omega
 unfold dir_reader_leaves_c1.k1
 refine ⟨by decide,New.intro fun h3 n3=>NewRow.intro rfl ?_ rfl fun h5 n5=>?_⟩
 ·intro v hv
  simp only [List.mem_cons,List.not_mem_nil,or_false] at hv
  rcases hv with rfl|rfl|rfl|rfl <;> rfl
 have z3:=n3.size
 have z5:=n5.size
 have F5:Fr No h2 h5:=n3.fr.new n5
 have I5:=I2.no F5
 refine os ⟨_,rdc I5.cap rfl,os ⟨t,rda I5.r rfl,os ⟨_,rdc I5.cap rfl,os ⟨g.v,rfl,cellsa I5.r rdV_g,os ⟨_,rdc I5.cap rfl,os ⟨ints R,by rw [ints_length,hR],cellsa I5.r ?_,?_⟩⟩⟩⟩⟩⟩
 ·rw [ints_length,hR]; exact rdV_R hR
 rw [ei]
 refine Bm.Find_spec I5.gl I5.x hR fun h6 f6=>⟨_,_,rfl,?_⟩
 have z6:=f6.size
 have o6:Own h6 h3.size:=f6.own (by omega) (fun y=>y) n5.own
 have l6:rd h6 h3.size=[.int .i64 k,.int .i64 0,.slice (some ⟨h2.size,0,none⟩) 512 512,.slice none 0 0]:=by
  rw [f6.rd (by omega) fun y=>y,n5.rd,ei]; rfl
 have I6:=I5.no f6
 refine Put.add o6 (by rw [l6]; show 1<4; decide) fun h7 d7=>?_
 have z7:=d7.size
 have l7:rd h7 h3.size=[.int .i64 k,.int .i64 (findM T g R k).1,.slice (some ⟨h2.size,0,none⟩) 512 512,.slice none 0 0]:=by rw [d7.rd,l6]; rfl
 have rl2:=I2.ob.lt
 have cl2:=I2.clt
 have xl2:∀ b,F b→b<h2.size:=fun b hb=>I2.x.lt hb
 have g2:=I2.gl.lt
 have I7:It h7 F t d T g n R 0 rest cb rb:=I6.fr d7.fr (by omega) (by omega) (fun b hb y=>by have:=xl2 b hb; omega) fun b hb y=>by omega
 have F7:Fr No h2 h7:=(F5.no f6).did d7 fun hl=>by omega
 refine os ⟨_,rdc I7.cap rfl,failed_spec hR I7.ob I7.r fun h8 d8=>⟨_,rfl,?_⟩⟩
 have I8:=I7.did d8
 have F8:Fr (fun b=>b=rb) h2 h8:=(F7.mono fun _ _ y=>y.elim).trans d8.fr fun _ _ y=>y
 have z8:=d8.size
 have l8:=(d8.at_ (c:=h3.size) (by omega) (by omega)).trans l7
 have o8:Own h8 h3.size:=d8.ow d7.own
 refine cn (fun he=>?_) fun he=>?_
 ·-- Find says no
  have e2:(leafM T g R k).2=(findM T g R k).2:=by
   unfold leafM
   have:(blockM T g R k).2=(findM T g R k).2:=by unfold blockM; rw [if_pos he]
   show (if (blockM T g R k).2≠0 then _ else _)=_
   rw [this,if_pos he]
  refine hE k h2 h8 hJ hlt (by rw [e2]; exact he) F8 ?_ I8.ob
  rw [e2]; exact I8.r
 rw [he] at I8
 -- what is done with the bytes
 have K2:∀ (h12:Heap) (ba:Option Addr) (bl bc:Nat),It h12 F t d T g n R 0 rest cb rb→Fr (fun b=>b=rb) h2 h12→h3.size<h12.size→rd h12 h3.size=[.int .i64 k,.int .i64 (findM T g R k).1,.slice ba bl bc,.slice none 0 0]→Own h12 h3.size →
   (blockM T g R k).2=0→Sl h12 1 ba bl bc ((blockM T g R k).1.map bv) (From h2.size)→(∀ p,ba=some p→p.block≠h3.size)→dir_reader_leaves_c1.k2 (.func (.yield l) #[] #[]) (some ⟨cb,0,none⟩) (k:Int) h2 (fun i hh=>∃ k:Nat,i=k∧k≤m∧J k hh) (fun i _=>(m - i).toNat) h3 h12 K:=by
  intro h12 ba bl bc I12 F12 s12 l12 o12 hb0 S12 hn12
  unfold dir_reader_leaves_c1.k2
  refine ⟨_,_,_,rda l12 rfl,Ss.Read_spec I12.gl S12.str S12.le fun h13 ca cl cc f13 C13=>⟨_,_,_,_,rfl,?_⟩⟩
  have z13:=f13.size
  have o13:Own h13 h3.size:=f13.own s12 (fun y=>y) o12
  have l13:=(f13.rd s12 fun y=>y).trans l12
  refine Put.add o13 (by rw [l13]; show 3<4; decide) fun h14 d14=>?_
  have z14:=d14.size
  have l14:rd h14 h3.size=leafV k (findM T g R k).1 ba bl bc ca cl cc:=by rw [d14.rd,l13]; rfl
  have I13:=I12.no f13
  have I14:It h14 F t d T g n R 0 rest cb rb:=I13.fr d14.fr (by omega) (by omega) (fun b hb y=>by have:=xl2 b hb; omega) fun b hb y=>by omega
  have F14:Fr (fun b=>b=rb) h2 h14:=(F12.no f13).did d14 fun hl=>by omega
  refine os ⟨_,rdc I14.cap rfl,failed_spec hR I14.ob I14.r fun h15 d15=>⟨_,rfl,?_⟩⟩
  have z15:=d15.size
  have I15:=I14.did d15
  have F15:Fr (fun b=>b=rb) h2 h15:=F14.trans d15.fr fun _ _ y=>y
  have e2:(leafM T g R k).2=(ans (blockM T g R k).1).2:=by
   unfold leafM
   show (if (blockM T g R k).2≠0 then _ else _)=_
   rw [if_neg fun y=>y hb0]
  refine cn (fun he=>hE k h2 h15 hJ hlt (by rw [e2]; exact he) F15 (by rw [e2]; exact I15.r) I15.ob) fun he=>?_
  rw [he] at I15
  have l15:=(d15.at_ (c:=h3.size) (by omega) (by omega)).trans l14
  refine ⟨_,rfl,cellsAll l15,hv_yield (ycalls_mono (hY k h2 h15 ba bl bc ca cl cc hJ hlt (by rw [e2]; exact he) F15 I15.r I15.ob ⟨?_,?_⟩) fun v h16 hv=>?_)⟩
  ·show Sl h15 1 ba bl bc ((blockM T g R k).1.map bv) (From h2.size)
   refine ((S12.fr f13 fun _ _ _ y=>y).mono (G:=fun b=>h2.size≤b∧∀ p,ba=some p→b=p.block→True) fun b hb=>⟨hb,fun _ _ _=>trivial⟩) |>.mono (G:=From h2.size) (fun b hb=>hb.1) |> fun S=>?_
   refine Sl.fr d15.fr (G:=fun b=>b=rb) (?_:Sl h14 1 ba bl bc _ (From h2.size)) fun b hb hF y=>by have hF:h2.size≤b:=hF; omega
   cases ba with
   | none=>exact ⟨S.1,S.2⟩
   | some p =>
    obtain ⟨a1,a2,a3,a4,a5,a6⟩:=S.2
    have hp:=hn12 p rfl
    exact ⟨S.1,a1,a2,d14.ow a3,a4,by rw [d14.at_ a3.lt hp]; exact a5,by rw [d14.at_ a3.lt hp]; exact a6⟩
  ·show Sl h15 3 ca cl cc ((ans (blockM T g R k).1).1.flatMap E.v) (From h2.size)
   refine ((C13.fr d14.fr fun b _ hb y=>?_).fr d15.fr fun b _ hb y=>?_).mono fun b hb=>?_
   ·have hb:h12.size≤b:=hb; omega
   ·have hb:h12.size≤b:=hb
    have:=F12.size
    omega
   ·have hb:h12.size≤b:=hb
    have:=F12.size
    show h2.size≤b; omega
  ·rcases hv with ⟨rfl,hJ6⟩|⟨rfl,hk⟩
   ·refine ⟨true,rfl,cnot (ct rfl ?_)⟩
    rw [wrap_i64 (by omega) (by omega)]
    exact ⟨⟨k+1,by omega,hlt,hJ6⟩,by show ((m:Int) - ((k:Int)+1)).toNat<((m:Int) - (k:Int)).toNat; omega⟩
   ·exact ⟨false,rfl,cnot (cf rfl hk)⟩
 refine ⟨_,rda l8 rfl,cn (fun hb=>os ⟨_,rdc I8.cap rfl,os ⟨t,rda I8.r rfl,_,rda l8 rfl,Tm.Read_spec I8.x fun ba bl bc h9 f9 hl9 S9=>⟨_,_,_,_,rfl,?_⟩⟩⟩) fun hb=>?_⟩
 ·-- its block is read
  have eb:blockM T g R k=T.read (findM T g R k).1:=by unfold blockM; rw [if_neg (fun y=>y he),if_neg hb]
  have z9:=f9.size
  have I9:=I8.no f9
  have l9:=(f9.rd (b:=h3.size) (by omega) fun y=>y).trans l8
  have o9:Own h9 h3.size:=f9.own (by omega) (fun y=>y) o8
  refine Put.add o9 (by rw [l9]; show 2<4; decide) fun h10 d10=>?_
  have z10:=d10.size
  have l10:rd h10 h3.size=[.int .i64 k,.int .i64 (findM T g R k).1,.slice ba bl bc,.slice none 0 0]:=by rw [d10.rd,l9]; rfl
  have I10:It h10 F t d T g n R 0 rest cb rb:=I9.fr d10.fr (by omega) (by omega) (fun b hb y=>by have:=xl2 b hb; omega) fun b hb y=>by omega
  have F10:Fr (fun b=>b=rb) h2 h10:=(F8.no f9).did d10 fun hl=>by omega
  refine os ⟨_,rdc I10.cap rfl,failed_spec hR I10.ob I10.r fun h11 d11=>⟨_,rfl,?_⟩⟩
  have z11:=d11.size
  have I11:=I10.did d11
  have F11:Fr (fun b=>b=rb) h2 h11:=F10.trans d11.fr fun _ _ y=>y
  refine cn (fun he2=>?_) fun he2=>?_
  ·have e2:(leafM T g R k).2=(T.read (findM T g R k).1).2:=by
    unfold leafM
    show (if (blockM T g R k).2≠0 then _ else _)=_
    rw [eb,if_pos he2]
   exact hE k h2 h11 hJ hlt (by rw [e2]; exact he2) F11 (by rw [e2]; exact I11.r) I11.ob
  ·rw [he2] at I11
   refine K2 h11 ba bl bc I11 F11 (by omega) ((d11.at_ (by omega) (by omega)).trans l10) (d11.ow d10.own) (by rw [eb]; exact he2) ?_ fun p hp=>?_
   ·rw [eb]
    refine ((S9.fr d10.fr fun b _ hb y=>?_).fr d11.fr fun b _ hb y=>?_).mono fun b hb=>?_
    ·have hb:h8.size≤b:=hb; omega
    ·have hb:h8.size≤b:=hb; omega
    ·have hb:h8.size≤b:=hb; show h2.size≤b; omega
   ·subst hp
    have hb:h8.size≤p.block:=S9.2.2.1
    omega
 ·-- a hole
  have eb:blockM T g R k=(zeros,0):=by unfold blockM; rw [if_neg (fun y=>y he),if_pos hb]
  have r8:rd h8 h2.size=zeros.map bv:=by
   rw [d8.at_ (by omega) (by omega),d7.at_ (by omega) (by omega),f6.rd (by omega) fun y=>y,n5.at_ (by omega),n3.rd,zeros,List.map_replicate]; rfl
  have el:(zeros.map bv).length=512:=by rw [List.length_map]; exact List.length_replicate
  refine K2 h8 _ _ _ I8 F8 (by omega) l8 o8 (by rw [eb]) ?_ fun p hp=>by cases hp; show ¬ h2.size=h3.size; omega
  rw [eb]
  have w8:Own h8 h2.size:=d8.ow (d7.ow (f6.own (by omega) (fun y=>y) (n5.ow n3.own)))
  refine ⟨by rw [el],rfl,Nat.le_refl _,w8,Nat.le_refl _,?_,?_⟩
  ·show ((rd h8 h2.size).drop 0).take _=_
   rw [r8,List.drop_zero,List.take_length]
  ·show 0+512*1≤(rd h8 h2.size).length
   rw [r8,el]; decide
theorem leaves_spec {h:Heap} {r:Option Addr} {K:Value→Heap→Prop} (hK:∀ h',Newly h h' [.pointer r]→K (.func (.func 135) #[] ⟨[.pointer (some ⟨h.size,0,none⟩)]⟩) h'):C.dir_reader_leaves r h K :=
 dir_reader_leaves.ok (New.intro fun h2 n2=>hK h2 n2)
end Go.Proofs.YtiapingedfnlnaaGreatDoor.Di
namespace Go.Proofs.YtiapingedfnlnaaGreatDoor.Di
open Go Go.Proofs Wx Hp W Ad Tm Spc Re Av Rg Ss
open Hd (ints)
open In (Glo ints_length ints_one)
open Ino (getM Cok getM_length)
open Bm (findM)
open Fi (blockM hv_yield getM_may cok)
open Sk (E nameOk)
theorem leaves_none {y:Value} {cb rb:Nat} {F:Nat→Prop} {t d:Option Addr} {T:TM} {g:G} {n e:Int} {R:List Int} {rest:List Value} {h:Heap} {K:Value→Heap→Prop} (hR:R.length=15) (i:It h F t d T g n R e rest cb rb) (he:e≠0)
  (hK:K (.tuple #[]) h):C.dir_reader_leaves_c1 y (some ⟨cb,0,none⟩) h K:=by
 refine dir_reader_leaves_c1.ok ⟨fun _ hh=>hh=h,fun _ _=>0,rfl,?_⟩
 rintro k h2 rfl
 exact os ⟨_,rdc i.cap rfl,os ⟨_,rda i.r (rdV_e hR),ce (fun y=>absurd y he) fun _=>hK⟩⟩
theorem open_size {T:TM} {g:G} {n:Int} (h:(openM T g n).2=0):0≤(openM T g n).1.getD 2 0∧(openM T g n).1.getD 2 0≤8459264:=by
 obtain ⟨e,e2,_⟩:=openM_ok h
 rw [e]
 obtain ⟨_,_,_,_,a,b,_⟩:=In.mayR_bounds (getM_length T g n) (getM_may e2)
 exact ⟨a,b⟩
theorem ent_at {h:Heap} {a:Option Addr} {es:List E} (Z:SlCells h a (es.flatMap E.v)) {j:Nat} (hj:j<es.length):∃ p,a=some p∧Cells h (p.add (j*3)) (E.v es[j]):=by
 cases a with
 | none =>
  have Z:es.flatMap E.v=[]:=Z
  have:=flat_length E.v 3 es (fun x _=>E.len x)
  rw [Z,List.length_nil] at this
  omega
 | some p =>
  refine ⟨p,rfl,?_⟩
  have:=Cells.part (show Cells h p (es.flatMap E.v) from Z) (j*3) 3
  rw [flat_part E.v 3 _ (fun x _=>E.len x) j hj] at this
  exact this
theorem putaa {b o m n:Nat} {v:Value} {h:Heap} {k:Heap→Prop} (w:Own h b) (hl:o+m+n<(rd h b).length) (H:∀ h',Did b h h' ((rd h b).set (o+m+n) v)→k h'):Put (Addr.add (Addr.add ⟨b,o,none⟩ m) n) v h k:=by
 rw [add_mk]; exact Put.add w hl H
def tail0 : List Value:=[.int .i64 0,.int .i64 0,.slice none 0 0,.slice none 0 0,.int .i64 0,.string (mkStr []),.int .i64 0]
theorem rdV_hit {t:Option Addr} {g:G} {n e:Int} {R:List Int} (hR:R.length=15) {xs:List Value} {c:E} (hx:xs.length=4):put (put (rdV t g n R e++tail0) 23 xs) 27 (E.v c)=rdV t g n R e++(xs++E.v c):=by
 have l:=rdV_len (t:=t) (g:=g) (n:=n) (e:=e) hR
 have lt:tail0.length=7:=rfl
 rw [put_eq _ _ _ (by rw [put_length,List.length_append,l,lt,E.len]; omega),put_eq _ _ _ (by rw [List.length_append,l,lt,hx]; omega),hx,E.len]
 have e1:List.take 23 (rdV t g n R e++tail0)=rdV t g n R e:=List.take_left' l
 have e2:(List.drop (23+4) (rdV t g n R e++tail0)).length=3:=by rw [List.length_drop,List.length_append,l,lt]
 rw [e1]
 generalize hz:List.drop (23+4) (rdV t g n R e++tail0)=zs at e2
 rw [List.take_left' (l₁:=rdV t g n R e++xs) (by rw [List.length_append,l,hx]),List.drop_of_length_le (by rw [List.length_append,List.length_append,l,hx,e2]; omega),List.append_nil,List.append_assoc]
theorem find_at {α:Type} {p:α→Bool} {l:List α} {i:Nat} (hi:i<l.length) (np:(l.take i).find? p=none) (hp:p l[i]=true):l.find? p=some l[i]:=by
 have e:l.find? p=(l.take i++l.drop i).find? p:=by rw [List.take_append_drop]
 rw [e,List.find?_append,np,Option.none_or,List.drop_eq_getElem_cons hi,List.find?_cons_of_pos hp]
theorem rdV_cells {t:Option Addr} {g:G} {n e:Int} {R:List Int} (hR:R.length=15) {k:Nat} {b:Int} {ba:Option Addr} {bl bc:Nat} {ca:Option Addr} {cl cc:Nat} {c:E} :
  (rdV t g n R e++(leafV k b ba bl bc ca cl cc++E.v c))[29]?=some (.int .i64 c.inode)∧(rdV t g n R e++(leafV k b ba bl bc ca cl cc++E.v c))[0]?=some (.pointer t)∧(rdV t g n R e++(leafV k b ba bl bc ca cl cc++E.v c))[24]?=some (.int .i64 b) ∧
   (rdV t g n R e++(leafV k b ba bl bc ca cl cc++E.v c))[25]?=some (.slice ba bl bc)∧(rdV t g n R e++(leafV k b ba bl bc ca cl cc++E.v c))[27]?=some (.int .i64 c.place):=by
 obtain ⟨_,_,_,_,_,_,_,_,_,_,_,_,_,_,_,rfl⟩:=R15 hR
 exact ⟨rfl,rfl,rfl,rfl,rfl⟩
theorem ans_len (bs:List UInt8):(ans bs).1.length≤16:=by
 unfold ans
 split
 ·exact Nat.zero_le _
 ·rename_i hl
  cases hd:Sk.dec 16 bs with
  | none=>exact Nat.zero_le _
  | some hs =>
   have h1:=ents_len hs 0
   have h2:=(Sk.blk_dec (n:=16) (b:=bs) (by have:¬ bs.length≠512:=hl; omega) hd).1
   show (Sk.ents 0 hs).length≤16
   omega
theorem leaf_len (T:TM) (g:G) (R:List Int) (k:Nat):(leafM T g R k).1.cells.length≤16:=ans_len _
structure Fnd (h h':Heap) (t:Option Addr) (fb:Nat) (r:Option (Leaf×E)×Int) (ba:Option Addr) (bl bc:Nat):Prop where
 lo:h.size≤fb
 ow:Own h' fb
 e:(rd h' fb)[22]?=some (.int .i64 r.2)
 ino:(rd h' fb)[29]?=some (.int .i64 (match r.1 with
  | some x=>x.2.inode
  | none=>0))
 hit:∀ x,r.1=some x→(rd h' fb)[0]?=some (.pointer t)∧(rd h' fb)[24]?=some (.int .i64 x.1.block)∧(rd h' fb)[25]?=some (.slice ba bl bc)∧(rd h' fb)[27]?=some (.int .i64 x.2.place)∧Sl h' 1 ba bl bc (x.1.bytes.map bv) (fun b=>h.size≤b∧b≠fb)
theorem Fnd.none {h h':Heap} {t t':Option Addr} {fb:Nat} {e n:Int} {g:G} {R:List Int} (hR:R.length=15) (lo:h.size≤fb) (ow:Own h' fb) (r:rd h' fb=rdV t' g n R e++tail0):Fnd h h' t fb (none,e) none 0 0:=by
 refine ⟨lo,ow,by rw [r]; exact rdV_e hR,?_,fun x hx=>by cases hx⟩
 rw [r]
 obtain ⟨_,_,_,_,_,_,_,_,_,_,_,_,_,_,_,rfl⟩:=R15 hR
 rfl
theorem find_spec {h:Heap} {F:Nat→Prop} {t d:Option Addr} {T:TM} {n:Nat} {i:Int} {s:Tm.Txt} {K:Value→Heap→Prop} (gl:In.Glo h) (dm:Dim n) (x:Tx h F t d T)
  (hK:∀ h' fb ba bl bc,Fr No h h'→Fnd h h' t fb (seekM T (geoN n) i s) ba bl bc→K (.pointer (some ⟨fb,0,none⟩)) h'):C.dir_find t (geoN n).v i (mkStr s) h K:=by
 refine dir_find.ok (New.intro fun h2 n2=>New.intro fun h3 n3=>New.intro fun h4 n4=>New.intro fun h5 n5=>New.intro fun h6 n6=>Put.intro n6.own (by rw [n6.rd]; exact Nat.zero_lt_one) fun h7 d7=>?_)
 have z2:=n2.size
 have z3:=n3.size
 have z4:=n4.size
 have z5:=n5.size
 have z6:=n6.size
 have z7:=d7.size
 have xl:∀ b,F b→b<h.size:=fun b hb=>x.lt hb
 have gl1:=gl.lt
 have F7:Fr No h h7:=(((((n2.fr.new n3).new n4).new n5).new n6).did d7 fun hl=>by omega)
 have g7:rd h7 h.size=(geoN n).v:=(d7.at_ (by omega) (by omega)).trans ((n6.at_ (by omega)).trans ((n5.at_ (by omega)).trans ((n4.at_ (by omega)).trans ((n3.at_ (by omega)).trans n2.rd))))
 have s7:rd h7 h2.size=[.string (mkStr s)]:=(d7.at_ (by omega) (by omega)).trans ((n6.at_ (by omega)).trans ((n5.at_ (by omega)).trans ((n4.at_ (by omega)).trans n3.rd)))
 have q7:rd h7 h3.size=[.pointer none]:=(d7.at_ (by omega) (by omega)).trans ((n6.at_ (by omega)).trans ((n5.at_ (by omega)).trans n4.rd))
 have w7:Own h7 h3.size:=d7.ow (n6.ow (n5.ow n4.own))
 have r7:rd h7 h4.size=rdV none ⟨0,0,0,0,0⟩ 0 (List.replicate 15 0) 0++tail0:=(d7.at_ (by omega) (by omega)).trans ((n6.at_ (by omega)).trans n5.rd)
 have o7:Own h7 h4.size:=d7.ow (n6.ow n5.own)
 have p7:rd h7 h5.size=[.pointer (some ⟨h4.size,0,none⟩)]:=by rw [d7.rd,n6.rd]; rfl
 refine ⟨_,rdc s7 rfl,Ch.Name_spec fun h8 f8=>⟨_,rfl,cnot ?_⟩⟩
 have z8:=f8.size
 have F8:Fr No h h8:=F7.no f8
 have q8:=(f8.rd (b:=h3.size) (by omega) fun y=>y).trans q7
 have r8:=(f8.rd (b:=h4.size) (by omega) fun y=>y).trans r7
 have p8:=(f8.rd (b:=h5.size) (by omega) fun y=>y).trans p7
 have w8:Own h8 h3.size:=f8.own (by omega) (fun y=>y) w7
 have o8:Own h8 h4.size:=f8.own (by omega) (fun y=>y) o7
 refine cs (fun hn=>?_) fun hn=>?_
 rotate_left
 ·-- no name
  have es:seekM T (geoN n) i s=(none,1):=by unfold seekM; rw [if_pos hn]
  rw [es] at hK
  refine ⟨_,rdc p8 rfl,os (putaa o8 (by rw [r8]; decide +revert) fun h9 d9=>⟨_,rdc ((d9.at_ (by omega) (by omega)).trans p8) rfl,Put.intro (d9.ow w8) (by rw [d9.at_ (by omega) (by omega),q8]; exact Nat.zero_lt_one) fun h10 d10=>⟨_,rdc (show rd h10 h3.size=[.pointer (some ⟨h4.size,0,none⟩)] by rw [d10.rd,d9.at_ (by omega) (by omega),q8]; rfl) rfl,?_⟩⟩)⟩
  have z9:=d9.size
  refine hK h10 h4.size none 0 0 ((F8.did d9 fun hl=>by omega).did d10 fun hl=>by omega) (Fnd.none (t':=none) (g:=⟨0,0,0,0,0⟩) (n:=0) (R:=List.replicate 15 0) List.length_replicate (by omega) (d10.ow d9.own) ?_)
  rw [d10.at_ (by omega) (by omega),d9.rd,r8]
  exact rdV_set List.length_replicate
 refine ⟨_,rdc p8 rfl,(geoN n).v,rfl,cellsAll ((f8.rd (by omega) fun y=>y).trans g7),open_spec (gl.no F8) (x.no F8) (cok dm) fun h11 f11=>⟨_,rfl,?_⟩⟩
 have lR:=openM_length T (geoN n) i
 have z11:=f11.size
 have p11:=(f11.rd (b:=h5.size) (by omega) fun y=>y).trans p8
 have r11:=(f11.rd (b:=h4.size) (by omega) fun y=>y).trans r8
 have o11:Own h11 h4.size:=f11.own (by omega) (fun y=>y) o8
 refine ⟨rdc p11 rfl,os (PutRow.add o11 (rdV_len lR) rdV_one (by rw [r11]; decide +revert) fun h12 d12=>?_)⟩
 have z12:=d12.size
 have r12:rd h12 h4.size=rdV t (geoN n) i (openM T (geoN n) i).1 (openM T (geoN n) i).2++tail0:=by
  rw [d12.rd,r11,put_eq _ _ _ (by rw [rdV_len lR]; decide +revert),rdV_len lR]; rfl
 have p12:=(d12.at_ (c:=h5.size) (by omega) (by omega)).trans p11
 refine ⟨_,rdc p12 rfl,os ?_⟩
 rw [show Addr.add ⟨h4.size,0,none⟩ 0=⟨h4.size,0,none⟩ from add_mk ..]
 refine leaves_spec fun h13 n13=>⟨_,rfl,fun L rounds=>?_⟩
 have z13:=n13.size
 have F12:Fr No h h12:=(F8.no f11).did d12 fun hl=>by omega
 have F13:Fr No h h13:=F12.new n13
 have Fb:=beginL_fr h13 L
 have on0:=beginL_on h13 L
 have d0:=beginL_d h13 L
 have zb:=beginL_size h13 L
 have F0:Fr No h (beginL h13 L):=F13.no Fb
 have fb:Fr No h12 (beginL h13 L):=n13.fr.no Fb
 have cb0:rd (beginL h13 L) h12.size=[.pointer (some ⟨h4.size,0,none⟩)]:=(Fb.rd (by omega) fun y=>y).trans n13.rd
 have rb0:=(fb.rd (b:=h4.size) (by omega) fun y=>y).trans r12
 have ob0:Own (beginL h13 L) h4.size:=fb.own (by omega) (fun y=>y) d12.own
 have qb0:rd (beginL h13 L) h3.size=[.pointer none]:=(fb.rd (by omega) fun y=>y).trans ((d12.at_ (by omega) (by omega)).trans ((f11.rd (by omega) fun y=>y).trans q8))
 have wb0:Own (beginL h13 L) h3.size:=fb.own (by omega) (fun y=>y) (d12.ow (f11.own (by omega) (fun y=>y) w8))
 have sb0:rd (beginL h13 L) h2.size=[.string (mkStr s)]:=(fb.rd (by omega) fun y=>y).trans ((d12.at_ (by omega) (by omega)).trans ((f11.rd (by omega) fun y=>y).trans ((f8.rd (by omega) fun y=>y).trans s7)))
 have pb0:=(fb.rd (b:=h5.size) (by omega) fun y=>y).trans p12
 have glb:=gl.no F0
 have xb:=x.no F0
 have I0:It (beginL h13 L) F t d T (geoN n) i (openM T (geoN n) i).1 (openM T (geoN n) i).2 tail0 h12.size h4.size:=⟨glb,xb,cb0,ob0,rb0,fun y=>by have:=xl _ y; omega,by omega,by omega⟩
 generalize hbe:beginL h13 L=hb at *
 show C.dir_reader_leaves_c1 (.func (.yield (h13.size+1)) #[] #[]) (some ⟨h12.size,0,none⟩) hb _
 -- what is behind the loop
 have fin:∀ (hh:Heap) (e:Int),Fr (fun b=>b=h4.size∨b=h13.size+1) hb hh→LoopOn hh (h13.size+1) L .ready none→rd hh h4.size=rdV t (geoN n) i (openM T (geoN n) i).1 e++tail0→Own hh h4.size→seekM T (geoN n) i s=(none,if e=0 then 160 else e) →
   ∃ (st1:LoopState) (pend1:Option Code),LoopOn hh (h13.size+1) L st1 pend1∧st1 ≠ .busy∧pendX pend1 (
    SetL hh (h13.size+1) L .exhausted pend1 fun h25=>∃ (q8:Option Addr),cellOf h25 ⟨h5.size,0,none⟩=some (.pointer q8)∧onSome q8 fun p7=>∃ (n3:Int),cellOf h25 (Addr.add (Addr.add p7 0) 22)=some (.int .i64 n3) ∧
    bif (n3 == 0) then (∃ (q9:Option Addr),cellOf h25 ⟨h5.size,0,none⟩=some (.pointer q9)∧onSome q9 fun p8=>Put (Addr.add (Addr.add p8 0) 22) (.int .i64 160) h25 fun h26=>∃ (q10:Option Addr),cellOf h26 ⟨h5.size,0,none⟩=some (.pointer q10) ∧
     Put ⟨h3.size,0,none⟩ (.pointer q10) h26 fun h27=>EndD h13.size h27 fun h28=>∃ (res2:Option Addr),cellOf h28 ⟨h3.size,0,none⟩=some (.pointer res2)∧K (.pointer res2) h28) else (
     ∃ (q11:Option Addr),cellOf h25 ⟨h5.size,0,none⟩=some (.pointer q11)∧Put ⟨h3.size,0,none⟩ (.pointer q11) h25 fun h29=>EndD h13.size h29 fun h30=>∃ (res3:Option Addr),cellOf h30 ⟨h3.size,0,none⟩=some (.pointer res3)∧K (.pointer res3) h30)) (
    SetL hh (h13.size+1) L .exhausted pend1 fun h31=>EndD h13.size h31 fun h32=>∃ (res4:Option Addr),cellOf h32 ⟨h3.size,0,none⟩=some (.pointer res4)∧K (.pointer res4) h32) (fun _=>False):=by
  intro hh e f on r o es
  have zf:=f.size
  rw [es] at hK
  refine ⟨.ready,none,on,by decide,pend_none (setL_intro (by omega) fun h25 t25=>?_)⟩
  have z25:=t25.size
  have f25:Fr (fun b=>b=h4.size∨b=h13.size+1) hb h25:=f.trans t25.fr fun b _ y => .inr y
  have q25:∀ b,b<hb.size→b≠h4.size→b≠h13.size+1→rd h25 b=rd hb b:=fun b hb' h1 h2=>f25.rd hb' fun y=>y.elim h1 h2
  have w25:∀ b,Own hb b→b≠h4.size→b≠h13.size+1→Own h25 b:=fun b o h1 h2=>f25.own o.lt (fun y=>y.elim h1 h2) o
  have r25:=(t25.fr.rd (b:=h4.size) (by omega) (by omega)).trans r
  have o25:Own h25 h4.size:=t25.fr.own (by omega) (by omega) o
  have p25:=(q25 h5.size (by omega) (by omega) (by omega)).trans pb0
  have a25:=(q25 h3.size (by omega) (by omega) (by omega)).trans qb0
  have b25:=w25 h3.size wb0 (by omega) (by omega)
  -- the pointer is told
  have out:∀ (h26:Heap) (e':Int),h26.size=h25.size→Fr (fun b=>b=h4.size∨b=h13.size+1) hb h26→rd h26 h4.size=rdV t (geoN n) i (openM T (geoN n) i).1 e'++tail0→Own h26 h4.size→rd h26 h3.size=[.pointer none]→Own h26 h3.size→e'=(if e=0 then 160 else e) →
    Put ⟨h3.size,0,none⟩ (.pointer (some ⟨h4.size,0,none⟩)) h26 fun h27=>EndD h13.size h27 fun h28=>∃ (res2:Option Addr),cellOf h28 ⟨h3.size,0,none⟩=some (.pointer res2)∧K (.pointer res2) h28:=fun h26 e' z26 f26 r26 o26 a26 b26 he=>by
   refine Put.intro b26 (by rw [a26]; exact Nat.zero_lt_one) fun h27 d27=>endD_intro ((d27.fr.same _ (by omega) (by omega)).trans ((f26.same _ (by omega) (by omega)).trans d0)) fun h28 z28 f28=>?_
   have z27:=d27.size
   refine ⟨_,rdc (show rd h28 h3.size=[.pointer (some ⟨h4.size,0,none⟩)] by rw [f28.rd (by omega) (by omega),d27.rd,a26]; rfl) rfl,?_⟩
   rw [← he] at hK
   refine hK h28 h4.size none 0 0 (((F0.trans f26 fun b hb y=>by omega).did d27 fun hl=>by omega).trans f28 fun b hb y=>by omega) (Fnd.none lR (by omega) (f28.own (by omega) (by omega) (d27.ow o26)) ((f28.rd (by omega) (by omega)).trans ((d27.at_ (by omega) (by omega)).trans r26)))
  refine ⟨_,rdc p25 rfl,os ⟨_,rdaa r25 (rdV_e lR),ce (fun he=>?_) fun he=>?_⟩⟩
  ·refine ⟨_,rdc p25 rfl,os (putaa o25 (by rw [r25,List.length_append,rdV_len lR]; omega) fun h26 d26=>⟨_,rdc ((d26.at_ (by omega) (by omega)).trans p25) rfl,out h26 160 d26.size (f25.trans d26.fr fun b _ y => .inl y) ?_ d26.own ((d26.at_ (by omega) (by omega)).trans a25) (d26.ow b25) (by rw [if_pos he])⟩)⟩
   rw [d26.rd,r25]; exact rdV_set lR
  ·exact ⟨_,rdc p25 rfl,out h25 e rfl f25 r25 o25 a25 b25 (by rw [if_neg he])⟩
 by_cases he0:(openM T (geoN n) i).2=0
 rotate_left
 ·refine leaves_none lR I0 he0 (fin hb _ (Fr.refl _ _) on0 I0.r I0.ob ?_)
  rw [if_neg he0]
  unfold seekM; rw [if_neg (by rw [hn]; decide),if_pos he0]
 obtain ⟨R0,R1⟩:=open_size he0
 have es0:seekM T (geoN n) i s=seekGo T (geoN n) (openM T (geoN n) i).1 s ((openM T (geoN n) i).1.getD 2 0 / 512).toNat 0:=by
  unfold seekM; rw [if_neg (by rw [hn]; decide),if_neg (fun y=>y he0)]
 rw [he0] at I0
 generalize hR:(openM T (geoN n) i).1=R at *
 generalize hm:(R.getD 2 0 / 512).toNat=m at *
 refine leaves_iter lR R0 R1 (fun k hh=>It hh F t d T (geoN n) i R 0 tail0 h12.size h4.size∧Fr (fun b=>b=h4.size∨b=h13.size+1) hb hh∧LoopOn hh (h13.size+1) L .ready none∧∃ q,m=k+q∧seekM T (geoN n) i s=seekGo T (geoN n) R s q k)
  (fun k hh J=>J.1) (fun k hh h' ba bl bc ca cl cc J hk he f' r' o' lf=>?_) ⟨I0,Fr.refl _ _,on0,m,by omega,es0⟩ (fun hh J=>?_) fun k hh h' J hk he f' r' o'=>?_
 ·-- an index
  obtain ⟨I,f,on,q,eq,es⟩:=J
  rw [hm] at hk
  obtain ⟨q,rfl⟩:∃ q',q=q'+1:=⟨q - 1,by omega⟩
  have zf:=f.size
  have zf':=f'.size
  have on':LoopOn h' (h13.size+1) L .ready none:=loopOn_fr on f' (by omega)
  refine rounds (leafV k (leafM T (geoN n) R k).1.block ba bl bc ca cl cc) h' _ on' (NewRow.intro rfl leafV_one rfl fun h16 n16=>⟨loopOn_fr on' n16.fr fun y=>y,setL_intro (by have:=n16.size; omega) fun h17 t17=>?_⟩)
  have z16:=n16.size
  have z17:=t17.size
  have f17:Fr (fun b=>b=h4.size∨b=h13.size+1) hb h17:=((f.trans f' fun b _ y => .inl y).new n16).trans t17.fr fun b _ y => .inr y
  have v17:rd h17 h'.size=leafV k (leafM T (geoN n) R k).1.block ba bl bc ca cl cc:=(t17.fr.rd (by omega) (by omega)).trans n16.rd
  have lf17:Lf hh h17 (leafM T (geoN n) R k).1 ba bl bc ca cl cc:=(lf.fr n16.fr fun _ _ _ y=>y).fr t17.fr fun b _ hb y=>by omega
  have lc:(leafM T (geoN n) R k).1.cells.length=cl:=by
   have:=lf17.c.1
   rw [flat_length E.v 3 _ (fun x _=>E.len x)] at this
   omega
  refine ⟨_,_,_,rda v17 rfl,fun j hx=>∃ p:Nat,j=p∧p≤cl∧Fr No h17 hx∧((leafM T (geoN n) R k).1.cells.take p).find? (fun c=>c.name == s)=none,fun j _=>((cl:Int) - j).toNat,⟨0,rfl,Nat.zero_le _,Fr.refl _ _,rfl⟩,?_⟩
  rintro j h18 ⟨p,rfl,hp,f18,np⟩
  have z18:=f18.size
  have f18':Fr (fun b=>b=h4.size∨b=h13.size+1) hb h18:=f17.no f18
  have on18:LoopOn h18 (h13.size+1) L .busy none:=loopOn_fr t17.on f18 fun y=>y
  have I17:It h17 F t d T (geoN n) i R 0 tail0 h12.size h4.size:=by
   have A:It h' F t d T (geoN n) i R 0 tail0 h12.size h4.size:=⟨I.gl.fr f' fun b hb y=>by omega,I.x.fr f' fun b hb y=>by have:=xl b hb; omega,(f'.rd I.clt (by omega)).trans I.cap,o',r',I.nf,I.b1,I.ne⟩
   exact (A.no n16.fr).fr t17.fr (by omega) (by omega) (fun b hb y=>by have:=xl b hb; omega) fun b hb y=>by omega
  refine cd (fun hlt=>?_) fun hlt=>?_
  ·have hlt':p<(leafM T (geoN n) R k).1.cells.length:=by omega
   obtain ⟨a,ea,ca⟩:=ent_at (lf17.fr f18 fun _ _ _ y=>y).c.cells hlt'
   subst ea
   refine ⟨⟨by omega,hlt⟩,os ⟨_,rfl,ca,NewRow.intro rfl (E.one _) rfl fun h20 n20=>⟨_,rda n20.rd rfl,_,rdc (show rd h20 h2.size=[.string (mkStr s)] from ((f18'.new n20).rd (by omega) (by omega)).trans sb0) rfl,?_⟩⟩⟩
   rw [toList_mkStr,toList_mkStr]
   have z20:=n20.size
   have f20:Fr (fun b=>b=h4.size∨b=h13.size+1) hb h20:=f18'.new n20
   refine cs (fun heq=>?_) fun hne=>?_
   ·-- it is here
    have I20:=(I17.no f18).no n20.fr
    have ec:cellOfName (leafM T (geoN n) R k).1 s=some ((leafM T (geoN n) R k).1.cells[p]):=by
     unfold cellOfName
     exact find_at hlt' np heq
    have es2:seekM T (geoN n) i s=(some ((leafM T (geoN n) R k).1,(leafM T (geoN n) R k).1.cells[p]),0):=by
     rw [es]; unfold seekGo; rw [if_neg (fun y=>y he),ec]
    rw [es2] at hK
    have pc20:=(f20.rd (b:=h5.size) (by omega) (by omega)).trans pb0
    have v20:=(n20.at_ (by omega)).trans ((f18.rd (by omega) fun y=>y).trans v17)
    refine ⟨_,rdc pc20 rfl,_,rdc pc20 rfl,_,rfl,cellsAll v20,_,rfl,cellsAll n20.rd,os (PutRow.add I20.ob rfl leafV_one (by rw [I20.r,List.length_append,rdV_len lR]; decide) fun h21 d21=>?_)⟩
    have z21:=d21.size
    refine ⟨rdc ((d21.at_ (by omega) (by omega)).trans pc20) rfl,⟨rfl,cellsAll ((d21.at_ (by omega) (by omega)).trans n20.rd)⟩,os (PutRow.add d21.own rfl (E.one _) (by rw [d21.rd,put_length,I20.r,List.length_append,rdV_len lR]; decide) fun h22 d22=>?_)⟩
    have z22:=d22.size
    have r22:rd h22 h4.size=rdV t (geoN n) i R 0++(leafV k (leafM T (geoN n) R k).1.block ba bl bc (some a) cl cc++E.v (leafM T (geoN n) R k).1.cells[p]):=by
     rw [d22.rd,d21.rd,I20.r]; exact rdV_hit lR rfl
    have q22:=(d22.at_ (c:=h3.size) (by omega) (by omega)).trans ((d21.at_ (c:=h3.size) (by omega) (by omega)).trans ((f20.rd (by omega) (by omega)).trans qb0))
    have w22:Own h22 h3.size:=d22.ow (d21.ow (f20.own (by omega) (by omega) wb0))
    refine ⟨_,rdc ((d22.at_ (by omega) (by omega)).trans ((d21.at_ (by omega) (by omega)).trans pc20)) rfl,Put.intro w22 (by rw [q22]; exact Nat.zero_lt_one) fun h23 d23=>?_⟩
    have z23:=d23.size
    have on23:LoopOn h23 (h13.size+1) L .busy none:=loopOn_fr (loopOn_fr (loopOn_fr (loopOn_fr on18 n20.fr fun y=>y) d21.fr (by omega)) d22.fr (by omega)) d23.fr (by omega)
    refine ⟨on23,.inr ⟨rfl,.done,some .ret,setLoop_on (loopOn_lt on23) L _ _,by decide,?_⟩⟩
    have t24:=turned (loopOn_lt on23) L .done (some .ret)
    generalize setLoop h23 (h13.size+1) L .done (some .ret)=h24 at t24
    have z24:=t24.size
    refine pend_ret (setL_intro (by omega) fun h25 t25=>?_)
    have z25:=t25.size
    have f23:Fr (fun b=>b=h4.size∨b=h3.size∨b=h13.size+1) hb h25:=((((f20.mono fun b _ y=>by omega).trans d21.fr fun b _ y=>by omega).trans d22.fr fun b _ y=>by omega).trans d23.fr fun b _ y=>by omega).trans (t24.fr.trans t25.fr fun b _ y=>y) fun b _ y=>by omega
    refine endD_intro ((f23.same _ (by omega) (by omega)).trans d0) fun h26 z26 f26=>⟨_,rdc (show rd h26 h3.size=[.pointer (some ⟨h4.size,0,none⟩)] by rw [f26.rd (by omega) (by omega),t25.fr.rd (by omega) (by omega),t24.fr.rd (by omega) (by omega),d23.rd,q22]; rfl) rfl,?_⟩
    have F26:Fr No h h26:=(F0.trans f23 fun b hb y=>by omega).trans f26 fun b hb y=>by omega
    have r26:rd h26 h4.size=rdV t (geoN n) i R 0++(leafV k (leafM T (geoN n) R k).1.block ba bl bc (some a) cl cc++E.v (leafM T (geoN n) R k).1.cells[p]):=by
     rw [f26.rd (by omega) (by omega),t25.fr.rd (by omega) (by omega),t24.fr.rd (by omega) (by omega),d23.at_ (by omega) (by omega)]; exact r22
    have o26:Own h26 h4.size:=f26.own (by omega) (by omega) (t25.fr.own (by omega) (by omega) (t24.fr.own (by omega) (by omega) (d23.ow d22.own)))
    obtain ⟨c29,c0,c24,c25,c27⟩:=rdV_cells (t:=t) (g:=geoN n) (n:=i) (e:=0) lR (k:=k) (b:=(leafM T (geoN n) R k).1.block) (ba:=ba) (bl:=bl) (bc:=bc) (ca:=some a) (cl:=cl) (cc:=cc) (c:=(leafM T (geoN n) R k).1.cells[p])
    refine hK h26 h4.size ba bl bc F26 ⟨by omega,o26,by rw [r26]; exact rdV_e lR,by rw [r26]; exact c29,fun y hy=>?_⟩
    ·cases hy
     refine ⟨by rw [r26]; exact c0,by rw [r26]; exact c24,by rw [r26]; exact c25,by rw [r26]; exact c27,?_⟩
     ·have S:=((((((lf17.s.fr f18 fun _ _ _ y=>y).fr n20.fr fun _ _ _ y=>y).mono (G:=From hh.size) fun _ y=>y).fr d21.fr fun b _ hb y=>by have hb:hh.size≤b:=hb; omega).fr d22.fr fun b _ hb y=>by have hb:hh.size≤b:=hb; omega).fr d23.fr fun b _ hb y=>by have hb:hh.size≤b:=hb; omega)
      refine (((S.fr t24.fr fun b _ hb y=>?_).fr t25.fr fun b _ hb y=>?_).fr f26 fun b _ hb y=>?_).mono fun b hb=>?_
      ·have hb:hh.size≤b:=hb; omega
      ·have hb:hh.size≤b:=hb; omega
      ·have hb:hh.size≤b:=hb; omega
      ·have hb:hh.size≤b:=hb
       show h.size≤b∧b≠h4.size
       omega
   ·have l16:=leaf_len T (geoN n) R k
    rw [wrap_i64 (by omega) (by omega)]
    refine ⟨⟨p+1,by omega,by omega,f18.no n20.fr,?_⟩,falls hlt⟩
    rw [List.take_succ_eq_append_getElem hlt',List.find?_append,np,Option.none_or,List.find?_cons_of_neg (by rw [hne]; decide)]; rfl
  ·have:p=cl:=by omega
   subst this
   refine ⟨on18,.inl ⟨rfl,?_⟩⟩
   have t24:=turned (loopOn_lt on18) L .ready none
   generalize setLoop h18 (h13.size+1) L .ready none=h24 at t24
   refine ⟨(I17.no f18).fr t24.fr (by omega) (by omega) (fun b hb y=>by have:=xl b hb; omega) fun b hb y=>by omega,f18'.trans t24.fr fun b _ y => .inr y,t24.on,q,by omega,?_⟩
   rw [es]
   conv=>lhs; unfold seekGo
   rw [List.take_of_length_le (by omega)] at np
   rw [if_neg (fun y=>y he),show cellOfName (leafM T (geoN n) R k).1 s=none from np]
 ·-- it is nowhere
  obtain ⟨I,f,on,q,eq,es⟩:=J
  rw [hm] at eq es
  have:q=0:=by omega
  subst this
  exact fin hh 0 f on I.r I.ob (by rw [es,if_pos rfl]; rfl)
 ·-- an index that does not read
  obtain ⟨I,f,on,q,eq,es⟩:=J
  rw [hm] at hk
  obtain ⟨q,rfl⟩:∃ q',q=q'+1:=⟨q - 1,by omega⟩
  have zf:=f.size
  refine fin h' _ (f.trans f' fun b _ y => .inl y) (loopOn_fr on f' (by omega)) r' o' ?_
  rw [es,if_neg he]; unfold seekGo; rw [if_pos he]
end Go.Proofs.YtiapingedfnlnaaGreatDoor.Di
namespace Go.Proofs.YtiapingedfnlnaaGreatDoor.Di
open Go Go.Proofs Wx Hp W Ad Tm Spc Re Av Rg Ss
open Hd (ints)
open In (Glo ints_length ints_one)
open Ino (getM Cok getM_length)
open Bm (findM)
open Fi (blockM hv_yield getM_may cok)
open Sk (E nameOk)
theorem Find_spec {h:Heap} {F:Nat→Prop} {t d:Option Addr} {T:TM} {n:Nat} {i:Int} {s:Tm.Txt} {K:Value→Heap→Prop} (gl:In.Glo h) (dm:Dim n) (x:Tx h F t d T)
  (hK:∀ h',Fr No h h'→K (.tuple #[.int .i64 (findD T (geoN n) i s).1,.int .i64 (findD T (geoN n) i s).2]) h'):C.dir_Find t (geoN n).v i (mkStr s) h K:=by
 refine dir_Find.ok (New.intro fun h2 n2=>⟨(geoN n).v,rfl,cellsAll n2.rd,find_spec (gl.no n2.fr) dm (x.no n2.fr) fun h3 fb ba bl bc f3 A=>⟨_,rfl,os ⟨_,rdaa rfl A.ino,os ⟨_,rdaa rfl A.e,hK h3 (n2.fr.no f3)⟩⟩⟩⟩)
theorem has_spec {h:Heap} {g:G} {i:Int} {K:Value→Heap→Prop} (hK:∀ h',Fr No h h'→K (.bool (hasI g i)) h'):C.dir_has g.v i h K:=by
 refine dir_has.ok (New.intro fun h2 n2=>cd (fun h1=>⟨_,rda n2.rd rfl,?_⟩) fun h1=>?_)
 ·have:hasI g i=decide (i<g.count):=by unfold hasI; rw [decide_eq_true (show 1≤i from h1),Bool.true_and]
  rw [this] at hK; exact hK h2 n2.fr
 ·have:hasI g i=false:=by unfold hasI; rw [decide_eq_false (show ¬ 1≤i from h1),Bool.false_and]
  rw [this] at hK; exact hK h2 n2.fr
theorem seek_hit {T:TM} {g:G} {n:Int} {s:Tm.Txt} {x:Leaf×E} (h:(seekM T g n s).1=some x):(seekM T g n s).2=0∧x.1.bytes.length=512:=by
 unfold seekM at h ⊢
 split at h
 ·cases h
 ·rename_i y
  rw [if_neg y]
  split at h
  ·cases h
  ·rename_i z
   rw [if_neg z]
   obtain ⟨a,_,b,j,_,_,e,_⟩:=seekGo_some _ _ _ h
   refine ⟨a,?_⟩
   rw [e] at b ⊢
   have b:x.2 ∈ (ans (blockM T g (openM T g n).1 j).1).1:=b
   show (blockM T g (openM T g n).1 j).1.length=512
   unfold ans at b
   split at b
   ·cases b
   ·rename_i w; exact Classical.byContradiction w
theorem seek_none {T:TM} {g:G} {n:Int} {s:Tm.Txt} (h:(seekM T g n s).1=none):(seekM T g n s).2≠0:=by
 unfold seekM at h ⊢
 split at h
 ·rename_i y; rw [if_pos y]; show (1:Int)≠0; decide
 ·rename_i y
  rw [if_neg y]
  split at h
  ·rename_i z; rw [if_pos z]; exact z
  ·rename_i z; rw [if_neg z]; exact seekGo_none _ _ h
theorem fput_spec {hh:Heap} {F:Nat→Prop} {t d:Option Addr} {T:TM} {fb:Nat} {x:Leaf×E} {e:Int} {bs:Tm.Txt} {ba:Option Addr} {bl bc:Nat} {K:Value→Heap→Prop} (X:Tx hh F t d T) (c0:(rd hh fb)[0]?=some (.pointer t)) (c24:(rd hh fb)[24]?=some (.int .i64 x.1.block)) (c25:(rd hh fb)[25]?=some (.slice ba bl bc)) (c29:(rd hh fb)[29]?=some (.int .i64 x.2.inode))
  (nf:¬ F fb) (B:StrAt hh ba bl bs) (hl:bl≤140737488355328) (ha:∀ p,ba=some p→¬ F p.block) (hu:T.undo.length<1000000000)
  (hK:∀ h' F',Fr F hh h'→Gw hh F h' F'→Tx h' F' t d (putD T x (e,bs)).1→K (.tuple #[.int .i64 (putD T x (e,bs)).2.1,.int .i64 (putD T x (e,bs)).2.2]) h'):C.dir_finder_put (some ⟨fb,0,none⟩) e hh K:=by
 refine dir_finder_put.ok (ce (fun he=>os ⟨_,rdaa rfl c0,os ⟨_,rdaa rfl c24,os ⟨_,_,_,rdaa rfl c25,Tm.Write_spec X B hl ha hu fun h2 F2 f2 g2 X2=>⟨_,rfl,?_⟩⟩⟩⟩) fun he=>?_)
 ·have e0:putD T x (e,bs)=if (T.write x.1.block bs).2≠0 then ((T.write x.1.block bs).1,0,(T.write x.1.block bs).2) else ((T.write x.1.block bs).1,x.2.inode,0):=by unfold putD; rw [if_neg (fun y=>y he)]
  rw [e0] at hK
  unfold dir_finder_put.k1
  have hb:fb<hh.size:=rd_lt c0
  refine cn (fun hw=>?_) fun hw=>os ⟨_,rdaa (f2.rd hb nf) c29,?_⟩
  ·rw [if_pos hw] at hK; exact hK h2 F2 f2 g2 X2
  ·rw [if_neg (fun y=>y hw)] at hK; exact hK h2 F2 f2 g2 X2
 ·have e0:putD T x (e,bs)=(T,0,e):=by unfold putD; rw [if_pos he]
  rw [e0] at hK
  unfold dir_finder_put.k1
  exact ct (by simpa using he) (hK hh F (Fr.refl _ _) (Gw.refl (Nat.le_refl _) fun b hb=>X.lt hb) X)
theorem cell_put {h h3:Heap} {F:Nat→Prop} {t d:Option Addr} {T:TM} {x:Leaf×E} {fb b o bl bc:Nat} {r:Int×Tm.Txt} {K:Value→Heap→Prop} (X:Tx h F t d T) (f3:Fr No h h3) {q:Option (Leaf×E)×Int} (A:Fnd h h3 t fb q (some ⟨b,o,none⟩) bl bc) (hq:q.1=some x) (hx:x.1.bytes.length=512) (hr:r.2.length=512) (hu:T.undo.length<1000000000) {h4:Heap} (w4:Wrote b h3 h4 (put (rd h3 b) o (r.2.map bv)))
  (hK:∀ h' F',Fr F h h'→Gw h F h' F'→Tx h' F' t d (putD T x r).1→K (.tuple #[.int .i64 (putD T x r).2.1,.int .i64 (putD T x r).2.2]) h') :
  C.dir_finder_put (some ⟨fb,0,none⟩) r.1 h4 fun r5 h7=>∃ (n6:Int) (n7:Int),r5 = .tuple #[.int .i64 n6,.int .i64 n7]∧K (.tuple #[.int .i64 n6,.int .i64 n7]) h7:=by
 obtain ⟨c0,c24,c25,c27,S⟩:=A.hit x hq
 have hb:h.size≤b∧b≠fb:=S.2.2.1
 have hlt:=S.wr.1.lt
 have S4:=Ss.Sl.all S (bs':=r.2) (by rw [hr,hx]) w4
 have r4:rd h4 fb=rd h3 fb:=w4.fr.rd A.ow.lt (fun y=>hb.2 y.symm)
 have lo:=A.lo
 have ino:=A.ino
 rw [hq] at ino
 have xl:∀ b,F b→b<h.size:=fun b hb=>X.lt hb
 have X4:Tx h4 F t d T:=(X.no f3).fr w4.fr fun y hy e=>by have:=xl y hy; omega
 have l4:=S4.str.1
 rw [hr] at l4
 refine fput_spec (x:=x) (bs:=r.2) X4 (by rw [r4]; exact c0) (by rw [r4]; exact c24) (by rw [r4]; exact c25) (by rw [r4]; exact ino) (fun y=>by have:=xl _ y; omega) S4.str (by omega) (fun p hp y=>by cases hp; have y:F b:=y; have:=xl b y; omega) hu fun h5 F5 f5 g5 X5=>⟨_,_,rfl,?_⟩
 have hs3:=f3.size
 have hs4:=w4.fr.size
 refine hK h5 F5 (((f3.mono fun _ _ y=>y.elim).trans w4.fr fun y hy e=>by omega).trans f5 fun _ _ y=>y) ?_ X5
 exact (Gw.refl (show h.size≤h4.size by omega) fun b hb=>xl b hb).trans g5 (by omega)
theorem Remove_spec {h:Heap} {F:Nat→Prop} {t d:Option Addr} {T:TM} {n:Nat} {i:Int} {s:Tm.Txt} {K:Value→Heap→Prop} (gl:In.Glo h) (dm:Dim n) (x:Tx h F t d T) (hu:T.undo.length<1000000000)
  (hK:∀ h' F',Fr F h h'→Gw h F h' F'→Tx h' F' t d (removeD T (geoN n) i s).1→K (.tuple #[.int .i64 (removeD T (geoN n) i s).2.1,.int .i64 (removeD T (geoN n) i s).2.2]) h'):C.dir_Remove t (geoN n).v i (mkStr s) h K:=by
 refine dir_Remove.ok (New.intro fun h2 n2=>⟨(geoN n).v,rfl,cellsAll n2.rd,find_spec (gl.no n2.fr) dm (x.no n2.fr) fun h3 fb ba bl bc f3 A=>⟨_,rfl,os ⟨_,rdaa rfl A.e,cn (fun he=>os ⟨_,rdaa rfl A.e,?_⟩) fun he=>?_⟩⟩⟩)
 ·have e0:removeD T (geoN n) i s=(T,0,(seekM T (geoN n) i s).2):=by
   unfold removeD
   cases hs:(seekM T (geoN n) i s).1 with
   | none=>rfl
   | some x=>exact absurd (seek_hit hs).1 he
  rw [e0] at hK
  exact hK h3 F ((n2.fr.no f3).mono fun _ _ y=>y.elim) (Gw.refl (n2.fr.no f3).size fun b hb=>x.lt hb) (x.no (n2.fr.no f3))
 ·cases hs:(seekM T (geoN n) i s).1 with
  | none=>exact absurd he (seek_none hs)
  | some y =>
   have e0:removeD T (geoN n) i s=putD T y (clrA y.1.bytes y.2.place):=by unfold removeD; rw [hs]
   rw [e0] at hK
   obtain ⟨_,l512⟩:=seek_hit hs
   obtain ⟨c0,c24,c25,c27,S⟩:=A.hit y hs
   have hsz:=n2.size
   cases ba with
   | none=>have:=S.str.1; have l0:bl=0:=S.2.1; omega
   | some p =>
    have ep:=S.mk
    obtain ⟨b,o,sp⟩:=p
    have ep:sp=none:=S.2.1
    subst ep
    refine os ⟨_,_,_,rdaa rfl c25,os ⟨_,rdaa rfl c27,Ss.Clear_spec S fun h4 w4=>⟨_,rfl,?_⟩⟩⟩
    refine cell_put (r:=clrA y.1.bytes y.2.place) (x.no n2.fr) f3 A hs l512 (by rw [clrA_length]; exact l512) hu w4 fun h5 F5 f5 g5 X5=>?_
    exact hK h5 F5 ((n2.fr.mono fun _ _ y=>y.elim).trans f5 fun _ _ y=>y) ((Gw.refl (show h.size≤h2.size by omega) fun b hb=>x.lt hb).trans g5 (by omega)) X5
theorem Replace_spec {h:Heap} {F:Nat→Prop} {t d:Option Addr} {T:TM} {n:Nat} {i v:Int} {s:Tm.Txt} {K:Value→Heap→Prop} (gl:In.Glo h) (dm:Dim n) (x:Tx h F t d T) (hu:T.undo.length<1000000000)
  (hK:∀ h' F',Fr F h h'→Gw h F h' F'→Tx h' F' t d (replaceD T (geoN n) i s v).1→K (.tuple #[.int .i64 (replaceD T (geoN n) i s v).2.1,.int .i64 (replaceD T (geoN n) i s v).2.2]) h'):C.dir_Replace t (geoN n).v i (mkStr s) v h K:=by
 have same:∀ h' e,Fr No h h'→replaceD T (geoN n) i s v=(T,0,e)→K (.tuple #[.int .i64 0,.int .i64 e]) h':=fun h' e f e0=>by
  rw [e0] at hK
  exact hK h' F (f.mono fun _ _ y=>y.elim) (Gw.refl f.size fun b hb=>x.lt hb) (x.no f)
 refine dir_Replace.ok (New.intro fun h2 n2=>Ch.Name_spec fun h3 f3=>⟨_,rfl,cnot ?_⟩)
 have F3:=n2.fr.no f3
 refine cs (fun hn=>?_) fun hn=>same h3 1 F3 (by unfold replaceD; rw [if_pos hn])
 have g3:=(f3.rd n2.own.lt fun y=>y).trans n2.rd
 refine ⟨(geoN n).v,rfl,cellsAll g3,has_spec fun h4 f4=>⟨_,rfl,cnot ?_⟩⟩
 have F4:=F3.no f4
 refine cs (fun hh=>?_) fun hh=>same h4 110 F4 (by unfold replaceD; rw [if_neg (by rw [hn]; decide),if_pos hh])
 have z2:=n2.size
 have z3:=f3.size
 have e0:replaceD T (geoN n) i s v=match (seekM T (geoN n) i s).1 with
  | some x=>putD T x (putA x.1.bytes ⟨x.2.place,s,v⟩)
  | none=>(T,0,(seekM T (geoN n) i s).2):=by
  unfold replaceD
  rw [if_neg (by rw [hn]; decide),if_neg (by rw [hh]; decide)]
  cases (seekM T (geoN n) i s).1 <;> rfl
 refine ⟨(geoN n).v,rfl,cellsAll ((f4.rd (by omega) fun y=>y).trans g3),find_spec (gl.no F4) dm (x.no F4) fun h5 fb ba bl bc f5 A=>⟨_,rfl,os ⟨_,rdaa rfl A.e,cn (fun he=>os ⟨_,rdaa rfl A.e,same h5 _ (F4.no f5) ?_⟩) fun he=>?_⟩⟩⟩
 ·rw [e0]
  cases hs:(seekM T (geoN n) i s).1 with
  | none=>rfl
  | some x=>exact absurd (seek_hit hs).1 he
 ·cases hs:(seekM T (geoN n) i s).1 with
  | none=>exact absurd he (seek_none hs)
  | some y =>
   rw [hs] at e0
   have e0:replaceD T (geoN n) i s v=putD T y (putA y.1.bytes ⟨y.2.place,s,v⟩):=e0
   rw [e0] at hK
   obtain ⟨_,l512⟩:=seek_hit hs
   obtain ⟨c0,c24,c25,c27,S⟩:=A.hit y hs
   have hs4:=F4.size
   have gl1:=gl.lt
   cases ba with
   | none=>have:=S.str.1; have l0:bl=0:=S.2.1; omega
   | some p =>
    obtain ⟨b,o,sp⟩:=p
    have ep:sp=none:=S.2.1
    subst ep
    have hb:h4.size≤b∧b≠fb:=S.2.2.1
    refine os ⟨_,_,_,rdaa rfl c25,os ⟨_,rdaa rfl c27,Ss.Put_spec (e:=⟨y.2.place,s,v⟩) (gl.no (F4.no f5)) (by omega) S fun h6 w6=>⟨_,rfl,?_⟩⟩⟩
    refine cell_put (r:=putA y.1.bytes ⟨y.2.place,s,v⟩) (x.no F4) f5 A hs l512 (by rw [putA_length]; exact l512) hu w6 fun h7 F7 f7 g7 X7=>?_
    exact hK h7 F7 ((F4.mono fun _ _ y=>y.elim).trans f7 fun _ _ y=>y) ((Gw.refl hs4 fun b hb=>x.lt hb).trans g7 (by omega)) X7
end Go.Proofs.YtiapingedfnlnaaGreatDoor.Di
namespace Go.Proofs.YtiapingedfnlnaaGreatDoor.Di
open Go Go.Proofs Wx Hp W Ad Tm Spc Re Av Rg Ss
open Hd (ints)
open In (Glo ints_length ints_one pairs15)
open Ino (getM putM Cok getM_length)
open Bm (findM addM setM walkA write_un addM_un)
open Fi (blockM hv_yield getM_may cok addM_length undoM putM_un)
open Sk (E nameOk)
theorem set_two (R:List Int) {i:Nat} (v:Int) (h:i≠2):(R.set i v).getD 2 0=R.getD 2 0:=by
 rw [List.getD_eq_getElem?_getD,List.getElem?_set_ne h,← List.getD_eq_getElem?_getD]
theorem setM_two (T:TM) (R:List Int) (s:Nat×Nat) (a:Int) (b:Tm.Txt) (v:Int):(setM T R s a b v).1.2.getD 2 0=R.getD 2 0:=by
 unfold setM
 split
 ·exact set_two R v (by omega)
 ·split
  ·exact set_two R v (by decide)
  ·split
   ·exact set_two R v (by decide)
   ·rfl
theorem walkA_two (g:G):∀ (l:List (Nat×Nat)) (T:TM) (R:List Int) (a:Int),(walkA g l T R a).1.2.getD 2 0=R.getD 2 0
 | [],_,_,_=>rfl
 | s::r,T,R,a=>by
  unfold walkA
  split
  ·rfl
  ·split
   ·split
    ·rfl
    ·exact walkA_two g r T R _
   ·split
    ·rfl
    ·split
     ·exact setM_two ..
     ·split
      ·exact setM_two ..
      ·split
       ·exact setM_two ..
       ·rw [walkA_two g r]; exact setM_two ..
theorem addM_two {T:TM} {g:G} {R:List Int} {k:Int} (h:(addM T g R k).2.2.2=0):(addM T g R k).2.1.getD 2 0=R.getD 2 0:=by
 unfold addM at h ⊢
 split
 ·rename_i y; rw [if_pos y] at h; exact absurd (show (101:Int)=0 from h) (by decide)
 ·rename_i y
  rw [if_neg y] at h
  split
  ·rename_i z; rw [if_pos z] at h; exact absurd h z
  ·exact walkA_two g _ T R 0
def addTail (T1:TM) (g:G) (n:Int) (R Y:List Int) (v e place:Int) (s:Tm.Txt) (i:Int):TM×Int :=
 if e≠0 then (T1,e) else
 if (T1.read v).2≠0 then (T1,(T1.read v).2) else
 if (putA (T1.read v).1 ⟨max place 0,s,i⟩).1≠0 then (T1,(putA (T1.read v).1 ⟨max place 0,s,i⟩).1) else
 if (T1.write v (putA (T1.read v).1 ⟨max place 0,s,i⟩).2).2≠0 then T1.write v (putA (T1.read v).1 ⟨max place 0,s,i⟩).2 else
 if (if place<0 then Y.set 2 (Y.getD 2 0+512) else Y)=R then ((T1.write v (putA (T1.read v).1 ⟨max place 0,s,i⟩).2).1,0) else
  putM (T1.write v (putA (T1.read v).1 ⟨max place 0,s,i⟩).2).1 g n (if place<0 then Y.set 2 (Y.getD 2 0+512) else Y)
theorem addAt_tail (T:TM) (g:G) (n:Int) (R:List Int) (index place:Int) (s:Tm.Txt) (i:Int):addAt T g n R index place s i=addTail (addM T g R index).1 g n R (addM T g R index).2.1 (addM T g R index).2.2.1 (addM T g R index).2.2.2 place s i:=rfl
theorem addTail_un {T1:TM} {g:G} {n:Int} {R Y:List Int} {v e place:Int} {s:Tm.Txt} {i:Int}:(addTail T1 g n R Y v e place s i).1.undo.length≤T1.undo.length+2:=by
 have w:=write_un T1 v (putA (T1.read v).1 ⟨max place 0,s,i⟩).2
 have p:=fun X=>putM_un (T:=(T1.write v (putA (T1.read v).1 ⟨max place 0,s,i⟩).2).1) (g:=g) (n:=n) (R:=X)
 unfold addTail
 generalize (if place<0 then Y.set 2 (Y.getD 2 0+512) else Y)=Z
 split
 ·exact Nat.le_add_right _ _
 ·split
  ·exact Nat.le_add_right _ _
  ·split
   ·exact Nat.le_add_right _ _
   ·split
    ·omega
    ·split
     ·show (T1.write v (putA (T1.read v).1 ⟨max place 0,s,i⟩).2).1.undo.length≤_; omega
     ·have:=p Z; omega
theorem cellsEq_ints : ∀ {R S:List Int},R.length=S.length→cellsEq (ints R) (ints S)=decide (R=S)
 | [],[],_=>rfl
 | [],_::_,h=>by cases h
 | _::_,[],h=>by cases h
 | a::r,b::s,h=>by
  have ih:=cellsEq_ints (R:=r) (S:=s) (Nat.succ.inj h)
  show ((a == b) && cellsEq (ints r) (ints s))=_
  rw [ih,Bool.eq_iff_iff,Bool.and_eq_true,beq_iff_eq,decide_eq_true_eq,decide_eq_true_eq,List.cons.injEq]
theorem cellsEq15 {R S:List Int} (hR:R.length=15) (hS:S.length=15):cellsEq (ints R) (ints S)=decide (R=S):=cellsEq_ints (hR.trans hS.symm)
theorem radd_k1 {h hh:Heap} {F:Nat→Prop} {t d:Option Addr} {T1:TM} {n:Nat} {i v e place inode:Int} {R Y:List Int} {s:Tm.Txt} {rb yb:Nat} {rest:List Value} {K:Value→Heap→Prop} (gl:In.Glo hh) (dm:Dim n) (X:Tx hh F t d T1) (g0:∀ b,b<1→¬ F b) (hR:R.length=15) (hY:Y.length=15) (hs:e=0 → -9223372036854775808≤Y.getD 2 0∧Y.getD 2 0≤9223372036854000000) (hu:T1.undo.length<900000000)
  (rr:rd hh rb=rdV t (geoN n) i R 0++rest) (nr:¬ F rb) (ry:rd hh yb=ints Y) (oy:Own hh yb) (ny:¬ F yb) (rc:rd hh h.size=E.v ⟨0,s,inode⟩) (oc:Own hh h.size) (nc:¬ F h.size) (h1:rb<h.size) (h2:h.size<yb) (h3:1≤rb)
  (hK:∀ h' F',Fr (fun b=>F b∨b=h.size∨b=yb) hh h'→Gw hh F h' F'→Tx h' F' t d (addTail T1 (geoN n) i R Y v e place s inode).1→K (.int .i64 (addTail T1 (geoN n) i R Y v e place s inode).2) h') :
  dir_reader_add.k1 (some ⟨rb,0,none⟩) place h (some ⟨yb,0,none⟩) v e hh K:=by
 have xl:∀ b,F b→b<hh.size:=fun b hb=>X.lt hb
 have yl:=oy.lt
 have gl1:=gl.lt
 unfold dir_reader_add.k1
 refine cn (fun he=>?_) fun he=>?_
 ·have e0:addTail T1 (geoN n) i R Y v e place s inode=(T1,e):=by unfold addTail; rw [if_pos he]
  rw [e0] at hK
  exact hK hh F (Fr.refl _ _) (Gw.refl (Nat.le_refl _) xl) X
 refine os ⟨t,rda rr rfl,Tm.Read_spec X fun a l c h7 f7 hl S7=>⟨_,_,_,_,rfl,?_⟩⟩
 have z7:=f7.size
 refine cn (fun hr=>?_) fun hr=>?_
 ·have e0:addTail T1 (geoN n) i R Y v e place s inode=(T1,(T1.read v).2):=by unfold addTail; rw [if_neg (fun y=>y he),if_pos hr]
  rw [e0] at hK
  exact hK h7 F (f7.mono fun _ _ y=>y.elim) (Gw.refl f7.size xl) (X.no f7)
 have l512:=Tx.readLen X hr
 have rc7:=(f7.rd oc.lt fun y=>y).trans rc
 refine Put.add (f7.own oc.lt (fun y=>y) oc) (by rw [rc7]; show 0<3; decide) fun h8 d8=>?_
 have z8:=d8.size
 have e1:(if (0:Int)>place then 0 else place)=max place 0:=by split <;> omega
 have rc8:rd h8 h.size=E.v ⟨max place 0,s,inode⟩:=by rw [d8.rd,rc7,e1]; rfl
 cases a with
 | none=>have l0:l=0:=S7.2.1; omega
 | some p =>
  obtain ⟨b,o,sp⟩:=p
  have ep:sp=none:=S7.2.1
  subst ep
  have hb:hh.size≤b:=S7.2.2.1
  have gl8:In.Glo h8:=(gl.no f7).fr d8.fr fun b hb y=>by omega
  have S8:=S7.fr d8.fr fun b _ hb y=>by have hb:hh.size≤b:=hb; have:=oc.lt; omega
  refine ⟨_,rfl,cellsAll rc8,Ss.Put_spec (e:=⟨max place 0,s,inode⟩) gl8 (by omega) S8 fun h9 w9=>⟨_,rfl,?_⟩⟩
  have z9:=w9.fr.size
  have X8:Tx h8 F t d T1:=(X.no f7).fr d8.fr fun y hy e=>nc (e▸hy)
  have X9:Tx h9 F t d T1:=X8.fr w9.fr fun y hy e=>by have:=xl y hy; omega
  have F9:Fr (fun b=>F b∨b=h.size∨b=yb) hh h9:=((f7.mono fun _ _ y=>y.elim).did d8 fun _ => .inr (.inl rfl)).trans w9.fr fun y hy e=>by omega
  refine cn (fun hp=>?_) fun hp=>?_
  ·have e0:addTail T1 (geoN n) i R Y v e place s inode=(T1,(putA (T1.read v).1 ⟨max place 0,s,inode⟩).1):=by unfold addTail; rw [if_neg (fun y=>y he),if_neg (fun y=>y hr),if_pos hp]
   rw [e0] at hK
   exact hK h9 F F9 (Gw.refl (by omega) xl) X9
  have keep:∀ b',b'<hh.size→b'≠h.size→rd h9 b'=rd hh b'∧(Own hh b'→Own h9 b'):=fun b' hb1 hb2 =>
   ⟨(w9.fr.rd (by omega) (by omega)).trans ((d8.at_ (by omega) hb2).trans (f7.rd hb1 fun y=>y)),fun o=>w9.fr.own (by omega) (by omega) (d8.ow (f7.own hb1 (fun y=>y) o))⟩
  have ocl:=oc.lt
  have rr9:=(keep rb (by omega) (by omega)).1.trans rr
  have ry9:=(keep yb yl (by omega)).1.trans ry
  have oy9:=(keep yb yl (by omega)).2 oy
  have S9:=Ss.Sl.all S8 (bs':=(putA (T1.read v).1 ⟨max place 0,s,inode⟩).2) (by rw [putA_length]) w9
  have lb9:=S9.str.1
  rw [putA_length,l512] at lb9
  refine os ⟨t,rda rr9 rfl,Tm.Write_spec X9 S9.str (by omega) (fun p hp y=>by cases hp; have y:F b:=y; have:=xl b y; omega) (by omega) fun h10 F10 f10 g10 X10=>⟨_,rfl,?_⟩⟩
  have z10:=f10.size
  have G10:Gw hh F h10 F10:=(Gw.refl (show hh.size≤h9.size by omega) xl).trans g10 (by omega)
  have F10':Fr (fun b=>F b∨b=h.size∨b=yb) hh h10:=F9.trans f10 fun b hb y => .inl y
  refine cn (fun hw=>?_) fun hw=>?_
  ·have e0:addTail T1 (geoN n) i R Y v e place s inode=T1.write v (putA (T1.read v).1 ⟨max place 0,s,inode⟩).2:=by unfold addTail; rw [if_neg (fun y=>y he),if_neg (fun y=>y hr),if_neg (fun y=>y hp),if_pos hw]
   rw [e0] at hK
   exact hK h10 F10 F10' G10 X10
  have ny9:¬ F yb:=ny
  have ry10:=(f10.rd oy9.lt ny).trans ry9
  have oy10:Own h10 yb:=f10.own oy9.lt ny oy9
  have rr10:=(f10.rd (b:=rb) (by omega) nr).trans rr9
  have un:=write_un T1 v (putA (T1.read v).1 ⟨max place 0,s,inode⟩).2
  have gl9:In.Glo h9:=gl8.fr w9.fr fun b' hb' e=>by omega
  have gl10:In.Glo h10:=gl9.fr f10 g0
  have ny10:¬ F10 yb:=fun y=>ny ((G10.old yb yl).mp y)
  -- the record is put, if it is another one
  have k2:∀ (h12:Heap) (Z:List Int),Z.length=15→Z=(if place<0 then Y.set 2 (Y.getD 2 0+512) else Y)→Fr (fun b=>b=yb) h10 h12→h12.size=h10.size→rd h12 yb=ints Z→dir_reader_add.k2 (some ⟨rb,0,none⟩) (some ⟨yb,0,none⟩) h12 K:=by
   intro h12 Z lZ eZ f12 z12 r12
   have rr12:=(f12.rd (b:=rb) (by omega) (by omega)).trans rr10
   have X12:Tx h12 F10 t d (T1.write v (putA (T1.read v).1 ⟨max place 0,s,inode⟩).2).1:=X10.fr f12 fun y hy e=>ny10 (e▸hy)
   have F12:Fr (fun b=>F b∨b=h.size∨b=yb) hh h12:=F10'.trans f12 fun b hb y => .inr (.inr y)
   have G12:Gw hh F h12 F10:=G10.trans (Gw.refl (by omega) fun b hb=>X10.lt hb) (by omega)
   unfold dir_reader_add.k2
   refine os ⟨_,by rw [ints_length,lZ],cellsAll r12,os ⟨ints R,by rw [ints_length,hR],cellsa rr12 (by rw [ints_length,hR]; exact rdV_R hR),pairs15 lZ hR,?_⟩⟩
   rw [cellsEq15 lZ hR]
   refine cd (fun hz=>?_) fun hz=>?_
   ·have e0:addTail T1 (geoN n) i R Y v e place s inode=((T1.write v (putA (T1.read v).1 ⟨max place 0,s,inode⟩).2).1,0):=by unfold addTail; rw [if_neg (fun y=>y he),if_neg (fun y=>y hr),if_neg (fun y=>y hp),if_neg (fun y=>y hw),if_pos (by rw [← eZ]; exact hz)]
    rw [e0] at hK
    exact hK h12 F10 F12 G12 X12
   ·have e0:addTail T1 (geoN n) i R Y v e place s inode=putM (T1.write v (putA (T1.read v).1 ⟨max place 0,s,inode⟩).2).1 (geoN n) i Z:=by unfold addTail; rw [if_neg (fun y=>y he),if_neg (fun y=>y hr),if_neg (fun y=>y hp),if_neg (fun y=>y hw),← eZ,if_neg hz]
    rw [e0] at hK
    have gl12:In.Glo h12:=gl10.fr f12 fun b hb y=>by omega
    refine os ⟨t,rda rr12 rfl,os ⟨(geoN n).v,rfl,cellsa rr12 rdV_g,os ⟨_,rda rr12 rfl,os ⟨_,by rw [ints_length,lZ],cellsAll r12,Ino.Put_spec gl12 X12 (cok dm) lZ (by omega) fun h13 F13 f13 g13 X13=>⟨_,rfl,?_⟩⟩⟩⟩⟩
    have z13:=f13.size
    refine hK h13 F13 (F12.trans f13 fun b hb y => .inl ((G10.old b hb).mp y)) (G12.trans g13 (by omega)) X13
  refine cd (fun hpl=>?_) fun hpl=>?_
  ·obtain ⟨s0,s1⟩:=hs he
   refine os ⟨_,rda ry10 (Fi.ints_at (by rw [hY]; decide)),os (Put.add oy10 (by rw [ry10,ints_length,hY]; decide) fun h11 d11=>?_)⟩
   have z11:=d11.size
   have eg:Y.getD (0+2) 0=Y.getD 2 0:=rfl
   refine k2 h11 (Y.set 2 (Y.getD 2 0+512)) (by rw [List.length_set,hY]) (by rw [if_pos hpl]) d11.fr z11 ?_
   rw [d11.rd,ry10,eg,wrap_i64 (by omega) (by omega)]
   exact Fi.ints_set
  ·exact k2 h10 Y hY (by rw [if_neg hpl]) (Fr.refl _ _) rfl ry10
theorem radd_spec {h:Heap} {F:Nat→Prop} {t d:Option Addr} {T:TM} {n:Nat} {i index place inode:Int} {R:List Int} {s:Tm.Txt} {rb:Nat} {rest:List Value} {K:Value→Heap→Prop} (gl:In.Glo h) (dm:Dim n) (X:Tx h F t d T) (live:T.over=false) (g0:∀ b,b<1→¬ F b) (hR:R.length=15) (hs0:0≤R.getD 2 0) (hs1:R.getD 2 0≤8459264) (hu:T.undo.length<600000000)
  (rr:rd h rb=rdV t (geoN n) i R 0++rest) (lb:rb<h.size) (nr:¬ F rb) (b1:1≤rb)
  (hK:∀ h' F',Fr F h h'→Gw h F h' F'→Tx h' F' t d (addAt T (geoN n) i R index place s inode).1→K (.int .i64 (addAt T (geoN n) i R index place s inode).2) h') :
  C.dir_reader_add (some ⟨rb,0,none⟩) index place [.int .i64 0,.string (mkStr s),.int .i64 inode] h K:=by
 have xl:∀ b,F b→b<h.size:=fun b hb=>X.lt hb
 rw [addAt_tail] at hK
 have lY:=addM_length (T:=T) (g:=geoN n) (k:=index) hR
 have un:=addM_un (T:=T) (g:=geoN n) (R:=R) (k:=index)
 have hs:(addM T (geoN n) R index).2.2.2=0 → -9223372036854775808≤(addM T (geoN n) R index).2.1.getD 2 0∧(addM T (geoN n) R index).2.1.getD 2 0≤9223372036854000000:=fun e=>by
  rw [addM_two e]; omega
 refine dir_reader_add.ok (New.intro fun h2 n2=>?_)
 have z2:=n2.size
 have rr2:=(n2.at_ lb).trans rr
 have gl2:=gl.no n2.fr
 have X2:=X.no n2.fr
 refine os ⟨t,rda rr2 rfl,os ⟨(geoN n).v,rfl,cellsa rr2 rdV_g,os ⟨ints R,by rw [ints_length,hR],cellsa rr2 (by rw [ints_length,hR]; exact rdV_R hR),?_,?_⟩⟩⟩
 ·-- bmap's Add ahead of the record's own block
  refine Bm.Add_spec gl2 dm X2 live hR g0 (by omega) fun h3 F3 f3 g3 X3=>⟨_,_,_,rfl,New.intro fun h4 n4=>?_⟩
  have z3:=f3.size
  have z4:=n4.size
  have rr4:=(n4.at_ (c:=rb) (by omega)).trans ((f3.rd (by omega) nr).trans rr2)
  refine ⟨rda rr4 rfl,⟨rfl,cellsa rr4 rdV_g⟩,⟨by rw [ints_length,hR],cellsa rr4 (by rw [ints_length,hR]; exact rdV_R hR)⟩,PutRow.intro n4.own (by rw [ints_length,lY]) (ints_one _) (by rw [n4.rd]; exact Nat.le_refl _) fun h5 d5=>?_⟩
  have z5:=d5.size
  have ny:¬ F3 h3.size:=fun y=>by have:=X3.lt y; omega
  have nr3:¬ F3 rb:=fun y=>nr ((g3.old rb (by omega)).mp y)
  have nc3:¬ F3 h.size:=fun y=>by have:=(g3.old h.size (by omega)).mp y; have:=xl _ this; omega
  have gl3:In.Glo h3:=gl2.fr f3 g0
  have g03:∀ b,b<1→¬ F3 b:=fun b hb y=>g0 b hb ((g3.old b (by have:=gl2.lt; omega)).mp y)
  have gl5:In.Glo h5:=(gl3.no n4.fr).fr d5.fr fun b hb y=>by have:=gl3.lt; omega
  refine radd_k1 (h:=h) (yb:=h3.size) (s:=s) (inode:=inode) gl5 dm ((X3.no n4.fr).fr d5.fr fun b hb y=>ny (y▸hb)) g03 hR lY hs (by omega) ((d5.at_ (by omega) (by omega)).trans rr4) nr3 ?_ d5.own ny ?_ ?_ nc3 lb (by omega) b1 fun h' F' f' g' X'=>?_
  ·rw [d5.rd,n4.rd]; exact put_all _ _ (by rw [ints_length,lY]; rfl)
  ·rw [d5.at_ (by omega) (by omega),n4.at_ (by omega),f3.rd (by omega) fun y=>by have:=xl _ y; omega,n2.rd]; rfl
  ·exact d5.ow (n4.ow (f3.own (by omega) (fun y=>by have:=xl _ y; omega) n2.own))
  ·have F5:Fr F h h5:=(((n2.fr.mono fun _ _ y=>y.elim).trans f3 fun _ _ y=>y).new n4).did d5 fun hl=>by omega
   have G5:Gw h F h5 F3:=(((Gw.refl (show h.size≤h2.size by omega) xl).trans g3 (by omega)).trans (Gw.refl (show h3.size≤h5.size by omega) fun b hb=>X3.lt hb) (by omega))
   exact hK h' F' (F5.trans f' fun b hb y=>by
    rcases y with y|y|y
    ·exact (G5.old b hb).mp y
    ·omega
    ·omega) (G5.trans g' (by omega)) X'
 ·-- the record's own block first
  refine New.intro fun h14 n14=>?_
  have z14:=n14.size
  have rr14:=(n14.at_ (c:=rb) (by omega)).trans rr2
  refine ⟨rda rr14 rfl,⟨rfl,cellsa rr14 rdV_g⟩,⟨by rw [ints_length,hR],cellsa rr14 (by rw [ints_length,hR]; exact rdV_R hR)⟩,Bm.Add_spec (gl2.no n14.fr) dm (X2.no n14.fr) live hR g0 (by omega) fun h15 F15 f15 g15 X15=>⟨_,_,_,rfl,?_⟩⟩
  have z15:=f15.size
  have ny0:¬ F h2.size:=fun y=>by have:=xl _ y; omega
  have r15:rd h15 h2.size=z123:=(f15.rd (by omega) ny0).trans n14.rd
  have o15:Own h15 h2.size:=f15.own (by omega) ny0 n14.own
  refine PutRow.intro o15 (by rw [ints_length,lY]) (ints_one _) (by rw [r15]; exact Nat.le_refl _) fun h16 d16=>?_
  have z16:=d16.size
  have ny:¬ F15 h2.size:=fun y=>ny0 ((g15.old _ (by omega)).mp y)
  have nr3:¬ F15 rb:=fun y=>nr ((g15.old rb (by omega)).mp y)
  have nc3:¬ F15 h.size:=fun y=>by have:=(g15.old h.size (by omega)).mp y; have:=xl _ this; omega
  have gl15:In.Glo h15:=(gl2.no n14.fr).fr f15 g0
  have g03:∀ b,b<1→¬ F15 b:=fun b hb y=>g0 b hb ((g15.old b (by have:=gl2.lt; omega)).mp y)
  have gl16:In.Glo h16:=gl15.fr d16.fr fun b hb y=>by have:=gl2.lt; omega
  refine radd_k1 (h:=h) (yb:=h2.size) (s:=s) (inode:=inode) gl16 dm (X15.fr d16.fr fun b hb y=>ny (y▸hb)) g03 hR lY hs (by omega) ((d16.at_ (by omega) (by omega)).trans ((f15.rd (by omega) nr).trans rr14)) nr3 ?_ d16.own ny ?_ ?_ nc3 lb (by omega) b1 fun h' F' f' g' X'=>?_
  ·rw [d16.rd,r15]; exact put_all _ _ (by rw [ints_length,lY]; rfl)
  ·rw [d16.at_ (by omega) (by omega),f15.rd (by omega) fun y=>by have:=xl _ y; omega,n14.at_ (by omega),n2.rd]; rfl
  ·exact d16.ow (f15.own (by omega) (fun y=>by have:=xl _ y; omega) (n14.ow n2.own))
  ·have F16:Fr F h h16:=((((n2.fr.new n14).mono fun _ _ y=>y.elim).trans f15 fun _ _ y=>y).did d16 fun hl=>by omega)
   have G16:Gw h F h16 F15:=(((Gw.refl (show h.size≤h14.size by omega) xl).trans g15 (by omega)).trans (Gw.refl (show h15.size≤h16.size by omega) fun b hb=>X15.lt hb) (by omega))
   exact hK h' F' (F16.trans f' fun b hb y=>by
    rcases y with y|y|y
    ·exact (G16.old b hb).mp y
    ·omega
    ·omega) (G16.trans g' (by omega)) X'
end Go.Proofs.YtiapingedfnlnaaGreatDoor.Di
namespace Go.Proofs.YtiapingedfnlnaaGreatDoor.Di
open Go Go.Proofs Wx Hp W Ad Tm Spc Re Av Rg Ss
open Hd (ints)
open In (Glo ints_length ints_one)
open Ino (getM putM Cok getM_length)
open Bm (findM addM addM_un)
open Fi (blockM hv_yield getM_may cok undoM put_e)
open Sk (E nameOk)
theorem Contains_spec {h:Heap} {a:Option Addr} {l c nb:Nat} {es:List E} {s:Tm.Txt} {K:Value→Heap→Prop} (Z:SlCells h a (es.flatMap E.v)) (hl:es.length=l) (hm:l≤1000000) (rs:rd h nb=[.string (mkStr s)])
  (hK:∀ h',Fr No h h'→K (.bool (es.find? (fun c=>c.name == s)).isSome) h'):C.slices_ContainsFunc_api_Entry_api_Entry a l c (.func (.func 68) #[] ⟨[.pointer (some ⟨nb,0,none⟩)]⟩) h K:=by
 have lb:nb<h.size:=rd_lt (o:=0) (by rw [rs]; rfl)
 refine slices_ContainsFunc_api_Entry_api_Entry.ok (slices_IndexFunc_api_Entry_api_Entry.ok ⟨fun j hh=>∃ p:Nat,j=p∧p≤l∧Fr No h hh∧(es.take p).find? (fun c=>c.name == s)=none,fun j _=>((l:Int) - j).toNat,⟨0,rfl,Nat.zero_le _,Fr.refl _ _,rfl⟩,?_⟩)
 rintro j h2 ⟨p,rfl,hp,f2,np⟩
 refine cd (fun hlt=>?_) fun hlt=>?_
 ·have hlt':p<es.length:=by omega
  obtain ⟨a0,ea,ca⟩:=ent_at Z hlt'
  subst ea
  have Z2:Cells h2 (a0.add (p*3)) (E.v es[p]):=Cells.fr f2 ca fun y=>y
  refine ⟨⟨by omega,hlt⟩,os ⟨_,rfl,Z2,?_⟩⟩
  show C.dir_Add_c1 (E.v es[p]) (some ⟨nb,0,none⟩) h2 _
  refine dir_Add_c1.ok (New.intro fun h3 n3=>⟨_,rda n3.rd rfl,os ⟨_,rdc (show rd h3 nb=[.string (mkStr s)] from ((f2.new n3).rd lb fun y=>y).trans rs) rfl,?_⟩⟩)
  rw [toList_mkStr,toList_mkStr]
  refine ⟨_,rfl,cs (fun heq=>?_) fun hne=>?_⟩
  ·have ef:=find_at hlt' np heq
   rw [ef] at hK
   refine ⟨_,rfl,?_⟩
   rw [decide_eq_true (by omega)]
   exact hK h3 (f2.new n3)
  ·rw [wrap_i64 (by omega) (by omega)]
   refine ⟨⟨p+1,by omega,by omega,f2.new n3,?_⟩,falls hlt⟩
   rw [List.take_succ_eq_append_getElem hlt',List.find?_append,np,Option.none_or,List.find?_cons_of_neg (by rw [hne]; decide)]; rfl
 ·rw [List.take_of_length_le (by omega)] at np
  rw [np] at hK
  exact ⟨_,rfl,hK h2 f2⟩
theorem mark_live {T:TM} (h:T.mark.2=0):T.over=false:=by
 unfold TM.mark at h
 split at h
 ·exact absurd (show (61:Int)=0 from h) (by decide)
 ·rename_i y; exact Bool.eq_false_iff.mpr y
def AddJ (F:Nat→Prop) (t d:Option Addr) (T:TM) (n:Nat) (i:Int) (R:List Int) (s:Tm.Txt) (m:Nat) (hb h10 h12 h13 h14 h18 h19:Heap) (L:Loop) (k:Nat) (hh:Heap):Prop :=
 It hh F t d T (geoN n) i R 0 [] h18.size h10.size∧Fr (fun b=>b=h10.size∨b=h12.size∨b=h13.size∨b=h14.size∨b=h19.size+1) hb hh∧LoopOn hh (h19.size+1) L .ready none∧∃ q ix p ex,m=k+q∧rd hh h12.size=[.int .i64 ix]∧Own hh h12.size∧rd hh h13.size=[.int .i64 p]∧Own hh h13.size∧rd hh h14.size=[.bool ex]∧Own hh h14.size ∧
  placeGo s (leavesGo T (geoN n) R m 0).1 (R.getD 2 0 / 512,-1,false)=placeGo s (leavesGo T (geoN n) R q k).1 (ix,p,ex)∧(leavesGo T (geoN n) R m 0).2=(leavesGo T (geoN n) R q k).2
theorem Add_spec {h:Heap} {F:Nat→Prop} {t d:Option Addr} {T:TM} {n:Nat} {i v:Int} {s:Tm.Txt} {K:Value→Heap→Prop} (gl:In.Glo h) (dm:Dim n) (x:Tx h F t d T) (g0:∀ b,b<1→¬ F b) (hu:T.undo.length<600000000)
  (hK:∀ h' F',Fr F h h'→Gw h F h' F'→Tx h' F' t d (addD T (geoN n) i s v).1→K (.int .i64 (addD T (geoN n) i s v).2) h'):C.dir_Add t (geoN n).v i (mkStr s) v h K:=by
 have xl:∀ b,F b→b<h.size:=fun b hb=>x.lt hb
 have gl1:=gl.lt
 have same:∀ h' e,Fr No h h'→addD T (geoN n) i s v=(T,e)→K (.int .i64 e) h':=fun h' e f e0=>by
  rw [e0] at hK
  exact hK h' F (f.mono fun _ _ y=>y.elim) (Gw.refl f.size xl) (x.no f)
 refine dir_Add.ok (New.intro fun h2 n2=>New.intro fun h3 n3=>New.intro fun h4 n4=>New.intro fun h5 n5=>?_)
 have z2:=n2.size
 have y3:=n3.size
 have z4:=n4.size
 have z5:=n5.size
 have F5:Fr No h h5:=(((n2.fr.new n3).new n4).new n5)
 have t5:rd h5 h.size=[.pointer t]:=(n5.at_ (by omega)).trans ((n4.at_ (by omega)).trans ((n3.at_ (by omega)).trans n2.rd))
 have g5:rd h5 h2.size=(geoN n).v:=(n5.at_ (by omega)).trans ((n4.at_ (by omega)).trans n3.rd)
 have s5:rd h5 h3.size=[.string (mkStr s)]:=(n5.at_ (by omega)).trans n4.rd
 have e5:rd h5 h4.size=[.int .i64 0]:=n5.rd
 have w5:=n5.own
 -- an answer ahead of the loop
 have early:∀ (hh:Heap) (e:Int),Fr No h5 hh→addD T (geoN n) i s v=(T,e)→Put ⟨h4.size,0,none⟩ (.int .i64 e) hh fun h7=>∃ (res1:Int),cellOf h7 ⟨h4.size,0,none⟩=some (.int .i64 res1)∧K (.int .i64 res1) h7:=fun hh e f e0 =>
  put_e (f.own w5.lt (fun y=>y) w5) ((f.rd w5.lt fun y=>y).trans e5) fun h7 d7=>⟨_,rdc d7.rd rfl,same h7 e ((F5.no f).did d7 fun hl=>by omega) e0⟩
 refine ⟨_,rdc s5 rfl,Ch.Name_spec fun h6 f6=>⟨_,rfl,cnot (cs (fun hn=>?_) fun hn=>early h6 1 f6 (by unfold addD; rw [if_pos hn]))⟩⟩
 have z6:=f6.size
 have hn':¬ nameOk s=false:=by rw [hn]; decide
 refine ⟨(geoN n).v,rfl,cellsAll ((f6.rd (by omega) fun y=>y).trans g5),has_spec fun h8 f8=>⟨_,rfl,cnot (cs (fun hh=>?_) fun hh=>early h8 110 (f6.no f8) (by unfold addD; rw [if_neg hn',if_pos hh]))⟩⟩
 have hh':¬ hasI (geoN n) v=false:=by rw [hh]; decide
 have f58:Fr No h5 h8:=f6.no f8
 have F8:Fr No h h8:=F5.no f58
 have z8:=f8.size
 have lR:=openM_length T (geoN n) i
 refine ⟨t,rdc ((f58.rd (by omega) fun y=>y).trans t5) rfl,(geoN n).v,rfl,cellsAll ((f58.rd (by omega) fun y=>y).trans g5),open_spec (gl.no F8) (x.no F8) (cok dm) fun h10 f10=>⟨_,rfl,NewRow.intro (rdV_len lR) rdV_one rfl fun h12 n12=>?_⟩⟩
 have z10:=f10.size
 have z12:=n12.size
 have r12:rd h12 h10.size=rdV t (geoN n) i (openM T (geoN n) i).1 (openM T (geoN n) i).2++[]:=by rw [List.append_nil]; exact n12.rd
 refine ⟨_,rdaa r12 (rdV_2 lR),New.intro fun h13 n13=>New.intro fun h14 n14=>New.intro fun h15 n15=>?_⟩
 have z13:=n13.size
 have z14:=n14.size
 have z15:=n15.size
 have r3:rd h13 h12.size=[.int .i64 0]:=n13.rd
 refine Put.intro (n15.ow (n14.ow n13.own)) (by rw [n15.at_ (by omega),n14.at_ (by omega),n13.rd]; exact Nat.zero_lt_one) fun h16 d16=>?_
 have z16:=d16.size
 refine Put.intro (d16.ow (n15.ow n14.own)) (by rw [d16.at_ (by omega) (by omega),n15.at_ (by omega),n14.rd]; exact Nat.zero_lt_one) fun h17 d17=>?_
 have z17:=d17.size
 refine Put.intro (d17.ow (d16.ow n15.own)) (by rw [d17.at_ (by omega) (by omega),d16.at_ (by omega) (by omega),n15.rd]; exact Nat.zero_lt_one) fun h18 d18=>?_
 have z18:=d18.size
 refine leaves_spec fun h19 n19=>⟨_,rfl,fun L rounds=>?_⟩
 have z19:=n19.size
 have f12to:Fr (fun b=>b=h12.size∨b=h13.size∨b=h14.size) h12 h19:=(((((((n13.fr.new n14).new n15).mono fun _ _ y=>y.elim).did d16 fun hl=>by omega).did d17 fun hl=>by omega).did d18 fun hl=>by omega).new n19)
 have F12:Fr No h h12:=(F8.no f10).new n12
 have F19:Fr No h h19:=F12.trans f12to fun b hb y=>by omega
 have i19:rd h19 h12.size=[.int .i64 (IntKind.wrap .i64 (Int.tdiv ((openM T (geoN n) i).1.getD 2 0) 512))]:=by
  rw [n19.at_ (by omega),d18.at_ (by omega) (by omega),d17.at_ (by omega) (by omega),d16.rd,n15.at_ (by omega),n14.at_ (by omega),n13.rd]; rfl
 have p19:rd h19 h13.size=[.int .i64 (-1)]:=by
  rw [n19.at_ (by omega),d18.at_ (by omega) (by omega),d17.rd,d16.at_ (by omega) (by omega),n15.at_ (by omega),n14.rd]; rfl
 have x19:rd h19 h14.size=[.bool false]:=by
  rw [n19.at_ (by omega),d18.rd,d17.at_ (by omega) (by omega),d16.at_ (by omega) (by omega),n15.rd]; rfl
 have iw19:Own h19 h12.size:=n19.ow (d18.ow (d17.ow d16.own))
 have pw19:Own h19 h13.size:=n19.ow (d18.ow d17.own)
 have xw19:Own h19 h14.size:=n19.ow d18.own
 have r19:rd h19 h10.size=rdV t (geoN n) i (openM T (geoN n) i).1 (openM T (geoN n) i).2++[]:=(f12to.rd (by omega) (by omega)).trans r12
 have ob19:Own h19 h10.size:=f12to.own (by omega) (by omega) n12.own
 have f519:Fr No h5 h19:=((f58.no f10).new n12).trans f12to fun b hb y=>by omega
 have q19:∀ b,b<h5.size→rd h19 b=rd h5 b:=fun b hb=>f519.rd hb fun y=>y
 have w19:Own h19 h4.size:=f519.own w5.lt (fun y=>y) w5
 have Fb:=beginL_fr h19 L
 have on0:=beginL_on h19 L
 have d0:=beginL_d h19 L
 have zb:=beginL_size h19 L
 have F0:Fr No h (beginL h19 L):=F19.no Fb
 have cb0:rd (beginL h19 L) h18.size=[.pointer (some ⟨h10.size,0,none⟩)]:=(Fb.rd (by omega) fun y=>y).trans n19.rd
 have I0:It (beginL h19 L) F t d T (geoN n) i (openM T (geoN n) i).1 (openM T (geoN n) i).2 [] h18.size h10.size:=⟨gl.no F0,x.no F0,cb0,Fb.own (by omega) (fun y=>y) ob19,(Fb.rd (by omega) fun y=>y).trans r19,fun y=>by have:=xl _ y; omega,by omega,by omega⟩
 have tb0:rd (beginL h19 L) h.size=[.pointer t]:=(Fb.rd (by omega) fun y=>y).trans ((q19 _ (by omega)).trans t5)
 have sb0:rd (beginL h19 L) h3.size=[.string (mkStr s)]:=(Fb.rd (by omega) fun y=>y).trans ((q19 _ (by omega)).trans s5)
 have eb0:rd (beginL h19 L) h4.size=[.int .i64 0]:=(Fb.rd (by omega) fun y=>y).trans ((q19 _ (by omega)).trans e5)
 have wb0:Own (beginL h19 L) h4.size:=Fb.own (by omega) (fun y=>y) w19
 have i0:=(Fb.rd (b:=h12.size) (by omega) fun y=>y).trans i19
 have p0:=(Fb.rd (b:=h13.size) (by omega) fun y=>y).trans p19
 have x0:=(Fb.rd (b:=h14.size) (by omega) fun y=>y).trans x19
 have iw0:Own (beginL h19 L) h12.size:=Fb.own (by omega) (fun y=>y) iw19
 have pw0:Own (beginL h19 L) h13.size:=Fb.own (by omega) (fun y=>y) pw19
 have xw0:Own (beginL h19 L) h14.size:=Fb.own (by omega) (fun y=>y) xw19
 generalize hbe:beginL h19 L=hb at *
 show C.dir_reader_leaves_c1 (.func (.yield (h19.size+1)) #[] #[]) (some ⟨h18.size,0,none⟩) hb _
 have fin:∀ (hh:Heap) (e:Int),Fr (fun b=>b=h10.size∨b=h12.size∨b=h13.size∨b=h14.size∨b=h19.size+1) hb hh→LoopOn hh (h19.size+1) L .ready none→It hh F t d T (geoN n) i (openM T (geoN n) i).1 e [] h18.size h10.size→(e≠0→addD T (geoN n) i s v=(T,e)) →
   (e=0→∃ (ix p:Int) (ex:Bool),rd hh h12.size=[.int .i64 ix]∧rd hh h13.size=[.int .i64 p]∧rd hh h14.size=[.bool ex]∧0≤(openM T (geoN n) i).1.getD 2 0∧(openM T (geoN n) i).1.getD 2 0≤8459264∧addD T (geoN n) i s v=if ex=true then (T,150) else if T.mark.2≠0 then (T,T.mark.2) else undoM T (addAt T (geoN n) i (openM T (geoN n) i).1 ix p s v)) →
   ∃ (st1:LoopState) (pend1:Option Code),LoopOn hh (h19.size+1) L st1 pend1∧st1 ≠ .busy∧pendX pend1 (
 SetL hh (h19.size+1) L .exhausted pend1 fun h32 =>
 ∃ (n7:Int),cellOf h32 (Addr.add ⟨h10.size,0,none⟩ 22)=some (.int .i64 n7) ∧
 bif (n7 != 0) then (
 ∃ (n8:Int),cellOf h32 (Addr.add ⟨h10.size,0,none⟩ 22)=some (.int .i64 n8) ∧
 Put ⟨h4.size,0,none⟩ (.int .i64 n8) h32 fun h33 =>
 EndD h19.size h33 fun h34 =>
 ∃ (res3:Int),cellOf h34 ⟨h4.size,0,none⟩=some (.int .i64 res3) ∧
 K (.int .i64 res3) h34) else (
 ∃ (b5:Bool),cellOf h32 ⟨h14.size,0,none⟩=some (.bool b5) ∧
 bif b5 then (
 Put ⟨h4.size,0,none⟩ (.int .i64 150) h32 fun h35 =>
 EndD h19.size h35 fun h36 =>
 ∃ (res4:Int),cellOf h36 ⟨h4.size,0,none⟩=some (.int .i64 res4) ∧
 K (.int .i64 res4) h36) else (
 ∃ (q2:Option Addr),cellOf h32 ⟨h.size,0,none⟩=some (.pointer q2) ∧
 C.txn_Txn_Mark q2 h32 fun r7 h37 =>
 ∃ (n9:Int) (n10:Int),r7 = .tuple #[.int .i64 n9,.int .i64 n10] ∧
 New z3 3 h37 fun h38 =>
 Put ⟨h37.size,0,none⟩ (.int .i64 n9) h38 fun h39 =>
 Put ⟨h4.size,0,none⟩ (.int .i64 n10) h39 fun h40 =>
 ∃ (n11:Int),cellOf h40 ⟨h4.size,0,none⟩=some (.int .i64 n11) ∧
 bif (n11 != 0) then (
 ∃ (n12:Int),cellOf h40 ⟨h4.size,0,none⟩=some (.int .i64 n12) ∧
 Put ⟨h4.size,0,none⟩ (.int .i64 n12) h40 fun h41 =>
 EndD h19.size h41 fun h42 =>
 ∃ (res5:Int),cellOf h42 ⟨h4.size,0,none⟩=some (.int .i64 res5) ∧
 K (.int .i64 res5) h42) else (
 ∃ (n13:Int),cellOf h40 ⟨h12.size,0,none⟩=some (.int .i64 n13) ∧
 ∃ (n14:Int),cellOf h40 ⟨h13.size,0,none⟩=some (.int .i64 n14) ∧
 ∃ (s2:ByteArray),cellOf h40 ⟨h3.size,0,none⟩=some (.string s2) ∧
 C.dir_reader_add (some ⟨h10.size,0,none⟩) n13 n14 [.int .i64 0,.string s2,.int .i64 v] h40 fun r8 h43 =>
 ∃ (n15:Int),r8 = .int .i64 n15 ∧
 Put ⟨h4.size,0,none⟩ (.int .i64 n15) h43 fun h44 =>
 D.dir_Add_c2 (some ⟨h4.size,0,none⟩) (some ⟨h.size,0,none⟩) (some ⟨h37.size,0,none⟩) h44 fun h45 =>
 EndD h19.size h45 fun h46 =>
 ∃ (res6:Int),cellOf h46 ⟨h4.size,0,none⟩=some (.int .i64 res6) ∧
 K (.int .i64 res6) h46)))) (
 False) (fun _=>False):=by
  intro hh e f on I es0 es1
  have zf:=f.size
  refine ⟨.ready,none,on,by decide,pend_none (setL_intro (by omega) fun h32 t32=>?_)⟩
  have z32:=t32.size
  have f32:Fr (fun b=>b=h10.size∨b=h12.size∨b=h13.size∨b=h14.size∨b=h19.size+1) hb h32:=f.trans t32.fr fun b _ y => .inr (.inr (.inr (.inr y)))
  have I32:It h32 F t d T (geoN n) i (openM T (geoN n) i).1 e [] h18.size h10.size:=I.fr t32.fr (by omega) (by omega) (fun b hb y=>by have:=xl b hb; omega) fun b hb y=>by omega
  have F32:Fr No h h32:=F0.trans f32 fun b hb y=>by omega
  have q32:∀ b,b<h10.size→rd h32 b=rd hb b:=fun b hb'=>f32.rd (by omega) (by omega)
  have e32:=(q32 h4.size (by omega)).trans eb0
  have w32:Own h32 h4.size:=f32.own (by omega) (by omega) wb0
  have d32:=(f32.same h19.size (by omega) (by omega)).trans d0
  -- an answer without a change
  have out:∀ (hx:Heap) (e':Int),Fr No h32 hx→addD T (geoN n) i s v=(T,e')→Put ⟨h4.size,0,none⟩ (.int .i64 e') hx fun h33=>EndD h19.size h33 fun h34=>∃ (res3:Int),cellOf h34 ⟨h4.size,0,none⟩=some (.int .i64 res3)∧K (.int .i64 res3) h34:=fun hx e' fx e0=>by
   have zx:=fx.size
   refine put_e (fx.own w32.lt (fun y=>y) w32) ((fx.rd w32.lt fun y=>y).trans e32) fun h33 d33=>endD_intro ((d33.fr.same _ (by omega) (by omega)).trans ((fx.same _ (by omega) fun y=>y).trans d32)) fun h34 z34 f34=>?_
   have z33:=d33.size
   refine ⟨_,rdc (show rd h34 h4.size=[.int .i64 e'] from (f34.rd (by omega) (by omega)).trans d33.rd) rfl,same h34 e' (((F32.no fx).did d33 fun hl=>by omega).trans f34 fun b hb y=>by omega) e0⟩
  refine ⟨_,rda I32.r (rdV_e lR),cn (fun he=>⟨_,rda I32.r (rdV_e lR),out h32 e (Fr.refl _ _) (es0 he)⟩) fun he=>?_⟩
  obtain ⟨ix,p,ex,ri,rp,rx,R0,R1,ea⟩:=es1 he
  have ri32:=(t32.fr.rd (b:=h12.size) (by omega) (by omega)).trans ri
  have rp32:=(t32.fr.rd (b:=h13.size) (by omega) (by omega)).trans rp
  have rx32:=(t32.fr.rd (b:=h14.size) (by omega) (by omega)).trans rx
  refine ⟨_,rdc rx32 rfl,cs (fun hx=>out h32 150 (Fr.refl _ _) (by rw [ea,if_pos hx])) fun hx=>?_⟩
  have hx':¬ ex=true:=by rw [hx]; decide
  rw [if_neg hx'] at ea
  refine ⟨t,rdc ((q32 h.size (by omega)).trans tb0) rfl,Tm.Mark_spec I32.x ⟨_,_,rfl,New.intro fun h38 n38=>Put.intro n38.own (by rw [n38.rd]; exact Nat.zero_lt_one) fun h39 d39=>?_⟩⟩
  have z38:=n38.size
  have z39:=d39.size
  have f39:Fr No h32 h39:=n38.fr.did d39 fun hl=>by omega
  have m39:rd h39 h32.size=[.int .i64 T.mark.1]:=by rw [d39.rd,n38.rd]; rfl
  refine put_e (f39.own w32.lt (fun y=>y) w32) ((f39.rd w32.lt fun y=>y).trans e32) fun h40 d40=>?_
  have z40:=d40.size
  refine ⟨_,rdc d40.rd rfl,cn (fun hm=>⟨_,rdc d40.rd rfl,?_⟩) fun hm=>?_⟩
  ·refine put_e d40.own d40.rd fun h33 d33=>endD_intro ((d33.fr.same _ (by omega) (by omega)).trans ((d40.fr.same _ (by omega) (by omega)).trans ((f39.same _ (by omega) fun y=>y).trans d32))) fun h34 z34 f34=>?_
   have z33:=d33.size
   refine ⟨_,rdc (show rd h34 h4.size=[.int .i64 T.mark.2] from (f34.rd (by omega) (by omega)).trans d33.rd) rfl,same h34 _ ((((F32.no f39).did d40 fun hl=>by omega).did d33 fun hl=>by omega).trans f34 fun b hb y=>by omega) (by rw [ea,if_pos hm])⟩
  have live:=mark_live hm
  rw [if_neg (fun y=>y hm)] at ea
  have F40:Fr No h h40:=(F32.no f39).did d40 fun hl=>by omega
  have q40:∀ b,b<h32.size→b≠h4.size→rd h40 b=rd h32 b:=fun b hb' hn=>(d40.at_ (by omega) hn).trans (f39.rd hb' fun y=>y)
  have I39:=I32.no f39
  have I40:It h40 F t d T (geoN n) i (openM T (geoN n) i).1 e [] h18.size h10.size:=I39.fr d40.fr (by omega) (by omega) (fun b hb y=>by have:=xl b hb; omega) fun b hb y=>by omega
  rw [he] at I40
  have m40:=(d40.at_ (c:=h32.size) (by omega) (by omega)).trans m39
  refine ⟨_,rdc ((q40 _ (by omega) (by omega)).trans ri32) rfl,_,rdc ((q40 _ (by omega) (by omega)).trans rp32) rfl,_,rdc ((q40 _ (by omega) (by omega)).trans ((q32 _ (by omega)).trans sb0)) rfl,?_⟩
  refine radd_spec I40.gl dm I40.x live g0 lR R0 R1 hu I40.r I40.ob.lt I40.nf I40.b1 fun h43 F43 f43 g43 X43=>⟨_,rfl,?_⟩
  have z43:=f43.size
  have n4:¬ F h4.size:=fun y=>by have:=xl _ y; omega
  have w43:Own h43 h4.size:=f43.own (by omega) n4 d40.own
  refine put_e w43 ((f43.rd (by omega) n4).trans d40.rd) fun h44 d44=>?_
  have z44:=d44.size
  have un1:=addM_un (T:=T) (g:=geoN n) (R:=(openM T (geoN n) i).1) (k:=ix)
  have un2:=addTail_un (T1:=(addM T (geoN n) (openM T (geoN n) i).1 ix).1) (g:=geoN n) (n:=i) (R:=(openM T (geoN n) i).1) (Y:=(addM T (geoN n) (openM T (geoN n) i).1 ix).2.1) (v:=(addM T (geoN n) (openM T (geoN n) i).1 ix).2.2.1) (e:=(addM T (geoN n) (openM T (geoN n) i).1 ix).2.2.2) (place:=p) (s:=s) (i:=v)
  rw [← addAt_tail] at un2
  have n43:¬ F43 h4.size:=fun y=>n4 ((g43.old _ (by omega)).mp y)
  have X44:Tx h44 F43 t d (addAt T (geoN n) i (openM T (geoN n) i).1 ix p s v).1:=X43.fr d44.fr fun b hb y=>n43 (y▸hb)
  have F44:Fr F h h44:=((F40.mono fun _ _ y=>y.elim).trans f43 fun b hb y=>y).did d44 fun hl=>by omega
  have G44:Gw h F h44 F43:=((Gw.refl (show h.size≤h40.size by omega) xl).trans g43 (by omega)).trans (Gw.refl (by omega) fun b hb=>X43.lt hb) (by omega)
  have d40':h40[h19.size]?=some (.deferred (some [])):=(d40.fr.same _ (by omega) (by omega)).trans ((f39.same _ (by omega) fun y=>y).trans d32)
  have nd:∀ b,h.size≤b→¬ F b:=fun b hb y=>by have:=xl _ y; omega
  have d44':h44[h19.size]?=some (.deferred (some [])):=(d44.fr.same _ (by omega) (by omega)).trans ((f43.same _ (by omega) (nd _ (by omega))).trans d40')
  -- the end
  have fin2:∀ (h45:Heap) (T2:TM),Fr F43 h44 h45→Tx h45 F43 t d T2→addD T (geoN n) i s v=(T2,(addAt T (geoN n) i (openM T (geoN n) i).1 ix p s v).2)→EndD h19.size h45 fun h46=>∃ (res6:Int),cellOf h46 ⟨h4.size,0,none⟩=some (.int .i64 res6)∧K (.int .i64 res6) h46:=fun h45 T2 f45 X45 e0=>by
   have z45:=f45.size
   have n19:¬ F43 h19.size:=fun y=>nd _ (by omega) ((g43.old _ (by omega)).mp y)
   refine endD_intro ((f45.same _ (by omega) n19).trans d44') fun h46 z46 f46=>⟨_,rdc (show rd h46 h4.size=[.int .i64 (addAt T (geoN n) i (openM T (geoN n) i).1 ix p s v).2] from (f46.rd (by omega) (by omega)).trans ((f45.rd (by omega) n43).trans d44.rd)) rfl,?_⟩
   rw [e0] at hK
   refine hK h46 F43 ((F44.trans f45 fun b hb y=>(G44.old b hb).mp y).trans f46 fun b hb y=>by omega) (G44.trans (Gw.refl (by omega) fun b hb=>by have:=X43.lt hb; omega) (by omega)) (X45.fr f46 fun b hb y=>n19 (y▸hb))
  refine dir_Add_c2.okD (os ⟨_,rdc d44.rd rfl,cn (fun hw=>os ⟨t,rdc (show rd h44 h.size=[.pointer t] from (d44.at_ (by omega) (by omega)).trans ((f43.rd (by omega) (nd _ (Nat.le_refl _))).trans ((q40 _ (by omega) (by omega)).trans ((q32 h.size (by omega)).trans tb0)))) rfl,os ⟨_,rdc (show rd h44 h32.size=[.int .i64 T.mark.1] from (d44.at_ (by omega) (by omega)).trans ((f43.rd (by omega) (nd _ (by omega))).trans m40)) rfl,Tm.Back_spec X44 (by omega) fun h45 f45 X45=>⟨_,rfl,?_⟩⟩⟩) fun hw=>?_⟩)
  ·exact fin2 h45 _ f45 X45 (by rw [ea]; unfold undoM; rw [if_pos hw])
  ·exact fin2 h44 _ (Fr.refl _ _) X44 (by rw [ea]; unfold undoM; rw [if_neg (fun y=>y hw)])
 have add1:∀ {y:Int},(openM T (geoN n) i).2≠0→addD T (geoN n) i s v=(T,(openM T (geoN n) i).2):=fun h1=>by
  unfold addD; rw [if_neg hn',if_neg hh',if_pos h1]
 by_cases he0:(openM T (geoN n) i).2=0
 rotate_left
 ·exact leaves_none lR I0 he0 (fin hb _ (Fr.refl _ _) on0 I0 (fun _=>add1 (y:=0) he0) fun y=>absurd y he0)
 obtain ⟨R0,R1⟩:=open_size he0
 have es0:addD T (geoN n) i s v=if (leavesM T (geoN n) (openM T (geoN n) i).1).2≠0 then (T,(leavesM T (geoN n) (openM T (geoN n) i).1).2) else
   if (placeGo s (leavesM T (geoN n) (openM T (geoN n) i).1).1 ((openM T (geoN n) i).1.getD 2 0 / 512,-1,false)).2.2=true then (T,150) else if T.mark.2≠0 then (T,T.mark.2) else
    undoM T (addAt T (geoN n) i (openM T (geoN n) i).1 (placeGo s (leavesM T (geoN n) (openM T (geoN n) i).1).1 ((openM T (geoN n) i).1.getD 2 0 / 512,-1,false)).1 (placeGo s (leavesM T (geoN n) (openM T (geoN n) i).1).1 ((openM T (geoN n) i).1.getD 2 0 / 512,-1,false)).2.1 s v):=by
  unfold addD; rw [if_neg hn',if_neg hh',if_neg (fun y=>y he0)]
 unfold leavesM at es0
 rw [size_div R0 R1] at i0
 rw [he0] at I0
 clear add1
 generalize hR:(openM T (geoN n) i).1=R at *
 generalize hm:(R.getD 2 0 / 512).toNat=m at *
 have hm2:m≤16522:=by omega
 refine leaves_iter lR R0 R1 (AddJ F t d T n i R s m hb h10 h12 h13 h14 h18 h19 L)
  (fun k hh J=>J.1) (fun k hh h' ba bl bc ca cl cc J hk he f' r' o' lf=>?_) ⟨I0,Fr.refl _ _,on0,m,_,_,_,by omega,i0,iw0,p0,pw0,x0,xw0,rfl,rfl⟩ (fun hh J=>?_) fun k hh h' J hk he f' r' o'=>?_
 ·-- an index
  obtain ⟨I,f,on,q,ix,p,ex,eq,ri,wi,rp,wp,rx,wx,e1,e2⟩:=J
  rw [hm] at hk
  obtain ⟨q,rfl⟩:∃ q',q=q'+1:=⟨q - 1,by omega⟩
  have zf:=f.size
  have zf':=f'.size
  have on':LoopOn h' (h19.size+1) L .ready none:=loopOn_fr on f' (by omega)
  refine rounds (leafV k (leafM T (geoN n) R k).1.block ba bl bc ca cl cc) h' _ on' (NewRow.intro rfl leafV_one rfl fun h22 n22=>⟨loopOn_fr on' n22.fr fun y=>y,setL_intro (by have:=n22.size; omega) fun h23 t23=>?_⟩)
  have z22:=n22.size
  have z23:=t23.size
  have f23:Fr (fun b=>b=h10.size∨b=h12.size∨b=h13.size∨b=h14.size∨b=h19.size+1) hb h23:=((f.trans f' fun b _ y => .inl y).new n22).trans t23.fr fun b _ y => .inr (.inr (.inr (.inr y)))
  have v23:rd h23 h'.size=leafV k (leafM T (geoN n) R k).1.block ba bl bc ca cl cc:=(t23.fr.rd (by omega) (by omega)).trans n22.rd
  have lf23:Lf hh h23 (leafM T (geoN n) R k).1 ba bl bc ca cl cc:=(lf.fr n22.fr fun _ _ _ y=>y).fr t23.fr fun b _ hb y=>by omega
  have lc:(leafM T (geoN n) R k).1.cells.length=cl:=by
   have:=lf23.c.1
   rw [flat_length E.v 3 _ (fun x _=>E.len x)] at this
   omega
  have l16:=leaf_len T (geoN n) R k
  have q23:∀ b,b<hh.size→b≠h10.size→b≠h19.size+1→rd h23 b=rd hh b:=fun b hb' h1 h2=>(t23.fr.rd (by omega) h2).trans ((n22.at_ (by omega)).trans (f'.rd hb' h1))
  have w23:∀ b,b<hh.size→b≠h10.size→b≠h19.size+1→Own hh b→Own h23 b:=fun b hb' h1 h2 o=>t23.fr.own (by omega) h2 (n22.ow (f'.own hb' h1 o))
  have I23:It h23 F t d T (geoN n) i R 0 [] h18.size h10.size:=by
   have A:It h' F t d T (geoN n) i R 0 [] h18.size h10.size:=⟨I.gl.fr f' fun b hb y=>by omega,I.x.fr f' fun b hb y=>by have:=xl b hb; omega,(f'.rd I.clt (by omega)).trans I.cap,o',r',I.nf,I.b1,I.ne⟩
   exact (A.no n22.fr).fr t23.fr (by omega) (by omega) (fun b hb y=>by have:=xl b hb; omega) fun b hb y=>by omega
  have ri23:=(q23 h12.size (by omega) (by omega) (by omega)).trans ri
  have rp23:=(q23 h13.size (by omega) (by omega) (by omega)).trans rp
  have rx23:=(q23 h14.size (by omega) (by omega) (by omega)).trans rx
  have wi23:=w23 h12.size (by omega) (by omega) (by omega) wi
  have wp23:=w23 h13.size (by omega) (by omega) (by omega) wp
  have wx23:=w23 h14.size (by omega) (by omega) (by omega) wx
  have on23:=t23.on
  -- the state behind the index
  have fin3:∀ (P:Value→Heap→Prop),(∀ h'',AddJ F t d T n i R s m hb h10 h12 h13 h14 h18 h19 L (k+1) h''→P (.bool true) h'')→∀ (h28:Heap) (ix' p':Int),Fr (fun b=>b=h12.size∨b=h13.size∨b=h14.size) h23 h28→rd h28 h12.size=[.int .i64 ix']→Own h28 h12.size→rd h28 h13.size=[.int .i64 p']→Own h28 h13.size→rd h28 h14.size=[.bool (ex || (cellOfName (leafM T (geoN n) R k).1 s).isSome)]→Own h28 h14.size →
    (if p<0∧0≤(lowA (leafM T (geoN n) R k).1.bytes).1∧(lowA (leafM T (geoN n) R k).1.bytes).2=0 then ((k:Int),(lowA (leafM T (geoN n) R k).1.bytes).1) else (ix,p))=(ix',p')→LoopOn h28 (h19.size+1) L .busy none∧P (.bool true) (setLoop h28 (h19.size+1) L .ready none):=by
   intro P hP h28 ix' p' f28 ri28 wi28 rp28 wp28 rx28 wx28 en
   have z28:=f28.size
   have on28:LoopOn h28 (h19.size+1) L .busy none:=loopOn_fr on23 f28 (by omega)
   refine ⟨on28,hP _ ?_⟩
   have t29:=turned (loopOn_lt on28) L .ready none
   generalize setLoop h28 (h19.size+1) L .ready none=h29 at t29
   have z29:=t29.size
   refine ⟨(I23.fr f28 (by omega) (by omega) (fun b hb y=>by have:=xl b hb; omega) fun b hb y=>by omega).fr t29.fr (by omega) (by omega) (fun b hb y=>by have:=xl b hb; omega) fun b hb y=>by omega,(f23.trans f28 fun b _ y=>by omega).trans t29.fr fun b _ y => .inr (.inr (.inr (.inr y))),t29.on,q,ix',p',_,by omega,(t29.fr.rd (by omega) (by omega)).trans ri28,t29.fr.own (by omega) (by omega) wi28,(t29.fr.rd (by omega) (by omega)).trans rp28,t29.fr.own (by omega) (by omega) wp28,(t29.fr.rd (by omega) (by omega)).trans rx28,t29.fr.own (by omega) (by omega) wx28,?_,?_⟩
   ·rw [e1]
    conv=>lhs; unfold leavesGo
    rw [if_neg (fun y=>y he)]
    show placeGo s (leavesGo T (geoN n) R q (k+1)).1 (if p<0∧0≤(lowA (leafM T (geoN n) R k).1.bytes).1∧(lowA (leafM T (geoN n) R k).1.bytes).2=0 then ((k:Int),(lowA (leafM T (geoN n) R k).1.bytes).1,ex || (cellOfName (leafM T (geoN n) R k).1 s).isSome) else (ix,p,ex || (cellOfName (leafM T (geoN n) R k).1 s).isSome))=_
    by_cases hc:p<0∧0≤(lowA (leafM T (geoN n) R k).1.bytes).1∧(lowA (leafM T (geoN n) R k).1.bytes).2=0
    ·rw [if_pos hc] at en ⊢
     rw [← (Prod.mk.inj en).1,← (Prod.mk.inj en).2]
    ·rw [if_neg hc] at en ⊢
     rw [← (Prod.mk.inj en).1,← (Prod.mk.inj en).2]
   ·rw [e2]
    conv=>lhs; unfold leavesGo
    rw [if_neg (fun y=>y he)]
  -- the lowest free cell
  have K1:∀ (P:Value→Heap→Prop),(∀ h'',AddJ F t d T n i R s m hb h10 h12 h13 h14 h18 h19 L (k+1) h''→P (.bool true) h'')→∀ (h25:Heap),Fr (fun b=>b=h14.size) h23 h25→rd h25 h14.size=[.bool (ex || (cellOfName (leafM T (geoN n) R k).1 s).isSome)]→Own h25 h14.size→dir_Add.k1 h12 h13 h19 L h' P h25 K:=by
   intro P hP h25 f25 rx25 wx25
   have z25:=f25.size
   have v25:=(f25.rd (b:=h'.size) (by omega) (by omega)).trans v23
   have lf25:Lf hh h25 (leafM T (geoN n) R k).1 ba bl bc ca cl cc:=lf23.fr f25 fun b _ hb y=>by omega
   have I25:It h25 F t d T (geoN n) i R 0 [] h18.size h10.size:=I23.fr f25 (by omega) (by omega) (fun b hb y=>by have:=xl b hb; omega) fun b hb y=>by omega
   have ri25:=(f25.rd (b:=h12.size) (by omega) (by omega)).trans ri23
   have rp25:=(f25.rd (b:=h13.size) (by omega) (by omega)).trans rp23
   have wi25:Own h25 h12.size:=f25.own (by omega) (by omega) wi23
   have wp25:Own h25 h13.size:=f25.own (by omega) (by omega) wp23
   unfold dir_Add.k1
   refine ⟨_,_,_,rda v25 rfl,Ss.Lowest_spec I25.gl lf25.s.str lf25.s.le fun h26 f26=>⟨_,_,rfl,_,rdc ((f26.rd (by omega) fun y=>y).trans rp25) rfl,?_⟩⟩
   have z26:=f26.size
   have F26:Fr (fun b=>b=h12.size∨b=h13.size∨b=h14.size) h23 h26:=(f25.mono fun b _ y => .inr (.inr y)).no f26
   have ri26:=(f26.rd (b:=h12.size) (by omega) fun y=>y).trans ri25
   have rp26:=(f26.rd (b:=h13.size) (by omega) fun y=>y).trans rp25
   have rx26:=(f26.rd (b:=h14.size) (by omega) fun y=>y).trans rx25
   have wi26:Own h26 h12.size:=f26.own (by omega) (fun y=>y) wi25
   have wp26:Own h26 h13.size:=f26.own (by omega) (fun y=>y) wp25
   have wx26:Own h26 h14.size:=f26.own (by omega) (fun y=>y) wx25
   have stay:¬ (p<0∧0≤(lowA (leafM T (geoN n) R k).1.bytes).1∧(lowA (leafM T (geoN n) R k).1.bytes).2=0)→LoopOn h26 (h19.size+1) L .busy none∧P (.bool true) (setLoop h26 (h19.size+1) L .ready none):=fun hc =>
    fin3 P hP h26 ix p F26 ri26 wi26 rp26 wp26 rx26 wx26 (by rw [if_neg hc])
   refine cd (fun h1=>cd (fun h2=>ce (fun h3=>?_) fun h3=>stay fun y=>h3 y.2.2) fun h2=>stay fun y=>h2 y.2.1) fun h1=>stay fun y=>h1 y.1
   refine ⟨_,rda ((f26.rd (by omega) fun y=>y).trans v25) rfl,put_e wi26 ri26 fun h27 d27=>put_e (d27.ow wp26) ((d27.at_ (by omega) (by omega)).trans rp26) fun h28 d28=>?_⟩
   have z27:=d27.size
   have z28:=d28.size
   exact fin3 P hP h28 k _ ((F26.did d27 fun _ => .inl rfl).did d28 fun _ => .inr (.inl rfl)) ((d28.at_ (by omega) (by omega)).trans d27.rd) (d28.ow d27.own) d28.rd d28.own ((d28.at_ (by omega) (by omega)).trans ((d27.at_ (by omega) (by omega)).trans rx26)) (d28.ow (d27.ow wx26)) (by rw [if_pos ⟨h1,h2,h3⟩])
  refine ⟨_,rdc rx23 rfl,cs (fun hx=>?_) fun hx=>?_⟩
  ·refine Put.intro wx23 (by rw [rx23]; exact Nat.zero_lt_one) fun h24 d24=>K1 _ (fun h'' Jx => .inl ⟨rfl,Jx⟩) h24 d24.fr ?_ d24.own
   rw [d24.rd,rx23,hx]; rfl
  ·have sb23:rd h23 h3.size=[.string (mkStr s)]:=(f23.rd (by omega) (by omega)).trans sb0
   refine ⟨_,_,_,rda v23 rfl,Contains_spec lf23.c.cells lc (by omega) sb23 fun h29 f29=>⟨_,rfl,?_⟩⟩
   have z29:=f29.size
   have rx29:=(f29.rd (b:=h14.size) (by omega) fun y=>y).trans rx23
   refine Put.intro (f29.own (by omega) (fun y=>y) wx23) (by rw [rx29]; exact Nat.zero_lt_one) fun h30 d30=>K1 _ (fun h'' Jx => .inl ⟨rfl,Jx⟩) h30 ((f29.mono fun _ _ y=>y.elim).trans d30.fr fun _ _ y=>y) ?_ d30.own
   rw [d30.rd,rx29,hx,Bool.false_or]; rfl
 ·-- all have come
  obtain ⟨I,f,on,q,ix,p,ex,eq,ri,wi,rp,wp,rx,wx,e1,e2⟩:=J
  rw [hm] at eq e1 e2
  have:q=0:=by omega
  subst this
  have e0:(leavesGo T (geoN n) R m 0).2=0:=by rw [e2]; rfl
  have ep:placeGo s (leavesGo T (geoN n) R m 0).1 (R.getD 2 0 / 512,-1,false)=(ix,p,ex):=e1
  rw [if_neg (fun y=>y e0),ep] at es0
  exact fin hh 0 f on I (fun y=>absurd rfl y) fun _=>⟨ix,p,ex,ri,rp,rx,R0,R1,es0⟩
 ·-- an index that does not read
  obtain ⟨I,f,on,q,ix,p,ex,eq,ri,wi,rp,wp,rx,wx,e1,e2⟩:=J
  rw [hm] at hk
  obtain ⟨q,rfl⟩:∃ q',q=q'+1:=⟨q - 1,by omega⟩
  have zf:=f.size
  have ee:(leavesGo T (geoN n) R m 0).2=(leafM T (geoN n) R k).2:=by
   rw [e2]; unfold leavesGo; rw [if_pos he]
  rw [if_pos (by rw [ee]; exact he),ee] at es0
  have A:It h' F t d T (geoN n) i R (leafM T (geoN n) R k).2 [] h18.size h10.size:=⟨I.gl.fr f' fun b hb y=>by omega,I.x.fr f' fun b hb y=>by have:=xl b hb; omega,(f'.rd I.clt (by omega)).trans I.cap,o',r',I.nf,I.b1,I.ne⟩
  exact fin h' _ (f.trans f' fun b _ y => .inl y) (loopOn_fr on f' (by omega)) A (fun _=>es0) fun y=>absurd y he
end Go.Proofs.YtiapingedfnlnaaGreatDoor.Di
namespace Go.Proofs.YtiapingedfnlnaaGreatDoor.Fi
open Go Go.Proofs Wx Hp W Ad Tm Bt Spc Av
structure Ly (n:Nat) (h1:Heap) (gb:Nat) (t d:Option Addr) (hh:Heap) (F:Nat→Prop) (T:TM):Prop where
 fr:Fr No h1 hh
 gl:In.Glo h1
 lo:h1.size≤gb
 rg:rd hh gb=(geoN n).v
 x:Tx hh F t d T
 nf:¬ F gb
 fl:∀ b,F b→h1.size≤b
section
variable {n : Nat} {h1 hh h' : Heap} {gb : Nat} {t d : Option Addr} {F F' : Nat → Prop} {T T' : TM}
theorem Ly.lt (c:Ly n h1 gb t d hh F T):gb<hh.size:=rd_lt (o:=0) (v := .int .i64 (geoN n).blocks) (by rw [c.rg]; rfl)
theorem Ly.glo (c:Ly n h1 gb t d hh F T)  : In.Glo hh:=c.gl.no c.fr
theorem Ly.g0 (c:Ly n h1 gb t d hh F T):∀ b,b<1→¬ F b:=fun b hb y=>by have:=c.fl b y; have:=c.gl.lt; omega
theorem Ly.no (c:Ly n h1 gb t d hh F T) (f:Fr No hh h'):Ly n h1 gb t d h' F T :=
 { c with fr:=c.fr.no f,rg:=(f.rd c.lt fun y=>y).trans c.rg,x:=c.x.no f }
theorem Ly.call (c:Ly n h1 gb t d hh F T) (f:Fr F hh h') (g:Gw hh F h' F') (x:Tx h' F' t d T'):Ly n h1 gb t d h' F' T':=by
 have s:=c.fr.size
 refine ⟨c.fr.trans f fun b hb y=>by have:=c.fl b y; omega,c.gl,c.lo,(f.rd c.lt c.nf).trans c.rg,x,fun y=>c.nf ((g.old _ c.lt).mp y),fun b y=>?_⟩
 rcases g.new y with y|y
 ·exact c.fl b y
 ·omega
theorem Ly.did (c:Ly n h1 gb t d hh F T) {b:Nat} {cs:List Value} (dd:Did b hh h' cs) (hb:h1.size≤b) (hn:b≠gb) (hF:¬ F b):Ly n h1 gb t d h' F T :=
 { c with fr:=c.fr.did dd fun y=>by omega,rg:=(dd.at_ c.lt fun y=>hn y.symm).trans c.rg,x:=c.x.fr dd.fr fun x hx y=>hF (y▸hx) }
end
end Go.Proofs.YtiapingedfnlnaaGreatDoor.Fi
