/-
  TEXTS FOR walkOwn_card: TvG TvH TvI.
-/
import Derived.Test.YtiapingedfnlnaaGreatDoorGp5
namespace Go.Proofs.YtiapingedfnlnaaGreatDoor.Wo
open Go Go.Proofs Wx Hp W Spc Rz
open Tm (TM Tx)
open Hd (ints)
open In (ints_length ints_one)
open Ino (getM)
open Fi (readM)
open Pa (parseA makeA parse_fits)
open Di (findD)
open Wl (Pl noPl here upC more mu endGo endM metM linkM toM makeW To_spec Make_spec)
structure Rs where
 lA:Option Addr
 lC:Nat
 ls:List Sc
 ws:List (List Value)
 gA:Option Addr
 gC:Nat
 gs:List Sc
 gv:List (List Value)
 wA:Option Addr
 wC:Nat
 os:List Sc
 ov:List (List Value)
structure St (h0 hh:Heap) (col:Nat→Nat) (d:Rs):Prop where
 fr:Fr No h0 hh
 low:∀ b,b<h0.size→col b=0
 l9:d.ls.length≤9
 g9:d.gs.length≤9
 o9:d.os.length≤9
 lists:Rw hh col 1 10 d.lA d.ls.length d.lC d.ls d.ws
 longs:Rw hh col 4 10 d.gA d.gs.length d.gC d.gs d.gv
 was:Rw hh col 3 30 d.wA d.os.length d.wC d.os d.ov
variable {h0 hh h' : Heap} {col col' : Nat → Nat} {d : Rs}
theorem St.free {F:Nat→Prop} (s:St h0 hh col d) (f:Fr F hh h') (g:Ag hh.size col col') (hF:∀ b,b<hh.size→F b→30+d.os.length≤col b):St h0 h' col' d:=by
 have hz:=s.fr.size
 have l9:=s.l9
 have g9:=s.g9
 have k:∀ b,b<hh.size→col b<30+d.os.length→¬ F b:=fun b hb hc hf=>by have:=hF b hb hf; omega
 exact ⟨s.fr.trans f fun b hb hf=>by have:=hF b (by omega) hf; rw [s.low b hb] at this; omega,fun b hb=>(g b (by omega)).trans (s.low b hb),s.l9,s.g9,s.o9,
  s.lists.keep f g fun b hb hc=>k b hb (by omega),s.longs.keep f g fun b hb hc=>k b hb (by omega),s.was.keep f g fun b hb hc=>k b hb (by omega)⟩
theorem St.quiet (s:St h0 hh col d) (f:Fr No hh h'):St h0 h' (upd col hh.size 0) d:=s.free f (ag_upd _ _ _) fun _ _ x=>x.elim
theorem St.write (s:St h0 hh col d) (hg:d.gs=[]) {i:Nat} (hi:i<d.ls.length) {ys:List Value} (f:Fr (On col (10+i)) hh h') (w:Sl h' 1 d.ls[i].a d.ls[i].l d.ls[i].c ys (On col (10+i))) :
  St h0 h' col { d with ws:=d.ws.set i ys }:=by
 have g:Ag hh.size col col:=Ag.refl _ _
 have l9:=s.l9
 refine ⟨s.fr.trans f fun b hb hF=>?_,s.low,s.l9,s.g9,s.o9,s.lists.write hi (Or.inl (by omega)) f w,s.longs.keep f g fun b _ h1 h2=>?_,s.was.keep f g fun b _ h1 h2=>?_⟩
 ·have hF:col b=10+i:=hF; rw [s.low b hb] at hF; omega
 ·have h2:col b=10+i:=h2; rw [hg,List.length_nil] at h1; omega
 ·have h2:col b=10+i:=h2; omega
theorem St.app (s:St h0 hh col d) {i:Nat} (hi:i<d.ls.length) (hv:i<d.ws.length) (hgi:d.gs.length≤i) (f:Fr (On col (10+i)) hh h') (w:Sl h' 1 d.ls[i].a d.ls[i].l d.ls[i].c d.ws[i] (On col (10+i))) :
  St h0 h' (upd col hh.size (10+i)) d:=by
 have g:Ag hh.size col (upd col hh.size (10+i)):=ag_upd _ _ _
 have hz:=s.fr.size
 have l9:=s.l9
 refine ⟨s.fr.trans f fun b hb hF=>?_,fun b hb=>(g b (by omega)).trans (s.low b hb),s.l9,s.g9,s.o9,Rw.app s.lists hi hv (Or.inl (by omega)) f w,s.longs.keep f g fun b _ h1 h2=>?_,s.was.keep f g fun b _ h1 h2=>?_⟩
 ·have hF:col b=10+i:=hF; rw [s.low b hb] at hF; omega
 ·have h2:col b=10+i:=h2; omega
 ·have h2:col b=10+i:=h2; omega
theorem St.gpush (s:St h0 hh col d) (hl:d.gs.length<9) {x:Sc} {xv:List Value} {a':Option Addr} {c':Nat} (f:Fr (On col 4) hh h') (r:Sl h' 1 a' (d.gs.length+1) c' (d.gs.map Sc.v++[x.v]) (On (upd col hh.size 4) 4)) (it:Sl hh 1 x.a x.l x.c xv (On col (10+d.gs.length))) :
  St h0 h' (upd col hh.size 4) { d with gA:=a',gC:=c',gs:=d.gs++[x],gv:=d.gv++[xv] }:=by
 have g:Ag hh.size col (upd col hh.size 4):=ag_upd _ _ _
 have hz:=s.fr.size
 have l9:=s.l9
 have lg:=Rw.push (new:=[x]) (nvs:=[xv]) s.longs (Or.inl (by omega)) f r rfl fun i h1 h2=>by
  have:i=0:=by have:i<1:=h1; omega
  subst this
  exact it
 refine ⟨s.fr.trans f fun b hb hF=>?_,fun b hb=>(g b (by omega)).trans (s.low b hb),s.l9,by show (d.gs++[x]).length≤9; rw [List.length_append,List.length_singleton]; omega,s.o9,s.lists.keep f g fun b _ h1 h2=>?_,?_,s.was.keep f g fun b _ h1 h2=>?_⟩
 ·have hF:col b=4:=hF; rw [s.low b hb] at hF; omega
 ·have h2:col b=4:=h2; omega
 ·show Rw h' _ 4 10 a' (d.gs++[x]).length c' _ _
  rw [List.length_append,List.length_singleton]; exact lg
 ·have h2:col b=4:=h2; omega
theorem St.opush (s:St h0 hh col d) (hl:d.os.length<9) {x:Sc} {xv:List Value} {a':Option Addr} {c':Nat} (f:Fr (On col 3) hh h') (r:Sl h' 1 a' (d.os.length+1) c' (d.os.map Sc.v++[x.v]) (On (upd col hh.size 3) 3)) (it:Sl hh 1 x.a x.l x.c xv (On col (30+d.os.length))) :
  St h0 h' (upd col hh.size 3) { d with wA:=a',wC:=c',os:=d.os++[x],ov:=d.ov++[xv] }:=by
 have g:Ag hh.size col (upd col hh.size 3):=ag_upd _ _ _
 have hz:=s.fr.size
 have l9:=s.l9
 have lg:=Rw.push (new:=[x]) (nvs:=[xv]) s.was (Or.inl (by omega)) f r rfl fun i h1 h2=>by
  have:i=0:=by have:i<1:=h1; omega
  subst this
  exact it
 refine ⟨s.fr.trans f fun b hb hF=>?_,fun b hb=>(g b (by omega)).trans (s.low b hb),s.l9,s.g9,by show (d.os++[x]).length≤9; rw [List.length_append,List.length_singleton]; omega,s.lists.keep f g fun b _ h1 h2=>?_,s.longs.keep f g fun b _ h1 h2=>?_,?_⟩
 ·have hF:col b=3:=hF; rw [s.low b hb] at hF; omega
 ·have h2:col b=3:=h2; omega
 ·have h2:col b=3:=h2; omega
 ·show Rw h' _ 3 30 a' (d.os++[x]).length c' _ _
  rw [List.length_append,List.length_singleton]; exact lg
theorem St.lpush (s:St h0 hh col d) (hg:d.gs=[]) (ho:d.os=[]) {xs:List Sc} {xv:List (List Value)} (hl:d.ls.length+xs.length≤9) {a':Option Addr} {c':Nat} (f:Fr (On col 1) hh h') (r:Sl h' 1 a' (d.ls.length+xs.length) c' (d.ls.map Sc.v++xs.map Sc.v) (On (upd col hh.size 1) 1)) (hn:xs.length=xv.length)
  (it:∀ i (h1:i<xs.length) (h2:i<xv.length),Sl hh 1 xs[i].a xs[i].l xs[i].c xv[i] (On col (10+d.ls.length+i))) :
  St h0 h' (upd col hh.size 1) { d with lA:=a',lC:=c',ls:=d.ls++xs,ws:=d.ws++xv }:=by
 have g:Ag hh.size col (upd col hh.size 1):=ag_upd _ _ _
 have hz:=s.fr.size
 have lg:=Rw.push (new:=xs) (nvs:=xv) s.lists (Or.inl (by omega)) f r hn it
 refine ⟨s.fr.trans f fun b hb hF=>?_,fun b hb=>(g b (by omega)).trans (s.low b hb),by show (d.ls++xs).length≤9; rw [List.length_append]; omega,s.g9,s.o9,?_,s.longs.keep f g fun b _ h1 h2=>?_,s.was.keep f g fun b _ h1 h2=>?_⟩
 ·have hF:col b=1:=hF; rw [s.low b hb] at hF; omega
 ·show Rw h' _ 1 10 a' (d.ls++xs).length c' _ _
  rw [List.length_append]; exact lg
 ·have h2:col b=1:=h2; omega
 ·have h2:col b=1:=h2; omega
theorem upd_ge' {col:Nat→Nat} {n k b:Nat} (h:n≤b):upd col n k b=k:=by unfold upd; rw [if_neg (by omega)]
theorem ansOn {h0 h h':Heap} {xs:List Value} {a:Option Addr} {l c k:Nat} {col:Nat→Nat} (s:Sl h 1 a l c xs (From h0.size)) (f:Fr No h h') (hc:∀ y,h0.size≤y→y<h.size→col y=k):Sl h' 1 a l c xs (On col k):=by
 have s':=s.fr f fun _ _ _ x=>x
 obtain ⟨y1,y2⟩:=s'
 refine ⟨y1,?_⟩
 cases a with
 | none=>exact y2
 | some pp=>obtain ⟨u1,u2,u3,u4⟩:=y2; exact ⟨u1,hc _ u2 s.lt,u3,u4⟩
def markV (i:Nat):Value := .int .i64 (-1 - (i:Int))
theorem met_chain {T:TM} {g:G} {fl beh:Bool} {s:Wl.St} {kind n:Int}:(metM T g fl beh s kind n).2.2.chain.length≤s.chain.length+1:=by
 unfold metM
 split
 ·split
  ·exact Nat.le_succ _
  ·show (s.chain++[n]).length≤_
   rw [List.length_append]; exact Nat.le_refl _
 ·split
  ·unfold linkM
   split
   ·exact Nat.le_succ _
   ·split
    ·exact Nat.le_succ _
    ·split
     ·exact Nat.le_succ _
     ·split
      ·exact Nat.le_succ _
      ·show (if _ then [1] else s.chain).length≤_
       split
       ·show 1≤_; omega
       ·exact Nat.le_succ _
  ·split <;> exact Nat.le_succ _
theorem end_chain {T:TM} {g:G} {fl beh:Bool}:∀ (m:Nat) (s:Wl.St),(endGo T g fl beh m s).1.chain.length≤s.chain.length+m
 | 0,_=>Nat.zero_le _
 | m+1,s=>by
  unfold endGo
  cases s.left with
  | nil=>exact Nat.le_add_right _ _
  | cons c r =>
   dsimp only
   split
   ·have:=end_chain (T:=T) (g:=g) (fl:=fl) (beh:=beh) m ⟨upC s.chain,r,s.fol⟩
    have h:(upC s.chain).length≤s.chain.length:=by
     unfold upC
     split
     ·rw [List.length_dropLast]; omega
     ·exact Nat.le_refl _
    have e:(⟨upC s.chain,r,s.fol⟩:Wl.St).chain.length=(upC s.chain).length:=rfl
    omega
   ·split
    ·exact Nat.zero_le _
    ·split
     ·exact Nat.zero_le _
     ·split
      ·exact Nat.zero_le _
      ·split
       ·show s.chain.length≤_; omega
       ·have:=end_chain (T:=T) (g:=g) (fl:=fl) (beh:=beh) m (metM T g fl beh ⟨s.chain,r,s.fol⟩ ((getM T g (findD T g (here s.chain) c).1).1.getD 0 0) (findD T g (here s.chain) c).1).2.2
        have h:=met_chain (T:=T) (g:=g) (fl:=fl) (beh:=beh) (s:=⟨s.chain,r,s.fol⟩) (kind:=(getM T g (findD T g (here s.chain) c).1).1.getD 0 0) (n:=(findD T g (here s.chain) c).1)
        have e:(⟨s.chain,r,s.fol⟩:Wl.St).chain.length=s.chain.length:=rfl
        omega
theorem to_chain (T:TM) (g:G) (p:Tm.Txt) (fl:Bool):(toM T g p fl).1.chain.length≤400:=by
 have hp:=(parse_fits (s:=p) (b:=true)).1
 unfold toM
 split
 ·exact Nat.zero_le _
 ·refine Nat.le_trans (end_chain _ _) ?_
  show 1+(33*(8 - 0)+(parseA p true).1.length+1)≤400
  omega
theorem make_chain (T:TM) (g:G) (p:Tm.Txt):(makeW T g p).1.chain.length≤400:=by
 have hp:=Wl.make_fits p
 unfold makeW
 split
 ·exact Nat.zero_le _
 ·split
  ·show 1≤400; decide
  ·split
   ·exact Nat.zero_le _
   ·split
    ·exact Nat.zero_le _
    ·refine Nat.le_trans (end_chain _ _) ?_
     show 1+(33*(8 - 0)+(makeA p).1.length+1)≤400
     omega
def items2 (T:TM) (g:G) (x:Tm.Txt):List (List Int):=[(toM T g x true).1.chain,(makeW T g x).1.chain]
def allL (T:TM) (g:G) (xs:List Tm.Txt):List (List Int):=xs.flatMap (items2 T g)
theorem allL_snoc (T:TM) (g:G) (xs:List Tm.Txt) (x:Tm.Txt):allL T g (xs++[x])=allL T g xs++items2 T g x:=by simp [allL]
end Go.Proofs.YtiapingedfnlnaaGreatDoor.Wo
namespace Go.Proofs.YtiapingedfnlnaaGreatDoor.Wo
open Go Go.Proofs Wx Hp W Spc Rz
open Tm (TM Tx)
open Hd (ints)
open In (ints_length ints_one)
open Wl (Pl toM makeW To_spec Make_spec plV plV_one)
variable {h0 hh h' : Heap} {col col' : Nat → Nat} {d : Rs}
theorem own_mark {NEXT:Heap→Prop} (s:St h0 hh col d) (hg:d.gs=[]) (ll:∀ i (hi:i<d.ls.length),d.ls[i].l≤400)
  (hN:∀ h' col' ws,St h0 h' col' { d with ws:=ws }→(∀ i (h1:i<d.ls.length) (h2:i<ws.length),ws[i]=List.replicate d.ls[i].l (markV i))→NEXT h') :
  ∃ (I3:Int→Heap→Prop) (M3:Int→Heap→Nat),I3 0 hh ∧
 ∀ (n5:Int),∀ h26:Heap,I3 n5 h26 →
 bif (decide (n5<(d.ls.length:Int))) then (
 (0≤n5∧n5<(d.ls.length:Int)) ∧
 onSome d.lA fun p7 =>
 ∃ (sA12:Option Addr) (sL12:Nat) (sC12:Nat),cellOf h26 (Addr.add p7 (Int.toNat n5))=some (.slice sA12 sL12 sC12) ∧
 ∃ (I4:Int→Heap→Prop) (M4:Int→Heap→Nat),I4 0 h26 ∧
 ∀ (n6:Int),∀ h27:Heap,I4 n6 h27 →
 bif (decide (n6<(sL12:Int))) then (
 (0≤n6∧n6<(sL12:Int)) ∧
 onSome sA12 fun p8 =>
 Put (Addr.add p8 (Int.toNat n6)) (.int .i64 (IntKind.wrap .i64 ((-1) - n5))) h27 fun h28 =>
 I4 (IntKind.wrap .i64 (n6+1)) h28∧M4 (IntKind.wrap .i64 (n6+1)) h28<M4 n6 h27) else (
 I3 (IntKind.wrap .i64 (n5+1)) h27∧M3 (IntKind.wrap .i64 (n5+1)) h27<M3 n5 h26)) else NEXT h26:=by
 have l9:=s.l9
 refine ⟨fun n h=>0≤n∧n≤d.ls.length∧∃ col ws,St h0 h col { d with ws:=ws }∧∀ i (h1:i<d.ls.length) (h2:i<ws.length),i<n.toNat→ws[i]=List.replicate d.ls[i].l (markV i),fun n _=>((d.ls.length:Int) - n).toNat,
  ⟨by omega,by omega,col,d.ws,s,fun i _ _ h=>absurd h (Nat.not_lt_zero _)⟩,?_⟩
 rintro n h24 ⟨z0,z1,col1,vs,t,hv⟩
 refine cd (fun hn=>?_) fun hn=>hN h24 col1 vs t fun i h1 h2=>hv i h1 h2 (by omega)
 have i2:n.toNat<d.ls.length:=by omega
 have tl:d.ls.length=vs.length:=t.lists.len
 have i3:n.toNat<vs.length:=by omega
 obtain ⟨p,e,cc⟩:=t.lists.cell i2
 have e:d.lA=some p:=e
 have cc:cellOf h24 (Addr.add p n.toNat)=some (.slice d.ls[n.toNat].a d.ls[n.toNat].l d.ls[n.toNat].c):=cc
 have hll:=ll n.toNat i2
 have vl:vs[n.toNat].length=d.ls[n.toNat].l:=t.lists.len_at i2 i3
 refine ⟨⟨z0,hn⟩,oe e ⟨_,_,_,cc,fun j h=>0≤j∧j≤d.ls[n.toNat].l∧∃ col,St h0 h col { d with ws:=vs.set n.toNat (List.replicate j.toNat (markV n.toNat)++vs[n.toNat].drop j.toNat) },fun j _=>((d.ls[n.toNat].l:Int) - j).toNat,
  ⟨by omega,by omega,col1,?_⟩,?_⟩⟩
 ·rw [show vs.set n.toNat (List.replicate (0:Int).toNat (markV n.toNat)++vs[n.toNat].drop (0:Int).toNat)=vs from List.set_getElem_self i3]
  exact t
 rintro j h26 ⟨j0,j1,col3,t26⟩
 refine cd (fun hj=>?_) fun hj=>?_
 ·refine ⟨⟨j0,hj⟩,?_⟩
  have it:=t26.lists.at_ n.toNat i2 (show n.toNat<(vs.set n.toNat _).length by rw [List.length_set]; exact i3)
  have it:Sl h26 1 d.ls[n.toNat].a d.ls[n.toNat].l d.ls[n.toNat].c (List.replicate j.toNat (markV n.toNat)++vs[n.toNat].drop j.toNat) (On col3 (10+n.toNat)):=by
   have:(vs.set n.toNat (List.replicate j.toNat (markV n.toNat)++vs[n.toNat].drop j.toNat))[n.toNat]'(by rw [List.length_set]; exact i3)=_:=List.getElem_set_self _
   rw [← this]; exact it
  obtain ⟨pp,ep,_⟩:=it.get (by omega)
  rw [ep] at it
  obtain ⟨pb,po,ps⟩:=pp
  have eps:ps=none:=it.2.1
  subst eps
  have hF:On col3 (10+n.toNat) pb:=it.2.2.1
  obtain ⟨w,wl'⟩:=it.wr
  have em:Value.int .i64 (IntKind.wrap .i64 ((-1) - n))=markV n.toNat:=by
   unfold markV
   rw [wrap_i64 (by omega) (by omega),show ((n.toNat:Nat):Int)=n by omega]
  rw [ep,em,wrap_i64 (n:=j+1) (by omega) (by omega)]
  refine os (Put.add w (by omega) fun h27 d27=>?_)
  have s27:=it.putAt (j:=j.toNat) (new:=[markV n.toNat]) (by rw [List.length_singleton]; omega) d27
  have ex:put (List.replicate j.toNat (markV n.toNat)++vs[n.toNat].drop j.toNat) j.toNat [markV n.toNat]=List.replicate (j+1).toNat (markV n.toNat)++vs[n.toNat].drop (j+1).toNat:=by
   rw [show (j+1).toNat=j.toNat+1 by omega,← set_here _ _ _ (by omega)]; rfl
  rw [ex,← ep] at s27
  have f27:Fr (On col3 (10+n.toNat)) h26 h27:=(Fr.refl _ _).did d27 fun _=>hF
  have t27:=t26.write (i:=n.toNat) hg i2 f27 s27
  simp only [List.set_set] at t27
  exact ⟨⟨by omega,by omega,col3,t27⟩,falls hj⟩
 ·have ej:j.toNat=d.ls[n.toNat].l:=by omega
  rw [ej,List.drop_of_length_le (by omega),List.append_nil] at t26
  rw [wrap_i64 (n:=n+1) (by omega) (by omega)]
  refine ⟨⟨by omega,by omega,col3,_,t26,fun i h1 h2 hi=>?_⟩,falls hn⟩
  have h2':i<vs.length:=by rw [List.length_set] at h2; exact h2
  by_cases ei:n.toNat=i
  ·subst ei; rw [List.getElem_set_self]
  ·rw [List.getElem_set_ne ei]; exact hv i h1 h2' (by omega)
theorem own_long {NEXT:Option Addr→Nat→Nat→Heap→Prop} (s:St h0 hh col d) (e1:d.gA=none) (e2:d.gC=0) (e3:d.gs=[]) (e4:d.gv=[]) (ll:∀ i (hi:i<d.ls.length),d.ls[i].l≤400)
  (hw:∀ i (h1:i<d.ls.length) (h2:i<d.ws.length),d.ws[i]=List.replicate d.ls[i].l (markV i))
  (hN:∀ h' col' gA gC gs gv,St h0 h' col' { d with gA:=gA,gC:=gC,gs:=gs,gv:=gv }→gs.length=d.ls.length→(∀ i (h1:i<d.ls.length) (h2:i<gs.length),gs[i].l=d.ls[i].l+2)→(∀ i (h1:i<gs.length) (h2:i<gv.length),gv[i]=List.replicate gs[i].l (markV i))→NEXT gA gs.length gC h') :
 ∃ (I5:Option Addr→Nat→Nat→Int→Heap→Prop) (M5:Option Addr→Nat→Nat→Int→Heap→Nat),I5 none 0 0 0 hh ∧
 ∀ (longsA1:Option Addr) (longsL1:Nat) (longsC1:Nat) (n7:Int),∀ h29:Heap,I5 longsA1 longsL1 longsC1 n7 h29 →
 bif (decide (n7<(d.ls.length:Int))) then (
 (0≤n7∧n7<(d.ls.length:Int)) ∧
 onSome d.lA fun p9 =>
 ∃ (sA13:Option Addr) (sL13:Nat) (sC13:Nat),cellOf h29 (Addr.add p9 (Int.toNat n7))=some (.slice sA13 sL13 sC13) ∧
 New [.int .i64 (IntKind.wrap .i64 ((-1) - n7)),.int .i64 (IntKind.wrap .i64 ((-1) - n7))] 3 h29 fun h30 =>
 ∃ new4:List Value,List.length new4=2*1∧SlCells h30 (some ⟨h29.size,0,none⟩) new4∧(∀ v ∈ new4,v.oneCell'=true) ∧
 AppendP ti3 3 sA13 sL13 sC13 2 new4 h30 fun sA14 sL14 sC14 h31 =>
 New [.slice sA14 sL14 sC14] 61 h31 fun h32 =>
 ∃ new5:List Value,List.length new5=1*1∧SlCells h32 (some ⟨h31.size,0,none⟩) new5∧(∀ v ∈ new5,v.oneCell'=true) ∧
 AppendP ti61 61 longsA1 longsL1 longsC1 1 new5 h32 fun sA15 sL15 sC15 h33 =>
 I5 sA15 sL15 sC15 (IntKind.wrap .i64 (n7+1)) h33∧M5 sA15 sL15 sC15 (IntKind.wrap .i64 (n7+1)) h33<M5 longsA1 longsL1 longsC1 n7 h29) else NEXT longsA1 longsL1 longsC1 h29:=by
 have l9:=s.l9
 refine ⟨fun A L C n h=>0≤n∧n≤d.ls.length∧∃ col gs gv,St h0 h col { d with gA:=A,gC:=C,gs:=gs,gv:=gv }∧gs.length=n.toNat∧L=gs.length∧(∀ i (h1:i<d.ls.length) (h2:i<gs.length),gs[i].l=d.ls[i].l+2)∧(∀ i (h1:i<gs.length) (h2:i<gv.length),gv[i]=List.replicate gs[i].l (markV i)),fun _ _ _ n _=>((d.ls.length:Int) - n).toNat,
  ⟨by omega,by omega,col,[],[],by rw [← e1,← e2,← e3,← e4]; exact s,rfl,rfl,fun i _ h=>absurd h (Nat.not_lt_zero _),fun i h=>absurd h (Nat.not_lt_zero _)⟩,?_⟩
 rintro A L C n h21 ⟨z0,z1,col,gs,gv,t,hgl,rfl,hl,hv⟩
 refine cd (fun hn=>?_) fun hn=>hN h21 col A C gs gv t (by omega) hl hv
 have i2:n.toNat<d.ls.length:=by omega
 have tl:d.ls.length=d.ws.length:=t.lists.len
 have tg:gs.length=gv.length:=t.longs.len
 obtain ⟨p,e,cc⟩:=t.lists.cell i2
 have e:d.lA=some p:=e
 have cc:cellOf h21 (Addr.add p n.toNat)=some (.slice d.ls[n.toNat].a d.ls[n.toNat].l d.ls[n.toNat].c):=cc
 have hll:=ll n.toNat i2
 have em:Value.int .i64 (IntKind.wrap .i64 ((-1) - n))=markV n.toNat:=by
  unfold markV
  rw [wrap_i64 (by omega) (by omega),show ((n.toNat:Nat):Int)=n by omega]
 rw [em,wrap_i64 (n:=n+1) (by omega) (by omega)]
 refine ⟨⟨z0,hn⟩,oe e ⟨_,_,_,cc,New.intro fun h31 n31=>⟨[markV n.toNat,markV n.toNat],rfl,cellsAll n31.rd,one2 rfl rfl,?_⟩⟩⟩
 have t31:=t.quiet n31.fr
 generalize upd col h21.size 0=col31 at t31
 have it:=t31.lists.at_ n.toNat i2 (show n.toNat<d.ws.length by omega)
 have it:Sl h31 1 d.ls[n.toNat].a d.ls[n.toNat].l d.ls[n.toNat].c (d.ws[n.toNat]'(by omega)) (On col31 (10+n.toNat)):=it
 have hbytes:(ti3).bytes=8:=rfl
 refine append_both (elem:=ti3) it rfl rfl (by rw [hbytes]; omega) (by omega) fun a7 c7 h32 f32 s32 o32=>?_
 have t32:=t31.app i2 (show n.toNat<d.ws.length by omega) (show gs.length≤n.toNat by omega) f32 o32
 have hs32:=f32.size
 have x32:Sl h32 1 a7 (d.ls[n.toNat].l+2) c7 (List.replicate (d.ls[n.toNat].l+2) (markV n.toNat)) (On (upd col31 h31.size (10+n.toNat)) (10+n.toNat)):=by
  have e5:d.ws[n.toNat]'(by omega)++[markV n.toNat,markV n.toNat]=List.replicate (d.ls[n.toNat].l+2) (markV n.toNat):=by
   rw [hw n.toNat i2 (by omega),List.replicate_succ',List.replicate_succ',List.append_assoc]; rfl
  rw [← e5]
  refine (show Sl h32 1 a7 (d.ls[n.toNat].l+2) c7 _ _ from s32).mono fun b hb=>?_
  show upd col31 h31.size (10+n.toNat) b=_
  rcases hb with hb|hb
  ·have hb:col31 b=10+n.toNat:=hb
   unfold upd
   split
   ·exact hb
   ·rfl
  ·exact upd_ge' hb
 generalize upd col31 h31.size (10+n.toNat)=col32 at t32 x32
 refine New.intro fun h33 n33=>⟨[.slice a7 (d.ls[n.toNat].l+2) c7],rfl,cellsAll n33.rd,fun v hv=>by rw [List.mem_singleton.mp hv]; rfl,?_⟩
 have t33:=t32.quiet n33.fr
 have x33:=Rz.Sl.keep' x32 n33.fr (ag_upd col32 h32.size 0) fun _ _ _ x=>x
 generalize upd col32 h32.size 0=col33 at t33 x33
 have row:=t33.longs.row
 have hbytes2:(ti61).bytes=24:=rfl
 refine append_col (elem:=ti61) (show Sl h33 (ti61).cells A gs.length C (gs.map Sc.v) (On col33 4) from row) rfl rfl (by rw [hbytes2]; omega) (by omega) fun a8 c8 h34 f34 s34=>?_
 have t34:=t33.gpush (x:=⟨a7,d.ls[n.toNat].l+2,c7⟩) (xv:=List.replicate (d.ls[n.toNat].l+2) (markV n.toNat)) (a':=a8) (c':=c8) (show gs.length<9 by omega) f34 s34 (by rw [show (10+({ d with gA:=A,gC:=C,gs:=gs,gv:=gv }:Rs).gs.length)=10+n.toNat from by show 10+gs.length=_; omega]; exact x33)
 refine ⟨⟨by omega,by omega,_,gs++[⟨a7,d.ls[n.toNat].l+2,c7⟩],gv++[List.replicate (d.ls[n.toNat].l+2) (markV n.toNat)],t34,by rw [List.length_append,List.length_singleton]; omega,by rw [List.length_append,List.length_singleton],fun i h1 h2=>?_,fun i h1 h2=>?_⟩,falls hn⟩
 ·rw [List.length_append,List.length_singleton] at h2
  by_cases hi:i<gs.length
  ·rw [List.getElem_append_left hi]; exact hl i h1 hi
  ·have:i=n.toNat:=by omega
   subst this
   rw [List.getElem_append_right (by omega)]
   simp only [hgl,Nat.sub_self,List.getElem_singleton]
 ·rw [List.length_append,List.length_singleton] at h1 h2
  by_cases hi:i<gs.length
  ·have hi2:i<gv.length:=by omega
   simp only [List.getElem_append_left hi,List.getElem_append_left hi2]; exact hv i hi hi2
  ·have:i=n.toNat:=by omega
   subst this
   have hgv:gv.length=n.toNat:=by omega
   rw [List.getElem_append_right (by omega)]
   simp only [List.getElem_append_right (show gs.length≤n.toNat by omega),hgl,hgv,Nat.sub_self,List.getElem_singleton]
theorem own_see {K:Value→Heap→Prop} {NEXT:Heap→Prop} (s:St h0 hh col d) (hg:d.gs.length=d.ls.length) (ll:∀ i (hi:i<d.ls.length),d.ls[i].l≤400) (gl:∀ i (h1:i<d.ls.length) (h2:i<d.gs.length),d.gs[i].l=d.ls[i].l+2)
  (hw:∀ i (h1:i<d.ls.length) (h2:i<d.ws.length),d.ws[i]=List.replicate d.ls[i].l (markV i)) (hov:∀ i (h1:i<d.gs.length) (h2:i<d.gv.length),d.gv[i]=List.replicate d.gs[i].l (markV i)) (hN:NEXT hh) :
 ∃ (I6:Int→Heap→Prop) (M6:Int→Heap→Nat),I6 0 hh ∧
 ∀ (n8:Int),∀ h34:Heap,I6 n8 h34 →
 bif (decide (n8<(d.gs.length:Int))) then (
 (0≤n8∧n8<(d.gs.length:Int)) ∧
 onSome d.gA fun p10 =>
 ∃ (sA16:Option Addr) (sL16:Nat) (sC16:Nat),cellOf h34 (Addr.add p10 (Int.toNat n8))=some (.slice sA16 sL16 sC16) ∧
 ∃ (I7:Int→Heap→Prop) (M7:Int→Heap→Nat),I7 0 h34 ∧
 ∀ (n9:Int),∀ h35:Heap,I7 n9 h35 →
 bif (decide (n9<(sL16:Int))) then (
 (0≤n9∧n9<(sL16:Int)) ∧
 onSome sA16 fun p11 =>
 ∃ (n10:Int),cellOf h35 (Addr.add p11 (Int.toNat n9))=some (.int .i64 n10) ∧
 bif (n10 != (IntKind.wrap .i64 ((-1) - n8))) then (
 K (.bool false) h35) else (
 (0≤n8∧n8<(d.ls.length:Int)) ∧
 onSome d.lA fun p12 =>
 ∃ (sA17:Option Addr) (sL17:Nat) (sC17:Nat),cellOf h35 (Addr.add p12 (Int.toNat n8))=some (.slice sA17 sL17 sC17) ∧
 bif (decide (n9<(sL17:Int))) then (
 (0≤n8∧n8<(d.ls.length:Int)) ∧
 onSome d.lA fun p13 =>
 ∃ (sA18:Option Addr) (sL18:Nat) (sC18:Nat),cellOf h35 (Addr.add p13 (Int.toNat n8))=some (.slice sA18 sL18 sC18) ∧
 (0≤n9∧n9<(sL18:Int)) ∧
 onSome sA18 fun p14 =>
 ∃ (n11:Int),cellOf h35 (Addr.add p14 (Int.toNat n9))=some (.int .i64 n11) ∧
 bif (n11 != n10) then (
 K (.bool false) h35) else (
 I7 (IntKind.wrap .i64 (n9+1)) h35∧M7 (IntKind.wrap .i64 (n9+1)) h35<M7 n9 h35)) else (
 I7 (IntKind.wrap .i64 (n9+1)) h35∧M7 (IntKind.wrap .i64 (n9+1)) h35<M7 n9 h35))) else (
 I6 (IntKind.wrap .i64 (n8+1)) h35∧M6 (IntKind.wrap .i64 (n8+1)) h35<M6 n8 h34)) else NEXT h34:=by
 have l9:=s.l9
 have lw:=s.lists.len
 have lo:=s.longs.len
 refine ⟨fun n h=>0≤n∧n≤d.gs.length∧hh=h,fun n _=>((d.gs.length:Int) - n).toNat,⟨by omega,by omega,rfl⟩,?_⟩
 rintro n _ ⟨z0,z1,rfl⟩
 refine cd (fun hn=>?_) fun _=>hN
 have i1:n.toNat<d.gs.length:=by omega
 have i2:n.toNat<d.ls.length:=by omega
 obtain ⟨p,e,cc⟩:=s.longs.cell i1
 have hol:=gl n.toNat i2 i1
 have hll:=ll n.toNat i2
 have ew:IntKind.wrap .i64 ((-1) - n) = -1 - ((n.toNat:Nat):Int):=by rw [wrap_i64 (by omega) (by omega)]; omega
 refine ⟨⟨z0,hn⟩,oe e ⟨_,_,_,cc,fun j h=>0≤j∧j≤d.gs[n.toNat].l∧hh=h,fun j _=>((d.gs[n.toNat].l:Int) - j).toNat,⟨by omega,by omega,rfl⟩,?_⟩⟩
 rintro j _ ⟨j0,j1,rfl⟩
 refine cd (fun hj=>?_) fun hj=>?_
 ·obtain ⟨pi,ei,ci⟩:=s.longs.item i1 (by omega) (j:=j.toNat) (by omega) (v:=markV n.toNat) (by rw [hov _ i1 (by omega)]; exact rep_get (by omega))
  obtain ⟨q,eq,cq⟩:=s.lists.cell i2
  have nx:(0≤IntKind.wrap .i64 (j+1)∧IntKind.wrap .i64 (j+1)≤d.gs[n.toNat].l∧hh=hh)∧((d.gs[n.toNat].l:Int) - IntKind.wrap .i64 (j+1)).toNat<((d.gs[n.toNat].l:Int) - j).toNat:=by
   rw [wrap_i64 (n:=j+1) (by omega) (by omega)]
   exact ⟨⟨by omega,by omega,rfl⟩,falls hj⟩
  refine ⟨⟨j0,hj⟩,oe ei ⟨_,ci,cn (fun x=>absurd ew.symm x) fun _=>⟨⟨z0,by omega⟩,oe eq ⟨_,_,_,cq,cd (fun hj2=>?_) fun _=>nx⟩⟩⟩⟩
  obtain ⟨pl,el,cl⟩:=s.lists.item i2 (by omega) (j:=j.toNat) (by omega) (v:=markV n.toNat) (by rw [hw _ i2 (by omega)]; exact rep_get (by omega))
  exact ⟨⟨z0,by omega⟩,oe eq ⟨_,_,_,cq,⟨j0,hj2⟩,oe el ⟨_,cl,cn (fun x=>absurd rfl x) fun _=>nx⟩⟩⟩
 ·rw [wrap_i64 (n:=n+1) (by omega) (by omega)]
  exact ⟨⟨by omega,by omega,rfl⟩,falls hn⟩
theorem St.cell {ps:List (List Int)} (s:St h0 hh col d) (ho:d.ov=ps.map ints) {i:Nat} {q:List Int} (hq:ps[i]?=some q):∃ p a l c,d.wA=some p∧i<d.os.length∧cellOf hh (p.add i)=some (.slice a l c)∧SlCells hh a (ints q)∧q.length=l:=by
 obtain ⟨hi,hq⟩:=List.getElem?_eq_some_iff.mp hq
 subst hq
 have hlen:=s.was.len
 rw [ho,List.length_map] at hlen
 obtain ⟨p,e,cc⟩:=s.was.cell (i:=i) (by omega)
 have it:=s.was.at_ i (by omega) (by rw [ho,List.length_map]; exact hi)
 have ev:d.ov[i]'(by rw [ho,List.length_map]; exact hi)=ints ps[i]:=by simp only [ho,List.getElem_map]
 rw [ev] at it
 have h1:=it.1
 rw [ints_length] at h1
 exact ⟨p,_,_,_,e,by omega,cc,it.cells,by omega⟩
theorem own_take {NEXT:Option Addr→Nat→Nat→Heap→Prop} {F:Nat→Prop} {tb:Nat} {dd:Option Addr} {T:TM} {n gb b0:Nat} {xs:List Tm.Txt} (gl:In.Glo h0) (dm:Av.Dim n) (X:Tx h0 F (some ⟨tb,0,none⟩) dd T) (rg:rd h0 gb=(geoN n).v) (hx:∀ x ∈ xs,x.length≤9223372036854775806) (x3:xs.length=3) (hb:b0<h0.size) (rb:rd h0 b0=Ch.strs xs)
  (hN:∀ h' col' lA lC ls,St h0 h' col' ⟨lA,lC,ls,(allL T (geoN n) xs).map ints,none,0,[],[],none,0,[],[]⟩→ls.length=6→(∀ i (hi:i<ls.length),ls[i].l≤400)→NEXT lA ls.length lC h') :
 ∃ (I1:Option Addr→Nat→Nat→Int→Heap→Prop) (M1:Option Addr→Nat→Nat→Int→Heap→Nat),I1 none 0 0 0 h0 ∧
 ∀ (rowsA1:Option Addr) (rowsL1:Nat) (rowsC1:Nat) (n1:Int),∀ h9:Heap,I1 rowsA1 rowsL1 rowsC1 n1 h9 →
 bif (decide (n1<(3:Int))) then (
 (0≤n1∧n1<(3:Int)) ∧
 ∃ (s2:ByteArray),cellOf h9 (Addr.add ⟨b0,0,none⟩ (Int.toNat n1))=some (.string s2) ∧
 ∃ cs3:List Value,List.length cs3=5∧Cells h9 ⟨gb,0,none⟩ cs3 ∧
 C.walk_To (some ⟨tb,0,none⟩) cs3 s2 true h9 fun r3 h10 =>
 ∃ (cs4:List Value) (n2:Int),r3 = .tuple #[.agg ⟨cs4⟩,.int .i64 n2] ∧
 NewRow z66 66 cs4 3 h10 fun h12 =>
 ∃ cs5:List Value,List.length cs5=5∧Cells h12 ⟨gb,0,none⟩ cs5 ∧
 C.walk_Make (some ⟨tb,0,none⟩) cs5 s2 h12 fun r4 h13 =>
 ∃ (cs6:List Value) (n3:Int),r4 = .tuple #[.agg ⟨cs6⟩,.int .i64 n3] ∧
 NewRow z66 66 cs6 3 h13 fun h15 =>
 ∃ (sA2:Option Addr) (sL2:Nat) (sC2:Nat),cellOf h15 (Addr.add ⟨h10.size,0,none⟩ 0)=some (.slice sA2 sL2 sC2) ∧
 ∃ (sA3:Option Addr) (sL3:Nat) (sC3:Nat),cellOf h15 (Addr.add ⟨h13.size,0,none⟩ 0)=some (.slice sA3 sL3 sC3) ∧
 New [.slice sA2 sL2 sC2,.slice sA3 sL3 sC3] 61 h15 fun h16 =>
 ∃ new1:List Value,List.length new1=2*1∧SlCells h16 (some ⟨h15.size,0,none⟩) new1∧(∀ v ∈ new1,v.oneCell'=true) ∧
 AppendP ti61 61 rowsA1 rowsL1 rowsC1 2 new1 h16 fun sA4 sL4 sC4 h17 =>
 I1 sA4 sL4 sC4 (IntKind.wrap .i64 (n1+1)) h17∧M1 sA4 sL4 sC4 (IntKind.wrap .i64 (n1+1)) h17<M1 rowsA1 rowsL1 rowsC1 n1 h9) else NEXT rowsA1 rowsL1 rowsC1 h9:=by
 have gbl:gb<h0.size:=rd_lt (o:=0) (v := .int .i64 (geoN n).blocks) (by rw [rg]; rfl)
 refine ⟨fun A L C i h=>0≤i∧i≤3∧∃ col ls,St h0 h col ⟨A,C,ls,(allL T (geoN n) (xs.take i.toNat)).map ints,none,0,[],[],none,0,[],[]⟩∧L=ls.length∧ls.length=2*i.toNat∧∀ i (hi:i<ls.length),ls[i].l≤400,fun _ _ _ i _=>((3:Nat) - i).toNat,
  ⟨by omega,by omega,fun _=>0,[],⟨Fr.refl _ _,fun _ _=>rfl,Nat.zero_le _,Nat.zero_le _,Nat.zero_le _,Rw.nil _ _ _ _,Rw.nil _ _ _ _,Rw.nil _ _ _ _⟩,rfl,rfl,fun i hi=>absurd hi (Nat.not_lt_zero _)⟩,?_⟩
 rintro A L C i h9 ⟨z0,z1,col,ls,t,rfl,hl,ll⟩
 refine cd (fun hn=>?_) fun hn=>?_
 rotate_left
 ·have e3:i.toNat=3:=by omega
  rw [e3,List.take_of_length_le (by omega)] at t
  exact hN h9 col A C ls t (by omega) ll
 have hi:i.toNat<xs.length:=by omega
 have hxl:=hx _ (List.getElem_mem hi)
 have r9:rd h9 b0=Ch.strs xs:=(t.fr.rd hb fun x=>x).trans rb
 have rg9:rd h9 gb=(geoN n).v:=(t.fr.rd gbl fun x=>x).trans rg
 have et:xs.take (i+1).toNat=xs.take i.toNat++[xs[i.toNat]]:=by rw [show (i+1).toNat=i.toNat+1 by omega,List.take_succ_eq_append_getElem hi]
 have cx:cellOf h9 (Addr.add ⟨b0,0,none⟩ i.toNat)=some (.string (mkStr xs[i.toNat])):=rda r9 (by rw [Nat.zero_add,Ch.strs,List.getElem?_map,List.getElem?_eq_getElem hi]; rfl)
 generalize xs[i.toNat]=x at hxl cx et
 rw [wrap_i64 (n:=i+1) (by omega) (by omega)]
 have gl9:=gl.no t.fr
 have X9:=X.no t.fr
 have zz:=t.fr.size
 have b1:=to_chain T (geoN n) x true
 have b2:=make_chain T (geoN n) x
 refine ⟨⟨z0,hn⟩,_,cx,_,rfl,cellsAll rg9,To_spec gl9 dm X9 hxl fun h10 a1 c1 f10 L1=>⟨_,_,rfl,NewRow.intro rfl plV_one rfl fun h12 n12=>?_⟩⟩
 have z10:=f10.size
 have z12:=n12.size
 have f12:Fr No h9 h12:=f10.new n12
 have rg12:rd h12 gb=(geoN n).v:=(f12.rd (by omega) fun y=>y).trans rg9
 refine ⟨_,rfl,cellsAll rg12,Make_spec (gl9.no f12) dm (X9.no f12) hxl fun h13 a2 c2 f13 L2=>⟨_,_,rfl,NewRow.intro rfl plV_one rfl fun h15 n15=>?_⟩⟩
 have z13:=f13.size
 have z15:=n15.size
 have r10:rd h15 h10.size=plV a1 c1 (toM T (geoN n) x true).1:=(n15.at_ (by omega)).trans ((f13.rd (by omega) fun y=>y).trans n12.rd)
 refine ⟨_,_,_,rda r10 rfl,_,_,_,rda n15.rd rfl,New.intro fun h16 n16=>⟨_,rfl,cellsAll n16.rd,one2 rfl rfl,?_⟩⟩
 have z16:=n16.size
 have F16:Fr No h9 h16:=((f12.no f13).new n15).new n16
 obtain ⟨c8,cag,ca,cb⟩:∃ c8:Nat→Nat,Ag h9.size col c8∧(∀ y,h9.size≤y→y<h10.size→c8 y=10+ls.length+0)∧(∀ y,h12.size≤y→y<h13.size→c8 y=10+ls.length+1) :=
  ⟨fun y=>if y<h9.size then col y else if y<h10.size then 10+ls.length+0 else if y<h12.size then 0 else if y<h13.size then 10+ls.length+1 else 0,
   fun y hy=>if_pos hy,
   fun y b1 b2=>by show (if y<h9.size then _ else if y<h10.size then _ else _)=_; rw [if_neg (by omega),if_pos b2],
   fun y b1 b2=>by show (if y<h9.size then _ else if y<h10.size then _ else if y<h12.size then _ else if y<h13.size then _ else _)=_; rw [if_neg (by omega),if_neg (by omega),if_neg (by omega),if_pos b2]⟩
 have t16:=t.free F16 cag fun _ _ x=>x.elim
 have I1:=ansOn L1 (((n12.fr.no f13).new n15).new n16) ca
 have I2:=ansOn L2 (n15.fr.new n16) cb
 have hbytes:(ti61).bytes=24:=rfl
 refine append_col (elem:=ti61) (show Sl h16 (ti61).cells A ls.length C (ls.map Sc.v) (On c8 1) from t16.lists.row) rfl rfl (by rw [hbytes]; omega) (by omega) fun a9 c9 h17 f17 s17=>?_
 have t17:=t16.lpush (xs:=[⟨a1,(toM T (geoN n) x true).1.chain.length,c1⟩,⟨a2,(makeW T (geoN n) x).1.chain.length,c2⟩]) (xv:=[ints (toM T (geoN n) x true).1.chain,ints (makeW T (geoN n) x).1.chain]) rfl rfl (by show ls.length+2≤9; omega) f17 s17 rfl fun j h1 h2=>by
  have h1:j<2:=h1
  obtain rfl|rfl:j=0∨j=1:=by omega
  ·exact I1
  ·exact I2
 refine ⟨⟨by omega,by omega,upd c8 h16.size 1,ls++[⟨a1,(toM T (geoN n) x true).1.chain.length,c1⟩,⟨a2,(makeW T (geoN n) x).1.chain.length,c2⟩],?_,by rw [List.length_append]; rfl,?_,fun j hj=>?_⟩,falls (m:=3) hn⟩
 ·rw [et,allL_snoc,List.map_append]; exact t17
 ·rw [List.length_append]
  show ls.length+2=_
  omega
 ·rw [List.length_append] at hj
  have hj:j<ls.length+2:=hj
  by_cases hjl:j<ls.length
  ·rw [List.getElem_append_left hjl]; exact ll j hjl
  ·rw [List.getElem_append_right (by omega)]
   obtain e|e:j - ls.length=0∨j - ls.length=1:=by omega
   ·simp only [e]; exact b1
   ·simp only [e]; exact b2
theorem own_was {NEXT:Option Addr→Nat→Nat→Heap→Prop} {lA:Option Addr} {lC:Nat} {ls:List Sc} {ps:List (List Int)} (s:St h0 hh col ⟨lA,lC,ls,ps.map ints,none,0,[],[],none,0,[],[]⟩) (l6:ls.length=6) (ll:∀ i (hi:i<ls.length),ls[i].l≤400)
  (hN:∀ h' col' wA wC os,St h0 h' col' ⟨lA,lC,ls,ps.map ints,none,0,[],[],wA,wC,os,ps.map ints⟩→NEXT wA os.length wC h') :
 ∃ (I2:Option Addr→Nat→Nat→Int→Heap→Prop) (M2:Option Addr→Nat→Nat→Int→Heap→Nat),I2 none 0 0 0 hh ∧
 ∀ (wasA1:Option Addr) (wasL1:Nat) (wasC1:Nat) (n4:Int),∀ h18:Heap,I2 wasA1 wasL1 wasC1 n4 h18 →
 bif (decide (n4<(ls.length:Int))) then (
 (0≤n4∧n4<(ls.length:Int)) ∧
 onSome lA fun p2 =>
 ∃ (sA5:Option Addr) (sL5:Nat) (sC5:Nat),cellOf h18 (Addr.add p2 (Int.toNat n4))=some (.slice sA5 sL5 sC5) ∧
 New [] 3 h18 fun h19 =>
 ∃ new2:List Value,List.length new2=sL5*1∧SlCells h19 sA5 new2∧(∀ v ∈ new2,v.oneCell'=true) ∧
 AppendP ti3 3 (some ⟨h18.size,0,none⟩) 0 0 sL5 new2 h19 fun sA6 sL6 sC6 h20 =>
 New [.slice sA6 sL6 sC6] 61 h20 fun h21 =>
 ∃ new3:List Value,List.length new3=1*1∧SlCells h21 (some ⟨h20.size,0,none⟩) new3∧(∀ v ∈ new3,v.oneCell'=true) ∧
 AppendP ti61 61 wasA1 wasL1 wasC1 1 new3 h21 fun sA7 sL7 sC7 h22 =>
 I2 sA7 sL7 sC7 (IntKind.wrap .i64 (n4+1)) h22∧M2 sA7 sL7 sC7 (IntKind.wrap .i64 (n4+1)) h22<M2 wasA1 wasL1 wasC1 n4 h18) else NEXT wasA1 wasL1 wasC1 h18:=by
 have lp:ls.length=(ps.map ints).length:=s.lists.len
 rw [List.length_map] at lp
 refine ⟨fun A L C n h=>0≤n∧n≤6∧∃ col os,St h0 h col ⟨lA,lC,ls,ps.map ints,none,0,[],[],A,C,os,(ps.take n.toNat).map ints⟩∧L=os.length∧os.length=n.toNat,fun _ _ _ n _=>((6:Nat) - n).toNat,
  ⟨by omega,by omega,col,[],s,rfl,rfl⟩,?_⟩
 rintro A L C n h10 ⟨z0,z1,col,os,t,rfl,ho⟩
 refine cd (fun hn=>?_) fun hn=>?_
 rotate_left
 ·rw [List.take_of_length_le (by omega)] at t
  exact hN h10 col A C os t
 have i2:n.toNat<ls.length:=by omega
 have ip:n.toNat<ps.length:=by omega
 obtain ⟨p,e,cc⟩:=t.lists.cell i2
 have e:lA=some p:=e
 have cc:cellOf h10 (Addr.add p n.toNat)=some (.slice ls[n.toNat].a ls[n.toNat].l ls[n.toNat].c):=cc
 have hll:=ll n.toNat i2
 refine ⟨⟨z0,hn⟩,oe e ⟨_,_,_,cc,New.intro fun h11 n11=>?_⟩⟩
 have z11:=n11.size
 have ag11:Ag h10.size col (upd col h10.size (30+n.toNat)):=ag_upd _ _ _
 have t11:=t.free n11.fr ag11 fun _ _ x=>x.elim
 have c11:upd col h10.size (30+n.toNat) h10.size=30+n.toNat:=upd_ge' (Nat.le_refl _)
 generalize upd col h10.size (30+n.toNat)=col11 at t11 c11
 have it:=t11.lists.at_ n.toNat i2 (show n.toNat<(ps.map ints).length by rw [List.length_map]; exact ip)
 have it:Sl h11 1 ls[n.toNat].a ls[n.toNat].l ls[n.toNat].c (ints ps[n.toNat]) (On col11 (10+n.toNat)):=by
  have:(ps.map ints)[n.toNat]'(by rw [List.length_map]; exact ip)=ints ps[n.toNat]:=List.getElem_map _
  rw [← this]; exact it
 have S11:Sl h11 1 (some ⟨h10.size,0,none⟩) 0 0 [] (On col11 (30+n.toNat)):=Sl.made (zs:=[]) n11 rfl c11 rfl (Nat.le_refl _) rfl
 have hbytes:(ti3).bytes=8:=rfl
 refine ⟨ints ps[n.toNat],it.1,it.cells,ints_one _,append_col (elem:=ti3) S11 it.1 rfl (by rw [hbytes]; omega) (by omega) fun a6 c6 h12 f12 s12=>?_⟩
 have z12:=f12.size
 have ag12:Ag h11.size col11 (upd col11 h11.size (30+n.toNat)):=ag_upd _ _ _
 have t12:=t11.free f12 ag12 fun b _ hb=>by have hb:col11 b=30+n.toNat:=hb; show 30+os.length≤_; omega
 generalize upd col11 h11.size (30+n.toNat)=col12 at t12 s12
 refine New.intro fun h13 n13=>⟨_,rfl,cellsAll n13.rd,fun v hv=>by rw [List.mem_singleton.mp hv]; rfl,?_⟩
 have t13:=t12.quiet n13.fr
 have s13:=Rz.Sl.keep' s12 n13.fr (ag_upd col12 h12.size 0) fun _ _ _ x=>x
 generalize upd col12 h12.size 0=col13 at t13 s13
 have hbytes2:(ti61).bytes=24:=rfl
 refine append_col (elem:=ti61) (show Sl h13 (ti61).cells A os.length C (os.map Sc.v) (On col13 3) from t13.was.row) rfl rfl (by rw [hbytes2]; omega) (by omega) fun a7 c7 h14 f14 s14=>?_
 have t14:=t13.opush (x:=⟨a6,0+ls[n.toNat].l,c6⟩) (xv:=ints ps[n.toNat]) (a':=a7) (c':=c7) (show os.length<9 by omega) f14 s14 (by show Sl h13 1 a6 _ c6 _ (On col13 (30+os.length)); rw [ho]; exact s13)
 rw [wrap_i64 (n:=n+1) (by omega) (by omega)]
 refine ⟨⟨by omega,by omega,upd col13 h13.size 3,os++[⟨a6,0+ls[n.toNat].l,c6⟩],?_,by rw [List.length_append,List.length_singleton],by rw [List.length_append,List.length_singleton]; omega⟩,by show ((6:Nat) - (n+1)).toNat<((6:Nat) - n).toNat; omega⟩
 rw [show (n+1).toNat=n.toNat+1 by omega,List.take_succ_eq_append_getElem ip,List.map_append]
 exact t14
end Go.Proofs.YtiapingedfnlnaaGreatDoor.Wo
namespace Go.Proofs.YtiapingedfnlnaaGreatDoor.Wo
open Go Go.Proofs Wx Hp W Spc Rz
open Tm (TM Tx)
open Hd (ints)
open In (ints_length ints_one)
open Wl (Pl toM makeW To_spec Make_spec plV plV_one)
variable {h0 hh : Heap} {col : Nat → Nat}
theorem own_k2 {K:Value→Heap→Prop} {F:Nat→Prop} {tb n:Nat} {dd:Option Addr} {T:TM} {h3:Heap} {lA wA:Option Addr} {lC wC:Nat} {ls os:List Sc} {p q:Tm.Txt} (gl:In.Glo h0) (dm:Av.Dim n) (X:Tx h0 F (some ⟨tb,0,none⟩) dd T) (rg:rd h0 h3.size=(geoN n).v) (hp:p.length≤9223372036854775806)
  (S:St h0 hh col ⟨lA,lC,ls,(allL T (geoN n) [p,q,p]).map ints,none,0,[],[],wA,wC,os,(allL T (geoN n) [p,q,p]).map ints⟩) (ll:∀ i (hi:i<ls.length),ls[i].l≤400)
  (hK:∀ h',Fr No h0 h'→K (.bool true) h'):bolelaw16_WalkOwn.k2 (mkStr p) h3 (some ⟨tb,0,none⟩) lA ls.length wA os.length hh K:=by
 have gbl:h3.size<h0.size:=rd_lt (o:=0) (v := .int .i64 (geoN n).blocks) (by rw [rg]; rfl)
 have g0:(allL T (geoN n) [p,q,p])[0]?=some (toM T (geoN n) p true).1.chain:=rfl
 have g1:(allL T (geoN n) [p,q,p])[1]?=some (makeW T (geoN n) p).1.chain:=rfl
 generalize allL T (geoN n) [p,q,p]=ps at S g0 g1
 have b1:=to_chain T (geoN n) p true
 have b2:=make_chain T (geoN n) p
 unfold bolelaw16_WalkOwn.k2
 refine own_mark S rfl ll fun h17 col17 ws t17 hw=>?_
 refine own_long t17 rfl rfl rfl rfl ll hw fun h21 col21 gA gC gs gv t21 gl' hgl hgv=>?_
 refine own_see (K:=K) t21 gl' ll hgl hw hgv ?_
 have rg21:rd h21 h3.size=(geoN n).v:=(t21.fr.rd gbl fun y=>y).trans rg
 have gl21:=gl.no t21.fr
 have X21:=X.no t21.fr
 refine ⟨_,rfl,cellsAll rg21,To_spec gl21 dm X21 hp fun h36 a1 c1 f36 L1=>⟨_,_,rfl,NewRow.intro rfl plV_one rfl fun h38 n38=>?_⟩⟩
 have z0:=t21.fr.size
 have z36:=f36.size
 have z38:=n38.size
 have f38:Fr No h21 h38:=f36.new n38
 have rg38:rd h38 h3.size=(geoN n).v:=(f38.rd (by omega) fun y=>y).trans rg21
 refine ⟨_,rfl,cellsAll rg38,Make_spec (gl21.no f38) dm (X21.no f38) hp fun h39 a2 c2 f39 L2=>⟨_,_,rfl,NewRow.intro rfl plV_one rfl fun h41 n41=>?_⟩⟩
 have z39:=f39.size
 have z41:=n41.size
 have r36:rd h41 h36.size=plV a1 c1 (toM T (geoN n) p true).1:=(n41.at_ (by omega)).trans ((f39.rd (by omega) fun y=>y).trans n38.rd)
 have F41:Fr No h21 h41:=(f38.no f39).new n41
 have t41:=t21.quiet F41
 obtain ⟨p0,x0,m0,d0,e0,o0,q0,R0,l0⟩:=t41.cell (ps:=ps) rfl g0
 obtain ⟨p1,x1,m1,d1,e1,o1,q1,R1,l1⟩:=t41.cell (ps:=ps) rfl g1
 have e0:wA=some p0:=e0
 have e1:wA=some p1:=e1
 have o1:1<os.length:=o1
 refine ⟨_,_,_,rda r36 rfl,⟨by omega,by omega⟩,oe e0 ⟨_,_,_,q0,Tr.same_spec (SlCells.fr ((n38.fr.no f39).new n41) L1.cells fun _ _ y=>y) rfl R0 l0 (by omega) ⟨_,rfl,ct (decide_eq_true rfl) ?_⟩⟩⟩
 refine ⟨_,_,_,rda n41.rd rfl,⟨by omega,by omega⟩,oe e1 ⟨_,_,_,q1,Tr.same_spec (SlCells.fr n41.fr L2.cells fun _ _ y=>y) rfl R1 l1 (by omega) ⟨_,rfl,?_⟩⟩⟩
 rw [decide_eq_true rfl]
 exact hK h41 t41.fr
theorem WalkOwn_spec {h:Heap} {K:Value→Heap→Prop} {more:Int} {ta pa:Option Addr} {tl tc pl pc:Nat} {ts:List Tr.Th} {p q:Tm.Txt} (gl:In.Glo h) (Z:SlCells h ta (ts.flatMap Tr.thV)) (hl:ts.length=tl) (htl:tl≤1000000000) (ht:∀ t ∈ ts,t.name.length≤1000000000∧t.text.length≤1000000000)
  (hp:p.length≤9223372036854775806) (hq:q.length≤9223372036854775806) (hK:∀ h',Fr No h h'→K (.bool true) h'):C.bolelaw16_WalkOwn (Tr.setV more ta tl tc pa pl pc) (mkStr p) (mkStr q) h K:=by
 have bn:=Tr.blocksN_rng more
 refine bolelaw16_WalkOwn.ok (New.intro fun h2 n2=>⟨_,rfl,cellsAll n2.rd,Tr.right_spec (SlCells.fr n2.fr Z fun _ _ y=>y) hl htl ht fun tb dd F D h3 f3 x3 hF T3=>⟨_,_,_,_,_,_,rfl,NewRow.intro rfl (Spc.G.one _) rfl fun h5 n5=>cnot (ct rfl (Tr.known_spec (gl.no ((n2.fr.no f3).new n5)) fun h6 f6=>⟨_,rfl,cnot (ct rfl ?_)⟩))⟩⟩)
 generalize hn:Tr.blocksN more=n at *
 have g:=Tr.tree_good ⟨bn.1,bn.2⟩ ts
 generalize Tr.treeP n ts=s at *
 generalize hT:(⟨Ad.fresh (Ad.chunks (Tr.imgP n s)),[],[],false⟩:TM)=T at x3
 have z2:=n2.size
 have z3:=f3.size
 have z5:=n5.size
 have z6:=f6.size
 have f36:Fr No h3 h6:=n5.fr.no f6
 have F6:Fr No h h6:=(n2.fr.no f3).no f36
 have gl6:In.Glo h6:=gl.no F6
 have rg6:rd h6 h3.size=(geoN n).v:=(f6.rd (by omega) fun y=>y).trans n5.rd
 unfold bolelaw16_WalkOwn.k1
 refine New.intro fun h8 n8=>?_
 have z8:=n8.size
 have rg8:rd h8 h3.size=(geoN n).v:=(n8.at_ (by omega)).trans rg6
 have gl8:=gl6.no n8.fr
 have X8:=(x3.no f36).no n8.fr
 refine own_take (xs:=[p,q,p]) gl8 g.dim X8 rg8 (fun x hx=>?_) rfl (by omega) n8.rd fun h9 col lA lC ls S l6 ll=>?_
 ·simp only [List.mem_cons,List.not_mem_nil,or_false] at hx
  rcases hx with rfl|rfl|rfl
  ·exact hp
  ·exact hq
  ·exact hp
 refine own_was S l6 ll fun h18 col18 wA wC os S18=>?_
 have g0:(allL T (geoN n) [p,q,p])[0]?=some (toM T (geoN n) p true).1.chain:=rfl
 have g4:(allL T (geoN n) [p,q,p])[4]?=some (toM T (geoN n) p true).1.chain:=rfl
 have g1:(allL T (geoN n) [p,q,p])[1]?=some (makeW T (geoN n) p).1.chain:=rfl
 have g5:(allL T (geoN n) [p,q,p])[5]?=some (makeW T (geoN n) p).1.chain:=rfl
 have b1:=to_chain T (geoN n) p true
 have b2:=make_chain T (geoN n) p
 obtain ⟨p0,x0,m0,d0,e0,o0,q0,R0,l0⟩:=S18.cell rfl g0
 obtain ⟨p4,x4,m4,d4,e4,o4,q4,R4,l4⟩:=S18.cell rfl g4
 obtain ⟨p1,x1,m1,d1,e1,o1,q1,R1,l1⟩:=S18.cell rfl g1
 obtain ⟨p5,x5,m5,d5,e5,o5,q5,R5,l5⟩:=S18.cell rfl g5
 have e0:wA=some p0:=e0
 have e1:wA=some p1:=e1
 have e4:wA=some p4:=e4
 have e5:wA=some p5:=e5
 have o5:5<os.length:=o5
 refine ⟨⟨by omega,by omega⟩,oe e0 ⟨_,_,_,q0,⟨by omega,by omega⟩,oe e4 ⟨_,_,_,q4,Tr.same_spec R0 l0 R4 l4 (by omega) ⟨_,rfl,cnot (ct (decide_eq_true rfl) ?_)⟩⟩⟩⟩
 refine ⟨⟨by omega,by omega⟩,oe e1 ⟨_,_,_,q1,⟨by omega,by omega⟩,oe e5 ⟨_,_,_,q5,Tr.same_spec R1 l1 R5 l5 (by omega) ⟨_,rfl,cnot (ct (decide_eq_true rfl) ?_)⟩⟩⟩⟩
 exact own_k2 gl8 g.dim X8 rg8 hp S18 ll fun h' f=>hK h' ((F6.no n8.fr).no f)
end Go.Proofs.YtiapingedfnlnaaGreatDoor.Wo
