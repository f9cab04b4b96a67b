/-
  TRANSACTIONS: fill, known.
-/
import Derived.Test.YtpleolmalbdpnaaDoorTxB
namespace Go.Proofs.YtpleolmalbdpnaaDoor.Txl
open Go Go.Proofs Go.Proofs.YtpleolmalbdpnaaDoor.Wx Go.Proofs.YtpleolmalbdpnaaDoor.Hp Go.Proofs.YtpleolmalbdpnaaDoor.W Go.Proofs.YtpleolmalbdpnaaDoor.Ad Go.Proofs.YtpleolmalbdpnaaDoor.Tm Go.Proofs.YtpleolmalbdpnaaDoor.Spc

def ptV (p : Pt) : List Value := [.int .i64 p.1, bv p.2]
theorem ptV_one (p : Pt) : ∀ v ∈ ptV p, v.oneCell' = true := by
  intro v hv
  rcases List.mem_cons.mp hv with rfl | hv
  · rfl
  · rw [List.mem_singleton.mp hv]; rfl
theorem pt_at {h : Heap} {a : Option Addr} {ps : List Pt} (P : SlCells h a (ps.flatMap ptV)) {i : Nat} (hi : i < ps.length) : ∃ p, a = some p ∧ Cells h (p.add (i * 2)) (ptV ps[i]) := by
  have hw : ∀ r ∈ ps, (ptV r).length = 2 := fun _ _ => rfl
  have hl := flat_length ptV 2 ps hw
  have hp := flat_part ptV 2 ps hw i hi
  cases a with
  | none =>
    have c : ps.flatMap ptV = [] := P
    rw [c] at hl
    exact absurd hl (by simp; omega)
  | some p =>
    refine ⟨p, rfl, ?_⟩
    have := (Cells.take (Cells.drop P (i * 2)) 2)
    rw [hp] at this
    exact this
theorem place_spec {p : Pt} {h : Heap} {K : Value → Heap → Prop} (hK : ∀ h', Fr No h h' → K (.int .i64 (place p)) h') : C.bolelaw06_Put_place (ptV p) h K := by
  have hp := modI_range (v := p.1) (n := 20) (by decide)
  refine bolelaw06_Put_place.ok (New.intro fun h2 n2 => ⟨_, rda n2.rd rfl, mod_spec (by decide) (by decide) ⟨_, rfl, ?_⟩⟩)
  rw [wrap_i64 (by omega) (by omega)]
  exact hK h2 n2.fr
/-- what fill's loop knows -/
structure Fl (h0 hh : Heap) (F F' : Nat → Prop) (t d : Option Addr) (T : TM) (nw : List UInt8) (iz : List Bool) : Prop where
  f : Fr F h0 hh
  g : Gw h0 F hh F'
  x : Tx hh F' t d T
  nf : ∀ b, F' b → F b ∨ h0.size + 4 ≤ b
  fl : ∀ b, F b → b < h0.size
  z : h0.size + 4 ≤ hh.size
  o0 : Own hh h0.size
  o1 : Own hh (h0.size + 1)
  o2 : Own hh (h0.size + 2)
  o3 : Own hh (h0.size + 3)
  l0 : (rd hh h0.size).length = 118
  l1 : (rd hh (h0.size + 1)).length = 118
  r2 : rd hh (h0.size + 2) = nw.map bv
  r3 : rd hh (h0.size + 3) = iz.map .bool
theorem Fl.away {h0 hh : Heap} {F F' : Nat → Prop} {t d : Option Addr} {T : TM} {nw : List UInt8} {iz : List Bool} (a : Fl h0 hh F F' t d T nw iz) {k : Nat} (hk : k < 4) : ¬ F' (h0.size + k) := fun y => by
  rcases a.nf _ y with q | q
  · have := a.fl _ q; omega
  · omega
theorem Fl.call {h0 hh hh' : Heap} {F F' F'' : Nat → Prop} {t d : Option Addr} {T T' : TM} {nw : List UInt8} {iz : List Bool} (a : Fl h0 hh F F' t d T nw iz) (f : Fr F' hh hh') (g : Gw hh F' hh' F'') (x : Tx hh' F'' t d T') : Fl h0 hh' F F'' t d T' nw iz := by
  have z := a.z
  have z' := f.size
  have k0 := a.away (k := 0) (by decide)
  have k1 := a.away (k := 1) (by decide)
  have k2 := a.away (k := 2) (by decide)
  have k3 := a.away (k := 3) (by decide)
  refine ⟨a.f.trans f fun b hb y => (a.g.old b hb).mp y, a.g.trans g (by omega), x, fun b y => ?_, a.fl, by omega, f.own (by omega) k0 a.o0, f.own (by omega) k1 a.o1, f.own (by omega) k2 a.o2, f.own (by omega) k3 a.o3, ?_, ?_, (f.rd (by omega) k2).trans a.r2, (f.rd (by omega) k3).trans a.r3⟩
  · rcases g.new y with q | q
    · exact a.nf b q
    · exact .inr (by omega)
  · have e := f.rd (by omega) k0
    rw [Nat.add_zero] at e
    rw [e]; exact a.l0
  · rw [f.rd (by omega) k1]; exact a.l1
theorem Fl.no {h0 hh hh' : Heap} {F F' : Nat → Prop} {t d : Option Addr} {T : TM} {nw : List UInt8} {iz : List Bool} (a : Fl h0 hh F F' t d T nw iz) (f : Fr No hh hh') : Fl h0 hh' F F' t d T nw iz :=
  a.call (f.mono fun _ _ y => y.elim) (Gw.refl f.size fun b y => a.x.lt y) (a.x.no f)
theorem Fl.put2 {h0 hh hh' : Heap} {F F' : Nat → Prop} {t d : Option Addr} {T : TM} {nw : List UInt8} {iz : List Bool} {k : Nat} {y : UInt8} (a : Fl h0 hh F F' t d T nw iz) (D : Did (h0.size + 2) hh hh' ((rd hh (h0.size + 2)).set k (bv y))) : Fl h0 hh' F F' t d T (nw.set k y) iz := by
  have z := a.z
  have z' := D.size
  have k2 := a.away (k := 2) (by decide)
  refine ⟨a.f.did D fun hb => by omega, ⟨a.g.old, fun b hb => by have := a.g.lt b hb; omega⟩, a.x.fr D.fr fun b hb e => ?_, a.nf, a.fl, by omega, D.ow a.o0, D.ow a.o1, D.own, D.ow a.o3, ?_, ?_, ?_, (D.at_ (by omega) (by omega)).trans a.r3⟩
  · have e : b = h0.size + 2 := e
    subst e; exact k2 hb
  · rw [D.at_ (by omega) (by omega)]; exact a.l0
  · rw [D.at_ (by omega) (by omega)]; exact a.l1
  · rw [D.rd, a.r2, List.map_set]
theorem Fl.put3 {h0 hh hh' : Heap} {F F' : Nat → Prop} {t d : Option Addr} {T : TM} {nw : List UInt8} {iz : List Bool} {k : Nat} {y : Bool} (a : Fl h0 hh F F' t d T nw iz) (D : Did (h0.size + 3) hh hh' ((rd hh (h0.size + 3)).set k (.bool y))) : Fl h0 hh' F F' t d T nw (iz.set k y) := by
  have z := a.z
  have z' := D.size
  have k2 := a.away (k := 3) (by decide)
  refine ⟨a.f.did D fun hb => by omega, ⟨a.g.old, fun b hb => by have := a.g.lt b hb; omega⟩, a.x.fr D.fr fun b hb e => ?_, a.nf, a.fl, by omega, D.ow a.o0, D.ow a.o1, D.ow a.o2, D.own, ?_, ?_, (D.at_ (by omega) (by omega)).trans a.r2, ?_⟩
  · have e : b = h0.size + 3 := e
    subst e; exact k2 hb
  · rw [D.at_ (by omega) (by omega)]; exact a.l0
  · rw [D.at_ (by omega) (by omega)]; exact a.l1
  · rw [D.rd, a.r3, List.map_set]
theorem bool_one (l : List Bool) : ∀ v ∈ l.map Value.bool, v.oneCell' = true := by
  intro v hv; obtain ⟨b, _, rfl⟩ := List.mem_map.mp hv; rfl
/-- the results are laid down and read -/
theorem fill_end {h0 hh : Heap} {F F' : Nat → Prop} {t d : Option Addr} {T : TM} {nw : List UInt8} {iz : List Bool} {K : Value → Heap → Prop} (a : Fl h0 hh F F' t d T nw iz) (hn : nw.length = 118) (hi : iz.length = 118)
    (hK : ∀ h', Fl h0 h' F F' t d T nw iz → K (.tuple #[.agg ⟨nw.map bv⟩, .agg ⟨iz.map .bool⟩, .bool true]) h') :
    ∃ cs9 : List Value, List.length cs9 = 118 ∧ Cells hh ⟨h0.size + 2, 0, none⟩ cs9 ∧ ∃ cs10 : List Value, List.length cs10 = 118 ∧ Cells hh ⟨h0.size + 3, 0, none⟩ cs10 ∧
      PutRow ⟨h0.size, 0, none⟩ cs9 118 hh fun h22 => (List.length (cs10 : List Value) = 118 ∧ Cells h22 ⟨h0.size + 3, 0, none⟩ cs10) ∧ PutRow ⟨h0.size + 1, 0, none⟩ cs10 118 h22 fun h23 =>
      ∃ res5 : List Value, List.length res5 = 118 ∧ Cells h23 ⟨h0.size, 0, none⟩ res5 ∧ ∃ res6 : List Value, List.length res6 = 118 ∧ Cells h23 ⟨h0.size + 1, 0, none⟩ res6 ∧ K (.tuple #[.agg ⟨res5⟩, .agg ⟨res6⟩, .bool true]) h23 := by
  have ln : (nw.map bv).length = 118 := by rw [List.length_map, hn]
  have li : (iz.map Value.bool).length = 118 := by rw [List.length_map, hi]
  have z := a.z
  refine ⟨_, ln, cellsAll a.r2, _, li, cellsAll a.r3, PutRow.intro a.o0 ln (bv_one _) (by rw [a.l0]; exact Nat.le_refl _) fun h22 d1 => ?_⟩
  have z1 := d1.size
  rw [put_all _ _ (by rw [ln, a.l0])] at d1
  have b : Fl h0 h22 F F' t d T nw iz := ⟨a.f.did d1 fun hb => by omega, ⟨a.g.old, fun b hb => by have := a.g.lt b hb; omega⟩, a.x.fr d1.fr fun b hb e => by
      have e : b = h0.size := e
      subst e; exact a.away (k := 0) (by decide) hb, a.nf, a.fl, by omega, d1.own, d1.ow a.o1, d1.ow a.o2, d1.ow a.o3, by rw [d1.rd, ln], by rw [d1.at_ (by omega) (by omega)]; exact a.l1, (d1.at_ (by omega) (by omega)).trans a.r2, (d1.at_ (by omega) (by omega)).trans a.r3⟩
  refine ⟨⟨li, cellsAll b.r3⟩, PutRow.intro b.o1 li (bool_one _) (by rw [b.l1]; exact Nat.le_refl _) fun h23 d2 => ?_⟩
  have z2 := d2.size
  rw [put_all _ _ (by rw [li, b.l1])] at d2
  have c : Fl h0 h23 F F' t d T nw iz := ⟨b.f.did d2 fun hb => by omega, ⟨b.g.old, fun x hb => by have := b.g.lt x hb; omega⟩, b.x.fr d2.fr fun x hb e => by
      have e : x = h0.size + 1 := e
      subst e; exact b.away (k := 1) (by decide) hb, b.nf, b.fl, by omega, d2.ow b.o0, d2.own, d2.ow b.o2, d2.ow b.o3, by rw [d2.at_ (by omega) (by omega)]; exact b.l0, by rw [d2.rd, li], (d2.at_ (by omega) (by omega)).trans b.r2, (d2.at_ (by omega) (by omega)).trans b.r3⟩
  exact ⟨_, ln, cellsAll ((d2.at_ (by omega) (by omega)).trans d1.rd), _, li, cellsAll d2.rd, hK h23 c⟩
def nowP (k : Nat) : List UInt8 := (List.range 118).map fun j => if j < 98 ∨ k ≤ j then 0 else UInt8.ofNat j
theorem nowP_98 : nowP 98 = List.replicate 118 0 := by decide
theorem nowP_118 : nowP 118 = now0 118 := by decide
theorem nowP_set {k : Nat} (h1 : 98 ≤ k) (h2 : k < 118) : (nowP k).set k (UInt8.ofNat k) = nowP (k + 1) := by
  apply List.ext_getElem?
  intro j
  unfold nowP
  rw [List.getElem?_set]
  by_cases e : k = j
  · subst e
    rw [if_pos rfl, if_pos (by rw [List.length_map, List.length_range]; exact h2), List.getElem?_map, List.getElem?_range h2]
    show _ = some (if k < 98 ∨ k + 1 ≤ k then 0 else UInt8.ofNat k)
    rw [if_neg (by omega)]
  · rw [if_neg e, List.getElem?_map, List.getElem?_map]
    rcases Nat.lt_or_ge j 118 with h | h
    · rw [List.getElem?_range h]
      show some (if j < 98 ∨ k ≤ j then 0 else UInt8.ofNat j) = some (if j < 98 ∨ k + 1 ≤ j then 0 else UInt8.ofNat j)
      by_cases h3 : j < 98 ∨ k ≤ j
      · rw [if_pos h3, if_pos (by omega)]
      · rw [if_neg h3, if_neg (by omega)]
    · rw [List.getElem?_eq_none (by rw [List.length_range]; exact h)]; rfl
theorem nowP_len (k : Nat) : (nowP k).length = 118 := by unfold nowP; rw [List.length_map, List.length_range]
theorem foldN_len : ∀ (ps : List Pt) (l : List UInt8), (ps.foldl (fun l p => l.set (place p).toNat p.2) l).length = l.length
  | [], _ => rfl
  | p :: r, l => by rw [List.foldl_cons, foldN_len r, List.length_set]
theorem foldI_len : ∀ (ps : List Pt) (l : List Bool), (ps.foldl (fun l p => l.set (place p).toNat true) l).length = l.length
  | [], _ => rfl
  | p :: r, l => by rw [List.foldl_cons, foldI_len r, List.length_set]
theorem fold_snoc {α : Type} (f : α → Pt → α) (ps : List Pt) {k : Nat} (h : k < ps.length) (x : α) : (ps.take (k + 1)).foldl f x = f ((ps.take k).foldl f x) ps[k] := by
  rw [take_snoc _ _ h, List.foldl_append]; rfl
theorem undo_len : ∀ (ps : List Pt) (T : TM), (ps.foldl put1 T).undo.length = T.undo.length + ps.length := fun ps T => by
  obtain ⟨us, e1, e2, _⟩ := fold_undo ps T
  rw [e1, List.length_append, e2]
theorem Fill_spec {h : Heap} {F : Nat → Prop} {t d : Option Addr} {T : TM} {a : Option Addr} {c : Nat} {ps : List Pt} {m : Nat} {now : List UInt8} {is : List Bool} {K : Value → Heap → Prop} (x : Tx h F t d T) (kx : Kx m now is T) (hP : ∀ hh, Fr F h hh → SlCells hh a (ps.flatMap ptV))
    (hm : m ≤ 1000000) (hK : ∀ h' F', Fr F h h' → Gw h F h' F' → Tx h' F' t d (fillT T ps) → K (.tuple #[.agg ⟨(fillN (now0 118) ps).map bv⟩, .agg ⟨(fillI (List.replicate 118 false) ps).map .bool⟩, .bool true]) h') : C.bolelaw06_fill t a ps.length c h K := by
  have hlt := fun b hb => x.lt (b := b) hb
  refine bolelaw06_fill.ok (New.intro fun h2 n2 => New.intro fun h3 n3 => New.intro fun h4 n4 => New.intro fun h5 n5 => ?_)
  have z2 := n2.size
  have z3 := n3.size
  have z4 := n4.size
  have z5 := n5.size
  have e2 : h2.size = h.size + 1 := z2
  have e3 : h3.size = h.size + 2 := by omega
  have e4 : h4.size = h.size + 3 := by omega
  have f25 : Fr No h2 h5 := (n3.fr.new n4).new n5
  have f35 : Fr No h3 h5 := n4.fr.new n5
  have f05 : Fr No h h5 := n2.fr.no f25
  have A0 : Fl h h5 F F t d T (nowP 98) (List.replicate 118 false) := by
    refine ⟨f05.mono fun _ _ y => y.elim, Gw.refl f05.size hlt, x.no f05, fun b y => .inl y, hlt, by omega, f25.own (by omega) (fun y => y) n2.own, ?_, ?_, ?_, ?_, ?_, ?_, ?_⟩
    · rw [← e2]; exact f35.own (by omega) (fun y => y) n3.own
    · rw [← e3]; exact n5.fr.own (by omega) (fun y => y) n4.own
    · rw [← e4]; exact n5.own
    · rw [f25.rd (by omega) fun y => y, n2.rd]; rfl
    · rw [← e2, f35.rd (by omega) fun y => y, n3.rd]; rfl
    · rw [← e3, n5.fr.rd (by omega) fun y => y, n4.rd, nowP_98, List.map_replicate]; rfl
    · rw [← e4, n5.rd, List.map_replicate]; rfl
  rw [e2, e3, e4]
  refine ⟨fun i hh => ∃ k : Nat, i = k ∧ 98 ≤ k ∧ k ≤ 118 ∧ Fl h hh F F t d T (nowP k) (List.replicate 118 false), fun i _ => (118 - i).toNat, ⟨98, rfl, Nat.le_refl _, by decide, A0⟩, ?_⟩
  rintro i h6 ⟨k, ei, k0, k1, A⟩
  refine cd (fun hlt => ?_) fun hlt => ?_
  · have et : Int.toNat i = k := by omega
    rw [et]
    refine ⟨⟨by omega, by omega⟩, Put.add A.o2 (by rw [A.r2, List.length_map, nowP_len]; omega) fun h7 d7 => ?_⟩
    rw [wrap_i64 (by omega) (by omega)]
    subst ei
    rw [u8_of (by omega), Nat.zero_add] at d7
    have := A.put2 (y := UInt8.ofNat k) d7
    rw [nowP_set k0 (by omega)] at this
    exact ⟨⟨k + 1, by omega, by omega, by omega, this⟩, by show ((118 : Int) - ((k : Int) + 1)).toNat < ((118 : Int) - k).toNat; omega⟩
  have ek : k = 118 := by omega
  subst ek
  rw [nowP_118] at A
  have l0 : (now0 118).length = 118 := by unfold now0; rw [List.length_map, List.length_range]
  refine ⟨fun n hh => ∃ (k : Nat) (F' : Nat → Prop), n = k ∧ k ≤ 60 ∧ k ≤ ps.length ∧ Fl h hh F F' t d ((ps.take k).foldl put1 T) ((ps.take k).foldl (fun l p => l.set (place p).toNat p.2) (now0 118)) ((ps.take k).foldl (fun l p => l.set (place p).toNat true) (List.replicate 118 false)),
    fun n _ => ((ps.length : Int) - n).toNat, ⟨0, F, rfl, by omega, by omega, A⟩, ?_⟩
  rintro n h8 ⟨k, F', en, k2, k3, B⟩
  have lN : ((ps.take k).foldl (fun l p => l.set (place p).toNat p.2) (now0 118)).length = 118 := by rw [foldN_len]; exact l0
  have lI : ((ps.take k).foldl (fun l p => l.set (place p).toNat true) (List.replicate 118 false)).length = 118 := by rw [foldI_len, List.length_replicate]
  have fin : ps.take k = ps.take 60 → ∀ h', Fl h h' F F' t d ((ps.take k).foldl put1 T) ((ps.take k).foldl (fun l p => l.set (place p).toNat p.2) (now0 118)) ((ps.take k).foldl (fun l p => l.set (place p).toNat true) (List.replicate 118 false)) →
      K (.tuple #[.agg ⟨((ps.take k).foldl (fun l p => l.set (place p).toNat p.2) (now0 118)).map bv⟩, .agg ⟨((ps.take k).foldl (fun l p => l.set (place p).toNat true) (List.replicate 118 false)).map .bool⟩, .bool true]) h' := by
    intro e h' a
    rw [e] at a ⊢
    exact hK h' F' a.f a.g a.x
  refine cd (fun hn => ?_) fun hn => fill_end B lN lI (fin (by rw [List.take_of_length_le (by omega), List.take_of_length_le (by omega)]))
  have hk' : k < ps.length := by omega
  have Pc : SlCells h8 a (ps.flatMap ptV) := hP h8 B.f
  have et : Int.toNat n = k := by omega
  rw [et]
  obtain ⟨p, rfl, cc⟩ := pt_at Pc hk'
  refine ⟨⟨by omega, hn⟩, os ⟨_, rfl, cc, NewRow.intro rfl (ptV_one _) rfl fun h10 n10 => ?_⟩⟩
  have B10 := B.no n10.fr
  have z10 := n10.size
  have zB := B.z
  refine cd (fun h60 => fill_end B10 lN lI (fin (by rw [show k = 60 by omega]))) fun h60 => ?_
  have hu : ((ps.take k).foldl put1 T).undo.length < 1000000000 := by
    rw [undo_len, kx.undo, List.length_take]; omega
  have KX := (Kx.fold (now := now) (is := is) (ps.take k) kx).put1 ps[k]
  have F10 : ∀ b, F' b → b < h8.size := fun b y => B.x.lt y
  refine ⟨_, rfl, cellsAll n10.rd, _, rda n10.rd rfl, place_spec fun h13 f13 => ⟨_, rfl, ?_⟩⟩
  have z13 := f13.size
  have r13 : rd h13 h8.size = ptV ps[k] := (f13.rd (by omega) fun y => y).trans n10.rd
  refine ⟨rda r13 rfl, bl_spec (x := ps[k].2) fun b h14 f14 hb s14 => ⟨_, _, _, rfl, ?_⟩⟩
  have B14 := (B10.no f13).no f14
  have ha14 : ∀ q : Addr, (some (⟨b, 0, none⟩ : Addr)) = some q → ¬ F' q.block := fun q e y => by cases e; have y : F' b := y; have := F10 b y; omega
  have st14 := s14.str
  refine Tm.Write_spec B14.x st14 (by omega) ha14 hu ?_
  intro h15 F15 f15 g15 x15
  refine ⟨0, congrArg (fun r : TM × Int => Value.int .i64 r.2) KX.1, ?_⟩
  have x15 := Eq.mp (congrArg (fun r : TM × Int => Tx h15 F15 t d r.1) KX.1) x15
  have B15 := B14.call f15 g15 x15
  refine cn (fun y => absurd rfl y) fun _ => ?_
  have z14 := f14.size
  have z15 := f15.size
  have r15 : rd h15 h8.size = ptV ps[k] := (f15.rd (by omega) fun y => by have := F10 _ y; omega).trans ((f14.rd (by omega) fun y => y).trans r13)
  refine ⟨_, rfl, cellsAll r15, _, rda r15 rfl, place_spec fun h18 f18 => ⟨_, rfl, ?_⟩⟩
  have z18 := f18.size
  have r18 : rd h18 h8.size = ptV ps[k] := (f18.rd (by omega) fun y => y).trans r15
  have B18 := B15.no f18
  have hp := place_range ps[k]
  refine ⟨rda r18 rfl, ⟨by omega, by omega⟩, Put.add B18.o2 (by rw [B18.r2, List.length_map, lN]; omega) fun h19 d19 => ?_⟩
  rw [Nat.zero_add] at d19
  have B19 := B18.put2 (y := ps[k].2) d19
  have z19 := d19.size
  have r19 : rd h19 h8.size = ptV ps[k] := (d19.at_ (by omega) (by omega)).trans r18
  refine ⟨_, rfl, cellsAll r19, place_spec fun h20 f20 => ⟨_, rfl, ?_⟩⟩
  have B20 := B19.no f20
  refine ⟨⟨by omega, by omega⟩, Put.add B20.o3 (by rw [B20.r3, List.length_map, lI]; omega) fun h21 d21 => ?_⟩
  rw [Nat.zero_add] at d21
  have B21 := B20.put3 (y := true) d21
  rw [wrap_i64 (by omega) (by omega)]
  refine ⟨⟨k + 1, F15, by omega, by omega, by omega, ?_⟩, falls hn⟩
  rw [fold_snoc _ _ hk', fold_snoc _ _ hk', fold_snoc _ _ hk']
  exact B21
end Go.Proofs.YtpleolmalbdpnaaDoor.Txl
