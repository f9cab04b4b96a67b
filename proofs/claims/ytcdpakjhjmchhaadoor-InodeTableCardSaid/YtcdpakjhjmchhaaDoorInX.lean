/-
  InodeTable: the law's function answers true.
-/
import Derived.Test.YtcdpakjhjmchhaaDoorInV
namespace Go.Proofs.YtcdpakjhjmchhaaDoor.Ino
open Go Go.Proofs Go.Proofs.YtcdpakjhjmchhaaDoor.Wx Go.Proofs.YtcdpakjhjmchhaaDoor.Hp Go.Proofs.YtcdpakjhjmchhaaDoor.W Go.Proofs.YtcdpakjhjmchhaaDoor.Ad Go.Proofs.YtcdpakjhjmchhaaDoor.Tm Go.Proofs.YtcdpakjhjmchhaaDoor.Bt Go.Proofs.YtcdpakjhjmchhaaDoor.Spc Go.Proofs.YtcdpakjhjmchhaaDoor.Re Go.Proofs.YtcdpakjhjmchhaaDoor.Av
open Go.Proofs.YtcdpakjhjmchhaaDoor.Hd (ints ints_get)
open Go.Proofs.YtcdpakjhjmchhaaDoor.In (z15 mayR encR decA ints_one ints_length ints_eq pairs15 cell15 Glo getR_length encR_length z15_row plainL decA_enc kindOk)

/-- what is asked of one number, in whatever order the row is made -/
theorem ask {h0 hh : Heap} {F : Nat → Prop} {t d r u : Option Addr} {T : TM} {n : Nat} {hv : List (List Int)} {hb pb j : Nat} {k : Option Addr → Int → Heap → Prop} (gl : Glo h0) (dm : Dim n) (a : It h0 hh F t d r u T n hv hb pb) (j1 : 1 ≤ j) (j2 : j < (geoN n).count)
    (hk : ∀ h' xb, Fr No hh h' → It h0 h' F t d r u T n hv hb pb → rd h' xb = ints (hv.getD j z15) → k (some ⟨xb, 0, none⟩) 0 h') :
    (C.inode_Get t (geoN n).v (j : Int) hh fun r7 h17 =>
      ∃ (cs7 : List Value) (n9 : Int), r7 = .tuple #[.agg ⟨cs7⟩, .int .i64 n9] ∧
      New z35 35 h17 fun h18 =>
      (cellOf h18 (Addr.add ⟨pb, 0, none⟩ 7) = some (.pointer t)) ∧
      (List.length ((geoN n).v : List Value) = 5 ∧ Cells h18 (Addr.add ⟨pb, 0, none⟩ 0) (geoN n).v) ∧
      PutRow ⟨h17.size, 0, none⟩ cs7 15 h18 fun h19 => k (some ⟨h17.size, 0, none⟩) n9 h19) ∧
    New z35 35 hh fun h21 =>
      (cellOf h21 (Addr.add ⟨pb, 0, none⟩ 7) = some (.pointer t)) ∧
      (List.length ((geoN n).v : List Value) = 5 ∧ Cells h21 (Addr.add ⟨pb, 0, none⟩ 0) (geoN n).v) ∧
      C.inode_Get t (geoN n).v (j : Int) h21 fun r8 h22 =>
      ∃ (cs10 : List Value) (n11 : Int), r8 = .tuple #[.agg ⟨cs10⟩, .int .i64 n11] ∧
      PutRow ⟨hh.size, 0, none⟩ cs10 15 h22 fun h23 => k (some ⟨hh.size, 0, none⟩) n11 h23 := by
  obtain ⟨Z, i⟩ := a.ib
  have eg := i.get dm j1 j2
  have jl : j < hv.length := by rw [i.hl]; exact j2
  have l15 : (hv.getD j z15).length = 15 := by rw [getD_eq jl]; exact (i.ok _ (List.getElem_mem jl)).1
  have li : (ints (hv.getD j z15)).length = 15 := by rw [ints_length, l15]
  constructor
  · refine Get_spec (gl.no a.f) a.x (cok dm) fun h17 f17 => ⟨_, _, rfl, New.intro fun h18 n18 => ?_⟩
    rw [eg]
    have a18 := (a.no f17).no n18.fr
    refine ⟨rda a18.pr rfl, ⟨rfl, cellsa a18.pr rfl⟩, PutRow.intro n18.own li (ints_one _) (by rw [n18.rd]; show 0 + 15 ≤ 15; omega) fun h19 d19 => ?_⟩
    have f : Fr No hh h19 := (f17.new n18).did d19 fun y => by have := f17.size; omega
    exact hk h19 _ f (a.no f) (by rw [d19.rd, n18.rd]; exact put_all _ _ (by rw [li]; rfl))
  · refine New.intro fun h21 n21 => ?_
    have a21 := a.no n21.fr
    refine ⟨rda a21.pr rfl, ⟨rfl, cellsa a21.pr rfl⟩, Get_spec (gl.no a21.f) a21.x (cok dm) fun h22 f22 => ⟨_, _, rfl, ?_⟩⟩
    rw [eg]
    have r22 : rd h22 hh.size = z35 := (f22.rd n21.own.lt fun y => y).trans n21.rd
    refine PutRow.intro (f22.own n21.own.lt (fun y => y) n21.own) li (ints_one _) (by rw [r22]; show 0 + 15 ≤ 15; omega) fun h23 d23 => ?_
    have f : Fr No hh h23 := (n21.fr.no f22).did d23 fun y => by omega
    exact hk h23 _ f (a.no f) (by rw [d23.rd, r22]; exact put_all _ _ (by rw [li]; rfl))
theorem table_k6 {h0 h4 h24 : Heap} {F : Nat → Prop} {t d r u : Option Addr} {T : TM} {n pb low none_ : Nat} {hv : List (List Int)} {K : Value → Heap → Prop} (gl : Glo h0) (dm : Dim n) (hn : n ≤ 6000) (a : It h0 h24 F t d r u T n hv h4.size pb) (hu : T.undo.length ≤ 100) (hl : Low hv (geoN n).count 0 low) (hz : cz hv ((geoN n).count - 1) = none_)
    (hK : ∀ h', Fr No h0 h' → K (.bool true) h') : bolelaw11_InodeTable.k6 h4 (some ⟨pb, 0, none⟩) ((geoN n).count : Int) (none_ : Int) (low : Int) h24 K := by
  have hc : (geoN n).count = 8 * (n / 64) := rfl
  have hlo := dm.lo
  have hnone : none_ ≤ (geoN n).count - 1 := by rw [← hz]; exact cz_le _ _
  unfold bolelaw11_InodeTable.k6
  refine ⟨fun lw i2 h' => ∃ (i low : Nat) (T : TM) (F : Nat → Prop) (hv : List (List Int)), i2 = i ∧ lw = low ∧ i ≤ none_ ∧ It h0 h' F t d r u T n hv h4.size pb ∧ T.undo.length ≤ 100 + i ∧ Low hv (geoN n).count 0 low ∧ cz hv ((geoN n).count - 1) + i = none_, fun _ i2 _ => ((none_ : Int) + 1 - i2).toNat,
    ⟨0, low, T, F, hv, rfl, rfl, Nat.zero_le _, a, hu, hl, by rw [hz]; rfl⟩, ?_⟩
  clear a hu hl hz
  rintro lw i2 h25 ⟨i, low, T, F, hv, rfl, rfl, i1, a, hu, hl, hz⟩
  refine cd (fun _ => ?_) fun y => by exfalso; omega
  refine In.brought_spec (R := [(i : Int), i, i, 0, 0, 0, 0, 0, 0, 0, 0, 0, 0, 0, 0]) rfl fun P h26 hP hm hk0 f26 => ⟨_, rfl, NewRow.intro (by rw [ints_length, hP]) (ints_one _) rfl fun h28 n28 => ?_⟩
  have F28 : Fr No h25 h28 := f26.new n28
  have a28 := a.no F28
  have z26 := f26.size
  have z28 := n28.size
  refine os ⟨t, rda a28.pr rfl, os ⟨(geoN n).v, rfl, cellsa a28.pr rfl, ints P, by rw [ints_length, hP], cellsAll n28.rd, ?_⟩⟩
  obtain ⟨Z, ib⟩ := a.ib
  have et := ib.take dm hn hP hm hk0 hl
  refine Take_spec (gl.no a28.f) a28.x (cok dm) hP (by omega) fun h29 F29 f29 g29 x29 => ⟨_, _, rfl, ?_⟩
  rw [et] at x29 ⊢
  refine ce (fun ei => ?_) fun ei => ?_
  · have hlow : low = 0 := by
      rcases hl with ⟨e, _⟩ | ⟨h1, h2, h3, _⟩
      · exact e
      · have := cz_pos (hv := hv) (j := (geoN n).count - 1) h1 (by omega) h3; omega
    rw [if_pos hlow] at x29 ⊢
    obtain ⟨c1, c2, c3, c4, c5, c6, c7⟩ := a28.call f29 g29 x29
    refine ct rfl (ct rfl (inside_spec dm hn ⟨c1, c2, c3, c4, c5, c6, c7, a.h0, Z, ib⟩ fun h30 f30 => ⟨_, rfl, hK h30 (c1.no f30)⟩))
  · have hlow : low ≠ 0 := fun e => by
      rcases hl with ⟨_, h⟩ | ⟨h1, _⟩
      · have := cz_zero (hv := hv) (j := (geoN n).count - 1) fun i h1 h2 => h i h1 (by omega)
        omega
      · omega
    have lb : 0 < low ∧ low < (geoN n).count ∧ hv.getD low z15 = z15 := by
      rcases hl with ⟨e, _⟩ | ⟨h1, h2, h3, _⟩
      · exact absurd e hlow
      · exact ⟨h1, h2, h3⟩
    rw [if_neg hlow] at x29 ⊢
    obtain ⟨e0, Z', ib'⟩ := ib.put dm hn lb.1 lb.2.1 hP hm
    obtain ⟨c1, c2, c3, c4, c5, c6, c7⟩ := a28.call f29 g29 x29
    have n28F : ¬ F h26.size := fun y => by have := a.x.lt y; omega
    have r29 : rd h29 h26.size = ints P := (f29.rd (by omega) n28F).trans n28.rd
    have zz29 := f29.size
    have l29 : h26.size < h29.size := by omega
    have pz : P ≠ z15 := fun e => hk0 ((kind0 hm).mpr e)
    have lwl : low < hv.length := by rw [ib.hl]; exact lb.2.1
    have fc := Ib.fill_cz (R := P) lwl lb.1 lb.2.2 pz ((geoN n).count - 1)
    rw [if_pos (show low ≤ (geoN n).count - 1 by omega)] at fc
    refine os ⟨t, rda c4 rfl, os ⟨(geoN n).v, rfl, cellsa c4 rfl, ?_⟩⟩
    refine Free_spec (gl.no c1) c2 (cok dm) fun h31 f31 => ⟨_, _, rfl, ?_⟩
    rw [ib'.free dm]
    have ew : IntKind.wrap .i64 (IntKind.wrap .i64 ((none_ : Int) - i) - 1) = ((cz (hv.set low P) ((geoN n).count - 1) : Nat) : Int) := by rw [wrap_i64 (n := (none_ : Int) - i) (by omega) (by omega), wrap_i64 (n := (none_ : Int) - i - 1) (by omega) (by omega)]; omega
    rw [ew]
    refine cn (fun y => absurd rfl y) fun _ => cn (fun y => absurd rfl y) fun _ => cn (fun y => absurd rfl y) fun _ => cn (fun y => absurd rfl y) fun _ => ?_
    unfold bolelaw11_InodeTable.k7
    have r31 : rd h31 h26.size = ints P := (f31.rd l29 fun y => y).trans r29
    refine ⟨ints P, by rw [ints_length, hP], cellsAll r31, ⟨by omega, by omega⟩, ?_⟩
    rw [Int.toNat_natCast, add_mk]
    have l15 : ∀ S ∈ hv, S.length = 15 := fun S hS => (ib.ok S hS).1
    have h31r : rd h31 h4.size = hv.flatMap ints := (f31.rd c6.lt fun y => y).trans c7
    refine PutRow.intro (f31.own c6.lt (fun y => y) c6) (by rw [ints_length, hP]) (ints_one P) (by rw [h31r, flat_length ints 15 hv (ints15 l15)]; omega) fun h32 d32 => ?_
    rw [h31r, Nat.zero_add, put_flat l15 lwl hP] at d32
    have z31 := f31.size
    have z32 := d32.size
    have hb0 := a.h0
    have sz0 := c1.size
    have a32 : It h0 h32 F29 t d r u (putM T (geoN n) low P).1 n (hv.set low P) h4.size pb :=
      ⟨(c1.no f31).did d32 fun y => by have := a.f.size; omega, (c2.no f31).fr d32.fr fun b hb e => (c3 b hb).2.1 e, c3, (d32.at_ (by omega) fun e => hb0.2 e.symm).trans ((f31.rd c5 fun y => y).trans c4), by omega, d32.own, d32.rd, hb0, Z', ib'⟩
    refine os ⟨((geoN n).count : Int), pcell a32.pr rfl, ?_⟩
    rw [wrap_i64 (n := ((geoN n).count : Int) - 1) (by omega) (by omega)]
    refine ⟨fun l3 j1 h' => ∃ j l : Nat, j1 = j ∧ l3 = l ∧ j < (geoN n).count ∧ It h0 h' F29 t d r u (putM T (geoN n) low P).1 n (hv.set low P) h4.size pb ∧ Low (hv.set low P) (geoN n).count j l, fun _ j1 _ => j1.toNat, ⟨(geoN n).count - 1, 0, by omega, rfl, by omega, a32, .inl ⟨rfl, fun i h1 h2 => by omega⟩⟩, ?_⟩
    rintro l3 j1 h33 ⟨j, l, rfl, rfl, jc, a33, lw⟩
    refine cd (fun hj => ?_) fun hj => ?_
    · obtain ⟨j', rfl⟩ : ∃ j', j = j' + 1 := ⟨j - 1, by omega⟩
      have ej : IntKind.wrap .i64 (((j' + 1 : Nat) : Int) - 1) = ((j' : Nat) : Int) := by rw [wrap_i64 (by omega) (by omega)]; omega
      refine os ⟨t, rda a33.pr rfl, os ⟨(geoN n).v, rfl, cellsa a33.pr rfl, ?_⟩⟩
      refine ask (k := fun x e h => bolelaw11_InodeTable.k8 h4 _ _ _ h33 _ _ x e h K) gl dm a33 (by omega) jc fun h37 xb f37 a37 rx => ?_
      unfold bolelaw11_InodeTable.k8
      have jl : j' + 1 < (hv.set low P).length := by rw [ib'.hl]; exact jc
      have ok := ib'.ok _ (List.getElem_mem jl)
      have e15 : ((hv.set low P).getD (j' + 1) z15).length = 15 := by rw [getD_eq jl]; exact ok.1
      have q := eqK e15
      have cc := a37.row jc
      refine cn (fun y => absurd rfl y) fun _ => os ⟨_, by rw [ints_length, e15], cellsAll rx, ⟨by omega, by omega⟩, _, by rw [ints_length, e15], (by rw [Int.toNat_natCast]; exact cc), q.1, ?_⟩
      rw [q.2]
      refine cf rfl (os ⟨_, cell15 rx (by omega), ?_⟩)
      rw [ej]
      have km := kind0 (R := (hv.set low P).getD (j' + 1) z15) (by rw [getD_eq jl]; exact ok.2)
      refine ce (fun y => ⟨⟨j', j' + 1, rfl, rfl, by omega, a37, Low.hit jc (km.mp y)⟩, by show ((j' : Nat) : Int).toNat < ((j' + 1 : Nat) : Int).toNat; omega⟩) fun y => ⟨⟨j', l, rfl, rfl, by omega, a37, lw.miss fun e => y (km.mpr e)⟩, by show ((j' : Nat) : Int).toNat < ((j' + 1 : Nat) : Int).toNat; omega⟩
    · have j0 : j = 0 := by omega
      subst j0
      rw [wrap_i64 (by omega) (by omega)]
      have pu := putM_undo (T := T) (g := geoN n) (n := (low : Int)) (R := P)
      exact ⟨⟨i + 1, l, (putM T (geoN n) low P).1, F29, hv.set low P, by omega, rfl, by omega, a33, by omega, lw, by omega⟩, by show ((none_ : Int) + 1 - ((i : Int) + 1)).toNat < ((none_ : Int) + 1 - (i : Int)).toNat; omega⟩
theorem table_k3 {h0 h4 h15 : Heap} {F : Nat → Prop} {t d r u : Option Addr} {T : TM} {n pb : Nat} {hv : List (List Int)} {K : Value → Heap → Prop} (gl : Glo h0) (dm : Dim n) (hn : n ≤ 6000) (a : It h0 h15 F t d r u T n hv h4.size pb) (hu : T.undo.length ≤ 100)
    (hK : ∀ h', Fr No h0 h' → K (.bool true) h') : bolelaw11_InodeTable.k3 h4 (some ⟨pb, 0, none⟩) ((geoN n).count : Int) h15 K := by
  have hc : (geoN n).count = 8 * (n / 64) := rfl
  have hlo := dm.lo
  obtain ⟨Z, ib⟩ := a.ib
  unfold bolelaw11_InodeTable.k3
  refine os ⟨((geoN n).count : Int), pcell a.pr rfl, ?_⟩
  rw [wrap_i64 (n := ((geoN n).count : Int) - 1) (by omega) (by omega)]
  refine ⟨fun nn lw k1 h' => ∃ j l : Nat, k1 = j ∧ lw = l ∧ nn = ((cz hv ((geoN n).count - 1) - cz hv j : Nat) : Int) ∧ j < (geoN n).count ∧ It h0 h' F t d r u T n hv h4.size pb ∧ Low hv (geoN n).count j l, fun _ _ k1 _ => k1.toNat, ⟨(geoN n).count - 1, 0, by omega, rfl, by rw [Nat.sub_self]; rfl, by omega, a, .inl ⟨rfl, fun i h1 h2 => by omega⟩⟩, ?_⟩
  rintro nn lw k1 h16 ⟨j, l, rfl, rfl, rfl, jc, a16, low⟩
  refine cd (fun hj => ?_) fun hj => ?_
  · obtain ⟨j', rfl⟩ : ∃ j', j = j' + 1 := ⟨j - 1, by omega⟩
    have ej : IntKind.wrap .i64 (((j' + 1 : Nat) : Int) - 1) = ((j' : Nat) : Int) := by rw [wrap_i64 (by omega) (by omega)]; omega
    refine os ⟨t, rda a16.pr rfl, os ⟨(geoN n).v, rfl, cellsa a16.pr rfl, ?_⟩⟩
    refine ask (k := fun x e h => bolelaw11_InodeTable.k4 h4 _ _ _ _ h16 _ _ x e h K) gl dm a16 (by omega) jc fun h20 xb f20 a20 rx => ?_
    unfold bolelaw11_InodeTable.k4
    have jl : j' + 1 < hv.length := by rw [ib.hl]; exact jc
    have ok := ib.ok _ (List.getElem_mem jl)
    have e15 : (hv.getD (j' + 1) z15).length = 15 := by rw [getD_eq jl]; exact ok.1
    have q := eqK e15
    have cc := a20.row jc
    refine cn (fun y => absurd rfl y) fun _ => os ⟨_, by rw [ints_length, e15], cellsAll rx, ⟨by omega, by omega⟩, _, by rw [ints_length, e15], (by rw [Int.toNat_natCast]; exact cc), q.1, ?_⟩
    rw [q.2]
    unfold bolelaw11_InodeTable.k5
    refine cf rfl (os ⟨_, cell15 rx (by omega), ?_⟩)
    have km := kind0 (R := hv.getD (j' + 1) z15) (by rw [getD_eq jl]; exact ok.2)
    have ez : cz hv (j' + 1) = cz hv j' + if hv.getD (j' + 1) z15 = z15 then 1 else 0 := rfl
    have mo := cz_mono hv (j' + 1) ((geoN n).count - 1 - (j' + 1))
    rw [show j' + 1 + ((geoN n).count - 1 - (j' + 1)) = (geoN n).count - 1 by omega] at mo
    have le := cz_le hv ((geoN n).count - 1)
    rw [ej, wrap_i64 (n := ((cz hv ((geoN n).count - 1) - cz hv (j' + 1) : Nat) : Int) + 1) (by omega) (by omega)]
    refine ce (fun y => ?_) fun y => ?_
    · rw [if_pos (km.mp y)] at ez
      exact ⟨⟨j', j' + 1, rfl, rfl, by omega, by omega, a20, Low.hit jc (km.mp y)⟩, by show ((j' : Nat) : Int).toNat < ((j' + 1 : Nat) : Int).toNat; omega⟩
    · rw [if_neg fun e => y (km.mpr e)] at ez
      exact ⟨⟨j', l, rfl, rfl, by omega, by omega, a20, low.miss fun e => y (km.mpr e)⟩, by show ((j' : Nat) : Int).toNat < ((j' + 1 : Nat) : Int).toNat; omega⟩
  · have j0 : j = 0 := by omega
    subst j0
    have c0 : cz hv 0 = 0 := rfl
    rw [c0, Nat.sub_zero]
    refine os ⟨t, rda a16.pr rfl, os ⟨(geoN n).v, rfl, cellsa a16.pr rfl, ?_⟩⟩
    refine Free_spec (gl.no a16.f) a16.x (cok dm) fun h24 f24 => ⟨_, _, rfl, ?_⟩
    rw [ib.free dm]
    exact cn (fun y => absurd rfl y) fun _ => cn (fun y => absurd rfl y) fun _ => table_k6 gl dm hn (a16.no f24) hu low rfl hK
theorem InodeTable_spec {n1 : Int} {lA atA : Option Addr} {lC atC : Nat} {Rs : List (List Int)} {xs : List Int} {h : Heap} {K : Value → Heap → Prop} (gl : Glo h) (B : SlCells h lA (Rs.flatMap ints)) (hR : ∀ R ∈ Rs, R.length = 15) (hl : Rs.length ≤ 140737488355328) (X : SlCells h atA (ints xs)) (hx : xs.length ≤ 140737488355328)
    (hK : ∀ h', Fr No h h' → K (.bool true) h') : C.bolelaw11_InodeTable n1 lA Rs.length lC atA xs.length atC h K := by
  have m0 := Int.emod_nonneg n1 (show (300 : Int) ≠ 0 by decide)
  have m1 := Int.emod_lt_of_pos n1 (show (0 : Int) < 300 by decide)
  refine bolelaw11_InodeTable.ok (fixed_spec gl fun h2 f2 => ⟨_, rfl, cf rfl (In.mod_spec (by decide) (by decide) ⟨_, rfl, ?_⟩)⟩)
  have e : n1 % 300 % 4096 = n1 % 300 := by omega
  obtain ⟨n, hn⟩ : ∃ n, n = 128 + (n1 % 300).toNat := ⟨_, rfl⟩
  have dm : Dim n := ⟨by omega, by omega⟩
  have hn6 : n ≤ 6000 := by omega
  refine start_spec (n := n) (by rw [e]; exact hn) fun pb h4 F r t u d f4 pr nf x4 => ⟨_, _, rfl, cf rfl (os ⟨((geoN n).count : Int), pcell pr rfl, ?_⟩)⟩
  have hc : (geoN n).count = 8 * (n / 64) := rfl
  refine ⟨⟨by omega, by omega, by omega, by omega⟩, New.intro fun h5 n5 => ?_⟩
  have z5 := n5.size
  have pl : pb < h4.size := rd_lt (o := 0) (by rw [pr]; rfl)
  rw [Int.toNat_natCast] at n5
  have hr5 : rd h5 h4.size = (List.replicate (geoN n).count z15).flatMap ints := by
    rw [n5.rd, repCells_eq, List.flatMap_replicate]; rfl
  have F5 : Fr No h h5 := (f2.no f4).new n5
  have s2 := f2.size
  have s4 := f4.size
  have a5 : It h h5 F t d r u _ n _ h4.size pb := ⟨F5, x4.no n5.fr, fun b y => by have w := nf b y; have w2 := x4.lt y; exact ⟨by omega, by omega, w.2⟩, (n5.at_ pl).trans pr, by omega, n5.own, hr5, ⟨by omega, by omega⟩, _, ib_start dm⟩
  refine ⟨fun i1 h' => ∃ (i : Nat) (T : TM) (F : Nat → Prop) (hv : List (List Int)), i1 = i ∧ i ≤ 40 ∧ It h h' F t d r u T n hv h4.size pb ∧ T.undo.length ≤ i, fun i1 _ => ((40 : Int) - i1).toNat, ⟨0, _, F, _, rfl, by decide, a5, Nat.le_refl _⟩, ?_⟩
  rintro i1 h6 ⟨i, T, F, hv, rfl, i40, a6, hu⟩
  have fin : bolelaw11_InodeTable.k3 h4 (some ⟨pb, 0, none⟩) ((geoN n).count : Int) h6 K := table_k3 gl dm hn6 a6 (by omega) hK
  refine cd (fun hi => cd (fun h40 => ?_) fun _ => fin) fun _ => fin
  unfold bolelaw11_InodeTable.k1
  refine NewRow.intro (cs := ints z15) rfl (ints_one z15) rfl fun h8 n8 => ?_
  have a8 := a6.no n8.fr
  have z8 := n8.size
  have nF : ¬ F h6.size := fun y => by have := a6.x.lt y; omega
  have hb6 : h4.size < h6.size := a6.ho.lt
  have nxt : ∀ (h' : Heap) (F' : Nat → Prop) (T' : TM) (hv' : List (List Int)), It h h' F' t d r u T' n hv' h4.size pb → T'.undo.length ≤ i + 1 → (∃ (j : Nat) (T : TM) (F : Nat → Prop) (hv : List (List Int)), ((i + 1 : Nat) : Int) = j ∧ j ≤ 40 ∧ It h h' F t d r u T n hv h4.size pb ∧ T.undo.length ≤ j) ∧ ((40 : Int) - ((i + 1 : Nat) : Int)).toNat < ((40 : Int) - (i : Int)).toNat :=
    fun h' F' T' hv' a' hu' => ⟨⟨i + 1, T', F', hv', rfl, by omega, a', hu'⟩, by omega⟩
  refine cd (fun hil => ?_) fun hil => ?_
  · have hil' : i < Rs.length := by omega
    obtain ⟨p, rfl, cc⟩ := rec_at (SlCells.fr a8.f B fun _ _ y => y) hR hil'
    refine ⟨⟨by omega, hil⟩, os ⟨ints Rs[i], by rw [ints_length, hR _ (List.getElem_mem hil')], (by rw [Int.toNat_natCast]; exact cc), ?_⟩⟩
    refine In.brought_spec (hR _ (List.getElem_mem hil')) fun P h9 hP hm _ f9 => ⟨_, rfl, ?_⟩
    have z9 := f9.size
    have r9 : rd h9 h6.size = ints z15 := (f9.rd (by omega) fun y => y).trans n8.rd
    refine PutRow.intro (f9.own n8.own.lt (fun y => y) n8.own) (by rw [ints_length, hP]) (ints_one P) (by rw [r9]; exact Nat.le_refl _) fun h10 d10 => ?_
    have e10 : rd h10 h6.size = ints P := by rw [d10.rd, r9]; exact put_all _ _ (by rw [ints_length, hP]; rfl)
    have z10 := d10.size
    have a10 : It h h10 F t d r u T n hv h4.size pb := a6.no ((n8.fr.no f9).did d10 fun y => by omega)
    exact table_k2 gl dm hn6 a10 X (by omega) e10 (by omega) nF hP hm hu (by omega) hb6 nxt
  · exact table_k2 gl dm hn6 a8 X (by omega) n8.rd (by omega) nF rfl rfl hu (by omega) hb6 nxt
end Go.Proofs.YtcdpakjhjmchhaaDoor.Ino
