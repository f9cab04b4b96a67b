/-
  InodeTable: the loops.
-/
import Derived.Test.YtcdpakjhjmchhaaDoorInU
namespace Go.Proofs.YtcdpakjhjmchhaaDoor.Ino
open Go Go.Proofs Go.Proofs.YtcdpakjhjmchhaaDoor.Wx Go.Proofs.YtcdpakjhjmchhaaDoor.Hp Go.Proofs.YtcdpakjhjmchhaaDoor.W Go.Proofs.YtcdpakjhjmchhaaDoor.Ad Go.Proofs.YtcdpakjhjmchhaaDoor.Tm Go.Proofs.YtcdpakjhjmchhaaDoor.Bt Go.Proofs.YtcdpakjhjmchhaaDoor.Spc Go.Proofs.YtcdpakjhjmchhaaDoor.Re Go.Proofs.YtcdpakjhjmchhaaDoor.Av
open Go.Proofs.YtcdpakjhjmchhaaDoor.Hd (ints ints_get)
open Go.Proofs.YtcdpakjhjmchhaaDoor.In (z15 mayR encR decA ints_one ints_length ints_eq pairs15 cell15 Glo getR_length encR_length z15_row plainL decA_enc kindOk)

theorem pcell {h : Heap} {b k : Nat} {xs : List Value} {v : Value} (e : rd h b = xs) (hv : xs[k]? = some v) : cellOf h (Addr.add (Addr.add ⟨b, 0, none⟩ 0) k) = some v := by
  rw [add_mk]; exact rda e (by simpa using hv)
theorem rec_at {h : Heap} {a : Option Addr} {Rs : List (List Int)} (P : SlCells h a (Rs.flatMap ints)) (hR : ∀ R ∈ Rs, R.length = 15) {i : Nat} (hi : i < Rs.length) : ∃ p, a = some p ∧ Cells h (p.add (i * 15)) (ints Rs[i]) := by
  have hw := ints15 hR
  have hl := flat_length ints 15 Rs hw
  have hp := flat_part ints 15 Rs hw i hi
  cases a with
  | none =>
    have c : Rs.flatMap ints = [] := P
    rw [c] at hl
    exact absurd hl (by simp; omega)
  | some p =>
    refine ⟨p, rfl, ?_⟩
    have := (Cells.take (Cells.drop P (i * 15)) 15)
    rw [hp] at this
    exact this
theorem It.row {h0 hh : Heap} {F : Nat → Prop} {t d r u : Option Addr} {T : TM} {n : Nat} {hv : List (List Int)} {hb pb k : Nat} (a : It h0 hh F t d r u T n hv hb pb) (hk : k < (geoN n).count) : Cells hh (Addr.add ⟨hb, 0, none⟩ (k * 15)) (ints (hv.getD k z15)) := by
  obtain ⟨Z, i⟩ := a.ib
  have h15 := ints15 fun R hR => (i.ok R hR).1
  have hk' : k < hv.length := by rw [i.hl]; exact hk
  have lR : (ints hv[k]).length = 15 := h15 _ (List.getElem_mem hk')
  rw [getD_eq hk']
  refine cellsa a.hr ?_
  rw [Nat.zero_add, lR]
  exact flat_part ints 15 hv h15 k hk'
/-- a record is put, here and there -/
theorem table_k2 {h0 h4 h6 h11 : Heap} {F : Nat → Prop} {t d r u : Option Addr} {T : TM} {n pb i : Nat} {hv : List (List Int)} {atA : Option Addr} {xs : List Int} {R : List Int} {I1 : Int → Heap → Prop} {M1 : Int → Heap → Nat} {K : Value → Heap → Prop}
    (gl : Glo h0) (dm : Dim n) (hn : n ≤ 6000) (a : It h0 h11 F t d r u T n hv h4.size pb) (X : SlCells h0 atA (ints xs)) (hi : i < xs.length) (rR : rd h11 h6.size = ints R) (l6 : h6.size < h11.size) (nF : ¬ F h6.size) (hR : R.length = 15) (hm : mayR R = true) (hu : T.undo.length ≤ i) (hi40 : i < 40) (h64 : h4.size < h6.size)
    (hI : ∀ h' F' T' hv', It h0 h' F' t d r u T' n hv' h4.size pb → T'.undo.length ≤ i + 1 → I1 ((i + 1 : Nat) : Int) h' ∧ M1 ((i + 1 : Nat) : Int) h' < M1 (i : Int) h6) :
    bolelaw11_InodeTable.k2 atA xs.length h4 (some ⟨pb, 0, none⟩) ((geoN n).count : Int) (i : Int) h6 I1 M1 h11 K := by
  have hc : (geoN n).count = 8 * (n / 64) := rfl
  have hlo := dm.lo
  unfold bolelaw11_InodeTable.k2
  obtain ⟨p, rfl, cv⟩ := ints_get (SlCells.fr a.f X fun _ _ y => y) hi
  refine ⟨⟨by omega, by omega⟩, os ⟨xs[i], cv, os ⟨((geoN n).count : Int), pcell a.pr rfl, ?_⟩⟩⟩
  rw [wrap_i64 (n := ((geoN n).count : Int) - 1) (by omega) (by omega)]
  have q0 := Int.emod_nonneg xs[i] (show ((geoN n).count : Int) - 1 ≠ 0 by omega)
  have q1 := Int.emod_lt_of_pos xs[i] (show (0 : Int) < ((geoN n).count : Int) - 1 by omega)
  refine In.mod_spec (by omega) (by omega) ⟨_, rfl, ?_⟩
  generalize xs[i] % (((geoN n).count : Int) - 1) = q at q0 q1 ⊢
  obtain ⟨k, ek⟩ : ∃ k : Nat, 1 + q = (k : Int) := ⟨(1 + q).toNat, by omega⟩
  have ew : IntKind.wrap .i64 (1 + q) = ((k : Nat) : Int) := by rw [wrap_i64 (by omega) (by omega)]; exact ek
  have k1 : 1 ≤ k := by omega
  have k2 : k < (geoN n).count := by omega
  rw [ew]
  obtain ⟨Z, ib⟩ := a.ib
  obtain ⟨e0, Z', ib'⟩ := ib.put dm hn k1 k2 hR hm
  refine os ⟨t, rda a.pr rfl, os ⟨(geoN n).v, rfl, cellsa a.pr rfl, ints R, by rw [ints_length, hR], cellsAll rR, ?_⟩⟩
  refine Put_spec (gl.no a.f) a.x (cok dm) hR (by omega) fun h13 F13 f13 g13 x13 => ⟨_, rfl, ?_⟩
  rw [e0]
  obtain ⟨c1, c2, c3, c4, c5, c6, c7⟩ := a.call f13 g13 x13
  have r13 : rd h13 h6.size = ints R := (f13.rd l6 nF).trans rR
  refine cn (fun y => absurd rfl y) fun _ => ⟨ints R, by rw [ints_length, hR], cellsAll r13, ⟨by omega, by omega⟩, ?_⟩
  rw [Int.toNat_natCast, add_mk]
  have l15 : ∀ S ∈ hv, S.length = 15 := fun S hS => (ib.ok S hS).1
  have kl : k < hv.length := by rw [ib.hl]; exact k2
  refine PutRow.intro c6 (by rw [ints_length, hR]) (ints_one R) (by rw [c7, flat_length ints 15 hv (ints15 l15)]; omega) fun h14 d14 => ?_
  rw [c7, Nat.zero_add, put_flat l15 kl hR] at d14
  have z14 := d14.size
  rw [wrap_i64 (n := (i : Int) + 1) (by omega) (by omega), show (i : Int) + 1 = ((i + 1 : Nat) : Int) by omega]
  have pu := putM_undo (T := T) (g := geoN n) (n := (k : Int)) (R := R)
  have hb0 := a.h0
  have hsz := a.f.size
  refine hI h14 F13 _ _ ⟨c1.did d14 fun y => by omega, c2.fr d14.fr fun b hb e => (c3 b hb).2.1 e, c3, (d14.at_ c5 fun e => hb0.2 e.symm).trans c4, by omega, d14.own, d14.rd, hb0, _, ib'⟩ (by omega)
theorem eqK {R : List Int} (hR : R.length = 15) : pairsOk [(.int .i64), (.int .i64), (.int .i64), (.int .i64), (.int .i64), (.int .i64), (.int .i64), (.int .i64), (.int .i64), (.int .i64), (.int .i64), (.int .i64), (.int .i64), (.int .i64), (.int .i64)] (ints R) (ints R) = true ∧ (!(cellsEq (ints R) (ints R))) = false := by
  refine ⟨pairs15 hR hR, ?_⟩
  rw [ints_eq, decide_eq_true rfl]; rfl
theorem cz_zero {hv : List (List Int)} : ∀ {j : Nat}, (∀ i, 0 < i → i < j + 1 → hv.getD i z15 ≠ z15) → cz hv j = 0
  | 0, _ => rfl
  | j + 1, h => by
    show cz hv j + (if hv.getD (j + 1) z15 = z15 then 1 else 0) = 0
    rw [cz_zero fun i h1 h2 => h i h1 (by omega), if_neg (h (j + 1) (by omega) (by omega))]
theorem cz_pos {hv : List (List Int)} {low : Nat} : ∀ {j : Nat}, 0 < low → low ≤ j → hv.getD low z15 = z15 → 0 < cz hv j
  | 0, h1, h2, _ => by omega
  | j + 1, h1, h2, h3 => by
    show 0 < cz hv j + (if hv.getD (j + 1) z15 = z15 then 1 else 0)
    by_cases e : low = j + 1
    · rw [← e, if_pos h3]; omega
    · have := cz_pos (j := j) h1 (by omega) h3; omega
theorem inside_spec {h0 hh : Heap} {F : Nat → Prop} {t d r u : Option Addr} {T : TM} {n : Nat} {hv : List (List Int)} {hb pb : Nat} {K : Value → Heap → Prop} (dm : Dim n) (hn : n ≤ 6000) (a : It h0 hh F t d r u T n hv hb pb) (hK : ∀ h', Fr No hh h' → K (.bool true) h') : C.bolelaw11_play_inside (some ⟨pb, 0, none⟩) hh K := by
  obtain ⟨Z, i⟩ := a.ib
  have room := i.room hn
  have el : (ks T).length = T.put.length := List.length_map ..
  refine bolelaw11_play_inside.ok (os ⟨t, rda a.pr rfl, Written_spec a.x (by omega) fun wa wl wc h2 f2 ewl sw => ⟨_, _, _, rfl, ?_⟩⟩)
  have a2 := a.no f2
  have ewr : T.written.length = wl := by have := sw.1; rw [List.length_map] at this; omega
  have mem : ∀ x ∈ T.written, ((geoN n).inodes : Int) ≤ x ∧ x < (geoN n).data := fun x hx => i.sub x ((List.mergeSort_perm _ _).mem_iff.mp hx)
  refine ⟨fun j h' => h' = h2 ∧ 0 ≤ j ∧ j ≤ wl, fun j _ => ((wl : Int) - j).toNat, ⟨rfl, Int.le_refl 0, by omega⟩, ?_⟩
  rintro j h3 ⟨rfl, j0, j1⟩
  refine cd (fun hj => ?_) fun _ => hK h3 f2
  have hj' : j.toNat < T.written.length := by omega
  obtain ⟨p, rfl, cv⟩ := ints_get (ns := T.written) sw.cells hj'
  have m := mem _ (List.getElem_mem hj')
  refine ⟨⟨j0, hj⟩, os ⟨_, cv, os ⟨((geoN n).inodes : Int), pcell a2.pr rfl, cd (fun y => by exfalso; omega) fun _ => ⟨⟨j0, hj⟩, os ⟨_, cv, os ⟨((geoN n).data : Int), pcell a2.pr rfl, cd (fun y => by exfalso; omega) fun _ => ?_⟩⟩⟩⟩⟩⟩
  rw [wrap_i64 (by omega) (by omega)]
  exact ⟨⟨rfl, by omega, by omega⟩, by show ((wl : Int) - (j + 1)).toNat < ((wl : Int) - j).toNat; omega⟩
end Go.Proofs.YtcdpakjhjmchhaaDoor.Ino
