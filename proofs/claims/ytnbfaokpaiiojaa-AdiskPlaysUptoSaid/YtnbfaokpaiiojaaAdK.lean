import Derived.Test.YtnbfaokpaiiojaaAdM
/-
  THE DISK of package adisk: a cut; Crash.
-/
namespace Go.Proofs.Ytnbfaokpaiiojaa.Ad
open Go Go.Proofs Go.Proofs.Ytnbfaokpaiiojaa.Wx Go.Proofs.Ytnbfaokpaiiojaa.Hp Go.Proofs.Ytnbfaokpaiiojaa.W

/-- the blocks of a disk -/
def Dk (col : Nat → Nat) (m : Nat) : Nat → Prop := fun b => m ≤ col b ∧ col b ≤ m + 5
def applyTo (ls : List (List UInt8)) (ps : List (Int × List UInt8)) : List (List UInt8) := ps.foldl (fun l p => l.set p.1.toNat p.2) ls
def chosen (ps : List (Int × List UInt8)) (keep : List Bool) : List (Int × List UInt8) := ((ps.zip keep).filter (·.2)).map (·.1)
def RD.cut (S : RD) (keep : List Bool) : RD := { S with lasts := applyTo S.lasts (chosen S.pend keep), pend := [], keep := [], left := 0, down := true }

theorem applyTo_length (ps : List (Int × List UInt8)) : ∀ ls, (applyTo ls ps).length = ls.length := by
  induction ps with
  | nil => intro ls; rfl
  | cons p r ih => intro ls; simp only [applyTo, List.foldl_cons] at ih ⊢; rw [ih, List.length_set]
theorem chosen_snoc {ps : List (Int × List UInt8)} {keep : List Bool} {n : Nat} (h1 : n < ps.length) (h2 : n < keep.length) :
    chosen (ps.take (n + 1)) (keep.take (n + 1)) = chosen (ps.take n) (keep.take n) ++ (if keep[n] then [ps[n]] else []) := by
  rw [take_snoc _ _ h1, take_snoc _ _ h2]
  simp only [chosen]
  rw [List.zip_append (by rw [List.length_take, List.length_take]; omega), List.filter_append, List.map_append]
  congr 1
  cases keep[n] <;> rfl
theorem chosen_min (ps : List (Int × List UInt8)) (keep : List Bool) (n : Nat) (h : n = min ps.length keep.length) : chosen (ps.take n) (keep.take n) = chosen ps keep := by
  simp only [chosen]
  congr 2
  show List.zipWith _ _ _ = List.zipWith _ _ _
  rw [← List.take_zipWith, List.take_of_length_le (by rw [List.length_zipWith]; omega)]

theorem cut_spec {d : Option Addr} {ka : Option Addr} {kl kc : Nat} {keep : List Bool} {h : Heap} {K : Value → Heap → Prop} {S : RD} {col : Nat → Nat} {m : Nat} (D : DiskAt h d S col m)
    (hkl : keep.length = kl) (hk : SlCells h ka (keep.map .bool)) (hkc : ∀ p, ka = some p → keep ≠ [] → col p.block ≠ m + 1)
    (hK : ∀ h', Fr (Dk col m) h h' → DiskAt h' d (S.cut keep) col m → K (.tuple #[]) h') : C.adisk_Disk_cut d ka kl kc h K := by
  obtain ⟨b, r, es, rfl, D⟩ := D
  refine adisk_Disk_cut.ok ⟨_, _, _, D.field 1, ?_⟩
  have hN : (if (r.pn : Int) < (kl : Int) then (r.pn : Int) else (kl : Int)) = ((min S.pend.length keep.length : Nat) : Int) := by rw [D.pn, ← hkl]; split <;> omega
  rw [hN]
  have hNdef : min S.pend.length keep.length ≤ S.pend.length ∧ min S.pend.length keep.length ≤ keep.length := ⟨Nat.min_le_left _ _, Nat.min_le_right _ _⟩
  refine ⟨fun n hh => 0 ≤ n ∧ n ≤ (min S.pend.length keep.length : Nat) ∧ Fr (On col (m + 1)) h hh ∧ Disk hh b { S with lasts := applyTo S.lasts (chosen (S.pend.take n.toNat) (keep.take n.toNat)) } col m r es,
    fun n _ => ((min S.pend.length keep.length : Nat) - n).toNat, ⟨by omega, by omega, Fr.refl _ _, D⟩, ?_⟩
  rintro n h2 ⟨n0, n1, f2, D2⟩
  refine cd (fun hn => ?_) fun hn => ?_
  · have hn1 : n.toNat < S.pend.length := by omega
    have hn2 : n.toNat < keep.length := by omega
    obtain ⟨q, e', c'⟩ := D2.pendCells (S := { S with lasts := applyTo S.lasts (chosen (S.pend.take n.toNat) (keep.take n.toNat)) }) hn1 D2.p
    refine ⟨_, _, _, D2.field 1, ⟨n0, by rw [D.pn]; omega⟩, ?_⟩
    rw [e']
    have hp2 := D.pw _ (List.getElem_mem hn1)
    have hpl := pcell_len hp2
    refine ⟨_, hpl, c', NewRow.intro hpl (pcell_one _) (List.length_cons.trans (congrArg (· + 1) List.length_replicate)) fun h4 n4 => ⟨⟨n0, by omega⟩, ?_⟩⟩
    have f4 := f2.new n4
    have k4 := SlCells.fr f4 hk (fun p hp => hkc p hp (by rintro rfl; simp at hn2))
    have D4 := D2.keep' n4.fr (Ag.refl _ _) (fun _ _ _ x => x)
    have hw2 : IntKind.wrap .i64 (n + 1) = n + 1 := wrap_i64 (by omega) (by have := D.pmax; omega)
    have ht : (n + 1).toNat = n.toNat + 1 := by omega
    have hcs := chosen_snoc hn1 hn2
    cases ka with
    | none => have k4 : keep.map Value.bool = [] := k4; simp at k4; rw [k4] at hn2; simp at hn2
    | some kp =>
      refine os ⟨_, k4 n.toNat _ (by rw [List.getElem?_eq_getElem (by rw [List.length_map]; exact hn2), List.getElem_map]), ?_⟩
      rw [hw2]
      refine cs (fun hb => ?_) fun hb => ?_
      · obtain ⟨i0, i1⟩ := D.pi _ (List.getElem_mem hn1)
        have hlen := applyTo_length (chosen (S.pend.take n.toNat) (keep.take n.toNat)) S.lasts
        have hbl := blk_len hp2
        refine ⟨_, _, _, D4.field 0, _, rda n4.rd rfl, _, hbl, cellsa n4.rd (pcell_data _), ⟨i0, by rw [D4.ln]; show _ < ((applyTo _ _).length : Int); rw [hlen]; exact i1⟩, ?_⟩
        obtain ⟨p, e, _⟩ := D4.l.get (by rw [D4.ln]; show 0 < (applyTo _ _).length; rw [hlen]; omega)
        rw [e]
        have L := D4.l
        rw [e] at L
        have hpm := L.mk
        rw [hpm] at e L ⊢
        obtain ⟨w1, w2⟩ := L.wr
        have hl2 := L.1
        rw [flat_length blk 512 _ (fun x hx => blk_len (D4.lw x hx))] at hl2
        have hi : S.pend[n.toNat].1.toNat < (applyTo S.lasts (chosen (S.pend.take n.toNat) (keep.take n.toNat))).length := by rw [hlen]; omega
        have hr : S.pend[n.toNat].1.toNat * 512 + 512 ≤ r.ln * 512 := by
          have : r.ln = (applyTo S.lasts (chosen (S.pend.take n.toNat) (keep.take n.toNat))).length := D4.ln
          rw [this]; omega
        refine os (PutRow.add w1 hbl (bv_one _) (by omega) fun h5 d5 => ⟨⟨by omega, by omega, ?_, ?_⟩, falls hn⟩)
        · exact f4.did d5 (fun _ => L.2.2.1)
        · have D5 := D4.putLast hi hp2 e d5
          rw [ht, hcs, if_pos hb, applyTo, List.foldl_append]
          exact D5
      · refine ⟨⟨by omega, by omega, f4, ?_⟩, falls hn⟩
        rw [ht, hcs, if_neg (by rw [hb]; exact Bool.false_ne_true), List.append_nil]
        exact D4
  · have e : n.toNat = min S.pend.length keep.length := by omega
    rw [e, chosen_min _ _ _ rfl] at D2
    have hsb : col b = m := D.sc
    have dk : b < h.size → Dk col m b := fun _ => ⟨by omega, by omega⟩
    have F2 : Fr (Dk col m) h h2 := f2.mono fun x _ hx => by have hx : col x = m + 1 := hx; exact ⟨by omega, by omega⟩
    have P2 := D2.toParts
    refine os (Put.add D2.so (by rw [D2.sr]; exact (by decide : 0 + 1 < 8)) fun h6 d6 => ?_)
    rw [D2.sr] at d6
    have P6 : Parts h6 { (S.cut keep) with keep := S.keep, left := S.left, down := S.down } col m { r with pa := none, pn := 0, pc := 0 } es := by
      have Q := P2.keep d6.fr (Ag.refl _ _) (fun x h1 _ e => by rw [e] at h1; omega)
      exact ⟨Q.left, Q.leftb, Q.down, Q.writes, Q.flushes, Q.l, Q.lw, Q.ln, Q.lmax, Sl.nil _ _ _, (fun x hx => by simp [RD.cut] at hx), rfl, (fun x hx => by simp [RD.cut] at hx), Nat.zero_le _, Q.k, Q.kn, Q.t, Q.tn, Q.tmax, Q.ts⟩
    refine os (Put.add d6.own (by rw [d6.rd]; exact (by decide : 0 + 3 < 8)) fun h7 d7 => ?_)
    rw [d6.rd] at d7
    refine os (Put.add d7.own (by rw [d7.rd]; exact (by decide : 0 + 2 < 8)) fun h8 d8 => ?_)
    rw [d7.rd] at d8
    refine os (Put.add d8.own (by rw [d8.rd]; exact (by decide : 0 + 4 < 8)) fun h9 d9 => ?_)
    rw [d8.rd] at d9
    have hF : ∀ x, m + 1 ≤ col x → col x ≤ m + 5 → ¬ (x = b) := fun x h1 _ e => by rw [e] at h1; omega
    have P8 := ((P6.keep d7.fr (Ag.refl _ _) hF).keep d8.fr (Ag.refl _ _) hF)
    refine hK h9 ((((F2.did d6 dk).did d7 dk).did d8 dk).did d9 dk) ⟨b, { r with pa := none, pn := 0, pc := 0, ka := none, kn := 0, kc := 0, left := 0, down := true }, es, rfl, ?_⟩
    refine Disk.re ?_ D.sc d9
    exact ⟨rfl, ⟨Int.le_refl _, (by decide : (0 : Int) ≤ 9223372036854775807)⟩, rfl, P8.writes, P8.flushes, P8.l, P8.lw, P8.ln, P8.lmax, P8.p, P8.pw, P8.pn, P8.pi, P8.pmax, Sl.nil _ _ _, rfl, P8.t, P8.tn, P8.tmax, P8.ts⟩
end Go.Proofs.Ytnbfaokpaiiojaa.Ad
/-
  THE DISK of package adisk: a step; a crash; a write.
-/
namespace Go.Proofs.Ytnbfaokpaiiojaa.Ad
open Go Go.Proofs Go.Proofs.Ytnbfaokpaiiojaa.Wx Go.Proofs.Ytnbfaokpaiiojaa.Hp Go.Proofs.Ytnbfaokpaiiojaa.W
theorem Crash_spec {d : Option Addr} {ka : Option Addr} {kl kc : Nat} {keep : List Bool} {h : Heap} {K : Value → Heap → Prop} {S : RD} {col : Nat → Nat} {m : Nat} (D : DiskAt h d S col m)
    (hkl : keep.length = kl) (hk : SlCells h ka (keep.map .bool)) (hkc : ∀ p, ka = some p → keep ≠ [] → col p.block ≠ m + 1)
    (hK : ∀ h', Fr (Dk col m) h h' → DiskAt h' d (if S.down then S else S.cut keep) col m → K (.tuple #[]) h') : C.adisk_Disk_Crash d ka kl kc h K := by
  have D0 := D
  obtain ⟨b, r, es, rfl, D⟩ := D
  refine adisk_Disk_Crash.ok ⟨_, D.field 4, cnot ?_⟩
  rw [D.down]
  cases hd : S.down with
  | true => rw [hd] at hK; exact hK h (Fr.refl _ _) D0
  | false => rw [hd] at hK; exact cut_spec D0 hkl hk hkc fun h' f D' => ⟨rfl, hK h' f D'⟩
end Go.Proofs.Ytnbfaokpaiiojaa.Ad
