/-
  bolelaw10: BmapCuts, plainly; what a row of calls leaves alone.
-/
import Derived.Test.YtcdpakjhjmchhaaGreatDoorBnH
namespace Go.Proofs.YtcdpakjhjmchhaaGreatDoor.Bm
open Go Go.Proofs Go.Proofs.YtcdpakjhjmchhaaGreatDoor.Wx Go.Proofs.YtcdpakjhjmchhaaGreatDoor.Hp Go.Proofs.YtcdpakjhjmchhaaGreatDoor.W Go.Proofs.YtcdpakjhjmchhaaGreatDoor.Ad Go.Proofs.YtcdpakjhjmchhaaGreatDoor.Tm Go.Proofs.YtcdpakjhjmchhaaGreatDoor.Bt Go.Proofs.YtcdpakjhjmchhaaGreatDoor.Spc Go.Proofs.YtcdpakjhjmchhaaGreatDoor.Re Go.Proofs.YtcdpakjhjmchhaaGreatDoor.Av Go.Proofs.YtcdpakjhjmchhaaGreatDoor.Rm
open Go.Proofs.YtcdpakjhjmchhaaGreatDoor.Hd (ints)
open Go.Proofs.YtcdpakjhjmchhaaGreatDoor.In (Glo ints_length ints_one)

theorem Cutd.again {n k : Nat} {Z Z' : Nat → Txt} {R R' : List Int} (c : Cutd n k Z R Z' R') : ∀ x, x < nS → num Z' R' x ≠ 0 → ¬ Dk Z' R' k x := by
  intro x hx h0 hD
  rcases Nat.lt_or_ge x 16522 with h | h
  · rw [dk_data h] at hD
    exact h0 (c.gone x hx ((dk_data h).mpr hD))
  · rw [dk_tab h] at hD
    obtain ⟨y, a, b, e⟩ := c.tg x h hx h0
    have hy := (data_sub h hx a b).2
    rcases Nat.lt_or_ge y k with hk | hk
    · exact e (hD y a b hk)
    · exact e (c.gone y (by unfold nS; omega) ((dk_data hy).mpr hk))
theorem dk_mono {Z : Nat → Txt} {R : List Int} {low high s : Nat} (hle : low ≤ high) (h : Dk Z R high s) : Dk Z R low s := by
  rcases Nat.lt_or_ge s 16522 with hs | hs
  · rw [dk_data hs] at h ⊢; omega
  · rw [dk_tab hs] at h ⊢
    exact fun x a b c => h x a b (by omega)
theorem dk_two {n low high : Nat} {Z Z2 : Nat → Txt} {R R2 : List Int} (c : Cutd n high Z R Z2 R2) (hle : low ≤ high) {s : Nat} (hn : s < nS) : Dk Z2 R2 low s ↔ Dk Z R low s := by
  rcases Nat.lt_or_ge s 16522 with hs | hs
  · rw [dk_data hs, dk_data hs]
  · rw [dk_tab hs, dk_tab hs]
    have e : ∀ x, loS s ≤ x → x < hiS s → x < low → num Z2 R2 x = num Z R x := fun x a b h => by
      have hx := (data_sub hs hn a b).2
      exact c.kept x (by unfold nS; omega) fun y => by rw [dk_data hx] at y; omega
    exact ⟨fun h x a b d => by rw [← e x a b d]; exact h x a b d, fun h x a b d => by rw [e x a b d]; exact h x a b d⟩
theorem cut_two {n low high : Nat} {Z Z1 Z2 Z3 : Nat → Txt} {R R1 R2 R3 : List Int} (c1 : Cutd n low Z R Z1 R1) (c2 : Cutd n high Z R Z2 R2) (c3 : Cutd n low Z2 R2 Z3 R3) (hle : low ≤ high) :
    (∀ s, s < nS → num Z3 R3 s = num Z1 R1 s) ∧ ∀ j, 98 + j / 4096 < (geoN n).inodes → bit Z3 j = bit Z1 j := by
  have k2 : ∀ s, s < nS → ¬ Dk Z R low s → num Z2 R2 s = num Z R s := fun s hs h => c2.kept s hs fun y => h (dk_mono hle y)
  refine ⟨fun s hs => ?_, fun j hj => ?_⟩
  · by_cases hD : Dk Z R low s
    · rw [c1.gone s hs hD, c3.gone s hs ((dk_two c2 hle hs).mpr hD)]
    · rw [c1.kept s hs hD, c3.kept s hs fun y => hD ((dk_two c2 hle hs).mp y), k2 s hs hD]
  · rw [Bool.eq_iff_iff, c3.bits j hj, c2.bits j hj, c1.bits j hj]
    constructor
    · rintro ⟨⟨b, h1⟩, h2⟩
      refine ⟨b, fun s hs hD h0 e => ?_⟩
      by_cases hh : Dk Z R high s
      · exact h1 s hs hh h0 e
      · have e2 := c2.kept s hs hh
        exact h2 s hs ((dk_two c2 hle hs).mpr hD) (by rw [e2]; exact h0) (by rw [e2]; exact e)
    · rintro ⟨b, h⟩
      refine ⟨⟨b, fun s hs hD => h s hs (dk_mono hle hD)⟩, fun s hs hD h0 e => ?_⟩
      have hh : ¬ Dk Z R high s := fun y => h0 (c2.gone s hs y)
      have e2 := c2.kept s hs hh
      exact h s hs ((dk_two c2 hle hs).mp hD) (by rw [← e2]; exact h0) (by rw [← e2]; exact e)
/-- a block is settled by its bits -/
theorem txt_bits {xs ys : Txt} (hx : xs.length = 512) (hy : ys.length = 512) (h : ∀ t, t < 4096 → bitAt xs t = bitAt ys t) : xs = ys := by
  apply List.ext_getElem
  · rw [hx, hy]
  · intro i h1 h2
    apply UInt8.toNat_inj.mp
    apply Nat.eq_of_testBit_eq
    intro k
    rcases Nat.lt_or_ge k 8 with hk | hk
    · have := h (8 * i + k) (by omega)
      unfold bitAt at this
      rw [show (8 * i + k) / 8 = i by omega, show (8 * i + k) % 8 = k by omega, List.getD_eq_getElem?_getD, List.getD_eq_getElem?_getD, List.getElem?_eq_getElem h1, List.getElem?_eq_getElem h2] at this
      exact this
    · have q : ∀ v : UInt8, v.toNat.testBit k = false := fun v => Nat.testBit_lt_two_pow (Nat.lt_of_lt_of_le (UInt8.toNat_lt v) (Nat.pow_le_pow_right (by decide) hk))
      rw [q, q]
theorem map_bits {n i : Nat} {Z Z' : Nat → Txt} (h1 : 98 ≤ i) (h2 : i < (geoN n).inodes) (l1 : (Z i).length = 512) (l2 : (Z' i).length = 512) (h : ∀ j, 98 + j / 4096 < (geoN n).inodes → bit Z j = bit Z' j) : Z i = Z' i := by
  refine txt_bits l1 l2 fun t ht => ?_
  have := h (4096 * (i - 98) + t) (by omega)
  unfold Av.bit at this
  rw [show 98 + (4096 * (i - 98) + t) / 4096 = i by omega, show (4096 * (i - 98) + t) % 4096 = t by omega] at this
  exact this
/-! a row of calls -/
structure Kp (h0 : Heap) (F0 : Nat → Prop) (hh : Heap) (F : Nat → Prop) : Prop where
  fr : Fr F0 h0 hh
  gw : Gw h0 F0 hh F
theorem Kp.refl {h0 : Heap} {F0 : Nat → Prop} (h : ∀ b, F0 b → b < h0.size) : Kp h0 F0 h0 F0 := ⟨Fr.refl _ _, Gw.refl (Nat.le_refl _) h⟩
theorem Kp.no {h0 hh h' : Heap} {F0 F : Nat → Prop} (k : Kp h0 F0 hh F) (f : Fr No hh h') : Kp h0 F0 h' F := ⟨k.fr.no f, ⟨k.gw.old, fun b hb => Nat.lt_of_lt_of_le (k.gw.lt b hb) f.size⟩⟩
theorem Kp.call {h0 hh h' : Heap} {F0 F F' : Nat → Prop} (k : Kp h0 F0 hh F) (f : Fr F hh h') (g : Gw hh F h' F') : Kp h0 F0 h' F' := ⟨k.fr.trans f fun b hb y => (k.gw.old b hb).mp y, k.gw.trans g k.fr.size⟩
theorem Kp.rd {h0 hh : Heap} {F0 F : Nat → Prop} {b : Nat} (k : Kp h0 F0 hh F) (hb : b < h0.size) (hn : ¬ F0 b) : Hp.rd hh b = Hp.rd h0 b := k.fr.rd hb hn
theorem Kp.nf {h0 hh : Heap} {F0 F : Nat → Prop} {b : Nat} (k : Kp h0 F0 hh F) (hb : b < h0.size) (hn : ¬ F0 b) : ¬ F b := fun y => hn ((k.gw.old b hb).mp y)
theorem Kp.size {h0 hh : Heap} {F0 F : Nat → Prop} (k : Kp h0 F0 hh F) : h0.size ≤ hh.size := k.fr.size
theorem Kp.low {h0 hh : Heap} {F0 F : Nat → Prop} {m : Nat} (k : Kp h0 F0 hh F) (h : ∀ b, F0 b → m ≤ b) (hm : m ≤ h0.size) : ∀ b, F b → m ≤ b := fun b y => by
  rcases k.gw.new y with y | y
  · exact h b y
  · omega
theorem Kp.base {h0 hh h1 : Heap} {F0 F : Nat → Prop} (k : Kp h0 F0 hh F) (f : Fr No h1 h0) (h : ∀ b, F0 b → h1.size ≤ b) : Fr No h1 hh := f.trans k.fr fun b hb y => by have := h b y; omega
theorem eq15 {R : List Int} (h : R.length = 15) : pairsOk [(.int .i64), (.int .i64), (.int .i64), (.int .i64), (.int .i64), (.int .i64), (.int .i64), (.int .i64), (.int .i64), (.int .i64), (.int .i64), (.int .i64), (.int .i64), (.int .i64), (.int .i64)] (ints R) (ints R) = true ∧ cellsEq (ints R) (ints R) = true := by
  constructor
  · match R, h with
    | [a0, a1, a2, a3, a4, a5, a6, a7, a8, a9, a10, a11, a12, a13, a14], _ => rfl
  · have : ∀ l : List Int, cellsEq (ints l) (ints l) = true := by
      intro l
      induction l with
      | nil => rfl
      | cons v l ih =>
        show ((v == v) && cellsEq (ints l) (ints l)) = true
        rw [ih, beq_self_eq_true]; rfl
    exact this R
theorem aput_twice {α : Type} {i : Int} {v z : α} : ∀ m : List (Int × α), aput (aput m i z) i v = aput m i v
  | [] => by show (bif i == i then _ else _) = _; rw [beq_self_eq_true]; rfl
  | (k, u) :: r => by
    show aput (bif i == k then (i, z) :: r else (k, u) :: aput r i z) i v = (bif i == k then (i, v) :: r else (k, u) :: aput r i v)
    by_cases e : i = k
    · rw [e, beq_self_eq_true]
      show (bif k == k then _ else _) = _
      rw [beq_self_eq_true]; rfl
    · rw [beq_eq_false_iff_ne.mpr e]
      show (bif i == k then _ else (k, u) :: aput (aput r i z) i v) = _
      rw [beq_eq_false_iff_ne.mpr e, aput_twice r]; rfl
end Go.Proofs.YtcdpakjhjmchhaaGreatDoor.Bm
