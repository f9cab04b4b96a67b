/-
  BITS in bytes: has, on, Get, Put; the rows of bits that are off, one by one.
-/
import Derived.Test.YtcdpakjhjmchhaaGreatDoorRgA
namespace Go.Proofs.YtcdpakjhjmchhaaGreatDoor.Bt
open Go Go.Proofs Go.Proofs.YtcdpakjhjmchhaaGreatDoor.Wx Go.Proofs.YtcdpakjhjmchhaaGreatDoor.Hp Go.Proofs.YtcdpakjhjmchhaaGreatDoor.W Go.Proofs.YtcdpakjhjmchhaaGreatDoor.Rg

/-- a bit of a row of bytes -/
def bitAt (bs : List UInt8) (i : Nat) : Bool := (bs.getD (i / 8) 0).toNat.testBit (i % 8)
def setB (n s : Nat) (on : Bool) : Nat := if on = true then n ||| 2 ^ s else n &&& (255 - 2 ^ s)
/-- and that bit put -/
def putBit (bs : List UInt8) (i : Nat) (on : Bool) : List UInt8 := bs.set (i / 8) (UInt8.ofNat (setB (bs.getD (i / 8) 0).toNat (i % 8) on))
theorem putBit_length (bs : List UInt8) (i : Nat) (on : Bool) : (putBit bs i on).length = bs.length := List.length_set
theorem bit_read : ∀ n : Fin 256, ∀ s : Fin 8, ((bitsI .and .u8 (Int.fdiv (n.val : Int) (2 ^ min (Int.toNat (s.val : Int)) 8)) 1) == 1) = n.val.testBit s.val := by decide +kernel
theorem bit_or : ∀ n : Fin 256, ∀ s : Fin 8, bitsI .or .u8 (n.val : Int) (IntKind.wrap .u8 (1 * 2 ^ min (Int.toNat (s.val : Int)) 8)) = (setB n.val s.val true : Nat) := by decide +kernel
theorem bit_not : ∀ n : Fin 256, ∀ s : Fin 8, bitsI .andNot .u8 (n.val : Int) (IntKind.wrap .u8 (1 * 2 ^ min (Int.toNat (s.val : Int)) 8)) = (setB n.val s.val false : Nat) := by decide +kernel
theorem setB_lt : ∀ n : Fin 256, ∀ s : Fin 8, setB n.val s.val true < 256 ∧ setB n.val s.val false < 256 := by decide +kernel
theorem setB_get : ∀ n : Fin 256, ∀ s t : Fin 8, (setB n.val s.val true).testBit t.val = (if t = s then true else n.val.testBit t.val) ∧ (setB n.val s.val false).testBit t.val = (if t = s then false else n.val.testBit t.val) := by decide +kernel
theorem setB_lt' {n s : Nat} (hn : n < 256) (hs : s < 8) (on : Bool) : setB n s on < 256 := by
  cases on
  · exact (setB_lt ⟨n, hn⟩ ⟨s, hs⟩).2
  · exact (setB_lt ⟨n, hn⟩ ⟨s, hs⟩).1
theorem setB_get' {n s t : Nat} (hn : n < 256) (hs : s < 8) (ht : t < 8) (on : Bool) : (setB n s on).testBit t = if t = s then on else n.testBit t := by
  have e : ((⟨t, ht⟩ : Fin 8) = ⟨s, hs⟩) = (t = s) := by rw [Fin.mk.injEq]
  have := setB_get ⟨n, hn⟩ ⟨s, hs⟩ ⟨t, ht⟩
  simp only [Fin.mk.injEq] at this
  cases on
  · exact this.2
  · exact this.1
theorem bitAt_putBit (bs : List UInt8) (i j : Nat) (on : Bool) (hi : i < 8 * bs.length) : bitAt (putBit bs i on) j = if j = i then on else bitAt bs j := by
  have hn : (bs.getD (i / 8) 0).toNat < 256 := UInt8.toNat_lt _
  have hl : i / 8 < bs.length := by omega
  unfold bitAt putBit
  by_cases h : j / 8 = i / 8
  · rw [h]
    have : (bs.set (i / 8) (UInt8.ofNat (setB (bs.getD (i / 8) 0).toNat (i % 8) on))).getD (i / 8) 0 = UInt8.ofNat (setB (bs.getD (i / 8) 0).toNat (i % 8) on) := by
      rw [List.getD_eq_getElem?_getD, List.getElem?_set_self hl]; rfl
    rw [this, UInt8.toNat_ofNat_of_lt' (setB_lt' hn (by omega) on), setB_get' hn (by omega) (by omega)]
    by_cases e : j = i
    · rw [if_pos e, if_pos (by omega)]
    · rw [if_neg e, if_neg (by omega)]
  · rw [if_neg (by rintro rfl; exact h rfl), List.getD_eq_getElem?_getD, List.getElem?_set_ne (by omega), ← List.getD_eq_getElem?_getD]
theorem sl_rng {h : Heap} {ec l c : Nat} {a : Option Addr} {xs : List Value} {F : Nat → Prop} (s : Sl h ec a l c xs F) : Sl h ec a l c xs (fun b => F b ∧ b < h.size) := by
  cases a with
  | none => exact ⟨s.1, s.2⟩
  | some p => exact ⟨s.1, s.2.1, ⟨s.2.2.1, s.lt⟩, s.2.2.2⟩
theorem tdiv8 (n : Nat) : Int.tdiv (n : Int) 8 = ((n / 8 : Nat) : Int) := rfl
theorem tmod8 (n : Nat) : Int.tmod (n : Int) 8 = ((n % 8 : Nat) : Int) := rfl
theorem has_spec {A : Option Addr} {l c : Nat} {i : Int} {h : Heap} {K : Value → Heap → Prop} (hl : l ≤ 1099511627776) (hK : K (.bool (decide (0 ≤ i ∧ i < 8 * l))) h) : C.bits_has A l c i h K := by
  refine bits_has.ok (cd (fun h0 => ?_) fun h0 => ?_)
  · rw [wrap_i64 (by omega) (by omega)]
    have : decide (0 ≤ i ∧ i < 8 * (l : Int)) = decide (i < 8 * (l : Int)) := by
      apply decide_eq_decide.mpr; constructor
      · exact fun x => x.2
      · exact fun x => ⟨h0, x⟩
    rw [this] at hK; exact hK
  · have : decide (0 ≤ i ∧ i < 8 * (l : Int)) = false := decide_eq_false fun x => h0 x.1
    rw [this] at hK; exact hK
theorem cell_at {h : Heap} {A : Option Addr} {l : Nat} {bs : List UInt8} (B : StrAt h A l bs) {j : Nat} (hj : j < bs.length) : ∃ p, A = some p ∧ cellOf h (p.add j) = some (bv (bs.getD j 0)) := by
  obtain ⟨B1, B2⟩ := B
  cases A with
  | none =>
    have B2 : bs.map bv = [] := B2
    rw [List.map_eq_nil_iff.mp B2] at hj; exact absurd hj (Nat.not_lt_zero _)
  | some p =>
    refine ⟨p, rfl, Cells.cell B2 ?_⟩
    rw [List.getElem?_map, List.getD_eq_getElem?_getD, List.getElem?_eq_getElem hj]; rfl
theorem oe {α : Type} {a : Option α} {p : α} {k : α → Prop} (e : a = some p) (h : k p) : onSome a k := by rw [e]; exact h
theorem on_spec {A : Option Addr} {l c i : Nat} {bs : List UInt8} {h : Heap} {K : Value → Heap → Prop} (B : StrAt h A l bs) (hl : l ≤ 1099511627776) (hi : i < 8 * l) (hK : K (.bool (bitAt bs i)) h) : C.bits_on A l c i h K := by
  have e := B.1
  obtain ⟨p, ep, hc⟩ := cell_at B (j := i / 8) (by omega)
  refine bits_on.ok ?_
  unfold bits_on
  rw [tdiv8, tmod8, wrap_i64 (by omega) (by omega)]
  refine ⟨⟨by omega, by omega⟩, oe ep ⟨_, hc, ?_⟩⟩
  rw [if_neg (by omega)]
  have := bit_read ⟨(bs.getD (i / 8) 0).toNat, UInt8.toNat_lt _⟩ ⟨i % 8, by omega⟩
  unfold bitAt at hK
  rw [← this] at hK
  exact hK
theorem Get_spec {A : Option Addr} {l c : Nat} {i : Int} {bs : List UInt8} {h : Heap} {K : Value → Heap → Prop} (B : StrAt h A l bs) (hl : l ≤ 1099511627776)
    (h1 : ¬ (0 ≤ i ∧ i < 8 * l) → K (.tuple #[.bool false, .int .i64 80]) h) (h2 : 0 ≤ i → i < 8 * l → K (.tuple #[.bool (bitAt bs i.toNat), .int .i64 0]) h) : C.bits_Get A l c i h K := by
  refine bits_Get.ok (has_spec hl ⟨_, rfl, cnot (cd (fun hi => ?_) h1)⟩)
  obtain ⟨n, rfl⟩ := Int.eq_ofNat_of_zero_le hi.1
  exact on_spec B hl (by omega) ⟨_, rfl, h2 hi.1 hi.2⟩
theorem map_set_bv (bs : List UInt8) (j : Nat) (x : UInt8) : put (bs.map bv) j [bv x] = (bs.set j x).map bv := by
  show (bs.map bv).set j (bv x) = _
  rw [List.map_set]
theorem Put_spec {b o l c : Nat} {i : Int} {on : Bool} {bs : List UInt8} {h : Heap} {F : Nat → Prop} {K : Value → Heap → Prop} (S : Sl h 1 (some ⟨b, o, none⟩) l c (bs.map bv) F) (hl : l ≤ 1099511627776)
    (h1 : ¬ (0 ≤ i ∧ i < 8 * l) → K (.int .i64 80) h) (h2 : 0 ≤ i → i < 8 * l → ∀ h', Fr (fun x => x = b) h h' → h'.size = h.size → Sl h' 1 (some ⟨b, o, none⟩) l c ((putBit bs i.toNat on).map bv) F → K (.int .i64 0) h') :
    C.bits_Put (some ⟨b, o, none⟩) l c i on h K := by
  refine bits_Put.ok (has_spec hl ⟨_, rfl, cnot (cd (fun hi => ?_) h1)⟩)
  obtain ⟨n, rfl⟩ := Int.eq_ofNat_of_zero_le hi.1
  have h2 := h2 hi.1 hi.2
  have B := S.str
  have e := B.1
  have hn : n / 8 < bs.length := by omega
  obtain ⟨p, ep, hc⟩ := cell_at B hn
  cases ep
  obtain ⟨w1, w2⟩ := S.wr
  have hx : (bs.getD (n / 8) 0).toNat < 256 := UInt8.toNat_lt _
  rw [tdiv8, tmod8, wrap_i64 (by omega) (by omega)]
  have go : ∀ v : Int, v = (setB (bs.getD (n / 8) 0).toNat (n % 8) on : Nat) → Put (Addr.add ⟨b, o, none⟩ (Int.toNat ((n / 8 : Nat) : Int))) (.int .u8 v) h fun h3 => K (.int .i64 0) h3 := by
    intro v ev
    subst ev
    have et : Int.toNat ((n / 8 : Nat) : Int) = n / 8 := rfl
    rw [et]
    refine Put.add w1 (by omega) fun h3 d3 => h2 h3 d3.fr d3.size ?_
    have ex : (.int .u8 ((setB (bs.getD (n / 8) 0).toNat (n % 8) on : Nat) : Int) : Value) = bv (UInt8.ofNat (setB (bs.getD (n / 8) 0).toNat (n % 8) on)) := by
      show _ = Value.int .u8 _
      rw [UInt8.toNat_ofNat_of_lt' (setB_lt' hx (by omega) on)]
    rw [ex] at d3
    have := S.putAt (j := n / 8) (new := [bv (UInt8.ofNat (setB (bs.getD (n / 8) 0).toNat (n % 8) on))]) (by show n / 8 + 1 ≤ l * 1; omega) d3
    rw [map_set_bv] at this
    exact this
  have ob := bit_or ⟨(bs.getD (n / 8) 0).toNat, hx⟩ ⟨n % 8, by omega⟩
  have nb := bit_not ⟨(bs.getD (n / 8) 0).toNat, hx⟩ ⟨n % 8, by omega⟩
  cases on
  · refine cf rfl ⟨⟨by omega, by omega⟩, os ⟨_, hc, ?_⟩⟩
    rw [if_neg (by omega)]
    exact ⟨⟨by omega, by omega⟩, os (go _ nb)⟩
  · refine ct rfl ⟨⟨by omega, by omega⟩, os ⟨_, hc, ?_⟩⟩
    rw [if_neg (by omega)]
    exact ⟨⟨by omega, by omega⟩, os (go _ ob)⟩
theorem hv_yield {P : Program} {l : Nat} {args : List Value} {h : Heap} {k : Value → Heap → Prop} (y : YCalls P l args h k) : HCallsV P (.func (.yield l) #[] #[]) args h k := y
theorem hv_mono {P : Program} {v : Value} {args : List Value} {h : Heap} {k k' : Value → Heap → Prop} (H : HCallsV P v args h k) (hk : ∀ v h', k v h' → k' v h') : HCallsV P v args h k' := by
  cases v with
  | func fn fs cs =>
    cases fn with
    | func g => exact HCalls.mono H hk
    | yield l => exact ycalls_mono H hk
    | _ => exact H.elim
  | _ => exact H.elim
/-- the rows of bits that are off -/
theorem runs_iter {l cb : Nat} {A : Option Addr} {sl c : Nat} {bs : List UInt8} {h : Heap} {K : Value → Heap → Prop} (hl : sl ≤ 1099511627776) (J : Nat → Heap → Prop) (hc : ∀ i hh, J i hh → rd hh cb = [.slice A sl c] ∧ StrAt hh A sl bs)
    (hY : ∀ i f n hh, J i hh → i ≤ f → 0 < n → f + n ≤ 8 * sl → (∀ t, i ≤ t → t < f → bitAt bs t = true) → (∀ t, f ≤ t → t < f + n → bitAt bs t = false) →
      YCalls Tryz.prog l [.int .i64 f, .int .i64 n] hh fun v h' => (v = .bool true ∧ J (f + n) h') ∨ (v = .bool false ∧ K (.tuple #[]) h'))
    (h0 : J 0 h) (hK : ∀ i hh, J i hh → i ≤ 8 * sl → (∀ t, i ≤ t → t < 8 * sl → bitAt bs t = true) → K (.tuple #[]) hh) : C.bits_Runs_c1 (.func (.yield l) #[] #[]) (some ⟨cb, 0, none⟩) h K := by
  refine bits_Runs_c1.ok ⟨fun i hh => 0 ≤ i ∧ i ≤ 8 * sl ∧ J i.toNat hh, fun i _ => (8 * sl - i).toNat, ⟨by omega, by omega, h0⟩, ?_⟩
  rintro i h2 ⟨i0, i1, hJ⟩
  obtain ⟨r, B⟩ := hc _ _ hJ
  have C2 : cellOf h2 ⟨cb, 0, none⟩ = some (.slice A sl c) := rdc r rfl
  refine ⟨fun f hh => h2 = hh ∧ i ≤ f ∧ f ≤ 8 * sl ∧ ∀ t, i.toNat ≤ t → t < f.toNat → bitAt bs t = true, fun f _ => (8 * sl - f).toNat, ⟨rfl, by omega, i1, fun t h1 h2 => by omega⟩, ?_⟩
  rintro f _ ⟨rfl, f0, f1, hon⟩
  have third : (f = 8 * sl ∨ bitAt bs f.toNat = false) → bits_Runs_c1.k1 (.func (.yield l) #[] #[]) (some ⟨cb, 0, none⟩) i h2 (fun i hh => 0 ≤ i ∧ i ≤ 8 * sl ∧ J i.toNat hh) (fun i _ => (8 * sl - i).toNat) f h2 K := by
    intro hf
    refine ⟨fun e hh => h2 = hh ∧ f ≤ e ∧ e ≤ 8 * sl ∧ ∀ t, f.toNat ≤ t → t < e.toNat → bitAt bs t = false, fun e _ => (8 * sl - e).toNat, ⟨rfl, by omega, f1, fun t h1 h2 => by omega⟩, ?_⟩
    rintro e _ ⟨rfl, e0, e1, hoff⟩
    have last : (e = f → f = 8 * sl) → bits_Runs_c1.k2 (.func (.yield l) #[] #[]) i h2 (fun i hh => 0 ≤ i ∧ i ≤ 8 * sl ∧ J i.toNat hh) (fun i _ => (8 * sl - i).toNat) f e h2 K := by
      intro hq
      refine ce (fun he => ?_) fun he => ?_
      · have := hq he
        exact hK i.toNat h2 hJ (by omega) fun t h1 h3 => hon t h1 (by omega)
      · rw [wrap_i64 (n := e - f) (by omega) (by omega)]
        have y := hY i.toNat f.toNat (e - f).toNat h2 hJ (by omega) (by omega) (by omega) hon fun t h1 h3 => hoff t h1 (by omega)
        rw [show ((f.toNat : Nat) : Int) = f by omega, show (((e - f).toNat : Nat) : Int) = e - f by omega] at y
        refine hv_yield (ycalls_mono y fun v h5 hv => ?_)
        rcases hv with ⟨rfl, hJ5⟩ | ⟨rfl, hk⟩
        · refine ⟨true, rfl, cnot (ct rfl ⟨⟨by omega, e1, ?_⟩, by show ((8 * sl : Int) - e).toNat < ((8 * sl : Int) - i).toNat; omega⟩)⟩
          rw [show f.toNat + (e - f).toNat = e.toNat by omega] at hJ5
          exact hJ5
        · exact ⟨false, rfl, cnot (cf rfl hk)⟩
    refine os ⟨_, _, _, C2, has_spec hl ⟨_, rfl, cd (fun hi => os ⟨_, _, _, C2, ?_⟩) fun hi => ?_⟩⟩
    · obtain ⟨n, rfl⟩ := Int.eq_ofNat_of_zero_le hi.1
      refine on_spec B hl (by omega) ⟨_, rfl, cnot (cs (fun hb => ?_) fun hb => ?_)⟩
      · refine last fun he => ?_
        rcases hf with hf | hf
        · exact hf
        · rw [← he] at hf
          rw [show ((n : Int)).toNat = n from rfl, hb] at hf; cases hf
      · rw [wrap_i64 (n := (n : Int) + 1) (by omega) (by omega)]
        refine ⟨⟨rfl, by omega, by omega, fun t h1 h3 => ?_⟩, by show ((8 * sl : Int) - ((n : Int) + 1)).toNat < ((8 * sl : Int) - (n : Int)).toNat; omega⟩
        by_cases ht : t = n
        · rw [ht]; exact hb
        · exact hoff t h1 (by omega)
    · exact last fun he => by omega
  refine os ⟨_, _, _, C2, has_spec hl ⟨_, rfl, cd (fun hi => os ⟨_, _, _, C2, ?_⟩) fun hi => third (.inl (by omega))⟩⟩
  obtain ⟨n, rfl⟩ := Int.eq_ofNat_of_zero_le hi.1
  refine on_spec B hl (by omega) ⟨_, rfl, cs (fun hb => ?_) fun hb => third (.inr hb)⟩
  rw [wrap_i64 (n := (n : Int) + 1) (by omega) (by omega)]
  refine ⟨⟨rfl, by omega, by omega, fun t h1 h3 => ?_⟩, by show ((8 * sl : Int) - ((n : Int) + 1)).toNat < ((8 * sl : Int) - (n : Int)).toNat; omega⟩
  by_cases ht : t = n
  · rw [ht]; exact hb
  · exact hon t h1 (by omega)
end Go.Proofs.YtcdpakjhjmchhaaGreatDoor.Bt
