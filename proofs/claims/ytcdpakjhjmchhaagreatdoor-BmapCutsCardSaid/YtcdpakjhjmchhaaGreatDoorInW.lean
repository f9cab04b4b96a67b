/-
  ONE TABLE ALONE (rec.widths): rec.Get and rec.Put.
-/
import Derived.Test.YtcdpakjhjmchhaaGreatDoorInA
namespace Go.Proofs.YtcdpakjhjmchhaaGreatDoor.In
open Go Go.Proofs Go.Proofs.YtcdpakjhjmchhaaGreatDoor.Wx Go.Proofs.YtcdpakjhjmchhaaGreatDoor.Hp Go.Proofs.YtcdpakjhjmchhaaGreatDoor.W Go.Proofs.YtcdpakjhjmchhaaGreatDoor.Su Go.Proofs.YtcdpakjhjmchhaaGreatDoor.Re Go.Proofs.YtcdpakjhjmchhaaGreatDoor.Hd

/-- the laid table -/
structure Glo (h : Heap) : Prop where
  wide : Wide h
theorem Glo.fr {h h' : Heap} {F : Nat → Prop} (g : Glo h) (f : Fr F h h') (h1 : ∀ b, b < 1 → ¬ F b) : Glo h' := ⟨g.wide.fr f (h1 _ (by decide))⟩
theorem Glo.no {h h' : Heap} (g : Glo h) (f : Fr No h h') : Glo h' := g.fr f fun _ _ x => x
theorem Glo.lt {h : Heap} (g : Glo h) : 1 ≤ h.size := by have := g.wide.lt; omega
theorem isWidth_spec {n : Int} {h : Heap} {K : Value → Heap → Prop} (g : Glo h) (hn : n = 1 ∨ n = 2 ∨ n = 4 ∨ n = 8) (hK : K (.bool true) h) : C.rec_isWidth n h K := by
  refine rec_isWidth.ok (ct (decide_eq_true (by omega)) (ct (decide_eq_true (by omega)) ⟨⟨by omega, by omega⟩, true, rda g.wide ?_, hK⟩))
  rcases hn with rfl | rfl | rfl | rfl <;> rfl
theorem Get_w {a : Option Addr} {l c : Nat} {bs : List UInt8} {at_ n : Int} {h : Heap} {K : Value → Heap → Prop} (g : Glo h) (B : StrAt h a l bs) (hl : l ≤ 140737488355328) (hn : n = 1 ∨ n = 2 ∨ n = 4 ∨ n = 8) (h0 : 0 ≤ at_) (h2 : at_ + n ≤ l)
    (hK : K (.tuple #[.int .u64 (leN ((bs.drop at_.toNat).take n.toNat)), .int .i64 0]) h) : C.rec_Get a l c at_ n h K := by
  have hb := B.1
  refine rec_Get.ok (isWidth_spec g hn ⟨_, rfl, cnot (ct rfl (lie_spec hl h0 (by omega) h2 ⟨_, rfl, cnot (ct rfl ?_)⟩))⟩)
  have hlen : ∀ k : Nat, (k : Int) ≤ n → ((bs.drop at_.toNat).take k).length = k := fun k hk => by rw [List.length_take, List.length_drop]; omega
  refine ⟨fun v k hh => 0 ≤ k ∧ k ≤ n ∧ h = hh ∧ v = (leN ((bs.drop at_.toNat).take k.toNat) : Nat), fun _ k _ => (n - k).toNat, ⟨by omega, by omega, rfl, rfl⟩, ?_⟩
  rintro v k _ ⟨k0, k1, rfl, rfl⟩
  refine cd (fun hk => ?_) fun hk => ?_
  · rw [wrap_i64 (n := at_ + k) (by omega) (by omega)]
    obtain ⟨_, B2⟩ := B
    have hi : at_.toNat + k.toNat < bs.length := by omega
    cases a with
    | none => have B2 : bs.map bv = [] := B2; have := List.map_eq_nil_iff.mp B2; rw [this] at hi; exact absurd hi (by simp)
    | some p =>
      refine ⟨⟨by omega, by omega⟩, os ⟨_, B2 (at_ + k).toNat (bv bs[at_.toNat + k.toNat]) (by rw [show (at_ + k).toNat = at_.toNat + k.toNat by omega, List.getElem?_map, List.getElem?_eq_getElem hi]; rfl), ?_⟩⟩
      have w8 : IntKind.wrap .i64 (8 * k) = 8 * k := wrap_i64 (by omega) (by omega)
      rw [if_neg (by rw [w8]; omega), wrap_i64 (n := k + 1) (by omega) (by omega)]
      have hlk := hlen k.toNat (by omega)
      have hlt := leN_lt ((bs.drop at_.toNat).take k.toNat)
      rw [hlk] at hlt
      have eo := or_step (v := leN ((bs.drop at_.toNat).take k.toNat)) (b := bs[at_.toNat + k.toNat]) (k := k.toNat) (by omega) hlt
      rw [show ((k.toNat : Nat) : Int) = k by omega] at eo
      rw [eo]
      refine ⟨⟨by omega, by omega, rfl, ?_⟩, by show (n - (k + 1)).toNat < (n - k).toNat; omega⟩
      have hi2 : k.toNat < (bs.drop at_.toNat).length := by rw [List.length_drop]; omega
      rw [show (k + 1).toNat = k.toNat + 1 by omega, List.take_succ_eq_append_getElem hi2, leN_snoc, hlk, List.getElem_drop]
  · have : k = n := by omega
    subst this
    exact hK
theorem Put_w {b o l c : Nat} {bs : List UInt8} {at_ n : Int} {v : Nat} {F : Nat → Prop} {h : Heap} {K : Value → Heap → Prop} (g : Glo h) (s : Sl h 1 (some ⟨b, o, none⟩) l c (bs.map bv) F) (hl : l ≤ 140737488355328) (hn : n = 1 ∨ n = 2 ∨ n = 4) (h0 : 0 ≤ at_) (h2 : at_ + n ≤ l)
    (hv : v < 256 ^ n.toNat) (hK : ∀ h', Fr (fun x => x = b) h h' → Sl h' 1 (some ⟨b, o, none⟩) l c ((putU bs at_.toNat (leB n.toNat v)).map bv) F → K (.int .i64 0) h') : C.rec_Put (some ⟨b, o, none⟩) l c at_ n (v : Int) h K := by
  have hbl := s.1
  rw [List.length_map, Nat.mul_one] at hbl
  refine rec_Put.ok (isWidth_spec g (by omega) ⟨_, rfl, cnot (ct rfl (ct (decide_eq_true (by omega)) ?_))⟩)
  have w8 : IntKind.wrap .i64 (8 * n) = 8 * n := wrap_i64 (by omega) (by omega)
  rw [if_neg (by rw [w8]; omega)]
  have hz : Int.fdiv (v : Int) (2 ^ min (Int.toNat (IntKind.wrap .i64 (8 * n))) 64) = 0 := by
    rw [w8, show min (Int.toNat (8 * n)) 64 = 8 * n.toNat by omega]
    have e : Int.fdiv (v : Int) (2 ^ (8 * n.toNat)) = ((v / 256 ^ n.toNat : Nat) : Int) := by
      rw [pow_256, Int.fdiv_eq_ediv_of_nonneg _ (by exact Int.le_of_lt (Int.pow_pos (by decide)))]
      simp
    rw [e, Nat.div_eq_of_lt hv]; rfl
  refine cf (by rw [hz]; rfl) (lie_spec hl h0 (by omega) h2 ⟨_, rfl, cnot (ct rfl ?_)⟩)
  have hlB := leB_length n.toNat v
  refine ⟨fun k hh => 0 ≤ k ∧ k ≤ n ∧ Fr (fun x => x = b) h hh ∧ Sl hh 1 (some ⟨b, o, none⟩) l c ((putU bs at_.toNat ((leB n.toNat v).take k.toNat)).map bv) F, fun k _ => (n - k).toNat, ⟨by omega, by omega, Fr.refl _ _, by rw [show (0 : Int).toNat = 0 from rfl, List.take_zero, putU_nil]; exact s⟩, ?_⟩
  rintro k h4 ⟨k0, k1, f4, s4⟩
  refine cd (fun hk => ?_) fun hk => ?_
  · rw [if_neg (by rw [wrap_i64 (by omega) (by omega)]; omega), wrap_i64 (n := at_ + k) (by omega) (by omega)]
    obtain ⟨w1, w2⟩ := s4.wr
    refine ⟨⟨by omega, by omega⟩, os (Put.add w1 (by omega) fun h5 d5 => ?_)⟩
    have hkB : k.toNat < (leB n.toNat v).length := by omega
    have eb := byte_of v k.toNat (by omega)
    rw [show ((k.toNat : Nat) : Int) = k by omega] at eb
    rw [eb] at d5
    have s5 := s4.putAt (j := (at_ + k).toNat) (new := [_]) (by rw [List.length_singleton]; omega) d5
    rw [wrap_i64 (n := k + 1) (by omega) (by omega)]
    refine ⟨⟨by omega, by omega, f4.did d5 (fun _ => rfl), ?_⟩, by show (n - (k + 1)).toNat < (n - k).toNat; omega⟩
    have hl1 : ((leB n.toNat v).take k.toNat).length = k.toNat := by rw [List.length_take]; omega
    have ee : (leB n.toNat v)[k.toNat] = UInt8.ofNat (v / 256 ^ k.toNat) := by simp only [leB, List.getElem_map, List.getElem_range]
    have ep : put ((putU bs at_.toNat ((leB n.toNat v).take k.toNat)).map bv) (at_ + k).toNat [bv (UInt8.ofNat (v / 256 ^ k.toNat))] = (putU bs at_.toNat ((leB n.toNat v).take (k + 1).toNat)).map bv := by
      rw [← putU_put (by rw [hl1]; omega), ← putU_put (by rw [List.length_take]; omega), show (k + 1).toNat = k.toNat + 1 by omega, List.take_succ_eq_append_getElem hkB, List.map_append, List.map_singleton, ee]
      have : ∀ (ys : List Value) (X : List Value) (o : Nat) (y : Value), put X o (ys ++ [y]) = (put X o ys).set (o + ys.length) y := by
        intro ys
        induction ys with
        | nil => intro X o y; rfl
        | cons v r ih =>
          intro X o y
          show put (X.set o v) (o + 1) (r ++ [y]) = _
          rw [ih, List.length_cons, show o + 1 + r.length = o + (r.length + 1) by omega]; rfl
      rw [this, List.length_map, hl1, show (at_ + k).toNat = at_.toNat + k.toNat by omega]; rfl
    rw [ep] at s5
    exact s5
  · have : k = n := by omega
    subst this
    rw [List.take_of_length_le (by omega)] at s4
    exact hK h4 f4 s4
end Go.Proofs.YtcdpakjhjmchhaaGreatDoor.In
