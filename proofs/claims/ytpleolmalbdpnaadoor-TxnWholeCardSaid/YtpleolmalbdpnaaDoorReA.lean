/-
  PACKAGE rec: numbers and texts in bytes.
-/
import Derived.Test.YtpleolmalbdpnaaDoorSuA
namespace Go.Proofs.YtpleolmalbdpnaaDoor.Re
open Go Go.Proofs Go.Proofs.YtpleolmalbdpnaaDoor.Wx Go.Proofs.YtpleolmalbdpnaaDoor.Hp Go.Proofs.YtpleolmalbdpnaaDoor.W Go.Proofs.YtpleolmalbdpnaaDoor.Su

def widthsL : List Bool := [false, true, true, false, true, false, false, false, true]
def Wide (h : Heap) : Prop := rd h 0 = widthsL.map .bool
theorem Wide.lt {h : Heap} (g : Wide h) : 0 < h.size := rd_lt (show (rd h 0)[0]? = some (.bool false) by rw [g]; rfl)
theorem Wide.fr {h h' : Heap} {F : Nat → Prop} (g : Wide h) (f : Fr F h h') (hF : ¬ F 0) : Wide h' := (f.rd g.lt hF).trans g
/-- the laid tables -/
structure Glo (h : Heap) : Prop where
  half : Half h
  wide : Wide h
theorem Glo.fr {h h' : Heap} {F : Nat → Prop} (g : Glo h) (f : Fr F h h') (h1 : ∀ b, b < 2 → ¬ F b) : Glo h' := ⟨g.half.fr f (h1 _ (by decide)), g.wide.fr f (h1 _ (by decide))⟩
theorem Glo.no {h h' : Heap} (g : Glo h) (f : Fr No h h') : Glo h' := g.fr f fun _ _ x => x
theorem Glo.lt {h : Heap} (g : Glo h) : 2 ≤ h.size := by have := g.half.lt; have := g.wide.lt; omega
theorem isWidth_spec {n : Int} {h : Heap} {K : Value → Heap → Prop} (g : Glo h) (hn : n = 1 ∨ n = 2 ∨ n = 4 ∨ n = 8) (hK : K (.bool true) h) : C.rec_isWidth n h K := by
  refine rec_isWidth.ok (ct (decide_eq_true (by omega)) (ct (decide_eq_true (by omega)) ⟨⟨by omega, by omega⟩, true, rda g.wide ?_, hK⟩))
  rcases hn with rfl | rfl | rfl | rfl <;> rfl
theorem lie_spec {a : Option Addr} {l c : Nat} {at_ n : Int} {h : Heap} {K : Value → Heap → Prop} (hl : l ≤ 140737488355328) (h0 : 0 ≤ at_) (h1 : 0 ≤ n) (h2 : at_ + n ≤ l) (hK : K (.bool true) h) : C.rec_lie a l c at_ n h K := by
  refine rec_lie.ok (ct (decide_eq_true h0) (ct (decide_eq_true h1) (ct (decide_eq_true (by omega)) ?_)))
  rw [wrap_i64 (by omega) (by omega), decide_eq_true (by omega)]; exact hK
/-- bytes as a number, the lowest one first -/
def leN : List UInt8 → Nat
  | [] => 0
  | b :: r => b.toNat + 256 * leN r
theorem leN_lt : ∀ bs : List UInt8, leN bs < 256 ^ bs.length := by
  intro bs
  induction bs with
  | nil => exact Nat.one_pos
  | cons b r ih =>
    have hb : b.toNat < 256 := b.toNat_lt
    rw [leN, List.length_cons, Nat.pow_succ]; omega
theorem leN_snoc (bs : List UInt8) (b : UInt8) : leN (bs ++ [b]) = leN bs + b.toNat * 256 ^ bs.length := by
  induction bs with
  | nil => simp [leN]
  | cons x r ih => rw [List.cons_append, leN, ih, leN, List.length_cons, Nat.pow_succ, Nat.mul_add]; simp only [Nat.mul_comm, Nat.mul_left_comm, Nat.mul_assoc, Nat.add_assoc]
theorem pow_256 (k : Nat) : 256 ^ k = 2 ^ (8 * k) := by rw [Nat.pow_mul]
theorem or_step {v : Nat} {b : UInt8} {k : Nat} (hk : k < 8) (hv : v < 256 ^ k) :
    bitsI .or .u64 (v : Int) (IntKind.wrap .u64 ((IntKind.wrap .u64 (b.toNat : Int)) * 2 ^ min (Int.toNat (IntKind.wrap .i64 (8 * (k : Int)))) 64)) = ((v + b.toNat * 256 ^ k : Nat) : Int) := by
  have hb : b.toNat < 256 := b.toNat_lt
  have wu : ∀ n : Nat, n < 18446744073709551616 → IntKind.wrap .u64 (n : Int) = (n : Int) := fun n h => by
    show (n : Int) % 18446744073709551616 = n
    exact Int.emod_eq_of_lt (by omega) (by omega)
  rw [wrap_i64 (by omega) (by omega), wu _ (by omega)]
  have e1 : min (Int.toNat (8 * (k : Int))) 64 = 8 * k := by omega
  rw [e1]
  have hp : 256 ^ k ≤ 256 ^ 7 := Nat.pow_le_pow_right (by decide) (by omega)
  have hp1 : 256 ^ (k + 1) ≤ 256 ^ 8 := Nat.pow_le_pow_right (by decide) (by omega)
  have hsum : v + b.toNat * 256 ^ k < 256 ^ (k + 1) := by
    rw [Nat.pow_succ]
    have : b.toNat * 256 ^ k ≤ 255 * 256 ^ k := Nat.mul_le_mul_right _ (by omega)
    omega
  have e8 : (256 : Nat) ^ 8 = 18446744073709551616 := by decide
  have e2 : ((b.toNat : Int) * 2 ^ (8 * k)) = ((b.toNat * 256 ^ k : Nat) : Int) := by rw [pow_256]; simp
  rw [e2, wu _ (by omega)]
  show IntKind.wrap .u64 (((BitVec.ofInt 64 (v : Int) ||| BitVec.ofInt 64 ((b.toNat * 256 ^ k : Nat) : Int)).toNat : Nat) : Int) = _
  rw [BitVec.toNat_or, BitVec.ofInt_natCast, BitVec.ofInt_natCast, BitVec.toNat_ofNat, BitVec.toNat_ofNat, Nat.mod_eq_of_lt (by omega), Nat.mod_eq_of_lt (by omega)]
  have e3 : v ||| b.toNat * 256 ^ k = v + b.toNat * 256 ^ k := by
    rw [Nat.or_comm, pow_256, Nat.mul_comm, ← Nat.two_pow_add_eq_or_of_lt (by rw [← pow_256]; exact hv)]
    omega
  rw [e3, wu _ (by omega)]
theorem Get_spec {a : Option Addr} {l c : Nat} {bs : List UInt8} {at_ n : Int} {h : Heap} {K : Value → Heap → Prop} (g : Glo h) (B : StrAt h a l bs) (hl : l ≤ 140737488355328) (hn : n = 1 ∨ n = 2 ∨ n = 4 ∨ n = 8) (h0 : 0 ≤ at_) (h2 : at_ + n ≤ l)
    (hK : K (.tuple #[.int .u64 (leN ((bs.drop at_.toNat).take n.toNat)), .int .i64 0]) h) : C.rec_Get a l c at_ n h K := by
  have hb := B.1
  refine rec_Get.ok (isWidth_spec g hn ⟨_, rfl, cnot (ct rfl (lie_spec hl h0 (by omega) h2 ⟨_, rfl, cnot (ct rfl ?_)⟩))⟩)
  have hlen : ∀ k : Nat, (k : Int) ≤ n → ((bs.drop at_.toNat).take k).length = k := fun k hk => by rw [List.length_take, List.length_drop]; omega
  refine ⟨fun v k hh => 0 ≤ k ∧ k ≤ n ∧ h = hh ∧ v = (leN ((bs.drop at_.toNat).take k.toNat) : Nat), fun _ k _ => (n - k).toNat, ⟨by omega, by omega, rfl, rfl⟩, ?_⟩
  rintro v k _ ⟨k0, k1, rfl, rfl⟩
  refine cd (fun hk => ?_) fun hk => ?_
  · rw [wrap_i64 (n := at_ + k) (by omega) (by omega)]
    obtain ⟨_, B2⟩ := B
    have hi : at_.toNat + k.toNat < bs.length := by omega
    cases a with
    | none => have B2 : bs.map bv = [] := B2; have := List.map_eq_nil_iff.mp B2; rw [this] at hi; exact absurd hi (by simp)
    | some p =>
      refine ⟨⟨by omega, by omega⟩, os ⟨_, B2 (at_ + k).toNat (bv bs[at_.toNat + k.toNat]) (by rw [show (at_ + k).toNat = at_.toNat + k.toNat by omega, List.getElem?_map, List.getElem?_eq_getElem hi]; rfl), ?_⟩⟩
      have w8 : IntKind.wrap .i64 (8 * k) = 8 * k := wrap_i64 (by omega) (by omega)
      rw [if_neg (by rw [w8]; omega), wrap_i64 (n := k + 1) (by omega) (by omega)]
      have hlk := hlen k.toNat (by omega)
      have hlt := leN_lt ((bs.drop at_.toNat).take k.toNat)
      rw [hlk] at hlt
      have eo := or_step (v := leN ((bs.drop at_.toNat).take k.toNat)) (b := bs[at_.toNat + k.toNat]) (k := k.toNat) (by omega) hlt
      rw [show ((k.toNat : Nat) : Int) = k by omega] at eo
      rw [eo]
      refine ⟨⟨by omega, by omega, rfl, ?_⟩, by show (n - (k + 1)).toNat < (n - k).toNat; omega⟩
      have hi2 : k.toNat < (bs.drop at_.toNat).length := by rw [List.length_drop]; omega
      rw [show (k + 1).toNat = k.toNat + 1 by omega, List.take_succ_eq_append_getElem hi2, leN_snoc, hlk, List.getElem_drop]
  · have : k = n := by omega
    subst this
    exact hK
/-- bytes over bytes -/
def putU (xs : List UInt8) (o : Nat) (ys : List UInt8) : List UInt8 := xs.take o ++ ys ++ xs.drop (o + ys.length)
theorem putU_length {xs ys : List UInt8} {o : Nat} (h : o + ys.length ≤ xs.length) : (putU xs o ys).length = xs.length := by
  simp only [putU, List.length_append, List.length_take, List.length_drop]; omega
theorem putU_put {xs ys : List UInt8} {o : Nat} (h : o + ys.length ≤ xs.length) : put (xs.map bv) o (ys.map bv) = (putU xs o ys).map bv := by
  rw [put_eq _ _ _ (by rw [List.length_map, List.length_map]; exact h)]
  simp only [putU, List.map_append, List.map_take, List.map_drop, List.length_map]
theorem putU_nil (xs : List UInt8) (o : Nat) : putU xs o [] = xs := by simp [putU]
theorem putU_app (xs ys zs : List UInt8) (ys' : List UInt8) (h : ys'.length = ys.length) : putU (xs ++ ys ++ zs) xs.length ys' = xs ++ ys' ++ zs := by
  have e1 : (xs ++ ys ++ zs).take xs.length = xs := by rw [List.append_assoc, List.take_left]
  have e2 : (xs ++ ys ++ zs).drop (xs.length + ys.length) = zs := by rw [← List.length_append, List.drop_left]
  rw [putU, h, e1, e2]
/-- a number as n bytes, the lowest first -/
def leB (n v : Nat) : List UInt8 := (List.range n).map fun k => UInt8.ofNat (v / 256 ^ k)
theorem leB_length (n v : Nat) : (leB n v).length = n := by rw [leB, List.length_map, List.length_range]
theorem byte_of (v k : Nat) (hk : k < 8) : (Value.int .u8 (IntKind.wrap .u8 (Int.fdiv (v : Int) (2 ^ min (Int.toNat (IntKind.wrap .i64 (8 * (k : Int)))) 64)))) = bv (UInt8.ofNat (v / 256 ^ k)) := by
  rw [wrap_i64 (by omega) (by omega), show min (Int.toNat (8 * (k : Int))) 64 = 8 * k by omega]
  have e : Int.fdiv (v : Int) (2 ^ (8 * k)) = ((v / 256 ^ k : Nat) : Int) := by
    rw [pow_256, Int.fdiv_eq_ediv_of_nonneg _ (by exact Int.le_of_lt (Int.pow_pos (by decide)))]
    simp
  rw [e]
  show Value.int .u8 (((v / 256 ^ k : Nat) : Int) % 256) = Value.int .u8 ((UInt8.ofNat (v / 256 ^ k)).toNat : Int)
  rw [UInt8.toNat_ofNat']
  simp
theorem Put_spec {b o l c : Nat} {bs : List UInt8} {at_ n : Int} {v : Nat} {F : Nat → Prop} {h : Heap} {K : Value → Heap → Prop} (g : Glo h) (s : Sl h 1 (some ⟨b, o, none⟩) l c (bs.map bv) F) (hl : l ≤ 140737488355328) (hn : n = 1 ∨ n = 2 ∨ n = 4) (h0 : 0 ≤ at_) (h2 : at_ + n ≤ l)
    (hv : v < 256 ^ n.toNat) (hK : ∀ h', Fr (fun x => x = b) h h' → Sl h' 1 (some ⟨b, o, none⟩) l c ((putU bs at_.toNat (leB n.toNat v)).map bv) F → K (.int .i64 0) h') : C.rec_Put (some ⟨b, o, none⟩) l c at_ n (v : Int) h K := by
  have hbl := s.1
  rw [List.length_map, Nat.mul_one] at hbl
  refine rec_Put.ok (isWidth_spec g (by omega) ⟨_, rfl, cnot (ct rfl (ct (decide_eq_true (by omega)) ?_))⟩)
  have w8 : IntKind.wrap .i64 (8 * n) = 8 * n := wrap_i64 (by omega) (by omega)
  rw [if_neg (by rw [w8]; omega)]
  have hz : Int.fdiv (v : Int) (2 ^ min (Int.toNat (IntKind.wrap .i64 (8 * n))) 64) = 0 := by
    rw [w8, show min (Int.toNat (8 * n)) 64 = 8 * n.toNat by omega]
    have e : Int.fdiv (v : Int) (2 ^ (8 * n.toNat)) = ((v / 256 ^ n.toNat : Nat) : Int) := by
      rw [pow_256, Int.fdiv_eq_ediv_of_nonneg _ (by exact Int.le_of_lt (Int.pow_pos (by decide)))]
      simp
    rw [e, Nat.div_eq_of_lt hv]; rfl
  refine cf (by rw [hz]; rfl) (lie_spec hl h0 (by omega) h2 ⟨_, rfl, cnot (ct rfl ?_)⟩)
  have hlB := leB_length n.toNat v
  refine ⟨fun k hh => 0 ≤ k ∧ k ≤ n ∧ Fr (fun x => x = b) h hh ∧ Sl hh 1 (some ⟨b, o, none⟩) l c ((putU bs at_.toNat ((leB n.toNat v).take k.toNat)).map bv) F, fun k _ => (n - k).toNat, ⟨by omega, by omega, Fr.refl _ _, by rw [show (0 : Int).toNat = 0 from rfl, List.take_zero, putU_nil]; exact s⟩, ?_⟩
  rintro k h4 ⟨k0, k1, f4, s4⟩
  refine cd (fun hk => ?_) fun hk => ?_
  · rw [if_neg (by rw [wrap_i64 (by omega) (by omega)]; omega), wrap_i64 (n := at_ + k) (by omega) (by omega)]
    obtain ⟨w1, w2⟩ := s4.wr
    refine ⟨⟨by omega, by omega⟩, os (Put.add w1 (by omega) fun h5 d5 => ?_)⟩
    have hkB : k.toNat < (leB n.toNat v).length := by omega
    have eb := byte_of v k.toNat (by omega)
    rw [show ((k.toNat : Nat) : Int) = k by omega] at eb
    rw [eb] at d5
    have s5 := s4.putAt (j := (at_ + k).toNat) (new := [_]) (by rw [List.length_singleton]; omega) d5
    rw [wrap_i64 (n := k + 1) (by omega) (by omega)]
    refine ⟨⟨by omega, by omega, f4.did d5 (fun _ => rfl), ?_⟩, by show (n - (k + 1)).toNat < (n - k).toNat; omega⟩
    have hl1 : ((leB n.toNat v).take k.toNat).length = k.toNat := by rw [List.length_take]; omega
    have ee : (leB n.toNat v)[k.toNat] = UInt8.ofNat (v / 256 ^ k.toNat) := by simp only [leB, List.getElem_map, List.getElem_range]
    have ep : put ((putU bs at_.toNat ((leB n.toNat v).take k.toNat)).map bv) (at_ + k).toNat [bv (UInt8.ofNat (v / 256 ^ k.toNat))] = (putU bs at_.toNat ((leB n.toNat v).take (k + 1).toNat)).map bv := by
      rw [← putU_put (by rw [hl1]; omega), ← putU_put (by rw [List.length_take]; omega), show (k + 1).toNat = k.toNat + 1 by omega, List.take_succ_eq_append_getElem hkB, List.map_append, List.map_singleton, ee]
      have : ∀ (ys : List Value) (X : List Value) (o : Nat) (y : Value), put X o (ys ++ [y]) = (put X o ys).set (o + ys.length) y := by
        intro ys
        induction ys with
        | nil => intro X o y; rfl
        | cons v r ih =>
          intro X o y
          show put (X.set o v) (o + 1) (r ++ [y]) = _
          rw [ih, List.length_cons, show o + 1 + r.length = o + (r.length + 1) by omega]; rfl
      rw [this, List.length_map, hl1, show (at_ + k).toNat = at_.toNat + k.toNat by omega]; rfl
    rw [ep] at s5
    exact s5
  · have : k = n := by omega
    subst this
    rw [List.take_of_length_le (by omega)] at s4
    exact hK h4 f4 s4
def allZero (bs : List UInt8) : Bool := bs.all (· == 0)
theorem zeros_spec {a : Option Addr} {l c : Nat} {bs : List UInt8} {h : Heap} {K : Value → Heap → Prop} (B : StrAt h a l bs) (hl : l ≤ 140737488355328) (hK : K (.bool (allZero bs)) h) : C.rec_zeros a l c h K := by
  have hb := B.1
  refine rec_zeros.ok ⟨fun n hh => 0 ≤ n ∧ n ≤ l ∧ h = hh ∧ allZero bs = allZero (bs.drop n.toNat), fun n _ => ((l : Int) - n).toNat, ⟨by omega, by omega, rfl, rfl⟩, ?_⟩
  rintro n _ ⟨n0, n1, rfl, e⟩
  refine cd (fun hn => ?_) fun hn => ?_
  · have hn' : n.toNat < bs.length := by omega
    obtain ⟨_, B2⟩ := B
    have ed : allZero (bs.drop n.toNat) = (bs[n.toNat] == 0 && allZero (bs.drop (n.toNat + 1))) := by rw [List.drop_eq_getElem_cons hn']; rfl
    cases a with
    | none => have B2 : bs.map bv = [] := B2; have := List.map_eq_nil_iff.mp B2; rw [this] at hn'; exact absurd hn' (by simp)
    | some p =>
      refine ⟨⟨n0, hn⟩, os ⟨_, B2 n.toNat (bv bs[n.toNat]) (by rw [List.getElem?_map, List.getElem?_eq_getElem hn']; rfl), cn (fun x => ?_) fun x => ?_⟩⟩
      · have : (bs[n.toNat] == 0) = false := by
          rw [beq_eq_false_iff_ne]; intro e0; rw [e0] at x; exact x rfl
        rw [e, ed, this] at hK; exact hK
      · have : (bs[n.toNat] == 0) = true := by
          rw [beq_iff_eq]; exact UInt8.toNat_inj.mp (by have x : ((bs[n.toNat].toNat : Nat) : Int) = 0 := x; show _ = 0; omega)
        rw [wrap_i64 (by omega) (by omega)]
        exact ⟨⟨by omega, by omega, rfl, by rw [e, ed, this, show (n + 1).toNat = n.toNat + 1 by omega]; rfl⟩, falls hn⟩
  · rw [List.drop_of_length_le (by omega)] at e
    rw [e] at hK; exact hK
/-- a part of a slice, as Go cuts it -/
theorem StrAt.cut {h : Heap} {a : Option Addr} {l c i j : Nat} {bs : List UInt8} (B : StrAt h a l bs) (hlc : l ≤ c) (hij : i ≤ j) (hj : j ≤ l) : StrAt h (if c = i then a else Option.map (Addr.add · i) a) (j - i) ((bs.drop i).take (j - i)) := by
  by_cases e : c = i
  · rw [if_pos e]
    have : j - i = 0 := by omega
    rw [this, List.take_zero]; exact StrAt.nil _ _
  · rw [if_neg e]
    exact StrAt.take (StrAt.drop B i) (by omega)
theorem Zero_spec {a : Option Addr} {l c : Nat} {bs : List UInt8} {at_ n : Int} {h : Heap} {K : Value → Heap → Prop} (B : StrAt h a l bs) (hlc : l ≤ c) (hl : l ≤ 140737488355328) (h0 : 0 ≤ at_) (h1 : 0 ≤ n) (h2 : at_ + n ≤ l)
    (hK : K (.tuple #[.bool (allZero ((bs.drop at_.toNat).take n.toNat)), .int .i64 0]) h) : C.rec_Zero a l c at_ n h K := by
  refine rec_Zero.ok (cf (decide_eq_false (by omega)) (lie_spec hl h0 h1 h2 ⟨_, rfl, cnot (ct rfl ?_)⟩))
  rw [wrap_i64 (by omega) (by omega)]
  have e : (at_ + n).toNat - at_.toNat = n.toNat := by omega
  refine ⟨⟨h0, by omega, by omega⟩, zeros_spec (bs := (bs.drop at_.toNat).take n.toNat) ?_ (by omega) ⟨_, rfl, hK⟩⟩
  have := StrAt.cut B hlc (i := at_.toNat) (j := (at_ + n).toNat) (by omega) (by omega)
  rw [e] at this
  rw [e]; exact this
theorem ahead_spec {a : Option Addr} {l c : Nat} {bs : List UInt8} {h : Heap} {K : Value → Heap → Prop} (B : StrAt h a l bs) (hl : l ≤ 140737488355328) (hz : ∀ x ∈ bs, x ≠ 0) (hK : K (.int .i64 l) h) : C.rec_ahead a l c h K := by
  have hb := B.1
  refine rec_ahead.ok ⟨fun n hh => 0 ≤ n ∧ n ≤ l ∧ h = hh, fun n _ => ((l : Int) - n).toNat, ⟨by omega, by omega, rfl⟩, ?_⟩
  rintro n _ ⟨n0, n1, rfl⟩
  refine cd (fun hn => ?_) fun hn => hK
  have hn' : n.toNat < bs.length := by omega
  obtain ⟨_, B2⟩ := B
  cases a with
  | none => have B2 : bs.map bv = [] := B2; have := List.map_eq_nil_iff.mp B2; rw [this] at hn'; exact absurd hn' (by simp)
  | some p =>
    refine ⟨⟨n0, hn⟩, os ⟨_, B2 n.toNat (bv bs[n.toNat]) (by rw [List.getElem?_map, List.getElem?_eq_getElem hn']; rfl), ce (fun x => ?_) fun x => ?_⟩⟩
    · exact absurd (UInt8.toNat_inj.mp (by have x : ((bs[n.toNat].toNat : Nat) : Int) = 0 := x; show _ = 0; omega)) (hz _ (List.getElem_mem hn'))
    · rw [wrap_i64 (by omega) (by omega)]
      exact ⟨⟨by omega, by omega, rfl⟩, falls hn⟩
/-- a text of as many bytes as there is room for -/
theorem PutText_spec {b o l c : Nat} {bs ss : List UInt8} {at_ n : Int} {F : Nat → Prop} {h : Heap} {K : Value → Heap → Prop} (s : Sl h 1 (some ⟨b, o, none⟩) l c (bs.map bv) F) (hl : l ≤ 140737488355328) (hn : n = ss.length) (h0 : 0 ≤ at_) (hle : at_ + n ≤ l) (hz : ∀ x ∈ ss, x ≠ 0)
    (hK : ∀ h', Fr (fun x => x = b) h h' → Sl h' 1 (some ⟨b, o, none⟩) l c ((putU bs at_.toNat ss).map bv) F → K (.int .i64 0) h') : C.rec_PutText (some ⟨b, o, none⟩) l c at_ n (mkStr ss) h K := by
  have hbl := s.1
  rw [List.length_map, Nat.mul_one] at hbl
  have hlc := s.le
  have hsz : (mkStr ss).size = ss.length := rfl
  refine rec_PutText.ok (cf (decide_eq_false (by omega)) (cf (decide_eq_false (by rw [hsz]; omega)) fun cap hcap => ?_))
  rw [toList_mkStr]
  have e0 : newS h (ss.map bv ++ List.replicate (cap - (mkStr ss).size) (bv 0)) 5 = newS h (ss.map bv ++ List.replicate (cap - (mkStr ss).size) (bv 0)) 5 := rfl
  generalize hh2 : newS h (ss.map bv ++ List.replicate (cap - (mkStr ss).size) (bv 0)) 5 = h2
  have f2 : Fr No h h2 := by
    subst hh2
    exact ⟨by simp [newS], fun x hx _ => by simp [newS, Array.getElem?_push, show x ≠ h.size by omega]⟩
  have r2 : rd h2 h.size = ss.map bv ++ List.replicate (cap - (mkStr ss).size) (bv 0) := by
    subst hh2
    simp [rd, newS]
  have B2 : StrAt h2 (some ⟨h.size, 0, none⟩) ss.length ss := ⟨rfl, cells_rd (by rw [r2, List.drop_zero, List.take_left])⟩
  have s2 := s.fr f2 fun _ _ _ x => x
  rw [hsz]
  refine ahead_spec B2 (by omega) hz ⟨_, rfl, cf (decide_eq_false (by omega)) (lie_spec hl h0 (by omega) hle ⟨_, rfl, cnot (ct rfl ?_)⟩)⟩
  rw [wrap_i64 (n := at_ + n) (by omega) (by omega)]
  obtain ⟨w1, w2⟩ := s2.wr
  refine ⟨⟨h0, by omega, by omega⟩, ?_⟩
  by_cases hss : ss = []
  · subst hss
    have hn0 : n = 0 := hn
    subst hn0
    rw [Int.add_zero, Nat.sub_self]
    have fin : K (.int .i64 0) h2 := hK h2 (f2.mono fun _ _ x => x.elim) (by rw [putU_nil]; exact s2)
    have wr0 : ∀ (a : Option Addr), WrS h2 a 0 0 := fun a => by cases a with | none => rfl | some p => exact fun i hi => absurd hi (Nat.not_lt_zero _)
    have st0 : ∀ (a : Option Addr), setS h2 a 0 [] = h2 := fun a => by cases a <;> rfl
    refine ⟨trivial, by show WrS h2 _ 0 (min 0 0); exact wr0 _, ?_⟩
    show _ ∧ _
    rw [toList_mkStr, List.take_nil, List.map_nil, st0]
    refine ⟨⟨by rw [wrap_i64 (by omega) (by omega)]; show 0 ≤ at_ + 0; omega, by rw [wrap_i64 (by omega) (by omega)]; show at_ + 0 ≤ at_; omega, by omega⟩, ?_⟩
    have e2 : at_.toNat - Int.toNat (IntKind.wrap .i64 (at_ + ((min (mkStr []).size 0 : Nat) : Int))) = 0 := by rw [wrap_i64 (by omega) (by omega)]; show at_.toNat - (at_ + 0).toNat = 0; omega
    rw [e2]
    refine ⟨trivial, wr0 _, ?_⟩
    show K _ (setS h2 _ 0 (repCells _ 0))
    have e3 : ∀ z, z = [Value.int .u8 0] → repCells z 0 = [] := fun z hz => by subst hz; rfl
    rw [show repCells ti5.zero 0 = [] from e3 _ rfl, st0]; exact fin
  · have hpos : 0 < ss.length := List.length_pos_iff.mpr hss
    have hci : c ≠ at_.toNat := by omega
    rw [if_neg hci, Option.map_some, add_mk]
    have e1 : (at_ + n).toNat - at_.toNat = ss.length := by omega
    rw [e1]
    have em : min (mkStr ss).size ss.length = ss.length := by rw [hsz]; exact Nat.min_self _
    refine ⟨trivial, ?_, ?_⟩
    · show WrS h2 _ 0 (min (mkStr ss).size ss.length)
      rw [em]
      simp only [WrS, Addr.add_zero]
      exact wrN_rd w1 (by omega)
    rw [em, toList_mkStr, List.take_length]
    have d5 : Did b h2 (setS h2 (some ⟨b, o + at_.toNat, none⟩) 0 (ss.map bv)) (put (rd h2 b) (o + at_.toNat) (ss.map bv)) := by
      simp only [setS, Addr.add_zero]
      exact ⟨Hp.size_setRow _ _ _ _, Fr.setRow (F := fun x => x = b) (Or.inl rfl) (Fr.refl _ h2), own_setRow w1, by rw [rd_setRow_at, Nat.add_zero]⟩
    generalize setS h2 (some ⟨b, o + at_.toNat, none⟩) 0 (ss.map bv) = h5 at d5
    have s5 := s2.putAt (j := at_.toNat) (new := ss.map bv) (by rw [List.length_map]; omega) d5
    rw [putU_put (by omega)] at s5
    have fin : K (.int .i64 0) h5 := hK h5 ((f2.mono fun _ _ x => x.elim).did d5 fun _ => rfl) s5
    have wr0 : ∀ (a : Option Addr), WrS h5 a 0 0 := fun a => by cases a with | none => rfl | some p => exact fun i hi => absurd hi (Nat.not_lt_zero _)
    have st0 : ∀ (a : Option Addr), setS h5 a 0 [] = h5 := fun a => by cases a <;> rfl
    show (0 ≤ IntKind.wrap .i64 (at_ + ((ss.length : Nat) : Int)) ∧ IntKind.wrap .i64 (at_ + ((ss.length : Nat) : Int)) ≤ at_ + n ∧ at_ + n ≤ (c : Int)) ∧ _
    rw [wrap_i64 (n := at_ + ((ss.length : Nat) : Int)) (by omega) (by omega)]
    refine ⟨⟨by omega, by omega, by omega⟩, ?_⟩
    have e2 : (at_ + n).toNat - (at_ + (ss.length : Int)).toNat = 0 := by omega
    rw [e2]
    refine ⟨trivial, wr0 _, ?_⟩
    show K _ (setS h5 _ 0 (repCells _ 0))
    have e3 : ∀ z, z = [Value.int .u8 0] → repCells z 0 = [] := fun z hz => by subst hz; rfl
    rw [show repCells ti5.zero 0 = [] from e3 _ rfl, st0]; exact fin
end Go.Proofs.YtpleolmalbdpnaaDoor.Re
