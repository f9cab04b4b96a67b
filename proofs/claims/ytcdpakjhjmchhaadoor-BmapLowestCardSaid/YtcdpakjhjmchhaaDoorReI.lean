/-
  PACKAGE rec: numbers in bytes, plainly; what needs no table. And rows of numbers.
-/
import Derived.Test.YtcdpakjhjmchhaaDoorForms
import Derived.Test.YtcdpakjhjmchhaaDoorHpE
namespace Go.Proofs.YtcdpakjhjmchhaaDoor.Su
end Go.Proofs.YtcdpakjhjmchhaaDoor.Su
namespace Go.Proofs.YtcdpakjhjmchhaaDoor.Re
open Go Go.Proofs Go.Proofs.YtcdpakjhjmchhaaDoor.Wx Go.Proofs.YtcdpakjhjmchhaaDoor.Hp Go.Proofs.YtcdpakjhjmchhaaDoor.W

def widthsL : List Bool := [false, true, true, false, true, false, false, false, true]
def Wide (h : Heap) : Prop := rd h 0 = widthsL.map .bool
theorem Wide.lt {h : Heap} (g : Wide h) : 0 < h.size := rd_lt (show (rd h 0)[0]? = some (.bool false) by rw [g]; rfl)
theorem Wide.fr {h h' : Heap} {F : Nat → Prop} (g : Wide h) (f : Fr F h h') (hF : ¬ F 0) : Wide h' := (f.rd g.lt hF).trans g
theorem lie_spec {a : Option Addr} {l c : Nat} {at_ n : Int} {h : Heap} {K : Value → Heap → Prop} (hl : l ≤ 140737488355328) (h0 : 0 ≤ at_) (h1 : 0 ≤ n) (h2 : at_ + n ≤ l) (hK : K (.bool true) h) : C.rec_lie a l c at_ n h K := by
  refine rec_lie.ok (ct (decide_eq_true h0) (ct (decide_eq_true h1) (ct (decide_eq_true (by omega)) ?_)))
  rw [wrap_i64 (by omega) (by omega), decide_eq_true (by omega)]; exact hK
/-- bytes as a number, the lowest one first -/
def leN : List UInt8 → Nat
  | [] => 0
  | b :: r => b.toNat + 256 * leN r
theorem leN_lt : ∀ bs : List UInt8, leN bs < 256 ^ bs.length := by
  intro bs
  induction bs with
  | nil => exact Nat.one_pos
  | cons b r ih =>
    have hb : b.toNat < 256 := b.toNat_lt
    rw [leN, List.length_cons, Nat.pow_succ]; omega
theorem leN_snoc (bs : List UInt8) (b : UInt8) : leN (bs ++ [b]) = leN bs + b.toNat * 256 ^ bs.length := by
  induction bs with
  | nil => simp [leN]
  | cons x r ih => rw [List.cons_append, leN, ih, leN, List.length_cons, Nat.pow_succ, Nat.mul_add]; simp only [Nat.mul_comm, Nat.mul_left_comm, Nat.mul_assoc, Nat.add_assoc]
theorem pow_256 (k : Nat) : 256 ^ k = 2 ^ (8 * k) := by rw [Nat.pow_mul]
theorem or_step {v : Nat} {b : UInt8} {k : Nat} (hk : k < 8) (hv : v < 256 ^ k) :
    bitsI .or .u64 (v : Int) (IntKind.wrap .u64 ((IntKind.wrap .u64 (b.toNat : Int)) * 2 ^ min (Int.toNat (IntKind.wrap .i64 (8 * (k : Int)))) 64)) = ((v + b.toNat * 256 ^ k : Nat) : Int) := by
  have hb : b.toNat < 256 := b.toNat_lt
  have wu : ∀ n : Nat, n < 18446744073709551616 → IntKind.wrap .u64 (n : Int) = (n : Int) := fun n h => by
    show (n : Int) % 18446744073709551616 = n
    exact Int.emod_eq_of_lt (by omega) (by omega)
  rw [wrap_i64 (by omega) (by omega), wu _ (by omega)]
  have e1 : min (Int.toNat (8 * (k : Int))) 64 = 8 * k := by omega
  rw [e1]
  have hp : 256 ^ k ≤ 256 ^ 7 := Nat.pow_le_pow_right (by decide) (by omega)
  have hp1 : 256 ^ (k + 1) ≤ 256 ^ 8 := Nat.pow_le_pow_right (by decide) (by omega)
  have hsum : v + b.toNat * 256 ^ k < 256 ^ (k + 1) := by
    rw [Nat.pow_succ]
    have : b.toNat * 256 ^ k ≤ 255 * 256 ^ k := Nat.mul_le_mul_right _ (by omega)
    omega
  have e8 : (256 : Nat) ^ 8 = 18446744073709551616 := by decide
  have e2 : ((b.toNat : Int) * 2 ^ (8 * k)) = ((b.toNat * 256 ^ k : Nat) : Int) := by rw [pow_256]; simp
  rw [e2, wu _ (by omega)]
  show IntKind.wrap .u64 (((BitVec.ofInt 64 (v : Int) ||| BitVec.ofInt 64 ((b.toNat * 256 ^ k : Nat) : Int)).toNat : Nat) : Int) = _
  rw [BitVec.toNat_or, BitVec.ofInt_natCast, BitVec.ofInt_natCast, BitVec.toNat_ofNat, BitVec.toNat_ofNat, Nat.mod_eq_of_lt (by omega), Nat.mod_eq_of_lt (by omega)]
  have e3 : v ||| b.toNat * 256 ^ k = v + b.toNat * 256 ^ k := by
    rw [Nat.or_comm, pow_256, Nat.mul_comm, ← Nat.two_pow_add_eq_or_of_lt (by rw [← pow_256]; exact hv)]
    omega
  rw [e3, wu _ (by omega)]
/-- bytes over bytes -/
def putU (xs : List UInt8) (o : Nat) (ys : List UInt8) : List UInt8 := xs.take o ++ ys ++ xs.drop (o + ys.length)
theorem putU_length {xs ys : List UInt8} {o : Nat} (h : o + ys.length ≤ xs.length) : (putU xs o ys).length = xs.length := by
  simp only [putU, List.length_append, List.length_take, List.length_drop]; omega
theorem putU_put {xs ys : List UInt8} {o : Nat} (h : o + ys.length ≤ xs.length) : put (xs.map bv) o (ys.map bv) = (putU xs o ys).map bv := by
  rw [put_eq _ _ _ (by rw [List.length_map, List.length_map]; exact h)]
  simp only [putU, List.map_append, List.map_take, List.map_drop, List.length_map]
theorem putU_nil (xs : List UInt8) (o : Nat) : putU xs o [] = xs := by simp [putU]
theorem putU_app (xs ys zs : List UInt8) (ys' : List UInt8) (h : ys'.length = ys.length) : putU (xs ++ ys ++ zs) xs.length ys' = xs ++ ys' ++ zs := by
  have e1 : (xs ++ ys ++ zs).take xs.length = xs := by rw [List.append_assoc, List.take_left]
  have e2 : (xs ++ ys ++ zs).drop (xs.length + ys.length) = zs := by rw [← List.length_append, List.drop_left]
  rw [putU, h, e1, e2]
/-- a number as n bytes, the lowest first -/
def leB (n v : Nat) : List UInt8 := (List.range n).map fun k => UInt8.ofNat (v / 256 ^ k)
theorem leB_length (n v : Nat) : (leB n v).length = n := by rw [leB, List.length_map, List.length_range]
theorem byte_of (v k : Nat) (hk : k < 8) : (Value.int .u8 (IntKind.wrap .u8 (Int.fdiv (v : Int) (2 ^ min (Int.toNat (IntKind.wrap .i64 (8 * (k : Int)))) 64)))) = bv (UInt8.ofNat (v / 256 ^ k)) := by
  rw [wrap_i64 (by omega) (by omega), show min (Int.toNat (8 * (k : Int))) 64 = 8 * k by omega]
  have e : Int.fdiv (v : Int) (2 ^ (8 * k)) = ((v / 256 ^ k : Nat) : Int) := by
    rw [pow_256, Int.fdiv_eq_ediv_of_nonneg _ (by exact Int.le_of_lt (Int.pow_pos (by decide)))]
    simp
  rw [e]
  show Value.int .u8 (((v / 256 ^ k : Nat) : Int) % 256) = Value.int .u8 ((UInt8.ofNat (v / 256 ^ k)).toNat : Int)
  rw [UInt8.toNat_ofNat']
  simp
def allZero (bs : List UInt8) : Bool := bs.all (· == 0)
theorem zeros_spec {a : Option Addr} {l c : Nat} {bs : List UInt8} {h : Heap} {K : Value → Heap → Prop} (B : StrAt h a l bs) (hl : l ≤ 140737488355328) (hK : K (.bool (allZero bs)) h) : C.rec_zeros a l c h K := by
  have hb := B.1
  refine rec_zeros.ok ⟨fun n hh => 0 ≤ n ∧ n ≤ l ∧ h = hh ∧ allZero bs = allZero (bs.drop n.toNat), fun n _ => ((l : Int) - n).toNat, ⟨by omega, by omega, rfl, rfl⟩, ?_⟩
  rintro n _ ⟨n0, n1, rfl, e⟩
  refine cd (fun hn => ?_) fun hn => ?_
  · have hn' : n.toNat < bs.length := by omega
    obtain ⟨_, B2⟩ := B
    have ed : allZero (bs.drop n.toNat) = (bs[n.toNat] == 0 && allZero (bs.drop (n.toNat + 1))) := by rw [List.drop_eq_getElem_cons hn']; rfl
    cases a with
    | none => have B2 : bs.map bv = [] := B2; have := List.map_eq_nil_iff.mp B2; rw [this] at hn'; exact absurd hn' (by simp)
    | some p =>
      refine ⟨⟨n0, hn⟩, os ⟨_, B2 n.toNat (bv bs[n.toNat]) (by rw [List.getElem?_map, List.getElem?_eq_getElem hn']; rfl), cn (fun x => ?_) fun x => ?_⟩⟩
      · have : (bs[n.toNat] == 0) = false := by
          rw [beq_eq_false_iff_ne]; intro e0; rw [e0] at x; exact x rfl
        rw [e, ed, this] at hK; exact hK
      · have : (bs[n.toNat] == 0) = true := by
          rw [beq_iff_eq]; exact UInt8.toNat_inj.mp (by have x : ((bs[n.toNat].toNat : Nat) : Int) = 0 := x; show _ = 0; omega)
        rw [wrap_i64 (by omega) (by omega)]
        exact ⟨⟨by omega, by omega, rfl, by rw [e, ed, this, show (n + 1).toNat = n.toNat + 1 by omega]; rfl⟩, falls hn⟩
  · rw [List.drop_of_length_le (by omega)] at e
    rw [e] at hK; exact hK
/-- a part of a slice, as Go cuts it -/
theorem StrAt.cut {h : Heap} {a : Option Addr} {l c i j : Nat} {bs : List UInt8} (B : StrAt h a l bs) (hlc : l ≤ c) (hij : i ≤ j) (hj : j ≤ l) : StrAt h (if c = i then a else Option.map (Addr.add · i) a) (j - i) ((bs.drop i).take (j - i)) := by
  by_cases e : c = i
  · rw [if_pos e]
    have : j - i = 0 := by omega
    rw [this, List.take_zero]; exact StrAt.nil _ _
  · rw [if_neg e]
    exact StrAt.take (StrAt.drop B i) (by omega)
theorem Zero_spec {a : Option Addr} {l c : Nat} {bs : List UInt8} {at_ n : Int} {h : Heap} {K : Value → Heap → Prop} (B : StrAt h a l bs) (hlc : l ≤ c) (hl : l ≤ 140737488355328) (h0 : 0 ≤ at_) (h1 : 0 ≤ n) (h2 : at_ + n ≤ l)
    (hK : K (.tuple #[.bool (allZero ((bs.drop at_.toNat).take n.toNat)), .int .i64 0]) h) : C.rec_Zero a l c at_ n h K := by
  refine rec_Zero.ok (cf (decide_eq_false (by omega)) (lie_spec hl h0 h1 h2 ⟨_, rfl, cnot (ct rfl ?_)⟩))
  rw [wrap_i64 (by omega) (by omega)]
  have e : (at_ + n).toNat - at_.toNat = n.toNat := by omega
  refine ⟨⟨h0, by omega, by omega⟩, zeros_spec (bs := (bs.drop at_.toNat).take n.toNat) ?_ (by omega) ⟨_, rfl, hK⟩⟩
  have := StrAt.cut B hlc (i := at_.toNat) (j := (at_ + n).toNat) (by omega) (by omega)
  rw [e] at this
  rw [e]; exact this
end Go.Proofs.YtcdpakjhjmchhaaDoor.Re
namespace Go.Proofs.YtcdpakjhjmchhaaDoor.Hd
open Go Go.Proofs Go.Proofs.YtcdpakjhjmchhaaDoor.Wx Go.Proofs.YtcdpakjhjmchhaaDoor.Hp Go.Proofs.YtcdpakjhjmchhaaDoor.W Go.Proofs.YtcdpakjhjmchhaaDoor.Re

/-- a row of slices of bytes -/
structure Sc where
  a : Option Addr
  l : Nat
  c : Nat
def Sc.v (s : Sc) : Value := .slice s.a s.l s.c
def ints (ns : List Int) : List Value := ns.map fun n => .int .i64 n
theorem ints_get {h : Heap} {a : Option Addr} {ns : List Int} (c : SlCells h a (ints ns)) {i : Nat} (hi : i < ns.length) : ∃ p, a = some p ∧ cellOf h (p.add i) = some (.int .i64 ns[i]) := by
  cases a with
  | none => have c : ints ns = [] := c; have := List.map_eq_nil_iff.mp c; rw [this] at hi; exact absurd hi (by simp)
  | some p => exact ⟨p, rfl, c i _ (by rw [ints, List.getElem?_map, List.getElem?_eq_getElem hi]; rfl)⟩
def zeros (n : Nat) : List UInt8 := List.replicate n 0
theorem zeros_add (m n : Nat) : zeros (m + n) = zeros m ++ zeros n := List.replicate_append_replicate.symm
theorem zeros_length (n : Nat) : (zeros n).length = n := List.length_replicate
def flat4 (ns : List Int) : List UInt8 := ns.flatMap fun i => leB 4 i.toNat
theorem flat4_length (ns : List Int) : (flat4 ns).length = 4 * ns.length := by
  induction ns with
  | nil => rfl
  | cons n r ih =>
    have e : flat4 (n :: r) = leB 4 n.toNat ++ flat4 r := rfl
    rw [e, List.length_append, leB_length, ih, List.length_cons]; omega
theorem leB_zero : leB 4 0 = zeros 4 := by decide
theorem wrap_u64 {n : Int} (h0 : 0 ≤ n) (h1 : n < 18446744073709551616) : IntKind.wrap .u64 n = n := by
  show n % 18446744073709551616 = n
  exact Int.emod_eq_of_lt h0 h1
def getAt (hd : List UInt8) (o n : Nat) : Nat := leN ((hd.drop o).take n)
theorem getAt_lt (hd : List UInt8) (o n : Nat) : getAt hd o n < 256 ^ n := by
  refine Nat.lt_of_lt_of_le (leN_lt _) (Nat.pow_le_pow_right (by decide) ?_)
  rw [List.length_take]; exact Nat.min_le_left _ _
theorem leB_succ (n v : Nat) : leB (n + 1) v = UInt8.ofNat v :: leB n (v / 256) := by
  rw [leB, List.range_succ_eq_map, List.map_cons, List.map_map]
  congr 1
  · rw [Nat.pow_zero, Nat.div_one]
  · rw [leB]
    apply List.map_congr_left
    intro k _
    show UInt8.ofNat (v / 256 ^ (k + 1)) = UInt8.ofNat (v / 256 / 256 ^ k)
    rw [Nat.pow_succ, Nat.mul_comm, Nat.div_div_eq_div_mul]
theorem leB_leN : ∀ (bs : List UInt8), leB bs.length (leN bs) = bs := by
  intro bs
  induction bs with
  | nil => rfl
  | cons b r ih =>
    have hb : b.toNat < 256 := b.toNat_lt
    rw [List.length_cons, leB_succ, leN, show (b.toNat + 256 * leN r) / 256 = leN r by omega, ih]
    congr 1
    apply UInt8.toNat_inj.mp
    rw [UInt8.toNat_ofNat']; omega
theorem leN_leB : ∀ (n v : Nat), v < 256 ^ n → leN (leB n v) = v := by
  intro n
  induction n with
  | zero =>
    intro v h
    have e : v = 0 := by simpa using h
    rw [e]; rfl
  | succ n ih =>
    intro v h
    rw [leB_succ, leN, ih (v / 256) (by rw [Nat.pow_succ] at h; omega), UInt8.toNat_ofNat']
    omega
theorem allZero_zeros {bs : List UInt8} (h : allZero bs = true) : bs = zeros bs.length := by
  induction bs with
  | nil => rfl
  | cons b r ih =>
    rw [allZero, List.all_cons, Bool.and_eq_true] at h
    have hb : b = 0 := by simpa using h.1
    have := ih h.2
    rw [List.length_cons, zeros, List.replicate_succ, hb]
    exact congrArg _ this
theorem zeros_allZero (n : Nat) : allZero (zeros n) = true := by
  rw [allZero, List.all_eq_true]; intro x hx; rw [List.eq_of_mem_replicate hx]; rfl
theorem drop_split (xs : List UInt8) (i n : Nat) : xs.drop i = (xs.drop i).take n ++ xs.drop (i + n) := by
  have := List.take_append_drop n (xs.drop i)
  rw [List.drop_drop] at this
  exact this.symm
theorem drop_app {xs ys : List UInt8} {n : Nat} (h : xs.length = n) : (xs ++ ys).drop n = ys := by rw [← h, List.drop_left]
theorem take_app {xs ys : List UInt8} {n : Nat} (h : xs.length = n) : (xs ++ ys).take n = xs := by rw [← h, List.take_left]
theorem flat4_part : ∀ (ns : List Int) (i : Nat) (hi : i < ns.length) (zs : List UInt8), ((flat4 ns ++ zs).drop (4 * i)).take 4 = leB 4 ns[i].toNat := by
  intro ns
  induction ns with
  | nil => intro i hi; exact absurd hi (Nat.not_lt_zero _)
  | cons n r ih =>
    intro i hi zs
    have e : flat4 (n :: r) = leB 4 n.toNat ++ flat4 r := rfl
    rw [e, List.append_assoc]
    cases i with
    | zero => rw [Nat.mul_zero, List.drop_zero]; exact take_app (leB_length _ _)
    | succ i =>
      rw [show 4 * (i + 1) = 4 + 4 * i by omega, ← List.drop_drop, drop_app (leB_length _ _)]
      exact ih i (by simpa using hi) zs
theorem bv_wrap (n : Int) : (Value.int .u8 (IntKind.wrap .u8 n)) = bv (UInt8.ofNat (n % 256).toNat) := by
  show Value.int .u8 (n % 256) = Value.int .u8 ((UInt8.ofNat (n % 256).toNat).toNat : Int)
  rw [UInt8.toNat_ofNat']
  congr 1
  have := Int.emod_nonneg n (show (256 : Int) ≠ 0 by decide)
  have := Int.emod_lt_of_pos n (show (0 : Int) < 256 by decide)
  omega
end Go.Proofs.YtcdpakjhjmchhaaDoor.Hd
