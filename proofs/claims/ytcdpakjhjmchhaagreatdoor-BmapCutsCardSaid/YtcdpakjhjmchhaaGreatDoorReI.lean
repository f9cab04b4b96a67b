/-
  PACKAGE rec: numbers in bytes, plainly; what needs no table. And rows of numbers.
-/
import Derived.Test.YtcdpakjhjmchhaaGreatDoorForms
import Derived.Test.YtcdpakjhjmchhaaGreatDoorHpE
namespace Go.Proofs.YtcdpakjhjmchhaaGreatDoor.Su
end Go.Proofs.YtcdpakjhjmchhaaGreatDoor.Su
namespace Go.Proofs.YtcdpakjhjmchhaaGreatDoor.Re
open Go Go.Proofs Go.Proofs.YtcdpakjhjmchhaaGreatDoor.Wx Go.Proofs.YtcdpakjhjmchhaaGreatDoor.Hp Go.Proofs.YtcdpakjhjmchhaaGreatDoor.W

def widthsL : List Bool := [false, true, true, false, true, false, false, false, true]
def Wide (h : Heap) : Prop := rd h 0 = widthsL.map .bool
theorem Wide.lt {h : Heap} (g : Wide h) : 0 < h.size := rd_lt (show (rd h 0)[0]? = some (.bool false) by rw [g]; rfl)
theorem Wide.fr {h h' : Heap} {F : Nat → Prop} (g : Wide h) (f : Fr F h h') (hF : ¬ F 0) : Wide h' := (f.rd g.lt hF).trans g
theorem lie_spec {a : Option Addr} {l c : Nat} {at_ n : Int} {h : Heap} {K : Value → Heap → Prop} (hl : l ≤ 140737488355328) (h0 : 0 ≤ at_) (h1 : 0 ≤ n) (h2 : at_ + n ≤ l) (hK : K (.bool true) h) : C.rec_lie a l c at_ n h K := by
  refine rec_lie.ok (ct (decide_eq_true h0) (ct (decide_eq_true h1) (ct (decide_eq_true (by omega)) ?_)))
  rw [wrap_i64 (by omega) (by omega), decide_eq_true (by omega)]; exact hK
/-- bytes as a number, the lowest one first -/
def leN : List UInt8 → Nat
  | [] => 0
  | b :: r => b.toNat + 256 * leN r
theorem leN_lt : ∀ bs : List UInt8, leN bs < 256 ^ bs.length := by
  intro bs
  induction bs with
  | nil => exact Nat.one_pos
  | cons b r ih =>
    have hb : b.toNat < 256 := b.toNat_lt
    rw [leN, List.length_cons, Nat.pow_succ]; omega
theorem leN_snoc (bs : List UInt8) (b : UInt8) : leN (bs ++ [b]) = leN bs + b.toNat * 256 ^ bs.length := by
  induction bs with
  | nil => simp [leN]
  | cons x r ih => rw [List.cons_append, leN, ih, leN, List.length_cons, Nat.pow_succ, Nat.mul_add]; simp only [Nat.mul_comm, Nat.mul_left_comm, Nat.mul_assoc, Nat.add_assoc]
theorem pow_256 (k : Nat) : 256 ^ k = 2 ^ (8 * k) := by rw [Nat.pow_mul]
theorem or_step {v : Nat} {b : UInt8} {k : Nat} (hk : k < 8) (hv : v < 256 ^ k) :
    bitsI .or .u64 (v : Int) (IntKind.wrap .u64 ((IntKind.wrap .u64 (b.toNat : Int)) * 2 ^ min (Int.toNat (IntKind.wrap .i64 (8 * (k : Int)))) 64)) = ((v + b.toNat * 256 ^ k : Nat) : Int) := by
  have hb : b.toNat < 256 := b.toNat_lt
  have wu : ∀ n : Nat, n < 18446744073709551616 → IntKind.wrap .u64 (n : Int) = (n : Int) := fun n h => by
    show (n : Int) % 18446744073709551616 = n
    exact Int.emod_eq_of_lt (by omega) (by omega)
  rw [wrap_i64 (by omega) (by omega), wu _ (by omega)]
  have e1 : min (Int.toNat (8 * (k : Int))) 64 = 8 * k := by omega
  rw [e1]
  have hp : 256 ^ k ≤ 256 ^ 7 := Nat.pow_le_pow_right (by decide) (by omega)
  have hp1 : 256 ^ (k + 1) ≤ 256 ^ 8 := Nat.pow_le_pow_right (by decide) (by omega)
  have hsum : v + b.toNat * 256 ^ k < 256 ^ (k + 1) := by
    rw [Nat.pow_succ]
    have : b.toNat * 256 ^ k ≤ 255 * 256 ^ k := Nat.mul_le_mul_right _ (by omega)
    omega
  have e8 : (256 : Nat) ^ 8 = 18446744073709551616 := by decide
  have e2 : ((b.toNat : Int) * 2 ^ (8 * k)) = ((b.toNat * 256 ^ k : Nat) : Int) := by rw [pow_256]; simp
  rw [e2, wu _ (by omega)]
  show IntKind.wrap .u64 (((BitVec.ofInt 64 (v : Int) ||| BitVec.ofInt 64 ((b.toNat * 256 ^ k : Nat) : Int)).toNat : Nat) : Int) = _
  rw [BitVec.toNat_or, BitVec.ofInt_natCast, BitVec.ofInt_natCast, BitVec.toNat_ofNat, BitVec.toNat_ofNat, Nat.mod_eq_of_lt (by omega), Nat.mod_eq_of_lt (by omega)]
  have e3 : v ||| b.toNat * 256 ^ k = v + b.toNat * 256 ^ k := by
    rw [Nat.or_comm, pow_256, Nat.mul_comm, ← Nat.two_pow_add_eq_or_of_lt (by rw [← pow_256]; exact hv)]
    omega
  rw [e3, wu _ (by omega)]
/-- bytes over bytes -/
def putU (xs : List UInt8) (o : Nat) (ys : List UInt8) : List UInt8 := xs.take o ++ ys ++ xs.drop (o + ys.length)
theorem putU_length {xs ys : List UInt8} {o : Nat} (h : o + ys.length ≤ xs.length) : (putU xs o ys).length = xs.length := by
  simp only [putU, List.length_append, List.length_take, List.length_drop]; omega
theorem putU_put {xs ys : List UInt8} {o : Nat} (h : o + ys.length ≤ xs.length) : put (xs.map bv) o (ys.map bv) = (putU xs o ys).map bv := by
  rw [put_eq _ _ _ (by rw [List.length_map, List.length_map]; exact h)]
  simp only [putU, List.map_append, List.map_take, List.map_drop, List.length_map]
theorem putU_nil (xs : List UInt8) (o : Nat) : putU xs o [] = xs := by simp [putU]
/-- a number as n bytes, the lowest first -/
def leB (n v : Nat) : List UInt8 := (List.range n).map fun k => UInt8.ofNat (v / 256 ^ k)
theorem leB_length (n v : Nat) : (leB n v).length = n := by rw [leB, List.length_map, List.length_range]
theorem byte_of (v k : Nat) (hk : k < 8) : (Value.int .u8 (IntKind.wrap .u8 (Int.fdiv (v : Int) (2 ^ min (Int.toNat (IntKind.wrap .i64 (8 * (k : Int)))) 64)))) = bv (UInt8.ofNat (v / 256 ^ k)) := by
  rw [wrap_i64 (by omega) (by omega), show min (Int.toNat (8 * (k : Int))) 64 = 8 * k by omega]
  have e : Int.fdiv (v : Int) (2 ^ (8 * k)) = ((v / 256 ^ k : Nat) : Int) := by
    rw [pow_256, Int.fdiv_eq_ediv_of_nonneg _ (by exact Int.le_of_lt (Int.pow_pos (by decide)))]
    simp
  rw [e]
  show Value.int .u8 (((v / 256 ^ k : Nat) : Int) % 256) = Value.int .u8 ((UInt8.ofNat (v / 256 ^ k)).toNat : Int)
  rw [UInt8.toNat_ofNat']
  simp
/-- a part of a slice, as Go cuts it -/
theorem StrAt.cut {h : Heap} {a : Option Addr} {l c i j : Nat} {bs : List UInt8} (B : StrAt h a l bs) (hlc : l ≤ c) (hij : i ≤ j) (hj : j ≤ l) : StrAt h (if c = i then a else Option.map (Addr.add · i) a) (j - i) ((bs.drop i).take (j - i)) := by
  by_cases e : c = i
  · rw [if_pos e]
    have : j - i = 0 := by omega
    rw [this, List.take_zero]; exact StrAt.nil _ _
  · rw [if_neg e]
    exact StrAt.take (StrAt.drop B i) (by omega)
end Go.Proofs.YtcdpakjhjmchhaaGreatDoor.Re
namespace Go.Proofs.YtcdpakjhjmchhaaGreatDoor.Hd
open Go Go.Proofs Go.Proofs.YtcdpakjhjmchhaaGreatDoor.Wx Go.Proofs.YtcdpakjhjmchhaaGreatDoor.Hp Go.Proofs.YtcdpakjhjmchhaaGreatDoor.W Go.Proofs.YtcdpakjhjmchhaaGreatDoor.Re

/-- a row of slices of bytes -/
structure Sc where
  a : Option Addr
  l : Nat
  c : Nat
def Sc.v (s : Sc) : Value := .slice s.a s.l s.c
def ints (ns : List Int) : List Value := ns.map fun n => .int .i64 n
theorem ints_get {h : Heap} {a : Option Addr} {ns : List Int} (c : SlCells h a (ints ns)) {i : Nat} (hi : i < ns.length) : ∃ p, a = some p ∧ cellOf h (p.add i) = some (.int .i64 ns[i]) := by
  cases a with
  | none => have c : ints ns = [] := c; have := List.map_eq_nil_iff.mp c; rw [this] at hi; exact absurd hi (by simp)
  | some p => exact ⟨p, rfl, c i _ (by rw [ints, List.getElem?_map, List.getElem?_eq_getElem hi]; rfl)⟩
def zeros (n : Nat) : List UInt8 := List.replicate n 0
theorem wrap_u64 {n : Int} (h0 : 0 ≤ n) (h1 : n < 18446744073709551616) : IntKind.wrap .u64 n = n := by
  show n % 18446744073709551616 = n
  exact Int.emod_eq_of_lt h0 h1
theorem leB_succ (n v : Nat) : leB (n + 1) v = UInt8.ofNat v :: leB n (v / 256) := by
  rw [leB, List.range_succ_eq_map, List.map_cons, List.map_map]
  congr 1
  · rw [Nat.pow_zero, Nat.div_one]
  · rw [leB]
    apply List.map_congr_left
    intro k _
    show UInt8.ofNat (v / 256 ^ (k + 1)) = UInt8.ofNat (v / 256 / 256 ^ k)
    rw [Nat.pow_succ, Nat.mul_comm, Nat.div_div_eq_div_mul]
theorem leN_leB : ∀ (n v : Nat), v < 256 ^ n → leN (leB n v) = v := by
  intro n
  induction n with
  | zero =>
    intro v h
    have e : v = 0 := by simpa using h
    rw [e]; rfl
  | succ n ih =>
    intro v h
    rw [leB_succ, leN, ih (v / 256) (by rw [Nat.pow_succ] at h; omega), UInt8.toNat_ofNat']
    omega
end Go.Proofs.YtcdpakjhjmchhaaGreatDoor.Hd
