/-
  CRC-32 PLAINLY: a word behind one place is linear and loses nothing; bytes go through bit by bit; what a burst of at most 32 places does.
-/
import Derived.Test.YtnlmieklakolkaaDoorSuA
namespace Go.Proofs.YtnlmieklakolkaaDoor.Cr
open Go Go.Proofs Go.Proofs.YtnlmieklakolkaaDoor.Wx Go.Proofs.YtnlmieklakolkaaDoor.Hp Go.Proofs.YtnlmieklakolkaaDoor.Su

def P : BitVec 32 := 0xEDB88320#32
/-- a word behind one place -/
def T (w : BitVec 32) : BitVec 32 := (w >>> 1) ^^^ (bif w.getLsbD 0 then P else 0#32)
theorem T_zero : T 0#32 = 0#32 := by decide
theorem T_xor (a b : BitVec 32) : T (a ^^^ b) = T a ^^^ T b := by
  unfold T
  rw [BitVec.ushiftRight_xor_distrib, BitVec.getLsbD_xor]
  cases a.getLsbD 0 <;> cases b.getLsbD 0 <;> simp only [Bool.xor_false, Bool.xor_true, Bool.not_false, Bool.not_true, cond_true, cond_false, BitVec.xor_zero]
  · rw [BitVec.xor_assoc]
  · rw [BitVec.xor_assoc, BitVec.xor_assoc, BitVec.xor_comm P]
  · rw [BitVec.xor_assoc (a >>> 1) P, BitVec.xor_comm (b >>> 1) P, ← BitVec.xor_assoc P, BitVec.xor_self, BitVec.zero_xor]
theorem T_null {a : BitVec 32} (h : T a = 0#32) : a = 0#32 := by
  have h0 : a.getLsbD 0 = false := by
    cases hb : a.getLsbD 0 with
    | false => rfl
    | true =>
      have := congrArg (fun w => BitVec.getLsbD w 31) h
      simp only [T, hb, cond_true, BitVec.getLsbD_xor, BitVec.getLsbD_ushiftRight] at this
      rw [BitVec.getLsbD_of_ge a (1 + 31) (by decide)] at this
      exact absurd this (by decide)
  have h1 : a >>> 1 = 0#32 := by
    have : T a = a >>> 1 := by rw [T, h0, cond_false, BitVec.xor_zero]
    rw [← this]; exact h
  apply BitVec.eq_of_getLsbD_eq
  intro i hi
  cases i with
  | zero => rw [h0]; rfl
  | succ i =>
    have := congrArg (fun w => BitVec.getLsbD w i) h1
    simp only [BitVec.getLsbD_ushiftRight] at this
    rw [Nat.add_comm i 1, this]
    simp
theorem xor_null {a b : BitVec 32} (h : a ^^^ b = 0#32) : a = b := by
  have := congrArg (· ^^^ b) h
  simp only [BitVec.xor_assoc, BitVec.xor_self, BitVec.xor_zero, BitVec.zero_xor] at this
  exact this
theorem T_inj {a b : BitVec 32} (h : T a = T b) : a = b := by
  refine xor_null (T_null ?_)
  rw [T_xor, h, BitVec.xor_self]
def Tn : Nat → BitVec 32 → BitVec 32
  | 0, w => w
  | n + 1, w => Tn n (T w)
theorem Tn_xor : ∀ (n : Nat) (a b : BitVec 32), Tn n (a ^^^ b) = Tn n a ^^^ Tn n b
  | 0, _, _ => rfl
  | n + 1, a, b => by rw [Tn, T_xor, Tn_xor n]; rfl
theorem Tn_zero : ∀ n, Tn n 0#32 = 0#32
  | 0 => rfl
  | n + 1 => by rw [Tn, T_zero, Tn_zero n]
theorem Tn_inj : ∀ (n : Nat) {a b : BitVec 32}, Tn n a = Tn n b → a = b
  | 0, _, _, h => h
  | n + 1, _, _, h => T_inj (Tn_inj n h)
theorem T_shl {x : BitVec 32} (h : x.toNat < 2 ^ 31) : T (x <<< 1) = x := by
  have h0 : (x <<< 1).getLsbD 0 = false := by rw [BitVec.getLsbD_shiftLeft]; rfl
  rw [T, h0, cond_false, BitVec.xor_zero]
  apply BitVec.eq_of_toNat_eq
  rw [BitVec.toNat_ushiftRight, BitVec.toNat_shiftLeft, Nat.shiftLeft_eq, Nat.shiftRight_eq_div_pow, Nat.mod_eq_of_lt (by omega)]
  omega

/-! Bits. -/
def bit (b : Bool) : BitVec 32 := bif b then 1#32 else 0#32
def natB : List Bool → Nat
  | [] => 0
  | b :: r => b.toNat + 2 * natB r
theorem natB_lt : ∀ bs : List Bool, natB bs < 2 ^ bs.length
  | [] => by decide
  | b :: r => by
    have := natB_lt r
    have hb : b.toNat ≤ 1 := by cases b <;> decide
    rw [natB, List.length_cons, Nat.pow_succ]; omega
def num (bs : List Bool) : BitVec 32 := BitVec.ofNat 32 (natB bs)
theorem num_cons (b : Bool) (r : List Bool) (h : natB r < 2 ^ 31) : num (b :: r) = bit b ^^^ (num r <<< 1) := by
  apply BitVec.eq_of_getLsbD_eq
  intro i hi
  rw [num, natB, BitVec.getLsbD_ofNat, BitVec.getLsbD_xor, BitVec.getLsbD_shiftLeft, num, BitVec.getLsbD_ofNat]
  cases i with
  | zero =>
    have e : (b.toNat + 2 * natB r).testBit 0 = b := by rw [Nat.testBit_zero]; cases b <;> simp [Nat.add_mod]
    rw [e]
    cases b <;> simp [bit]
  | succ i =>
    have e : (b.toNat + 2 * natB r).testBit (i + 1) = (natB r).testBit i := by
      rw [Nat.testBit_succ]; congr 1
      have hb : b.toNat ≤ 1 := by cases b <;> decide
      omega
    have e2 : (bit b).getLsbD (i + 1) = false := by
      cases b
      · simp [bit]
      · simp [bit, BitVec.getLsbD_one]
    rw [e, e2]
    simp [hi, show i < 32 by omega]
def g (D : BitVec 32) (b : Bool) : BitVec 32 := T (D ^^^ bit b)
theorem fold_num : ∀ (bs : List Bool), bs.length ≤ 32 → ∀ D, bs.foldl g D = Tn bs.length (D ^^^ num bs)
  | [], _, D => by
    have : num [] = 0#32 := rfl
    rw [this, BitVec.xor_zero]; rfl
  | b :: r, h, D => by
    have hl : r.length ≤ 31 := by rw [List.length_cons] at h; omega
    have hn : natB r < 2 ^ 31 := Nat.lt_of_lt_of_le (natB_lt r) (Nat.pow_le_pow_right (by decide) hl)
    have hN : (num r).toNat < 2 ^ 31 := by
      rw [num, BitVec.toNat_ofNat, Nat.mod_eq_of_lt (by omega)]; exact hn
    rw [List.foldl_cons, fold_num r (by omega), List.length_cons, Tn, num_cons b r hn, ← BitVec.xor_assoc, T_xor (D ^^^ bit b), T_shl hN]
    rfl
theorem fold_xor : ∀ (xs ys : List Bool), xs.length = ys.length → ∀ A B, xs.foldl g A ^^^ ys.foldl g B = (List.zipWith (fun x y => x != y) xs ys).foldl g (A ^^^ B)
  | [], [], _, A, B => rfl
  | [], _ :: _, h, _, _ => absurd h (by simp)
  | _ :: _, [], h, _, _ => absurd h (by simp)
  | x :: xs, y :: ys, h, A, B => by
    rw [List.foldl_cons, List.foldl_cons, fold_xor xs ys (by simpa using h), List.zipWith_cons_cons, List.foldl_cons]
    congr 1
    have : bit (x != y) = bit x ^^^ bit y := by cases x <;> cases y <;> decide
    rw [g, g, g, this, ← T_xor]
    congr 1
    rw [BitVec.xor_assoc, BitVec.xor_assoc, ← BitVec.xor_assoc (bit x), BitVec.xor_comm (bit x) B, BitVec.xor_assoc B]
theorem fold_zeros : ∀ n D, (List.replicate n false).foldl g D = Tn n D
  | 0, _ => rfl
  | n + 1, D => by
    have : bit false = 0#32 := rfl
    rw [List.replicate_succ, List.foldl_cons, g, this, BitVec.xor_zero, fold_zeros n]; rfl
theorem natB_pos : ∀ bs : List Bool, true ∈ bs → natB bs ≠ 0
  | [], h => absurd h List.not_mem_nil
  | b :: r, h => by
    rw [natB]
    rcases List.mem_cons.mp h with h | h
    · subst h; show 1 + _ ≠ 0; omega
    · have := natB_pos r h; omega
/-- a burst of at most 32 places is not lost -/
theorem burst (a c : Nat) (w : List Bool) (hw : w.length ≤ 32) (ht : true ∈ w) : (List.replicate a false ++ w ++ List.replicate c false).foldl g 0#32 ≠ 0#32 := by
  rw [List.foldl_append, List.foldl_append, fold_zeros, fold_zeros, Tn_zero, fold_num w hw, BitVec.zero_xor]
  intro h
  have h1 := Tn_inj c (b := 0#32) (h.trans (Tn_zero c).symm)
  have h2 := Tn_inj w.length (b := 0#32) (h1.trans (Tn_zero _).symm)
  have h3 := congrArg BitVec.toNat h2
  have hl := Nat.lt_of_lt_of_le (natB_lt w) (Nat.pow_le_pow_right (show 0 < 2 by decide) hw)
  rw [num, BitVec.toNat_ofNat, Nat.mod_eq_of_lt hl] at h3
  exact natB_pos w ht h3

/-! The program's step. -/
theorem xor_int (a b : BitVec 32) : bitsI .xor .u32 (a.toNat : Int) (b.toNat : Int) = ((a ^^^ b).toNat : Int) := by
  show IntKind.wrap .u32 (((BitVec.ofInt 32 (a.toNat : Int) ^^^ BitVec.ofInt 32 (b.toNat : Int)).toNat : Nat) : Int) = _
  rw [BitVec.ofInt_natCast, BitVec.ofInt_natCast, BitVec.ofNat_toNat, BitVec.ofNat_toNat, BitVec.setWidth_eq, BitVec.setWidth_eq]
  have := (a ^^^ b).isLt
  exact wrap_u32 ⟨by omega, by omega⟩
theorem and_int (a b : BitVec 32) : bitsI .and .u32 (a.toNat : Int) (b.toNat : Int) = ((a &&& b).toNat : Int) := by
  show IntKind.wrap .u32 (((BitVec.ofInt 32 (a.toNat : Int) &&& BitVec.ofInt 32 (b.toNat : Int)).toNat : Nat) : Int) = _
  rw [BitVec.ofInt_natCast, BitVec.ofInt_natCast, BitVec.ofNat_toNat, BitVec.ofNat_toNat, BitVec.setWidth_eq, BitVec.setWidth_eq]
  have := (a &&& b).isLt
  exact wrap_u32 ⟨by omega, by omega⟩
theorem shr_int (a : BitVec 32) : Int.fdiv (a.toNat : Int) (2 ^ min (Int.toNat 4) 32) = ((a >>> 4).toNat : Int) := by
  have e : (2 ^ min (Int.toNat 4) 32 : Int) = 16 := by decide
  rw [e, BitVec.toNat_ushiftRight, Nat.shiftRight_eq_div_pow, Int.fdiv_eq_ediv_of_nonneg _ (by decide)]
  omega
theorem half_table : ∀ n : Nat, n < 16 → half (n : Int) = ((Tn 4 (BitVec.ofNat 32 n)).toNat : Int) := by decide
theorem fifteen : ∀ i, i < 32 → (15#32).getLsbD i = decide (i < 4) := by decide
theorem low4 (x : BitVec 32) : x = (x &&& 15#32) ^^^ ((x >>> 4) <<< 4) := by
  apply BitVec.eq_of_getLsbD_eq
  intro i hi
  rw [BitVec.getLsbD_xor, BitVec.getLsbD_and, fifteen i hi, BitVec.getLsbD_shiftLeft, BitVec.getLsbD_ushiftRight]
  by_cases h : i < 4
  · simp [h]
  · rw [decide_eq_true hi, decide_eq_false h, show 4 + (i - 4) = i by omega]; simp
theorem Tn4_shl {z : BitVec 32} (h : z.toNat < 2 ^ 28) : Tn 4 (z <<< 4) = z := by
  have s : ∀ k, k ≤ 3 → (z <<< k).toNat < 2 ^ 31 := fun k hk => by
    rw [BitVec.toNat_shiftLeft, Nat.shiftLeft_eq]
    refine Nat.lt_of_le_of_lt (Nat.mod_le _ _) ?_
    have : 2 ^ k ≤ 2 ^ 3 := Nat.pow_le_pow_right (by decide) hk
    have := Nat.mul_le_mul_left z.toNat this
    omega
  have e : ∀ k, z <<< (k + 1) = (z <<< k) <<< 1 := fun k => by rw [BitVec.shiftLeft_add]
  show T (T (T (T (z <<< 4)))) = z
  rw [e 3, T_shl (s 3 (by decide)), e 2, T_shl (s 2 (by decide)), e 1, T_shl (s 1 (by decide)), e 0, T_shl (s 0 (by decide))]
  exact BitVec.shiftLeft_zero z
theorem half_word (x : BitVec 32) : bitsI .xor .u32 (half (bitsI .and .u32 (x.toNat : Int) 15)) (Int.fdiv (x.toNat : Int) (2 ^ min (Int.toNat 4) 32)) = ((Tn 4 x).toNat : Int) := by
  have e15 : (15 : Int) = ((15#32).toNat : Int) := rfl
  have hx : (x &&& 15#32).toNat < 16 := by
    rw [BitVec.toNat_and]; exact Nat.lt_of_le_of_lt Nat.and_le_right (by decide)
  rw [e15, and_int, half_table _ hx, BitVec.ofNat_toNat, BitVec.setWidth_eq, shr_int, xor_int]
  have hz : (x >>> 4).toNat < 2 ^ 28 := by
    rw [BitVec.toNat_ushiftRight, Nat.shiftRight_eq_div_pow]
    have := x.isLt
    omega
  conv => rhs; rw [low4 x, Tn_xor, Tn4_shl hz]
theorem Tn_add : ∀ (m n : Nat) (w : BitVec 32), Tn (m + n) w = Tn n (Tn m w)
  | 0, n, w => by rw [Nat.zero_add]; rfl
  | m + 1, n, w => by rw [Nat.add_right_comm, Tn, Tn_add m n]; rfl
theorem step_word (v : BitVec 32) (b : UInt8) : stepM (v.toNat : Int) b = ((Tn 8 (v ^^^ BitVec.ofNat 32 b.toNat)).toNat : Int) := by
  have hb : b.toNat < 256 := b.toNat_lt
  have e : IntKind.wrap .u32 (b.toNat : Int) = ((BitVec.ofNat 32 b.toNat).toNat : Int) := by
    rw [wrap_u32 ⟨by omega, by omega⟩, BitVec.toNat_ofNat, Nat.mod_eq_of_lt (by omega)]
  unfold stepM
  rw [e, xor_int, half_word, half_word, show (8 : Nat) = 4 + 4 from rfl, Tn_add]
def bitsOf (b : UInt8) : List Bool := (List.range 8).map fun i => b.toNat.testBit i
theorem bits_num : ∀ n : Nat, n < 256 → num ((List.range 8).map fun i => n.testBit i) = BitVec.ofNat 32 n := by decide +kernel
theorem bitsOf_length (b : UInt8) : (bitsOf b).length = 8 := by rw [bitsOf, List.length_map, List.length_range]
theorem step_bits (v : BitVec 32) (b : UInt8) : stepM (v.toNat : Int) b = (((bitsOf b).foldl g v).toNat : Int) := by
  rw [step_word, fold_num _ (by rw [bitsOf_length]; decide), bitsOf_length, bitsOf, bits_num _ b.toNat_lt]
def allBits (bs : List UInt8) : List Bool := bs.flatMap bitsOf
theorem allBits_length (bs : List UInt8) : (allBits bs).length = 8 * bs.length := by
  induction bs with
  | nil => rfl
  | cons b r ih =>
    have e : allBits (b :: r) = bitsOf b ++ allBits r := rfl
    rw [e, List.length_append, bitsOf_length, ih, List.length_cons]; omega
theorem fold_bits : ∀ (bs : List UInt8) (v : BitVec 32), bs.foldl stepM (v.toNat : Int) = (((allBits bs).foldl g v).toNat : Int) := by
  intro bs
  induction bs with
  | nil => intro v; rfl
  | cons b r ih =>
    intro v
    have e : allBits (b :: r) = bitsOf b ++ allBits r := rfl
    rw [List.foldl_cons, step_bits, ih, e, List.foldl_append]
/-- sums are alike just where what is unlike between two rows is lost -/
theorem of_same {xs ys : List UInt8} (hl : xs.length = ys.length) (h : ofM xs = ofM ys) : (List.zipWith (fun x y => x != y) (allBits xs) (allBits ys)).foldl g 0#32 = 0#32 := by
  have e : (4294967295 : Int) = ((0xFFFFFFFF#32).toNat : Int) := rfl
  have em : (IntKind.max .u32) = ((0xFFFFFFFF#32).toNat : Int) := by decide
  unfold ofM at h
  rw [e, em, fold_bits, fold_bits, xor_int, xor_int] at h
  have h := BitVec.eq_of_toNat_eq (Int.ofNat.inj h)
  have h := congrArg (0xFFFFFFFF#32 ^^^ ·) h
  simp only [← BitVec.xor_assoc, BitVec.xor_self, BitVec.zero_xor] at h
  have k := fold_xor (allBits xs) (allBits ys) (by rw [allBits_length, allBits_length, hl]) 0xFFFFFFFF#32 0xFFFFFFFF#32
  rw [BitVec.xor_self] at k
  rw [← k, h, BitVec.xor_self]
end Go.Proofs.YtnlmieklakolkaaDoor.Cr
