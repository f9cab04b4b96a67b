/-
  CRC-32 PLAINLY: the sum of bytes behind bytes is the two sums joined. PACKAGE boleref01: bit by bit.
-/
import Derived.Test.YtnlmieklakolkaaDoorCrB
namespace Go.Proofs.YtnlmieklakolkaaDoor.Cr
open Go Go.Proofs Go.Proofs.YtnlmieklakolkaaDoor.Wx Go.Proofs.YtnlmieklakolkaaDoor.Hp Go.Proofs.YtnlmieklakolkaaDoor.W Go.Proofs.YtnlmieklakolkaaDoor.Su Go.Proofs.YtnlmieklakolkaaDoor.Re Go.Proofs.YtnlmieklakolkaaDoor.Hd

theorem and1 {n : Int} (h0 : 0 ≤ n) (h1 : n < 9223372036854775808) : bitsI .and .i64 n 1 = n % 2 := by
  obtain ⟨k, rfl⟩ := Int.eq_ofNat_of_zero_le h0
  show IntKind.wrap .i64 (((BitVec.ofInt 64 (k : Int) &&& BitVec.ofInt 64 ((1 : Nat) : Int)).toNat : Nat) : Int) = _
  rw [BitVec.ofInt_natCast, BitVec.ofInt_natCast, BitVec.toNat_and, BitVec.toNat_ofNat, BitVec.toNat_ofNat]
  have hk : k < 2 ^ 64 := by
    have : k < 9223372036854775808 := by omega
    exact Nat.lt_trans this (by decide)
  rw [Nat.mod_eq_of_lt hk, show 1 % 2 ^ 64 = 1 by decide, Nat.and_one_is_mod]
  rw [wrap_i64 (by omega) (by omega)]
  omega
theorem Tn_lin (k : Nat) : Lin (Tn k) := Tn_xor k
theorem behind_go : ∀ (f : Nat) (m : List Int) (k n : Nat) (V : BitVec 32), Rep m (Tn k) → n < 2 ^ f → n < 9223372036854775808 → behindGo f m (V.toNat : Int) (n : Int) = ((Tn (k * n) V).toNat : Int) := by
  intro f
  induction f with
  | zero =>
    intro m k n V _ hn _
    have : n = 0 := by simpa using hn
    subst this
    rfl
  | succ f ih =>
    intro m k n V hm hn hb
    by_cases h0 : n = 0
    · subst h0
      rfl
    have hd : decide ((n : Int) > 0) = true := decide_eq_true (by omega)
    have sq : Rep (squareM m) (Tn (2 * k)) := by
      have := square_rep hm (Tn_lin k)
      have e : (fun a => Tn k (Tn k a)) = Tn (2 * k) := by
        funext a
        rw [show 2 * k = k + k by omega, Tn_add]
      rw [e] at this; exact this
    have hdiv : (n : Int) / 2 = ((n / 2 : Nat) : Int) := by omega
    have hlt : n / 2 < 2 ^ f := by rw [Nat.pow_succ] at hn; omega
    rw [behindGo, hd, cond_true, and1 (by omega) (by omega), hdiv]
    by_cases ho : n % 2 = 1
    · have : ((n : Int) % 2 == 1) = true := beq_iff_eq.mpr (by omega)
      rw [this, cond_true, times_rep hm (Tn_lin k), ih _ (2 * k) (n / 2) _ sq hlt (by omega), ← Tn_add]
      congr 3
      have e : k * n = k * (1 + 2 * (n / 2)) := by congr 1; omega
      rw [e, Nat.mul_add, Nat.mul_one, ← Nat.mul_assoc, Nat.mul_comm k 2]
    · have : ((n : Int) % 2 == 1) = false := beq_eq_false_iff_ne.mpr (by omega)
      rw [this, cond_false, ih _ (2 * k) (n / 2) _ sq hlt (by omega)]
      congr 3
      have e : k * n = k * (2 * (n / 2)) := by congr 1; omega
      rw [e, ← Nat.mul_assoc, Nat.mul_comm k 2]
theorem behind_exact (V : BitVec 32) {n : Nat} (hn : n < 9223372036854775808) : behindM (V.toNat : Int) (n : Int) = ((Tn (8 * n) V).toNat : Int) :=
  behind_go 64 m0 8 n V m0_rep (Nat.lt_trans hn (by decide)) hn
theorem fold_lin : ∀ (xs : List Bool) (A B : BitVec 32), xs.foldl g (A ^^^ B) = xs.foldl g A ^^^ Tn xs.length B
  | [], _, _ => rfl
  | x :: r, A, B => by
    have e : g (A ^^^ B) x = g A x ^^^ T B := by
      rw [g, g, ← T_xor]
      congr 1
      rw [BitVec.xor_assoc, BitVec.xor_assoc, BitVec.xor_comm B]
    rw [List.foldl_cons, List.foldl_cons, e, fold_lin r, List.length_cons]
    rfl
/-- what the bytes do to a word -/
def fb (bs : List UInt8) (v : BitVec 32) : BitVec 32 := (allBits bs).foldl g v
theorem allBits_append (xs ys : List UInt8) : allBits (xs ++ ys) = allBits xs ++ allBits ys := List.flatMap_append
theorem fb_append (xs ys : List UInt8) (v : BitVec 32) : fb (xs ++ ys) v = fb ys (fb xs v) := by rw [fb, allBits_append, List.foldl_append]; rfl
theorem fb_lin (bs : List UInt8) (A B : BitVec 32) : fb bs (A ^^^ B) = fb bs A ^^^ Tn (8 * bs.length) B := by rw [fb, fold_lin, allBits_length]; rfl
def M : BitVec 32 := 0xFFFFFFFF#32
theorem of_fb (bs : List UInt8) : ofM bs = ((M ^^^ fb bs M).toNat : Int) := by
  have e : (4294967295 : Int) = (M.toNat : Int) := rfl
  have em : (IntKind.max .u32) = (M.toNat : Int) := by decide
  rw [ofM, e, em, fold_bits, xor_int]; rfl
theorem of_append (xs ys : List UInt8) (h : ys.length < 9223372036854775808) : ofM (xs ++ ys) = joinM (ofM xs) (ofM ys) ys.length := by
  rw [joinM, of_fb, of_fb, of_fb, behind_exact _ h, xor_int, fb_append]
  congr 2
  have e : fb ys (fb xs M) = fb ys M ^^^ Tn (8 * ys.length) (fb xs M ^^^ M) := by
    rw [← fb_lin]
    congr 1
    rw [BitVec.xor_comm (fb xs M), ← BitVec.xor_assoc, BitVec.xor_self, BitVec.zero_xor]
  rw [e, BitVec.xor_comm M (fb xs M), ← BitVec.xor_assoc, BitVec.xor_comm M (fb ys M), BitVec.xor_comm]
theorem chain_flat : ∀ (ds : List (List UInt8)) (xs : List UInt8), (∀ d ∈ ds, d.length < 9223372036854775808) → ds.foldl (fun s d => joinM s (ofM d) d.length) (ofM xs) = ofM (xs ++ ds.flatten)
  | [], xs, _ => by rw [List.flatten_nil, List.append_nil]; rfl
  | d :: r, xs, h => by
    rw [List.foldl_cons, ← of_append xs d (h d List.mem_cons_self), chain_flat r (xs ++ d) (fun e he => h e (List.mem_cons_of_mem _ he)), List.flatten_cons, List.append_assoc]
theorem sum_flat (hd : List UInt8) (ds : List (List UInt8)) (h : ∀ d ∈ ds, d.length < 9223372036854775808) : sumM hd ds = ofM (putU hd 12 (leB 4 0) ++ ds.flatten) := chain_flat ds _ h

theorem one_spec {w : BitVec 32} {h : Heap} {K : Value → Heap → Prop} (hK : K (.int .u32 ((T w).toNat : Int)) h) : C.boleref01_one (w.toNat : Int) h K := by
  have hw := w.isLt
  have ed : Int.tdiv (w.toNat : Int) 2 = (((w >>> 1).toNat : Nat) : Int) := by
    rw [BitVec.toNat_ushiftRight, Nat.shiftRight_eq_div_pow, Int.tdiv_eq_ediv_of_nonneg (by omega)]; omega
  have em : Int.tmod (w.toNat : Int) 2 = ((w.toNat % 2 : Nat) : Int) := by rw [Int.tmod_eq_emod_of_nonneg (by omega)]; omega
  have hs := (w >>> 1).isLt
  have wr : IntKind.wrap .u32 (Int.tdiv (w.toNat : Int) 2) = (((w >>> 1).toNat : Nat) : Int) := by rw [ed, wrap_u32 ⟨by omega, by omega⟩]
  have bt : w.getLsbD 0 = decide (w.toNat % 2 = 1) := by rw [BitVec.getLsbD, Nat.testBit_zero]
  refine boleref01_one.ok (ce (fun hb => ?_) fun hb => ?_)
  · rw [em] at hb
    have hb' : w.getLsbD 0 = true := by rw [bt]; exact decide_eq_true (by omega)
    rw [T, hb', cond_true] at hK
    have eP : (3988292384 : Int) = (P.toNat : Int) := by decide
    rw [wr, eP, xor_int]; exact hK
  · rw [em] at hb
    have hb' : w.getLsbD 0 = false := by rw [bt]; exact decide_eq_false (by omega)
    rw [T, hb', cond_false, BitVec.xor_zero] at hK
    rw [wr]; exact hK
theorem Tn_succ (n : Nat) (w : BitVec 32) : T (Tn n w) = Tn (n + 1) w := by rw [Tn_add n 1]; rfl
theorem rOf_spec {a : Option Addr} {l c : Nat} {bs : List UInt8} {h : Heap} {K : Value → Heap → Prop} (B : StrAt h a l bs) (hl : l ≤ 140737488355328) (hK : K (.int .u32 (ofM bs)) h) : C.boleref01_Of a l c h K := by
  have hb := B.1
  refine boleref01_Of.ok ⟨fun v n hh => 0 ≤ n ∧ n ≤ l ∧ h = hh ∧ v = ((fb (bs.take n.toNat) M).toNat : Int), fun _ n _ => ((l : Int) - n).toNat, ⟨by omega, by omega, rfl, rfl⟩, ?_⟩
  rintro v n _ ⟨n0, n1, rfl, rfl⟩
  refine cd (fun hn => ?_) fun hn => ?_
  · have hn' : n.toNat < bs.length := by omega
    obtain ⟨p, rfl, c5⟩ : ∃ p, a = some p ∧ cellOf h (p.add n.toNat) = some (bv bs[n.toNat]) := by
      have c := B.2
      cases a with
      | none => have c : bs.map bv = [] := c; have := List.map_eq_nil_iff.mp c; rw [this] at hn'; exact absurd hn' (by simp)
      | some p => exact ⟨p, rfl, c n.toNat _ (by rw [List.getElem?_map, List.getElem?_eq_getElem hn']; rfl)⟩
    refine ⟨⟨n0, hn⟩, os ⟨_, c5, ?_⟩⟩
    have hbl : bs[n.toNat].toNat < 256 := bs[n.toNat].toNat_lt
    have e1 : IntKind.wrap .u32 (bs[n.toNat].toNat : Int) = ((BitVec.ofNat 32 bs[n.toNat].toNat).toNat : Int) := by
      rw [wrap_u32 ⟨by omega, by omega⟩, BitVec.toNat_ofNat, Nat.mod_eq_of_lt (by omega)]
    rw [e1, xor_int]
    refine ⟨fun w k hh => 0 ≤ k ∧ k ≤ ((8 : Nat) : Int) ∧ h = hh ∧ w = ((Tn k.toNat (fb (bs.take n.toNat) M ^^^ BitVec.ofNat 32 bs[n.toNat].toNat)).toNat : Int), fun _ k _ => (((8 : Nat) : Int) - k).toNat, ⟨by omega, by omega, rfl, rfl⟩, ?_⟩
    rintro w k _ ⟨k0, k1, rfl, rfl⟩
    refine cd (fun hk => one_spec ⟨_, rfl, ?_⟩) fun hk => ?_
    · rw [wrap_i64 (by omega) (by omega), Tn_succ, show k.toNat + 1 = (k + 1).toNat by omega]
      exact ⟨⟨by omega, by omega, rfl, rfl⟩, falls (m := 8) hk⟩
    · have e8 : k.toNat = 8 := by omega
      rw [e8, wrap_i64 (by omega) (by omega)]
      refine ⟨⟨by omega, by omega, rfl, ?_⟩, falls hn⟩
      rw [show (n + 1).toNat = n.toNat + 1 by omega, List.take_succ_eq_append_getElem hn', fb_append]
      have := step_bits (fb (bs.take n.toNat) M) bs[n.toNat]
      rw [step_word] at this
      rw [this]
      have e : allBits [bs[n.toNat]] = bitsOf bs[n.toNat] := by rw [allBits, List.flatMap_cons, List.flatMap_nil, List.append_nil]
      have e2 : ∀ x, fb [bs[n.toNat]] x = (bitsOf bs[n.toNat]).foldl g x := fun x => by rw [fb, e]
      rw [e2]
  · rw [List.take_of_length_le (by omega)]
    have em : (4294967295 : Int) = (M.toNat : Int) := rfl
    rw [em, xor_int, BitVec.xor_comm, ← of_fb]
    exact hK
end Go.Proofs.YtnlmieklakolkaaDoor.Cr
