/-
  PACKAGE bolelaw03: a fresh disk, and what stands on it.
-/
import Derived.Test.YtnbfaokpaiiojaaL3D
import Derived.Test.YtnbfaokpaiiojaaAdH
namespace Go.Proofs.Ytnbfaokpaiiojaa.L3
open Go Go.Proofs Go.Proofs.Ytnbfaokpaiiojaa.Wx Go.Proofs.Ytnbfaokpaiiojaa.Hp Go.Proofs.Ytnbfaokpaiiojaa.W Go.Proofs.Ytnbfaokpaiiojaa.Ad

def many (n : Int) : Nat := 1 + (n % 9).toNat
def blocks0 (n : Nat) : List (List UInt8) := (List.range n).map fun i => rep (UInt8.ofNat i)
theorem blocks0_len (n : Nat) : ∀ x ∈ blocks0 n, x.length = 512 := by
  intro x hx; obtain ⟨i, _, rfl⟩ := List.mem_map.mp hx; exact rep_length _
theorem join_length : ∀ (xs : List (List UInt8)), (∀ x ∈ xs, x.length = 512) → xs.flatten.length = xs.length * 512 := by
  intro xs
  induction xs with
  | nil => intro _; rfl
  | cons x r ih => intro h; rw [List.flatten_cons, List.length_append, ih (fun y hy => h y (List.mem_cons_of_mem _ hy)), h x (List.mem_cons_self ..), List.length_cons]; omega
theorem join_part : ∀ (xs : List (List UInt8)), (∀ x ∈ xs, x.length = 512) → ∀ (i : Nat) (hi : i < xs.length), (xs.flatten.drop (i * 512)).take 512 = xs[i] := by
  intro xs
  induction xs with
  | nil => intro _ i hi; exact absurd hi (by simp)
  | cons x r ih =>
    intro hw i hi
    have hx := hw x (List.mem_cons_self ..)
    rw [List.flatten_cons]
    cases i with
    | zero => rw [Nat.zero_mul, List.drop_zero, List.take_left' hx]; rfl
    | succ i =>
      rw [Nat.add_mul, Nat.one_mul, Nat.add_comm, ← List.drop_drop, List.drop_left' hx]
      exact ih (fun y hy => hw y (List.mem_cons_of_mem _ hy)) i (by simpa using hi)
theorem chunks_of (xs : List (List UInt8)) (h : ∀ x ∈ xs, x.length = 512) : chunks xs.flatten = xs := by
  have hl := join_length xs h
  apply List.ext_getElem
  · rw [chunks_length, hl]; omega
  · intro i h1 h2
    rw [chunks_get _ h1, join_part xs h i h2]
theorem fresh_spec {n : Int} {h : Heap} {K : Value → Heap → Prop} (col : Nat → Nat) (m k : Nat) (hk : k < m ∨ m + 5 < k) (hf : Free h col m)
    (hK : ∀ q a c h' col', Fr No h h' → Ag h.size col col' → DiskAt h' (some q) (fresh (blocks0 (many n))) col' m → (∀ b, m ≤ col' b → col' b ≤ m + 5 → h.size ≤ b) →
      Sl h' 1 a (many n * 512) c ((blocks0 (many n)).flatten.map bv) (On col' k) → (∀ p, a = some p → h.size ≤ p.block) → K (.tuple #[.pointer (some q), .slice a (many n * 512) c]) h') : C.bolelaw03_fresh n h K := by
  have hm0 := Int.emod_nonneg n (show (9 : Int) ≠ 0 by decide)
  have hm1 := Int.emod_lt_of_pos n (show (0 : Int) < 9 by decide)
  have hN : (many n : Int) = 1 + n % 9 := by unfold many; omega
  refine bolelaw03_fresh.ok ?_
  refine ⟨fun a l c i hh => 0 ≤ i ∧ i ≤ many n ∧ l = i.toNat * 512 ∧ Fr No h hh ∧ Sl hh 1 a l c ((blocks0 i.toNat).flatten.map bv) (From h.size), fun _ _ _ i _ => ((many n : Nat) - i).toNat,
    ⟨by omega, by omega, rfl, Fr.refl _ _, Sl.nil _ _ _⟩, ?_⟩
  rintro a l c i h2 ⟨i0, i1, hl, f2, s2⟩
  refine mod_spec (by decide) (by decide) ⟨_, rfl, ?_⟩
  rw [wrap_i64 (by omega) (by omega), ← hN]
  have hs2 := f2.size
  refine cd (fun hi => ?_) fun hi => ?_
  · have hb : IntKind.wrap .u8 i = ((UInt8.ofNat i.toNat).toNat : Int) := by
      rw [wrap_u8 (by omega) (by omega), UInt8.toNat_ofNat']; omega
    rw [hb]
    refine block_spec fun h4 f4 o4 r4 => ⟨_, _, _, rfl, (rep (UInt8.ofNat i.toNat)).map bv, by rw [List.length_map, rep_length], cellsAll r4, bv_one _, ?_⟩
    have hs4 := f4.size
    refine append_own (s2.fr f4 fun _ _ _ x => x) (by rw [List.length_map, rep_length]; rfl) rfl (by show (l + 512) * 1 ≤ _; omega) (by omega) fun a' c' h5 f5 s5 => ?_
    rw [wrap_i64 (by omega) (by omega)]
    have ht : (i + 1).toNat = i.toNat + 1 := by omega
    refine ⟨⟨by omega, by omega, by omega, ?_, ?_⟩, falls hi⟩
    · exact (f2.no f4).trans f5 (fun b hb e => by have : h.size ≤ b := e; omega)
    · have e : (blocks0 (i.toNat + 1)).flatten.map bv = (blocks0 i.toNat).flatten.map bv ++ (rep (UInt8.ofNat i.toNat)).map bv := by
        rw [blocks0, List.range_succ, List.map_append, List.flatten_append, List.map_append]; simp [blocks0]
      rw [ht, e]
      exact s5.mono fun b hb => by rcases hb with hb | hb; exact hb; show h.size ≤ b; omega
  have e : i.toNat = many n := by omega
  rw [e] at hl s2
  have s2c : Sl h2 1 a l c ((blocks0 (many n)).flatten.map bv) (On (upd col h.size k) k) := s2.mono fun b hb => upd_ge hb
  have hfl := join_length _ (blocks0_len (many n))
  have hbl : (blocks0 (many n)).length = many n := by rw [blocks0, List.length_map, List.length_range]
  have hf2 := hf.upd (k := k) hk h2
  have hmany : 1 ≤ many n ∧ many n ≤ 9 := by omega
  refine Open_spec (upd col h.size k) m hf2 s2.str s2.le (by omega) (fun bad => by omega) fun y1 y2 y3 q h6 col6 f6 g6 D6 => ⟨_, _, rfl, cn (fun x => absurd rfl x) fun _ => cf rfl ?_⟩
  rw [chunks_of _ (blocks0_len _)] at D6
  have hlen : (fresh (blocks0 (many n))).lasts.length = many n := hbl
  refine Ad.Blocks_spec D6 ⟨_, rfl, mod_spec (by decide) (by decide) ⟨_, rfl, ?_⟩⟩
  rw [hlen, wrap_i64 (by omega) (by omega), ← hN]
  refine cn (fun x => absurd rfl x) fun _ => Ad.Down_spec D6 ⟨_, rfl, cf rfl ?_⟩
  have hlast : readAt (fresh (blocks0 (many n))) (n % 9).toNat = rep (UInt8.ofNat (n % 9).toNat) := by
    have : (n % 9).toNat < many n := by omega
    simp only [readAt, readFrom, fresh, List.foldl_nil, List.getD_eq_getElem?_getD, blocks0, List.getElem?_map, List.getElem?_range this]
    rfl
  refine mod_spec (by decide) (by decide) ⟨_, rfl, Read_spec D6 (fun x => Bool.noConfusion x) (fun _ x => absurd ⟨hm0, by rw [hlen]; omega⟩ x) fun _ _ _ b h12 f12 hb12 o12 r12 l12 => ⟨_, _, _, _, rfl, cn (fun x => absurd rfl x) fun _ => ?_⟩⟩
  rw [hlast] at r12 l12
  refine ⟨_, strAll r12 l12, mod_spec (by decide) (by decide) ⟨_, rfl, by rw [toList_mkStr]; exact strAll r12 l12, ?_⟩⟩
  have hb : IntKind.wrap .u8 (n % 9) = ((UInt8.ofNat (n % 9).toNat).toNat : Int) := by
    rw [wrap_u8 (by omega) (by omega), UInt8.toNat_ofNat']; omega
  rw [hb]
  refine block_spec fun h14 f14 o14 r14 => ⟨_, _, _, rfl, by rw [toList_mkStr]; exact strAll ((f14.rd o12.lt (fun x => x)).trans r12) l12, _, strAll r14 (rep_length _), cnot (ct (beq_self_eq_true _) ?_)⟩
  have F14 := f12.no f14
  have g : Ag h.size col col6 := (ag_upd _ _ _).trans g6 hs2
  rw [hl]
  refine hK q a c h14 col6 ((f2.no f6).no F14) g (D6.keep F14 (Ag.refl _ _) (fun _ _ _ x => x)) (fun b c1 c2 => Nat.le_trans hs2 (hf2.new g6 c1 c2)) ?_ ?_
  · rw [← hl]
    exact ((s2c.keep f6 g6 (fun _ _ x => x)).fr F14 (fun _ _ _ x => x))
  · intro p hp; subst hp; exact s2.2.2.1
end Go.Proofs.Ytnbfaokpaiiojaa.L3
