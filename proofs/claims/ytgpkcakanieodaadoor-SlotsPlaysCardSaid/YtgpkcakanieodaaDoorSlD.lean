/-
  bolelaw14: fixed; a byte that is turned.
-/
import Derived.Test.YtgpkcakanieodaaDoorSlC
namespace Go.Proofs.YtgpkcakanieodaaDoor.Ss
open Go Go.Proofs Go.Proofs.YtgpkcakanieodaaDoor.Wx Go.Proofs.YtgpkcakanieodaaDoor.Hp Go.Proofs.YtgpkcakanieodaaDoor.W Go.Proofs.YtgpkcakanieodaaDoor.Re Go.Proofs.YtgpkcakanieodaaDoor.Sk Go.Proofs.YtgpkcakanieodaaDoor.Ch

def Z : List UInt8 := List.replicate 512 0
theorem Z_length : Z.length = 512 := List.length_replicate
theorem Z_blk : Z = blk (List.replicate 16 (0, [])) := by decide +kernel
theorem rep_bytes : ∀ m, repCells [Value.int .u8 0] m = (List.replicate m (0 : UInt8)).map bv := fun m => by
  induction m with
  | zero => rfl
  | succ m ih => rw [List.replicate_succ, List.map_cons, ← ih]; rfl
/-- 512 new zeros -/
theorem zero_block {h h' : Heap} (n : Newly h h' (repCells z5 (Int.toNat 512))) : Sl h' 1 (some ⟨h.size, 0, none⟩) 512 512 (Z.map bv) (fun x => x = h.size) := by
  refine Sl.made (zs := []) n ?_ rfl (by rw [List.length_map, Z_length]) (Nat.le_refl _) rfl
  rw [List.append_nil]
  exact rep_bytes 512
theorem Glo.here {h : Heap} (g : Glo h) {F : Nat → Prop} {h' : Heap} (f : Fr F h h') (hF : ∀ b, b < 1 → ¬ F b) : Glo h' := g.fr f hF
def e2 : E := ⟨2, [97, 98], 258⟩
def B1 : List UInt8 := (putA Z e2).2
theorem B1_length : B1.length = 512 := (putA_length Z e2).trans Z_length
theorem p1 : (putA Z e2).1 = 0 := by decide +kernel
theorem a1 : ans B1 = ([e2], 0) := by decide +kernel
theorem l1 : lowA B1 = (0, 0) := by decide +kernel
theorem c1 : clrA B1 2 = (0, Z) := by decide +kernel
theorem t1 : (B1.drop 64).take 7 = [2, 1, 0, 0, 2, 97, 98] := by decide +kernel
/-- writes into a new block -/
theorem Wrote.no {h h1 h' : Heap} {b : Nat} {cs : List Value} (f : Fr No h h1) (hb : h.size ≤ b) (d : Wrote b h1 h' cs) : Fr No h h' := f.trans d.fr fun x hx e => by omega
theorem fixed_spec {h : Heap} {K : Value → Heap → Prop} (g : Glo h) (hK : ∀ h', Fr No h h' → K (.bool true) h') : C.bolelaw14_fixed h K := by
  have hg := g.lt
  refine bolelaw14_fixed.ok ⟨⟨by omega, by omega, by omega, by omega⟩, New.intro fun h2 n2 => ?_⟩
  have s2 := zero_block n2
  refine Put_spec (e := e2) (g.no n2.fr) hg s2 fun h3 d3 => ⟨_, rfl, ?_⟩
  have f3 := Wrote.no n2.fr (Nat.le_refl _) d3
  have s3 : Sl h3 1 (some ⟨h.size, 0, none⟩) 512 512 (B1.map bv) (fun x => x = h.size) := Sl.all s2 (putA_length Z e2) d3
  have g3 := g.no f3
  refine Read_spec (bs := B1) g3 s3.str s3.le fun h4 sa sl sc f4 s4 => ⟨_, _, _, _, rfl, ?_⟩
  rw [a1] at s4 ⊢
  have b4 := s3.fr f4 fun _ _ _ x => x
  refine Lowest_spec (bs := B1) (g3.no f4) b4.str b4.le fun h5 f5 => ⟨_, _, rfl, ?_⟩
  rw [p1, l1]
  have b5 := b4.fr f5 fun _ _ _ x => x
  have s5 := s4.fr f5 fun _ _ _ x => x
  have F5 := (f3.no f4).no f5
  refine cf rfl (cf rfl (cf rfl (cf rfl ⟨⟨by omega, by omega, by show (71 : Int) ≤ 512; omega⟩, (B1.drop 64).take 7, ?_, ?_⟩)))
  · exact StrAt.cut b5.str (Nat.le_refl 512) (i := 64) (j := 71) (by omega) (by omega)
  rw [t1]
  refine cf (by rw [toList_mkStr, beq_self_eq_true]; rfl) ⟨rfl, New.intro fun h6 n6 => ?_⟩
  have s6 := s5.fr n6.fr fun _ _ _ x => x
  have hsl : sl = 1 := by
    have : ([e2].flatMap E.v).length = sl * 3 := s6.1
    have e : ([e2].flatMap E.v).length = 3 := rfl
    omega
  refine sameEntries_spec (xs := [e2]) (ys := [e2]) s6.cells hsl.symm (cellsAll n6.rd) rfl (by omega) ⟨_, rfl, cf (by rw [decide_eq_true rfl]; rfl) ?_⟩
  have b6 := b5.fr n6.fr fun _ _ _ x => x
  refine Clear_spec b6 fun h9 d9 => ⟨_, rfl, ?_⟩
  rw [c1] at d9 ⊢
  have f9 := Wrote.no (F5.no n6.fr) (Nat.le_refl _) d9
  have b9 := Sl.all b6 (Z_length.trans B1_length.symm) d9
  refine ct rfl ⟨⟨by omega, by omega, by omega, by omega⟩, New.intro fun h10 n10 => ?_⟩
  have z10 := zero_block n10
  refine sameBytes_spec (b9.fr n10.fr fun _ _ _ x => x).str z10.str (by show (512 : Nat) ≤ _; omega) ⟨_, rfl, ?_⟩
  rw [decide_eq_true rfl]
  exact hK h10 (f9.no n10.fr)

/-! A byte is turned. -/
theorem xor_byte (a b : UInt8) : Value.int .u8 (bitsI .xor .u8 (a.toNat : Int) (b.toNat : Int)) = bv (a ^^^ b) := by
  show Value.int .u8 (IntKind.wrap .u8 (((BitVec.ofInt 8 (a.toNat : Int) ^^^ BitVec.ofInt 8 (b.toNat : Int)).toNat : Nat) : Int)) = Value.int .u8 ((a ^^^ b).toNat : Int)
  have ha := a.toNat_lt
  have hb := b.toNat_lt
  rw [BitVec.toNat_xor, BitVec.ofInt_natCast, BitVec.ofInt_natCast, BitVec.toNat_ofNat, BitVec.toNat_ofNat, Nat.mod_eq_of_lt ha, Nat.mod_eq_of_lt hb, ← UInt8.toNat_xor]
  have := (a ^^^ b).toNat_lt
  rw [wrap_u8 (by omega) (by omega)]
theorem xor_ne {a b : UInt8} (h : b ≠ 0) : a ^^^ b ≠ a := by
  intro e
  apply h
  have := congrArg (a ^^^ ·) e
  simp only [← UInt8.xor_assoc, UInt8.xor_self, UInt8.zero_xor] at this
  exact this
theorem set_ne {bs : List UInt8} {i : Nat} {x : UInt8} (hi : i < bs.length) (h : x ≠ bs[i]) : bs.set i x ≠ bs := by
  intro e
  have := congrArg (·[i]?) e
  simp only [List.getElem?_set_self hi, List.getElem?_eq_getElem hi, Option.some.injEq] at this
  exact h this
end Go.Proofs.YtgpkcakanieodaaDoor.Ss
