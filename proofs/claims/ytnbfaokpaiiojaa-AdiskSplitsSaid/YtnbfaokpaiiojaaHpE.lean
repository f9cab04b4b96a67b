/-
  WRITES INTO ROWS.
-/
import Derived.Test.YtnbfaokpaiiojaaHpD
namespace Go.Proofs.Ytnbfaokpaiiojaa.Hp
open Go Go.Proofs Go.Proofs.Ytnbfaokpaiiojaa.Wx

theorem drop_put (X new : List Value) (o j n : Nat) (h1 : j + new.length ≤ n) (h2 : o + n ≤ X.length) : ((put X (o + j) new).drop o).take n = put ((X.drop o).take n) j new := by
  apply List.ext_getElem?
  intro i
  have hl : ((X.drop o).take n).length = n := by rw [List.length_take, List.length_drop]; omega
  rw [put_get _ _ _ _ (by rw [hl]; exact h1), List.getElem?_take, List.getElem?_take, List.getElem?_drop, List.getElem?_drop]
  by_cases hi : i < n
  · rw [if_pos hi, if_pos hi, put_get _ _ _ _ (by omega)]
    by_cases hj : j ≤ i ∧ i < j + new.length
    · rw [if_pos (by omega), if_pos hj]; congr 1; omega
    · rw [if_neg (by omega), if_neg hj]
  · rw [if_neg hi, if_neg hi, if_neg (by omega)]
/-- cells are written inside of a row -/
theorem Sl.putAt {h h' : Heap} {ec l c b o j : Nat} {xs new : List Value} {F : Nat → Prop} (s : Sl h ec (some ⟨b, o, none⟩) l c xs F) (hj : j + new.length ≤ l * ec)
    (d : Did b h h' (put (rd h b) (o + j) new)) : Sl h' ec (some ⟨b, o, none⟩) l c (put xs j new) F := by
  obtain ⟨h1, a1, a2, a3, a4, a5, a6⟩ := s
  have hm : l * ec ≤ c * ec := Nat.mul_le_mul_right _ a4
  simp only at a2 a3 a5 a6
  refine ⟨by rw [put_length, h1], rfl, a2, d.own, a4, ?_, ?_⟩
  · simp only [d.rd, put_length, h1]
    rw [drop_put _ _ _ _ _ hj (by omega), ← h1, a5]
  · simp only [d.rd, put_length]; exact a6
theorem Sl.putPart {α : Type} {f : α → List Value} {w : Nat} {h h' : Heap} {l c b o i : Nat} {xs : List α} {y : α} {F : Nat → Prop} (s : Sl h w (some ⟨b, o, none⟩) l c (xs.flatMap f) F)
    (hw : ∀ x ∈ xs, (f x).length = w) (hi : i < xs.length) (hy : (f y).length = w) (d : Did b h h' (put (rd h b) (o + i * w) (f y))) : Sl h' w (some ⟨b, o, none⟩) l c ((xs.set i y).flatMap f) F := by
  have h1 := s.1
  rw [flat_length f w xs hw] at h1
  have : (i + 1) * w ≤ xs.length * w := Nat.mul_le_mul_right _ hi
  rw [Nat.add_mul, Nat.one_mul] at this
  rw [← put_part f w xs hw i hi y hy]
  exact s.putAt (by rw [hy]; omega) d
/-- a row in a new block -/
theorem Sl.made {h h' : Heap} {ec l c : Nat} {xs zs cs : List Value} {F : Nat → Prop} (n : Newly h h' cs) (e : cs = xs ++ zs) (hF : F h.size) (hx : xs.length = l * ec) (hl : l ≤ c) (hz : zs.length = (c - l) * ec) :
    Sl h' ec (some ⟨h.size, 0, none⟩) l c xs F := by
  refine ⟨hx, rfl, hF, n.own, hl, ?_, ?_⟩
  · simp only [n.rd, e, List.drop_zero, List.take_left]
  · simp only [n.rd, e, List.length_append, hx, hz, Nat.zero_add]
    rw [← Nat.add_mul]; exact Nat.mul_le_mul_right _ (by omega)
theorem Sl.wr {h : Heap} {ec l c b o : Nat} {xs : List Value} {F : Nat → Prop} (s : Sl h ec (some ⟨b, o, none⟩) l c xs F) : Own h b ∧ o + l * ec ≤ (rd h b).length := by
  obtain ⟨h1, a1, a2, a3, a4, a5, a6⟩ := s
  have hm : l * ec ≤ c * ec := Nat.mul_le_mul_right _ a4
  simp only at a6
  exact ⟨a3, by omega⟩
theorem Sl.mk {h : Heap} {ec l c : Nat} {p : Addr} {xs : List Value} {F : Nat → Prop} (s : Sl h ec (some p) l c xs F) : p = ⟨p.block, p.off, none⟩ := by
  obtain ⟨b, o, sp⟩ := p
  have : sp = none := s.2.1
  rw [this]
theorem CopyP.intro {elem : TI} {b o n m c : Nat} {src : Option Addr} {new : List Value} {h : Heap} {k : Nat → Heap → Prop} (hn : new.length = min m n * elem.cells) (hs : SlCells h src new) (h1 : ∀ v ∈ new, v.oneCell' = true)
    (w : Own h b) (hl : o + new.length ≤ (rd h b).length) (H : ∀ h', Did b h h' (put (rd h b) o new) → k (min m n) h') : CopyP elem (some ⟨b, o, none⟩) n (.slice src m c) h k := by
  refine ⟨new, hn, hs, h1, ?_, H _ ?_⟩
  · simp only [WrS, Addr.add_zero]; exact wrN_rd w (by omega)
  · simp only [setS, Addr.add_zero]
    exact ⟨size_setRow _ _ _ _, Fr.setRow (F := fun x => x = b) (Or.inl rfl) (Fr.refl _ h), own_setRow w, by rw [rd_setRow_at, Nat.add_zero]⟩
end Go.Proofs.Ytnbfaokpaiiojaa.Hp
