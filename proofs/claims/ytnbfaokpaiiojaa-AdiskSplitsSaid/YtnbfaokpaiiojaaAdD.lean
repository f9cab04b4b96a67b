/-
  THE DISK of package adisk: copies of rows; a write.
-/
import Derived.Test.YtnbfaokpaiiojaaAdC
namespace Go.Proofs.Ytnbfaokpaiiojaa.Ad
open Go Go.Proofs Go.Proofs.Ytnbfaokpaiiojaa.Wx Go.Proofs.Ytnbfaokpaiiojaa.Hp Go.Proofs.Ytnbfaokpaiiojaa.W

theorem ClonesB_spec {a : Option Addr} {l c : Nat} {xs : List Bool} {h : Heap} {K : Value → Heap → Prop} (hx : xs.length = l) (B : SlCells h a (xs.map .bool)) (hl : l ≤ 140737488355328)
    (hK : ∀ a' c' h', Fr No h h' → Sl h' 1 a' l c' (xs.map .bool) (From h.size) → K (.slice a' l c') h') : C.slices_Clone_bool_bool a l c h K := by
  refine slices_Clone_bool_bool.ok (cs (fun e => ?_) fun _ => New.intro fun h2 n2 => ?_)
  · cases a with
    | none =>
      have B : xs.map Value.bool = [] := B
      have e2 : xs = [] := List.map_eq_nil_iff.mp B
      subst e2
      have : l = 0 := hx.symm
      subst this
      exact hK none 0 h (Fr.refl _ _) (Sl.nil _ _ _)
    | some p => simp at e
  · refine ⟨xs.map .bool, by rw [List.length_map, hx, Nat.mul_one], SlCells.fr n2.fr B (fun _ _ x => x), ?_, ?_⟩
    · intro v hv; obtain ⟨b, _, rfl⟩ := List.mem_map.mp hv; rfl
    · refine append_own (xs := []) (F := From h.size) (Sl.made n2 rfl (Nat.le_refl _) rfl (Nat.le_refl _) rfl) (by rw [List.length_map, hx]; exact (Nat.mul_one _).symm) rfl (by show (0 + l) * 1 ≤ _; omega) (by omega) fun a' c' h' f s => ?_
      rw [Nat.zero_add, List.nil_append] at s
      rw [Nat.zero_add]
      have := n2.size
      exact hK a' c' h' (n2.fr.trans f fun b hb e => by have : h.size ≤ b := e; omega) (s.mono fun b hb => by rcases hb with hb | hb; exact hb; show h.size ≤ b; omega)
theorem Clone_spec {a : Option Addr} {l c : Nat} {bs : List UInt8} {h : Heap} {K : Value → Heap → Prop} (B : StrAt h a l bs) (hl : l ≤ 140737488355328)
    (hK : ∀ a' c' h', Fr No h h' → Sl h' 1 a' l c' (bs.map bv) (From h.size) → K (.slice a' l c') h') : C.slices_Clone_byte_byte a l c h K := by
  have hbl := B.1
  refine slices_Clone_byte_byte.ok (cs (fun e => ?_) fun _ => New.intro fun h2 n2 => ?_)
  · cases a with
    | none =>
      have e1 := B.2
      have e2 : bs.map bv = [] := e1
      have e2 : bs = [] := List.map_eq_nil_iff.mp e2
      subst e2
      have : l = 0 := hbl.symm
      subst this
      exact hK none 0 h (Fr.refl _ _) (Sl.nil _ _ _)
    | some p => simp at e
  · obtain ⟨s1, s2, s3⟩ := StrAt.src (StrAt.fr n2.fr B (fun _ _ x => x))
    refine ⟨_, s1, s2, s3, ?_⟩
    refine append_own (xs := []) (F := From h.size) (Sl.made n2 rfl (Nat.le_refl _) rfl (Nat.le_refl _) rfl) s1 rfl (by show (0 + l) * 1 ≤ _; omega) (by omega) fun a' c' h' f s => ?_
    rw [Nat.zero_add, List.nil_append] at s
    rw [Nat.zero_add]
    have := n2.size
    exact hK a' c' h' (n2.fr.trans f fun b hb e => by have : h.size ≤ b := e; omega) (s.mono fun b hb => by rcases hb with hb | hb; exact hb; show h.size ≤ b; omega)
end Go.Proofs.Ytnbfaokpaiiojaa.Ad
