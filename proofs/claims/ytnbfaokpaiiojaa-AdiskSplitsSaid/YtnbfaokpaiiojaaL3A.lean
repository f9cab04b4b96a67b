/-
  PACKAGE bolelaw03: what its laws lean on.
-/
import Derived.Test.YtnbfaokpaiiojaaRfA
namespace Go.Proofs.Ytnbfaokpaiiojaa.L3
open Go Go.Proofs Go.Proofs.Ytnbfaokpaiiojaa.Wx Go.Proofs.Ytnbfaokpaiiojaa.Hp Go.Proofs.Ytnbfaokpaiiojaa.W Go.Proofs.Ytnbfaokpaiiojaa.Ad Go.Proofs.Ytnbfaokpaiiojaa.Rf

theorem bv_wrap (n : Int) : (Value.int .u8 (IntKind.wrap .u8 n)) = bv (UInt8.ofNat (n % 256).toNat) := by
  simp only [bv, Value.int.injEq, true_and, IntKind.wrap, IntKind.bits, IntKind.signed, Bool.false_and, Bool.false_eq_true, if_false, Int.reducePow]
  rw [UInt8.toNat_ofNat']
  omega
theorem Sl.bound {h : Heap} {ec l c : Nat} {a : Option Addr} {xs : List Value} {F : Nat → Prop} (s : Sl h ec a l c xs F) : Sl h ec a l c xs (fun b => F b ∧ b < h.size) := by
  obtain ⟨h1, h2⟩ := s
  refine ⟨h1, ?_⟩
  cases a with
  | none => exact h2
  | some p => obtain ⟨a1, a2, a3, a4⟩ := h2; exact ⟨a1, ⟨a2, a3.lt⟩, a3, a4⟩
theorem lent_spec {a : Option Addr} {l c : Nat} {bs : List UInt8} {h : Heap} {K : Value → Heap → Prop} (B : StrAt h a l bs) (hl : l < 140737488355328)
    (hK : ∀ a' c' h', Fr No h h' → Sl h' 1 a' (l + 1) c' ((bs ++ [165]).map bv) (fun b => h.size ≤ b ∧ b < h'.size) → K (.tuple #[.slice a' l c', .slice a' (l + 1) c']) h') : C.bolelaw03_lent a l c h K := by
  obtain ⟨s1, s2, s3⟩ := StrAt.src B
  refine bolelaw03_lent.ok ⟨_, s1, s2, s3, append_nil s1 rfl (by show l * 1 ≤ _; omega) (by omega) fun a1 c1 h1 f1 t1 => New.intro fun h3 n3 => ?_⟩
  refine ⟨[bv 165], rfl, cellsAll n3.rd, by intro v hv; rw [List.mem_singleton.mp hv]; rfl, ?_⟩
  refine append_own (t1.fr n3.fr fun _ _ _ x => x) rfl rfl (by show (l + 1) * 1 ≤ _; omega) (by omega) fun a2 c2 h4 f4 t4 => ?_
  have hs := f1.size
  have hs3 := n3.size
  have f := (f1.new n3).trans f4 (fun b hb e => by have : h.size ≤ b := e; omega)
  have t : Sl h4 1 a2 (l + 1) c2 ((bs ++ [165]).map bv) (From h.size) := by
    rw [List.map_append]
    exact t4.mono fun b hb => by rcases hb with hb | hb; exact hb; show h.size ≤ b; omega
  have := t.le
  refine ⟨by omega, ?_⟩
  rw [Int.toNat_natCast]
  exact hK _ _ _ f (Sl.bound t)
theorem kept1_spec {fa : Option Addr} {n fc : Nat} {xs : List UInt8} {h : Heap} {ok : Bool} {K : Value → Heap → Prop} {F : Nat → Prop} (s : Sl h 1 fa n fc (xs.map bv) F) (hn : n ≤ 140737488355328)
    (hK : ∀ h', Fr F h h' → K (.bool ok) h') : bolelaw03_kept.k1 fa n h ok K := by
  refine ⟨fun i hh => 0 ≤ i ∧ i ≤ n ∧ Fr F h hh ∧ ∃ ys : List UInt8, Sl hh 1 fa n fc (ys.map bv) F, fun i _ => ((n : Int) - i).toNat, ⟨by omega, by omega, Fr.refl _ _, _, s⟩, ?_⟩
  rintro i h2 ⟨i0, i1, f2, ys, s2⟩
  refine cd (fun hi => ?_) fun hi => hK _ f2
  obtain ⟨p, rfl, c⟩ := s2.get (by omega)
  have e := s2.mk
  obtain ⟨b, o, sp⟩ := p
  have e : sp = none := by simpa using e
  subst e
  have hl := s2.1
  have hi' : i.toNat < (ys.map bv).length := by rw [hl]; omega
  obtain ⟨w1, w2⟩ := s2.wr
  have hb : F b := s2.2.2.1
  refine ⟨⟨i0, hi⟩, _, c i.toNat _ (by rw [List.getElem?_eq_getElem hi', List.getElem_map]; rfl), ⟨i0, hi⟩, os (Put.add w1 (by omega) fun h3 d3 => ?_)⟩
  rw [bv_wrap] at d3
  rw [wrap_i64 (by omega) (by omega)]
  refine ⟨⟨by omega, by omega, f2.did d3 (fun _ => hb), ?_⟩, falls (m := n) hi⟩
  have s3 := s2.putAt (j := i.toNat) (new := [_]) (by rw [List.length_singleton]; omega) d3
  rw [show put (ys.map bv) i.toNat [_] = (ys.map bv).set i.toNat _ from rfl, ← List.map_set] at s3
  exact ⟨_, s3⟩
theorem kept_spec {fa ba : Option Addr} {l fc bc : Nat} {bs : List UInt8} {h : Heap} {K : Value → Heap → Prop} {F : Nat → Prop} (s : Sl h 1 fa (l + 1) fc ((bs ++ [165]).map bv) F) (B : StrAt h ba l bs) (hl : l < 140737488355328)
    (hK : ∀ h', Fr F h h' → K (.bool true) h') : C.bolelaw03_kept fa (l + 1) fc ba l bc h K := by
  have hbl := B.1
  have hle := s.le
  refine bolelaw03_kept.ok ⟨by omega, bs, ?_, bs, B, ct (by simp) ⟨by omega, ?_⟩⟩
  · rw [Int.toNat_natCast]
    have := StrAt.take s.str (n := l) (by omega)
    rw [← hbl, List.take_left] at this
    rw [← hbl]; exact this
  obtain ⟨p, rfl, c⟩ := s.get (by omega)
  have k := kept1_spec (ok := true) s (by omega) hK
  refine ⟨165, ?_, k⟩
  rw [Int.toNat_natCast]
  exact c l _ (by rw [List.map_append, List.getElem?_append_right (by rw [List.length_map]; omega), List.length_map, hbl, Nat.sub_self]; rfl)
end Go.Proofs.Ytnbfaokpaiiojaa.L3
