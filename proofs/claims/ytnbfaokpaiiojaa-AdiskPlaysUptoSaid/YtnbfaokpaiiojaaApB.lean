/-
  bolelaw03.AdiskPlays: the book of all that was answered: bytes.
-/
import Derived.Test.YtnbfaokpaiiojaaApA
namespace Go.Proofs.Ytnbfaokpaiiojaa.Ap
open Go Go.Proofs Go.Proofs.Ytnbfaokpaiiojaa.Wx Go.Proofs.Ytnbfaokpaiiojaa.Hp Go.Proofs.Ytnbfaokpaiiojaa.W Go.Proofs.Ytnbfaokpaiiojaa.Ad Go.Proofs.Ytnbfaokpaiiojaa.L3 Go.Proofs.Ytnbfaokpaiiojaa.Rf

/-- a list of bytes in the book -/
structure Hb where
  a : Option Addr
  l : Nat
  c : Nat
  n : Nat
  mark : UInt8
  want : List UInt8
  kept : Bool
  bs : List UInt8
def Hb.cells (x : Hb) : List Value := [.slice x.a x.l x.c, .int .i64 (x.n : Nat), bv x.mark, .string (mkStr x.want), .bool x.kept]
theorem Hb.one (x : Hb) : ∀ v ∈ x.cells, v.oneCell' = true := by
  intro v hv
  simp only [Hb.cells, List.mem_cons, List.not_mem_nil, or_false] at hv
  rcases hv with rfl | rfl | rfl | rfl | rfl <;> rfl
structure Hb.Ok (h : Heap) (col : Nat → Nat) (k : Nat) (x : Hb) : Prop where
  sl : Sl h 1 x.a x.l x.c (x.bs.map bv) (On col k)
  yes : x.kept = true → x.bs = x.want ∧ x.n = x.l
  no : x.kept = false → x.bs = List.replicate (x.n + 3) x.mark
  max : x.n ≤ 140737488355000
theorem Hb.Ok.keep {h h' : Heap} {col col' : Nat → Nat} {k : Nat} {x : Hb} (o : x.Ok h col k) {F : Nat → Prop} (f : Fr F h h') (g : Ag h.size col col') (hF : ∀ b, col b = k → ¬ F b) : x.Ok h' col' k :=
  ⟨o.sl.keep f g hF, o.yes, o.no, o.max⟩
/-- full of its mark, and longer by three -/
def Hb.grow (x : Hb) (a : Option Addr) (c : Nat) : Hb := { x with a := a, l := x.n + 3, c := c, bs := List.replicate (x.n + 3) x.mark }
theorem grown_spec {h : Heap} {col : Nat → Nat} {k : Nat} {x : Hb} {K : Value → Heap → Prop} (s : Sl h 1 x.a x.l x.c (x.bs.map bv) (On col k)) (hl : x.n = x.l) (hm : x.n ≤ 140737488355000)
    (hK : ∀ a c h', Fr (On col k) h h' → Sl h' 1 a (x.n + 3) c ((List.replicate (x.n + 3) x.mark).map bv) (On (upd col h.size k) k) → K (.agg ⟨(x.grow a c).cells⟩) h') : C.bolelaw03_Held_grown x.cells h K := by
  refine bolelaw03_Held_grown.ok (New.intro fun h3 n3 => New.intro fun h4 n4 => ?_)
  have z3 := n3.size
  have z4 := n4.size
  have hbl : x.bs.length = x.l := by have := s.1; rw [List.length_map] at this; omega
  refine ⟨fun i hh => ∃ (j : Nat) (ys : List UInt8), i = j ∧ j ≤ x.n ∧ Fr (On col k) h hh ∧ rd hh h.size = x.cells ∧ Own hh h.size ∧ Own hh h3.size ∧ (rd hh h3.size).length = 5 ∧ h4.size ≤ hh.size ∧ ys.length = x.l ∧ Sl hh 1 x.a x.l x.c (ys.map bv) (fun b => On col k b ∧ b < h.size) ∧ ys.take j = List.replicate j x.mark, fun i _ => ((x.n : Int) - i).toNat,
    ⟨0, x.bs, rfl, Nat.zero_le _, (n3.fr.new n4).mono fun _ _ y => y.elim, (n4.at_ (by omega)).trans n3.rd, n4.ow n3.own, n4.own, by rw [n4.rd]; rfl, Nat.le_refl _, hbl, ((L3.Sl.bound s).fr n3.fr fun _ _ _ y => y).fr n4.fr fun _ _ _ y => y, rfl⟩, ?_⟩
  rintro i h5 ⟨j, ys, ei, hj, f5, r5, o5, o5', l5, z5, yl, s5, ey⟩
  refine ⟨_, rda r5 rfl, cd (fun hlt => ?_) fun hlt => ?_⟩
  · have hj' : j < x.n := by omega
    have ein : i.toNat = j := by omega
    obtain ⟨p, ep, cp⟩ := s5.get (by omega)
    refine ⟨_, _, _, rda r5 rfl, _, rda r5 rfl, ⟨by omega, by omega⟩, ?_⟩
    rw [ep, ein, wrap_i64 (n := i + 1) (by omega) (by omega)]
    rw [ep] at s5
    have e := s5.mk
    obtain ⟨b, o, sp⟩ := p
    have e : sp = none := by simpa using e
    subst e
    obtain ⟨w1, w2⟩ := s5.wr
    have hb : On col k b ∧ b < h.size := s5.2.2.1
    refine os (Put.add w1 (by omega) fun h6 d6 => ?_)
    have z6 := d6.size
    have s6 := s5.putAt (j := j) (new := [bv x.mark]) (by rw [List.length_singleton]; omega) d6
    rw [show put (ys.map bv) j [bv x.mark] = (ys.map bv).set j (bv x.mark) from rfl, ← List.map_set] at s6
    refine ⟨⟨j + 1, ys.set j x.mark, by omega, by omega, f5.did d6 fun _ => hb.1, (d6.at_ (by omega) (by omega)).trans r5, d6.ow o5, d6.ow o5', by rw [d6.at_ (by omega) (by omega)]; exact l5, by omega, by rw [List.length_set]; exact yl, s6, ?_⟩, by show ((x.n : Int) - (i + 1)).toNat < ((x.n : Int) - i).toNat; omega⟩
    rw [take_snoc _ _ (by rw [List.length_set]; omega), List.getElem_set_self, List.take_set_of_le (Nat.le_refl _), ey, List.replicate_succ']
  · have ej : j = x.n := by omega
    have eys : ys = List.replicate x.n x.mark := by rw [← ej, ← ey, List.take_of_length_le (by omega)]
    refine ⟨_, _, _, rda r5 rfl, _, rda r5 rfl, _, rda r5 rfl, _, rda r5 rfl, New.intro fun h7 n7 => ?_⟩
    have z7 := n7.size
    refine ⟨[bv x.mark, bv x.mark, bv x.mark], rfl, cellsAll n7.rd, by intro v hv; simp only [List.mem_cons, List.not_mem_nil, or_false] at hv; rcases hv with rfl | rfl | rfl <;> rfl, ?_⟩
    refine append_own (s5.fr n7.fr fun _ _ _ y => y) rfl rfl (by show (x.l + 3) * 1 ≤ _; omega) (by omega) fun a' c' h8 f8 s8 => ?_
    have z8 := f8.size
    have nb : ∀ b, h.size ≤ b → ¬ (On col k b ∧ b < h.size) := fun b hb y => by have := y.2; omega
    have r8 : rd h8 h.size = x.cells := (f8.rd (by omega) (nb _ (Nat.le_refl _))).trans ((n7.at_ (by omega)).trans r5)
    have o8 : Own h8 h.size := f8.own (by omega) (nb _ (Nat.le_refl _)) (n7.ow o5)
    refine Put.add o8 (by rw [r8]; exact (by decide : 0 + 0 < 5)) fun h9 d9 => ?_
    have z9 := d9.size
    rw [r8] at d9
    have r9 : rd h9 h.size = (x.grow a' c').cells := by rw [d9.rd]; show _ = [Value.slice a' (x.n + 3) c', _, _, _, _]; rw [hl]; rfl
    refine ⟨_, rfl, cellsAll r9, ?_⟩
    have o9 : Own h9 h3.size := d9.ow (f8.own (by omega) (nb _ (by omega)) (n7.ow o5'))
    have l9 : (rd h9 h3.size).length = 5 := by rw [d9.at_ (by omega) (by omega), f8.rd (by omega) (nb _ (by omega)), n7.at_ (by omega)]; exact l5
    refine PutRow.intro o9 rfl (Hb.one _) (by rw [l9]; decide) fun h10 d10 => ⟨(x.grow a' c').cells, rfl, cellsAll (by rw [d10.rd]; exact put_all _ _ (by rw [l9]; rfl)), ?_⟩
    have F10 : Fr (On col k) h h10 := (((f5.new n7).trans f8 fun b hb y => y.1).did d9 fun y => by omega).did d10 fun y => by omega
    refine hK a' c' h10 F10 ?_
    have e3 : (List.replicate (x.n + 3) x.mark).map bv = ys.map bv ++ [bv x.mark, bv x.mark, bv x.mark] := by
      rw [eys, ← List.replicate_append_replicate, List.map_append]; rfl
    rw [e3, hl]
    have s10 : Sl h10 1 a' (x.l + 3) c' (ys.map bv ++ [bv x.mark, bv x.mark, bv x.mark]) (fun b => (On col k b ∧ b < h.size) ∨ h7.size ≤ b) := (s8.fr d9.fr fun b _ y e => by have e : b = h.size := e; exact y.elim (fun y => by have := y.2; omega) fun y => by omega).fr d10.fr fun b _ y e => by have e : b = h3.size := e; exact y.elim (fun y => by have := y.2; omega) fun y => by omega
    exact s10.mono fun b hb => by
      rcases hb with hb | hb
      · have e : upd col h.size k b = col b := ag_upd _ _ _ _ hb.2
        show upd col h.size k b = k
        rw [e]; exact hb.1
      · exact upd_ge (by omega)
end Go.Proofs.Ytnbfaokpaiiojaa.Ap
