/-
  PACKAGE bolelaw03: an order as an act.
-/
import Derived.Test.YtnbfaokpaiiojaaL3G
import Derived.Test.YtnbfaokpaiiojaaAdJ
namespace Go.Proofs.Ytnbfaokpaiiojaa.L3
open Go Go.Proofs Go.Proofs.Ytnbfaokpaiiojaa.Wx Go.Proofs.Ytnbfaokpaiiojaa.Hp Go.Proofs.Ytnbfaokpaiiojaa.W Go.Proofs.Ytnbfaokpaiiojaa.Ad

theorem act_spec {o : Ord} {N : Int} {h : Heap} {K : Value → Heap → Prop} (h0 : 0 < N) (h1 : N ≤ 4294967296)
    (k1 : o.flush = true → ∀ h', Fr No h h' → K (.agg ⟨Ent.cells ⟨2, o.at_, none, 0, 0⟩⟩) h')
    (k2 : o.flush = false → ∀ b h', Fr No h h' → h.size ≤ b → Own h' b → rd h' b = (rep o.fill).map bv → K (.agg ⟨Ent.cells ⟨1, o.at_ % N, some ⟨b, 0, none⟩, 512, 512⟩⟩) h') : C.bolelaw03_act o.cells N h K := by
  refine bolelaw03_act.ok (New.intro fun h2 n2 => New.intro fun h3 n3 => ?_)
  have r3 := (n3.at_ n2.own.lt).trans n2.rd
  have hs2 := n2.size
  have hs3 := n3.size
  refine ⟨_, rda r3 rfl, cs (fun e => ?_) fun e => ?_⟩
  · refine ⟨_, rda r3 rfl, PutRow.intro n3.own rfl ?_ (by rw [n3.rd]; exact Nat.le_refl 3) fun h4 d4 => ⟨Ent.cells ⟨2, o.at_, none, 0, 0⟩, rfl, cellsAll (by rw [d4.rd, put_all _ _ (by rw [n3.rd]; rfl)]; rfl), k1 e _ ((n2.fr.new n3).did d4 fun x => by omega)⟩⟩
    intro v hv; simp only [List.mem_cons, List.not_mem_nil, or_false] at hv; rcases hv with rfl | rfl | rfl <;> rfl
  · refine ⟨_, rda r3 rfl, _, rda r3 rfl, mod_spec h0 h1 ⟨_, rfl, rda r3 rfl, block_spec fun h6 f6 o6 r6 => ⟨_, _, _, rfl, ?_⟩⟩⟩
    have o36 := f6.own n3.own.lt (fun x => x) n3.own
    have r36 := (f6.rd n3.own.lt (fun x => x)).trans n3.rd
    refine PutRow.intro o36 rfl ?_ (by rw [r36]; exact Nat.le_refl 3) fun h7 d7 => ⟨Ent.cells ⟨1, o.at_ % N, some ⟨h3.size, 0, none⟩, 512, 512⟩, rfl, cellsAll (by rw [d7.rd, put_all _ _ (by rw [r36]; rfl)]; rfl), k2 e _ _ (((n2.fr.new n3).no f6).did d7 fun x => by omega) (by omega) (d7.ow o6) ((d7.at_ o6.lt (by omega)).trans r6)⟩
    intro v hv; simp only [List.mem_cons, List.not_mem_nil, or_false] at hv; rcases hv with rfl | rfl | rfl <;> rfl
end Go.Proofs.Ytnbfaokpaiiojaa.L3
