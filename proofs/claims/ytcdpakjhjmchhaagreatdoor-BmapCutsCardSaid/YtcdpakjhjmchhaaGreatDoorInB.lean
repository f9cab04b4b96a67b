/-
  PACKAGE inode: records to bytes and back.
-/
import Derived.Test.YtcdpakjhjmchhaaGreatDoorInW
namespace Go.Proofs.YtcdpakjhjmchhaaGreatDoor.In
open Go Go.Proofs Go.Proofs.YtcdpakjhjmchhaaGreatDoor.Wx Go.Proofs.YtcdpakjhjmchhaaGreatDoor.Hp Go.Proofs.YtcdpakjhjmchhaaGreatDoor.W Go.Proofs.YtcdpakjhjmchhaaGreatDoor.Su Go.Proofs.YtcdpakjhjmchhaaGreatDoor.Re Go.Proofs.YtcdpakjhjmchhaaGreatDoor.Hd

theorem ints_one (ns : List Int) : ∀ v ∈ ints ns, v.oneCell' = true := by
  intro v hv; obtain ⟨n, _, rfl⟩ := List.mem_map.mp hv; rfl
theorem ints_length (ns : List Int) : (ints ns).length = ns.length := List.length_map ..
theorem numbers_spec {R : List Int} {h : Heap} {K : Value → Heap → Prop} (hR : R.length = 15) (hK : ∀ h', Fr No h h' → K (.agg ⟨ints (R.drop 3)⟩) h') : C.inode_numbers (ints R) h K := by
  match R, hR with
  | [k, l, s, d0, d1, d2, d3, d4, d5, d6, d7, d8, d9, x, y], _ =>
    refine inode_numbers.ok (New.intro fun h2 n2 => New.intro fun h3 n3 => New.intro fun h4 n4 => ?_)
    have s2 := n2.size
    have s3 := n3.size
    have s4 := n4.size
    have r4 : rd h4 h.size = ints [k, l, s, d0, d1, d2, d3, d4, d5, d6, d7, d8, d9, x, y] := (n4.at_ (by omega)).trans ((n3.at_ (by omega)).trans n2.rd)
    refine CopyP.intro (new := ints [d0, d1, d2, d3, d4, d5, d6, d7, d8, d9]) rfl (show Cells h4 _ _ from cellsa r4 rfl) (ints_one _) n4.own (by rw [n4.rd]; show 10 ≤ 12; omega) fun h5 q5 => ?_
    have r5 : rd h5 h3.size = ints [d0, d1, d2, d3, d4, d5, d6, d7, d8, d9, 0, 0] := q5.rd.trans (by rw [n4.rd]; rfl)
    have r5x := (q5.at_ (c := h.size) (by omega) (by omega)).trans r4
    refine ⟨x, rda r5x rfl, y, rda r5x rfl, ⟨by omega, by omega⟩, Put.add q5.own (by rw [r5]; show 0 + 10 < 12; omega) fun h6 q6 => ⟨⟨by omega, by omega⟩, Put.add q6.own (by rw [q6.rd, r5]; show 0 + 11 < 12; omega) fun h7 q7 => ?_⟩⟩
    have r7 : rd h7 h3.size = ints [d0, d1, d2, d3, d4, d5, d6, d7, d8, d9, x, y] := q7.rd.trans (by rw [q6.rd, r5]; rfl)
    have w2 : Own h7 h2.size := q7.ow (q6.ow (q5.ow (n4.ow n3.own)))
    have e2 : (rd h7 h2.size).length = 12 := by
      rw [q7.at_ (by have := q6.size; have := q5.size; omega) (by omega), q6.at_ (by have := q5.size; omega) (by omega), q5.at_ (by omega) (by omega), n4.at_ (by omega), n3.rd]; rfl
    refine ⟨_, rfl, cellsAll r7, PutRow.intro w2 rfl (ints_one _) (by rw [e2]; omega) fun h8 q8 => ⟨ints [d0, d1, d2, d3, d4, d5, d6, d7, d8, d9, x, y], rfl, cellsAll ?_, hK h8 ?_⟩⟩
    · rw [q8.rd, put_all _ _ (by rw [e2]; rfl)]
    · exact (((((n2.fr.new n3).new n4).did q5 fun _ => by omega).did q6 fun _ => by omega).did q7 fun _ => by omega).did q8 fun _ => by omega
end Go.Proofs.YtcdpakjhjmchhaaGreatDoor.In
