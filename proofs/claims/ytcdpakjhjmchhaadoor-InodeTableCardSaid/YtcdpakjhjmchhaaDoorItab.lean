/-
  THE ROW AND THE CARD OF InodeTable.
-/
import Derived.Test.YtcdpakjhjmchhaaDoorTb8
import Derived.Test.YtcdpakjhjmchhaaDoorInX
namespace Go.Proofs.YtcdpakjhjmchhaaDoor
open Go Go.ChangeShapes Go.WideShapes Go.ChangeAt Go.RowKit Go.Proofs.YtcdpakjhjmchhaaDoor.Wx Go.Proofs.YtcdpakjhjmchhaaDoor.Hp Go.Proofs.YtcdpakjhjmchhaaDoor.Gl

theorem laid_met (os : Os) : laidMet Tryd.prog Rows.inodeTableRow.laid ((laidWorld os).forCall (fun _ _ => 0) ⟨#[], #[.int .i64 0, .slice none 0 0, .slice none 0 0], []⟩).memory :=
  laidMet_of_run' 8 (by kernel_rfl) (by kernel_rfl)
theorem reads (os : Os) {H : Type} (enc : TypeId × Value → H) : ∃ places, DataW.whole enc Tryd.prog ((laidWorld os).forCall (fun _ _ => 0) ⟨#[], #[.int .i64 0, .slice none 0 0, .slice none 0 0], []⟩).memory Tryd.f5.params.toList Rows.inodeTableSpec.vars false #[Value.int .i64 0, .slice none 0 0, .slice none 0 0].toList 8 = some ([.lit (.int .i64 0), .nil, .nil], [], places) :=
  ⟨[], by kernel_rfl⟩
set_option maxRecDepth 100000 in
theorem itab_lifted (os : Os) (started : os.Started) (H : Type) (enc : TypeId × Value → H) (F : Stop.Interp) :
    ReturnsInHanded {} Tryd.checked os 5 .any ((OpenSpec.ofChange Rows.inodeTableSpec).preRow enc Tryd.prog Tryd.f5 Rows.inodeTableRow.domain false Rows.inodeTableRow.laid) (((OpenSpec.ofChange Rows.inodeTableSpec).at F).post enc Tryd.prog Tryd.f5 false true false false) := by
  obtain ⟨places, hx⟩ := reads os enc
  refine lifted_row (C := Tryd.checked) (P := Tryd.prog) (s := Rows.inodeTableSpec) (tb := 4) rfl Tryd.own started (by kernel_rfl) Tryd.func5
    (witness_row_at (enc := enc) (C := Tryd.checked) false (laidWorld os) #[.int .i64 0, .slice none 0 0, .slice none 0 0] rfl (by kernel_rfl) (by kernel_rfl) (by kernel_rfl)
      (OpenSpec.preRow_of_cond 8 hx (by kernel_rfl) (fun k hk => by cases hk) (by kernel_rfl) (laid_met os)))
    Tryd.laidOut (by kernel_rfl) (by kernel_rfl) Tryd.underlying4 rfl ?_ ?_
  · intro ds hl
    rw [Tryd.params5] at hl
    match ds, hl with
    | [_, _, _], _ => exact ⟨rfl, rfl, rfl⟩
  · intro W base args ds ps hval hA hsz hL
    rw [Tryd.params5] at hA hval hsz
    obtain ⟨v0, v1, v2, d0, d1, d2, p0, p1, p2, rfl, rfl, rfl, h0, h1, h2⟩ := trodAll_three hA
    obtain ⟨n, rfl, rfl, rfl, wn⟩ := open_int Tryd.underlying3 (hval 0 3 v0 rfl rfl) h0
    obtain ⟨a1, l1, c1, Rs, rfl, B1, hy1, hlc1, room1⟩ := open_row (α := { R : List Int // R.length = 15 }) (fun R => Hd.ints R.1) (fun R => by rw [In.ints_length]; exact R.2) Tryd.underlying50 Tryd.cellsInode (hval 1 50 v1 rfl rfl) h1 fun n cs y h => by
      obtain ⟨R, e, l⟩ := one_inode n cs y h
      exact ⟨⟨R, l⟩, e⟩
    obtain ⟨a2, l2, c2, xs, rfl, B2, hy2, hlc2, room2⟩ := open_row (α := Int) (fun x => [Value.int .i64 x]) (fun _ => rfl) Tryd.underlying22 Tryd.cellsInt (hval 2 22 v2 rfl rfl) h2 one_int
    have m1 := light_room (light_arg hsz (j := 1) rfl rfl) Tryd.underlying50 room1
    have m2 := light_room (light_arg hsz (j := 2) rfl rfl) Tryd.underlying22 room2
    rw [Tryd.bytesInode] at m1
    rw [Tryd.bytesInt] at m2
    rw [flat_map1] at B2
    have e1 : Rs.flatMap (fun R => Hd.ints R.1) = (Rs.map (·.1)).flatMap Hd.ints := by rw [List.flatMap_map]
    rw [e1] at B1
    have l1' : (Rs.map (·.1)).length = l1 := by rw [List.length_map]; exact hy1
    subst hy2
    rw [← l1']
    exact Ino.InodeTable_spec (table1 hL) B1 (fun R hR => by obtain ⟨S, _, rfl⟩ := List.mem_map.mp hR; exact S.2) (by omega) B2 (by omega) true_mk
theorem itab_said : Rows.InodeTableSaid :=
  OpenClaim.holds_of_cond 5 Tryd.f5 rfl rfl rfl rfl rfl rfl rfl ⟨rfl, rfl, rfl, rfl, rfl⟩ rfl rfl rfl rfl rfl (by kernel_rfl) Tryd.func5 (by kernel_rfl)
    (of_decide_eq_true (by kernel_rfl)) (by unfold Func.isWrapper; first | (rw [if_pos (by decide +kernel)]; kernel_rfl) | (rw [if_neg (by decide +kernel)]; exact ⟨rfl, rfl⟩))
    (fun os started H enc _ F => by rw [OpenClaim.pre_eq_preRow]; exact itab_lifted os started H enc F)
theorem itab_plain (f : FuncId) (fn : Func) (hf : Tryd.pinned.checked.prog.funcNamed "bole/bolelaw11.InodeTable" = some f) (hfn : Tryd.pinned.checked.prog.funcs[f]? = some fn) :
    false = Tryd.pinned.checked.prog.looks [] ∧ ∀ (j : Nat) t, fn.params[j]? = some t → Tryd.pinned.checked.prog.wantsStandIn t = false := by
  obtain rfl : f = 5 := Option.some.inj ((show Tryd.prog.funcNamed "bole/bolelaw11.InodeTable" = some 5 by kernel_rfl).symm.trans hf) |>.symm
  obtain rfl : fn = Tryd.f5 := (Option.some.inj (Tryd.func5.symm.trans hfn)).symm
  refine ⟨by kernel_rfl, fun j t ht => ?_⟩
  rw [Tryd.params5] at ht
  have := Array.mem_of_getElem? ht
  have : t = 3 ∨ t = 50 ∨ t = 22 := by simpa using this
  rcases this with rfl | rfl | rfl
  · exact (show Tryd.prog.wantsStandIn 3 = false by kernel_rfl)
  · exact (show Tryd.prog.wantsStandIn 50 = false by kernel_rfl)
  · exact (show Tryd.prog.wantsStandIn 22 = false by kernel_rfl)
theorem inodeTable_card : Rows.InodeTableCardSaid :=
  Claim7.holds_tied_plain_at .later [] _ _ _ _ itab_said (fun _ h => by cases h) (by kernel_rfl) (fun _ h => by cases h) inodeTable_row_tie rfl ⟨rfl, rfl⟩ (by kernel_rfl) rfl itab_plain (by kernel_rfl)
end Go.Proofs.YtcdpakjhjmchhaaDoor
