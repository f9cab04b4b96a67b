/-
  THE ROW AND THE CARD OF HeadOnce.
-/
import Derived.Test.YtnlmieklakolkaaDoorCards
import Derived.Test.YtnlmieklakolkaaDoorTie
import Derived.Test.YtnlmieklakolkaaDoorGlE
import Derived.Test.YtnlmieklakolkaaDoorHdC
namespace Go.Proofs.YtnlmieklakolkaaDoor
open Go Go.ChangeShapes Go.WideShapes Go.ChangeAt Go.RowKit Go.Proofs.YtnlmieklakolkaaDoor.Wx Go.Proofs.YtnlmieklakolkaaDoor.Hp Go.Proofs.YtnlmieklakolkaaDoor.Gl

theorem Tryd.own : ownKnob Tryd.prog.godebug = none := by kernel_rfl
theorem Tryd.laidOut : laidOutB Tryd.prog = true := by kernel_rfl
theorem Tryd.cellsBool : Tryd.prog.cellsOf 4 = 1 := by kernel_rfl
theorem Tryd.cellsByte : Tryd.prog.cellsOf 5 = 1 := by kernel_rfl
theorem Tryd.cellsBytes : Tryd.prog.cellsOf 26 = 1 := by kernel_rfl
theorem Tryd.cellsWord : Tryd.prog.cellsOf 49 = 1 := by kernel_rfl
theorem Tryd.cellsHalf : Tryd.prog.cellsOf 135 = 16 := by kernel_rfl
theorem Tryd.cellsWide : Tryd.prog.cellsOf 126 = 9 := by kernel_rfl
theorem Tryd.gWide : Tryd.prog.globalNamed "bole/rec.widths" = some 0 := by kernel_rfl
theorem Tryd.gHalf : Tryd.prog.globalNamed "bole/sum.half" = some 1 := by kernel_rfl
theorem Tryd.tWide : (Tryd.prog.globals[0]?).map (·.type) = some 126 := by kernel_rfl
theorem Tryd.tHalf : (Tryd.prog.globals[1]?).map (·.type) = some 135 := by kernel_rfl
theorem Tryd.bytesBytes : Tryd.prog.bytesOf 26 = 24 := by kernel_rfl
theorem Tryd.bytesByte : Tryd.prog.bytesOf 5 = 1 := by kernel_rfl

/-- what the row's list gives -/
theorem tables {W : World} (h : laidMetH Tryd.prog Rows.headOnceRow.laid W) : Re.Glo W.heap := by
  obtain ⟨ps, ⟨g', t', cs, fuel, p, q, hg', ht', hvar, hd, ⟨g2, t2, cs2, fuel2, p2, q2, hg2, ht2, hvar2, hd2, _, _⟩, _⟩, _⟩ := h
  obtain rfl := Option.some.inj (Tryd.gWide.symm.trans hg')
  obtain rfl := Option.some.inj (Tryd.tWide.symm.trans ht')
  obtain rfl := Option.some.inj (Tryd.gHalf.symm.trans hg2)
  obtain rfl := Option.some.inj (Tryd.tHalf.symm.trans ht2)
  refine ⟨?_, ?_⟩
  · exact (rd_var Tryd.gHalf hvar2).trans (Lib.cells_of_tab (zs := Su.halfL) Tryd.underlying135 Tryd.underlying49 Tryd.cellsWord Tryd.cellsHalf hd2)
  · exact (rd_var Tryd.gWide hvar).trans (cells_of_bools (zs := Re.widthsL) Tryd.underlying126 Tryd.underlying4 Tryd.cellsBool Tryd.cellsWide hd)

def layO (cs : List Value) : Obj → Obj
  | .cells _ t frozen => .cells ⟨cs⟩ t frozen
  | o => o
/-- a world for the witness: the tables hold what their initialisers lay -/
noncomputable def laidWorld (os : Os) : World :=
  { World.holding Tryd.prog os ⟨#[], #[], []⟩ with heap := ((World.holding Tryd.prog os ⟨#[], #[], []⟩).heap.modify 0 (layO (Re.widthsL.map .bool))).modify 1 (layO (Su.halfL.map fun n => .int .u32 n)) }
theorem laid_met (os : Os) : laidMet Tryd.prog Rows.headOnceRow.laid ((laidWorld os).forCall (fun _ _ => 0) ⟨#[], #[.slice none 0 0, .int .i64 0, .slice none 0 0], []⟩).memory :=
  laidMet_of_run' 8 (by kernel_rfl) (by kernel_rfl)
theorem reads (os : Os) {H : Type} (enc : TypeId × Value → H) : ∃ places, DataW.whole enc Tryd.prog ((laidWorld os).forCall (fun _ _ => 0) ⟨#[], #[.slice none 0 0, .int .i64 0, .slice none 0 0], []⟩).memory Tryd.f5.params.toList Rows.headOnceSpec.vars false #[Value.slice none 0 0, .int .i64 0, .slice none 0 0].toList 8 = some ([.nil, .lit (.int .i64 0), .nil], [], places) :=
  ⟨[], by kernel_rfl⟩
def DatQ {H : Type} (W : World) (_d : DataW H) (s : Hd.Sc) : Prop := ∃ bs, StrAt W.heap s.a s.l bs
theorem one_bytes {H : Type} {enc : TypeId × Value → H} {W : World} (n : Nat) (cs : List Value) (y : DataW H × List MemPlace) (h : DataW.trod enc Tryd.prog W 0 (fun _ => true) true n 26 cs = some y) : ∃ x : Hd.Sc, cs = [x.v] ∧ DatQ W y.1 x := by
  obtain ⟨a, l, c, bs, e, B, _, _⟩ := inner_bytes Tryd.underlying26 Tryd.underlying5 Tryd.cellsByte h
  exact ⟨⟨a, l, c⟩, e, bs, B⟩
set_option maxRecDepth 100000 in
theorem once_lifted (os : Os) (started : os.Started) (H : Type) (enc : TypeId × Value → H) (F : Stop.Interp) :
    ReturnsInHanded {} Tryd.checked os 5 .any ((OpenSpec.ofChange Rows.headOnceSpec).preRow enc Tryd.prog Tryd.f5 Rows.headOnceRow.domain false Rows.headOnceRow.laid) (((OpenSpec.ofChange Rows.headOnceSpec).at F).post enc Tryd.prog Tryd.f5 false true false false) := by
  obtain ⟨places, hx⟩ := reads os enc
  refine lifted_row (C := Tryd.checked) (P := Tryd.prog) (s := Rows.headOnceSpec) (tb := 4) rfl Tryd.own started (by kernel_rfl) Tryd.func5
    (witness_row_at (enc := enc) (C := Tryd.checked) false (laidWorld os) #[.slice none 0 0, .int .i64 0, .slice none 0 0] rfl (by kernel_rfl) (by kernel_rfl) (by kernel_rfl)
      (OpenSpec.preRow_of_cond 8 hx (by kernel_rfl) (fun k hk => by cases hk) (by kernel_rfl) (laid_met os)))
    Tryd.laidOut (by kernel_rfl) (by kernel_rfl) Tryd.underlying4 rfl ?_ ?_
  · intro ds hl
    rw [Tryd.params5] at hl
    match ds, hl with
    | [_, _, _], _ => exact ⟨rfl, rfl, rfl⟩
  · intro W base args ds ps hval hA hsz hL
    rw [Tryd.params5] at hA hval hsz
    obtain ⟨v0, v1, v2, d0, d1, d2, p0, p1, p2, rfl, rfl, rfl, h0, h1, h2⟩ := trodAll_three hA
    obtain ⟨a, l, c, bs, rfl, B, hlc, room⟩ := open_bytes Tryd.underlying26 Tryd.underlying5 Tryd.cellsByte (hval 0 26 v0 rfl rfl) h0
    obtain ⟨n, rfl, rfl, rfl, wn⟩ := open_int Tryd.underlying3 (hval 1 3 v1 rfl rfl) h1
    obtain ⟨a2, l2, c2, ss, rfl, B2, hs, hlc2, room2, hq⟩ := open_rowQ (α := Hd.Sc) (fun s => [s.v]) (DatQ W) (fun _ => rfl) Tryd.underlying23 Tryd.cellsBytes (hval 2 23 v2 rfl rfl) h2 one_bytes
    rw [flat_map1] at B2
    have m0 := room_le hsz (j := 0) (t := 26) (e := 5) room rfl rfl Tryd.underlying26
    have m2 := room_le hsz (j := 2) (t := 23) (e := 26) room2 rfl rfl Tryd.underlying23
    rw [Tryd.bytesByte] at m0
    rw [Tryd.bytesBytes] at m2
    obtain ⟨bss, hbl, hbs⟩ := pick_list (p := fun i (b : List UInt8) => ∀ (hi : i < ss.length), StrAt W.heap ss[i].a ss[i].l b) ss.length fun i hi => by
      obtain ⟨_, _, b, S⟩ := hq i hi
      exact ⟨b, fun _ => S⟩
    exact Hd.HeadOnce_spec (tables hL) B hlc (by omega) ⟨B2, hs, hbl.symm, fun i g1 g2 => hbs i g2 g1⟩ (by omega) true_mk
theorem once_said : Rows.HeadOnceSaid :=
  OpenClaim.holds_of_cond 5 Tryd.f5 rfl rfl rfl rfl rfl rfl rfl ⟨rfl, rfl, rfl, rfl, rfl⟩ rfl rfl rfl rfl rfl (by kernel_rfl) Tryd.func5 (by kernel_rfl)
    (of_decide_eq_true (by kernel_rfl)) (by unfold Func.isWrapper; first | (rw [if_pos (by decide +kernel)]; kernel_rfl) | (rw [if_neg (by decide +kernel)]; exact ⟨rfl, rfl⟩))
    (fun os started H enc _ F => by rw [OpenClaim.pre_eq_preRow]; exact once_lifted os started H enc F)
theorem once_plain (f : FuncId) (fn : Func) (hf : Tryd.pinned.checked.prog.funcNamed "bole/bolelaw04.HeadOnce" = some f) (hfn : Tryd.pinned.checked.prog.funcs[f]? = some fn) :
    false = Tryd.pinned.checked.prog.looks [] ∧ ∀ (j : Nat) t, fn.params[j]? = some t → Tryd.pinned.checked.prog.wantsStandIn t = false := by
  obtain rfl : f = 5 := Option.some.inj ((show Tryd.prog.funcNamed "bole/bolelaw04.HeadOnce" = some 5 by kernel_rfl).symm.trans hf) |>.symm
  obtain rfl : fn = Tryd.f5 := (Option.some.inj (Tryd.func5.symm.trans hfn)).symm
  refine ⟨by kernel_rfl, fun j t ht => ?_⟩
  rw [Tryd.params5] at ht
  have := Array.mem_of_getElem? ht
  have : t = 26 ∨ t = 3 ∨ t = 23 := by simpa using this
  rcases this with rfl | rfl | rfl
  · exact (show Tryd.prog.wantsStandIn 26 = false by kernel_rfl)
  · exact (show Tryd.prog.wantsStandIn 3 = false by kernel_rfl)
  · exact (show Tryd.prog.wantsStandIn 23 = false by kernel_rfl)
theorem headOnce_card : Rows.HeadOnceCardSaid :=
  Claim7.holds_tied_plain_at .later [] _ _ _ _ once_said (fun _ h => by cases h) (by kernel_rfl) (fun _ h => by cases h) headOnce_row_tie rfl ⟨rfl, rfl⟩ (by kernel_rfl) rfl once_plain (by kernel_rfl)
end Go.Proofs.YtnlmieklakolkaaDoor
