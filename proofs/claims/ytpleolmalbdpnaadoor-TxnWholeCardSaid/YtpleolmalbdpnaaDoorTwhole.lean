/-
  THE ROW AND THE CARD OF TxnWhole.
-/
import Derived.Test.YtpleolmalbdpnaaDoorTb6
import Derived.Test.YtpleolmalbdpnaaDoorTxW
namespace Go.Proofs.YtpleolmalbdpnaaDoor
open Go Go.ChangeShapes Go.WideShapes Go.ChangeAt Go.RowKit Go.Proofs.YtpleolmalbdpnaaDoor.Wx Go.Proofs.YtpleolmalbdpnaaDoor.Hp Go.Proofs.YtpleolmalbdpnaaDoor.Gl

theorem trodAll_five {H : Type} {enc : TypeId × Value → H} {P : Program} {w : World} {base : Nat} {spare : Nat → Bool} {held : Bool} {t t' t'' t3 t4 : TypeId} {args : Array Value} {ds : List (DataW H)} {ps : List MemPlace} (h : DataW.TrodAll enc P w base spare held [t, t', t'', t3, t4] args.toList ds ps) :
    ∃ v v' v'' v3 v4 d d' d'' d3 d4 p p' p'' p3 p4, args = #[v, v', v'', v3, v4] ∧ ds = [d, d', d'', d3, d4] ∧ ps = p ++ p' ++ p'' ++ p3 ++ p4 ∧ DataW.Trod enc P w base spare held t v d p ∧ DataW.Trod enc P w base spare held t' v' d' p' ∧ DataW.Trod enc P w base spare held t'' v'' d'' p'' ∧ DataW.Trod enc P w base spare held t3 v3 d3 p3 ∧ DataW.Trod enc P w base spare held t4 v4 d4 p4 := by
  obtain ⟨v, vs, d, ds', p, q, hargs, rfl, rfl, hd, hrest⟩ := trodAll_cons h
  obtain ⟨v', vs', d', ds1, p', q', rfl, rfl, rfl, hd', hrest'⟩ := trodAll_cons hrest
  obtain ⟨v'', vs'', d'', ds2, p'', q'', rfl, rfl, rfl, hd'', hrest''⟩ := trodAll_cons hrest'
  obtain ⟨v3, vs3, d3, ds3, p3, q3, rfl, rfl, rfl, hd3, hrest3⟩ := trodAll_cons hrest''
  obtain ⟨v4, vs4, d4, ds4, p4, q4, rfl, rfl, rfl, hd4, hrest4⟩ := trodAll_cons hrest3
  obtain ⟨rfl, rfl, rfl⟩ := trodAll_nil hrest4
  exact ⟨v, v', v'', v3, v4, d, d', d'', d3, d4, p, p', p'', p3, p4, by cases args; simp_all, rfl, by simp, hd, hd', hd'', hd3, hd4⟩
theorem Tryd.bytesBool6 : Tryd.prog.bytesOf 4 = 1 := by kernel_rfl
theorem one_bool {H : Type} {enc : TypeId × Value → H} {W : World} (n : Nat) (cs : List Value) (y : DataW H × List MemPlace) (h : DataW.trod enc Tryd.prog W 0 (fun _ => true) true n 4 cs = some y) : ∃ x : Bool, cs = [Value.bool x] := by
  obtain ⟨b, e, _⟩ := DataW.trod_bool Tryd.underlying4 h
  exact ⟨b, e⟩
theorem laid_met (os : Os) : laidMet Tryd.prog Rows.txnWholeRow.laid ((laidWorld os).forCall (fun _ _ => 0) ⟨#[], #[.slice none 0 0, .int .i64 0, .slice none 0 0, .int .i64 0, .slice none 0 0], []⟩).memory :=
  laidMet_of_run' 8 (by kernel_rfl) (by kernel_rfl)
theorem reads (os : Os) {H : Type} (enc : TypeId × Value → H) : ∃ places, DataW.whole enc Tryd.prog ((laidWorld os).forCall (fun _ _ => 0) ⟨#[], #[.slice none 0 0, .int .i64 0, .slice none 0 0, .int .i64 0, .slice none 0 0], []⟩).memory Tryd.f9.params.toList Rows.txnWholeSpec.vars false #[Value.slice none 0 0, .int .i64 0, .slice none 0 0, .int .i64 0, .slice none 0 0].toList 8 = some ([.nil, .lit (.int .i64 0), .nil, .lit (.int .i64 0), .nil], [], places) :=
  ⟨[], by kernel_rfl⟩
set_option maxRecDepth 100000 in
theorem twhole_lifted (os : Os) (started : os.Started) (H : Type) (enc : TypeId × Value → H) (F : Stop.Interp) :
    ReturnsInHanded {} Tryd.checked os 9 .any ((OpenSpec.ofChange Rows.txnWholeSpec).preRow enc Tryd.prog Tryd.f9 Rows.txnWholeRow.domain false Rows.txnWholeRow.laid) (((OpenSpec.ofChange Rows.txnWholeSpec).at F).post enc Tryd.prog Tryd.f9 false true false false) := by
  obtain ⟨places, hx⟩ := reads os enc
  refine lifted_row (C := Tryd.checked) (P := Tryd.prog) (s := Rows.txnWholeSpec) (tb := 4) rfl Tryd.own started (by kernel_rfl) Tryd.func9
    (witness_row_at (enc := enc) (C := Tryd.checked) false (laidWorld os) #[.slice none 0 0, .int .i64 0, .slice none 0 0, .int .i64 0, .slice none 0 0] rfl (by kernel_rfl) (by kernel_rfl) (by kernel_rfl)
      (OpenSpec.preRow_of_cond 8 hx (by kernel_rfl) (fun k hk => by cases hk) (by kernel_rfl) (laid_met os)))
    Tryd.laidOut (by kernel_rfl) (by kernel_rfl) Tryd.underlying4 rfl ?_ ?_
  · intro ds hl
    rw [Tryd.params9] at hl
    match ds, hl with
    | [_, _, _, _, _], _ => exact ⟨rfl, rfl, rfl⟩
  · intro W base args ds ps hval hA hsz hL
    rw [Tryd.params9] at hA hval hsz
    obtain ⟨v0, v1, v2, v3, v4, d0, d1, d2, d3, d4, p0, p1, p2, p3, p4, rfl, rfl, rfl, h0, h1, h2, h3, h4⟩ := trodAll_five hA
    obtain ⟨a, l, c, xs, rfl, L, hcl, _, _⟩ := open_row (α := Txl.Pt) Txl.ptV (fun _ => rfl) Tryd.underlying63 Tryd.cellsPut (hval 0 63 v0 rfl rfl) h0 one_put
    obtain ⟨at0, rfl, rfl, rfl, wat⟩ := open_int Tryd.underlying3 (hval 1 3 v1 rfl rfl) h1
    obtain ⟨a2, l2, c2, ys, rfl, B2, hy, hlc2, room2⟩ := open_row (α := Bool) (fun b => [Value.bool b]) (fun _ => rfl) Tryd.underlying55 Tryd.cellsBool (hval 2 55 v2 rfl rfl) h2 one_bool
    obtain ⟨ag0, rfl, rfl, rfl, wag⟩ := open_int Tryd.underlying3 (hval 3 3 v3 rfl rfl) h3
    obtain ⟨a4, l4, c4, zs, rfl, B4, hz, hlc4, room4⟩ := open_row (α := Bool) (fun b => [Value.bool b]) (fun _ => rfl) Tryd.underlying55 Tryd.cellsBool (hval 4 55 v4 rfl rfl) h4 one_bool
    have m2 := light_room (light_arg hsz (j := 2) rfl rfl) Tryd.underlying55 room2
    have m4 := light_room (light_arg hsz (j := 4) rfl rfl) Tryd.underlying55 room4
    rw [Tryd.bytesBool6] at m2 m4
    rw [flat_map1] at B2 B4
    subst hcl
    exact Txl.TxnWhole_spec (tables hL) L hy B2 (by omega) hz B4 (by omega) true_mk
theorem twhole_said : Rows.TxnWholeSaid :=
  OpenClaim.holds_of_cond 9 Tryd.f9 rfl rfl rfl rfl rfl rfl rfl ⟨rfl, rfl, rfl, rfl, rfl⟩ rfl rfl rfl rfl rfl (by kernel_rfl) Tryd.func9 (by kernel_rfl)
    (of_decide_eq_true (by kernel_rfl)) (by unfold Func.isWrapper; first | (rw [if_pos (by decide +kernel)]; kernel_rfl) | (rw [if_neg (by decide +kernel)]; exact ⟨rfl, rfl⟩))
    (fun os started H enc _ F => by rw [OpenClaim.pre_eq_preRow]; exact twhole_lifted os started H enc F)
theorem twhole_plain (f : FuncId) (fn : Func) (hf : Tryd.pinned.checked.prog.funcNamed "bole/bolelaw06.TxnWhole" = some f) (hfn : Tryd.pinned.checked.prog.funcs[f]? = some fn) :
    true = Tryd.pinned.checked.prog.looks [] ∧ ∀ (j : Nat) t, fn.params[j]? = some t → Tryd.pinned.checked.prog.wantsStandIn t = false := by
  obtain rfl : f = 9 := Option.some.inj ((show Tryd.prog.funcNamed "bole/bolelaw06.TxnWhole" = some 9 by kernel_rfl).symm.trans hf) |>.symm
  obtain rfl : fn = Tryd.f9 := (Option.some.inj (Tryd.func9.symm.trans hfn)).symm
  refine ⟨by kernel_rfl, fun j t ht => ?_⟩
  rw [Tryd.params9] at ht
  have := Array.mem_of_getElem? ht
  have : t = 63 ∨ t = 3 ∨ t = 55 ∨ t = 3 ∨ t = 55 := by simpa using this
  have this : t = 63 ∨ t = 3 ∨ t = 55 := by
    rcases this with h | h | h | h | h <;> simp [h]
  rcases this with rfl | rfl | rfl
  · exact (show Tryd.prog.wantsStandIn 63 = false by kernel_rfl)
  · exact (show Tryd.prog.wantsStandIn 3 = false by kernel_rfl)
  · exact (show Tryd.prog.wantsStandIn 55 = false by kernel_rfl)
theorem txnWhole_card : Rows.TxnWholeCardSaid :=
  Claim7.holds_tied_plain_at .later [] _ _ _ _ twhole_said (fun _ h => by cases h) (by kernel_rfl) (fun _ h => by cases h) txnWhole_row_tie rfl ⟨rfl, rfl⟩ (by kernel_rfl) rfl twhole_plain (by kernel_rfl)
end Go.Proofs.YtpleolmalbdpnaaDoor
