/-
  WHAT THE LAWS LOOK AT FIRST (fixed).
-/
import Derived.Test.YtnlmieklakolkaaDoorInD
namespace Go.Proofs.YtnlmieklakolkaaDoor.In
open Go Go.Proofs Go.Proofs.YtnlmieklakolkaaDoor.Wx Go.Proofs.YtnlmieklakolkaaDoor.Hp Go.Proofs.YtnlmieklakolkaaDoor.W Go.Proofs.YtnlmieklakolkaaDoor.Su Go.Proofs.YtnlmieklakolkaaDoor.Re Go.Proofs.YtnlmieklakolkaaDoor.Hd Go.Proofs.YtnlmieklakolkaaDoor.Tx

def L0 : Int → Option (List UInt8) := fun _ => none
def La : Int → Option (List UInt8) := putN L0 8 plainL
def Lb : Int → Option (List UInt8) := putN La 1 plainL
theorem f1 : mayR plainL = true := by decide +kernel
theorem f2 : recN La 1 = (z15, 0) := by decide +kernel
theorem f3 : recN Lb 8 = (plainL, 0) := by decide +kernel
theorem f4 : freeN Lb 15 = 13 := by decide +kernel
theorem f5 : ∀ j, j < 15 → (recN Lb (j + 1 : Nat)).2 = 0 := by decide +kernel
theorem f6 : (encR plainL).getD 8 0 = 101 := by decide +kernel
theorem f7 : decA (encR plainL) = (plainL, 0) := by decide +kernel
theorem f8 : decA (encR plainL ++ [0]) = (z15, 32) := by decide +kernel
theorem fixed_spec {h : Heap} {K : Value → Heap → Prop} (g : Glo h) (hK : ∀ h', Fr No h h' → K (.bool true) h') : C.bolelaw11_fixed h K := by
  have lR : plainL.length = 15 := rfl
  refine bolelaw11_fixed.ok (Tx.New_spec fun h2 p2 z2 zd2 => ⟨_, _, rfl, cn (fun x => absurd rfl x) fun _ => cf rfl ?_⟩)
  have F2 : Fr No h h2 := p2
  refine Of_spec fun h3 f3' => ⟨_, _, rfl, NewRow.intro rfl (ints_one geoL) rfl fun h5 n5 => ?_⟩
  have z3 := f3'.size
  have z5 := n5.size
  have F5 : Fr No h h5 := (F2.no f3').new n5
  have zd5 := zd2.fr (f3'.new n5) (fun x => x) fun x => x
  refine Tx.Begin_spec zd5 h.size F5.size fun h6 f6' z6 T6 => ⟨_, rfl, cn (fun x => absurd rfl x) fun _ => cf rfl ?_⟩
  have F6 : Fr No h h6 := F5.no f6'
  have g6 : rd h6 h3.size = ints geoL := (f6'.rd (by omega) fun x => x).trans n5.rd
  refine plain_spec fun h7 f7' => ⟨_, rfl, NewRow.intro rfl (ints_one plainL) rfl fun h9 n9 => ?_⟩
  have z7 := f7'.size
  have z9 := n9.size
  have F9 : Fr No h h9 := (F6.no f7').new n9
  have g9 : rd h9 h3.size = ints geoL := (n9.at_ (by omega)).trans ((f7'.rd (by omega) fun x => x).trans g6)
  have T9 := (T6.no f7').no n9.fr
  refine ⟨ints plainL, rfl, cellsAll n9.rd, Encode_spec (g.no F9) lR (fun x => by rw [f1] at x; cases x) fun _ eb h10 f10 heb s10 => ⟨_, _, _, _, rfl, ?_⟩⟩
  have z10 := f10.size
  have leb : eb < h10.size := s10.lt
  have F10 : Fr No h h10 := F9.no f10
  have T10 := T9.no f10
  have g10 : rd h10 h3.size = ints geoL := (f10.rd (by omega) fun x => x).trans g9
  have x10 : rd h10 h7.size = ints plainL := (f10.rd (by omega) fun x => x).trans n9.rd
  have B10 := s10.str
  have k1 : ¬ (h3.size = h5.size ∨ h3.size = h5.size + 1) := by omega
  have k2 : ¬ (h7.size = h5.size ∨ h7.size = h5.size + 1) := by omega
  have k3 : ¬ (eb = h5.size ∨ eb = h5.size + 1) := by omega
  have hs10 := F10.size
  refine ⟨ints geoL, rfl, cellsAll g10, ints plainL, rfl, cellsAll x10, Put_ispec (g.no F10) T10 F10.size (by decide) (by decide) (by decide) lR f1 fun S1 r1 h11 f11 hS1 T11 => ⟨_, rfl, ?_⟩⟩
  have z11 := f11.size
  have F11 : Fr No h h11 := F10.trans f11 fun b hb x => by have := T10.ge b x; omega
  have g11 : rd h11 h3.size = ints geoL := (f11.rd (by omega) k1).trans g10
  have x11 : rd h11 h7.size = ints plainL := (f11.rd (by omega) k2).trans x10
  have B11 := StrAt.fr f11 B10 fun p e => by cases e; exact k3
  have k1 : ¬ S1 h3.size := fun x => by rcases hS1 _ x with x | x; exact k1 x; omega
  have k2 : ¬ S1 h7.size := fun x => by rcases hS1 _ x with x | x; exact k2 x; omega
  have k3 : ¬ S1 eb := fun x => by rcases hS1 _ x with x | x; exact k3 x; omega
  have hs11 := F11.size
  refine ⟨ints geoL, rfl, cellsAll g11, ints plainL, rfl, cellsAll x11, Take_spec (g.no F11) T11 F11.size (by decide) lR f1 (by decide) f2 fun S2 r2 h12 f12 hS2 T12 => ⟨_, _, rfl, ?_⟩⟩
  have z12 := f12.size
  have F12 : Fr No h h12 := F11.trans f12 fun b hb x => by have := T11.ge b x; omega
  have g12 : rd h12 h3.size = ints geoL := (f12.rd (by omega) k1).trans g11
  have x12 : rd h12 h7.size = ints plainL := (f12.rd (by omega) k2).trans x11
  have B12 := StrAt.fr f12 B11 fun p e => by cases e; exact k3
  refine ⟨ints geoL, rfl, cellsAll g12, Get_spec (g.no F12) T12 (by decide) (by decide) fun h13 f13 => ?_⟩
  show ∃ (cs9 : List Value) (n7 : Int), Value.tuple #[.agg ⟨ints (recN Lb 8).1⟩, .int .i64 (recN Lb 8).2] = .tuple #[.agg ⟨cs9⟩, .int .i64 n7] ∧ _
  rw [f3]
  refine ⟨_, _, rfl, NewRow.intro rfl (ints_one plainL) rfl fun h15 n15 => ?_⟩
  have z13 := f13.size
  have z15' := n15.size
  have F15 : Fr No h12 h15 := f13.new n15
  have T15 := T12.no F15
  refine ⟨ints geoL, rfl, cellsAll ((F15.rd (by omega) fun x => x).trans g12), Free_spec (g.no (F12.no F15)) T15 f5 fun h16 f16 => ?_⟩
  show ∃ (n8 : Int) (n9 : Int), Value.tuple #[.int .i64 ((freeN Lb 15 : Nat) : Int), .int .i64 0] = .tuple #[.int .i64 n8, .int .i64 n9] ∧ _
  rw [f4]
  have z16 := f16.size
  have F16 : Fr No h12 h16 := F15.no f16
  refine ⟨_, _, rfl, New.intro fun h17 n17 => ⟨[bv 0], rfl, cellsAll n17.rd, bv_one [0], ?_⟩⟩
  have z17 := n17.size
  have F17 := F16.new n17
  have B17 := StrAt.fr F17 B12 fun _ _ x => x
  refine append_grow (old := (encR plainL).map bv) (by rw [List.length_map, encR_length lR]; rfl) B17.2 rfl rfl (by decide) (by decide) (by decide) fun c18 h18 f18 s18 => ?_
  have z18 := f18.size
  have F18 := F17.no f18
  have s18 : Sl h18 1 (some ⟨h17.size, 0, none⟩) 65 c18 ((encR plainL ++ [0]).map bv) (fun b => b = h17.size) := by rw [List.map_append]; exact s18
  refine Decode_spec (g.no (F12.no F18)) s18.str s18.le fun h19 f19 => ?_
  rw [f8]
  have z19 := f19.size
  refine ⟨_, _, rfl, NewRow.intro rfl (ints_one z15) rfl fun h21 n21 => ?_⟩
  have z21 := n21.size
  have F21 := (F18.no f19).new n21
  refine Decode_spec (g.no (F12.no F21)) (StrAt.fr F21 B12 fun _ _ x => x) (Nat.le_refl _) fun h22 f22 => ?_
  rw [f7]
  have z22 := f22.size
  refine ⟨_, _, rfl, NewRow.intro rfl (ints_one plainL) rfl fun h24 n24 => ?_⟩
  have F24 := (F21.no f22).new n24
  have B24 := StrAt.fr F24 B12 fun _ _ x => x
  have x24 : rd h24 h7.size = ints plainL := (F24.rd (by omega) fun x => x).trans x12
  have y24 : rd h24 h13.size = ints plainL := (n24.at_ (by omega)).trans ((f22.rd (by omega) fun x => x).trans ((n21.at_ (by omega)).trans ((f19.rd (by omega) fun x => x).trans ((f18.rd (by omega) fun x => x).trans ((n17.at_ (by omega)).trans ((f16.rd (by omega) fun x => x).trans n15.rd))))))
  have w24 : rd h24 h22.size = ints plainL := n24.rd
  have c8 : cellOf h24 (Addr.add ⟨eb, 0, none⟩ (Int.toNat 8)) = some (.int .u8 101) := by
    refine Cells.cell B24.2 ?_
    rw [List.getElem?_map]
    have e := f6
    rw [List.getD_eq_getElem?_getD] at e
    have hl : (8 : Int).toNat < (encR plainL).length := by rw [encR_length lR]; decide
    have e2 : (encR plainL)[(8 : Int).toNat]? = some ((encR plainL)[(8 : Int).toNat]'hl) := List.getElem?_eq_getElem hl
    rw [show (8 : Nat) = (8 : Int).toNat from rfl, e2] at e
    have e : (encR plainL)[(8 : Int).toNat]'hl = 101 := e
    rw [e2, e]; rfl
  have F : Fr No h h24 := F12.no F24
  refine ct rfl (ct rfl ⟨by decide, os ⟨_, c8, ct rfl (ct rfl (ct rfl (ct rfl (ct rfl ⟨ints plainL, rfl, cellsAll y24, ints plainL, rfl, cellsAll x24, rfl, ?_⟩))))⟩⟩)
  refine ct rfl (ct rfl (ct rfl (ct rfl (ct rfl ⟨ints plainL, rfl, cellsAll w24, ints plainL, rfl, cellsAll x24, rfl, hK h24 F⟩))))
end Go.Proofs.YtnlmieklakolkaaDoor.In
