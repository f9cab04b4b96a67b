/-
  LAW HeadExact, the whole.
-/
import Derived.Test.YtnlmieklakolkaaDoorHxA
namespace Go.Proofs.YtnlmieklakolkaaDoor.Cr
open Go Go.Proofs Go.Proofs.YtnlmieklakolkaaDoor.Wx Go.Proofs.YtnlmieklakolkaaDoor.Hp Go.Proofs.YtnlmieklakolkaaDoor.W Go.Proofs.YtnlmieklakolkaaDoor.Su Go.Proofs.YtnlmieklakolkaaDoor.Re Go.Proofs.YtnlmieklakolkaaDoor.Hd

/-- what Make answers -/
def makeM (ns : List Int) (ds : List (List UInt8)) : List UInt8 × Int :=
  if mayM ns 16384 = false then ([], 40) else if blM ds ns.length = false then ([], 32) else (laidM ns (sumM (laidM ns 0) ds).toNat, 0)
theorem make_length (ns : List Int) (ds : List (List UInt8)) : (makeM ns ds).1.length ≤ 512 := by
  unfold makeM
  split
  · exact Nat.zero_le _
  · rename_i hm
    split
    · exact Nat.zero_le _
    · have hm : mayM ns 16384 = true := by cases hq : mayM ns 16384 with | true => rfl | false => exact absurd hq hm
      have := mayM_mem hm
      show (laidM ns _).length ≤ 512
      rw [laid_length ns _ (by omega)]; exact Nat.le_refl _
theorem make_uni {na da : Option Addr} {nl nc dl dc : Nat} {ns : List Int} {ss : List Sc} {ds : List (List UInt8)} {h : Heap} {K : Value → Heap → Prop} (g : Glo h) (B : SlCells h na (ints ns)) (hn : ns.length = nl) (hnl : nl ≤ 140737488355328) (D : Dat h da dl ss ds) (hdl : dl ≤ 140737488355328)
    (hK : ∀ a' l' c' h', Fr No h h' → StrAt h' a' l' (makeM ns ds).1 → K (.tuple #[.slice a' l' c', .int .i64 (makeM ns ds).2]) h') : C.head_Make na nl nc da dl dc h K := by
  unfold makeM at hK
  refine Make_spec g B hn hnl D hdl (fun e h' f => ?_) (fun e1 e h' f => ?_) fun e1 e b h' f _ s => ?_
  · rw [if_pos e] at hK; exact hK none 0 0 h' f (StrAt.nil _ _)
  · rw [if_neg (by rw [e1]; exact fun x => by cases x), if_pos e] at hK; exact hK none 0 0 h' f (StrAt.nil _ _)
  · rw [if_neg (by rw [e1]; exact fun x => by cases x), if_neg (by rw [e]; exact fun x => by cases x)] at hK; exact hK _ 512 512 h' f s.str
theorem rMake_uni {na da : Option Addr} {nl nc dl dc : Nat} {ns : List Int} {ss : List Sc} {ds : List (List UInt8)} {h : Heap} {K : Value → Heap → Prop} (B : SlCells h na (ints ns)) (hn : ns.length = nl) (hnl : nl ≤ 140737488355328) (D : Dat h da dl ss ds) (hdl : dl ≤ 140737488355328)
    (hK : ∀ a' l' c' h', Fr No h h' → StrAt h' a' l' (makeM ns ds).1 → K (.tuple #[.slice a' l' c', .int .i64 (makeM ns ds).2]) h') : C.boleref04_Make na nl nc da dl dc h K := by
  unfold makeM at hK
  refine rMake_spec B hn hnl D hdl (fun e h' f => ?_) (fun e1 e h' f => ?_) fun e1 e a' c' h' f s => ?_
  · rw [if_pos e] at hK; exact hK none 0 0 h' f (StrAt.nil _ _)
  · rw [if_neg (by rw [e1]; exact fun x => by cases x), if_pos e] at hK; exact hK none 0 0 h' f (StrAt.nil _ _)
  · rw [if_neg (by rw [e1]; exact fun x => by cases x), if_neg (by rw [e]; exact fun x => by cases x)] at hK; exact hK a' 512 c' h' f s.str
theorem exact_loop {na da bA wA : Option Addr} {nl nc dl dc bL bC wL wC q : Nat} {n : Int} {b w : List UInt8} {ss : List Sc} {ds : List (List UInt8)} {h1 h13 : Heap} {K : Value → Heap → Prop} (g : Glo h13) (Bb : StrAt h13 bA bL b) (Bw : StrAt h13 wA wL w) (D : Dat h13 da dl ss ds)
    (rc : rd h13 h1.size = [.slice na nl nc, .slice da dl dc]) (R : RoomAt h13 q ds) (hb : bL ≤ 140737488351232) (hw : wL ≤ 140737488351232) (hdl : dl * 24 ≤ 140737488351232) (hK : ∀ h', Fr No h13 h' → K (.bool true) h') : bolelaw04_HeadExact.k1 bA bL bC n h1 (some ⟨q, 0, none⟩) wA wL wC h13 K := by
  have hn := D.num
  have hlen := D.len
  have hlt : h1.size < h13.size := rd_lt (show (rd h13 h1.size)[0]? = some _ by rw [rc]; rfl)
  refine New.intro fun h14 n14 => ?_
  have hs14 := n14.size
  refine ⟨fun i hh => 0 ≤ i ∧ i ≤ ((2 : Nat) : Int) ∧ Fr No h13 hh ∧ rd hh h13.size = [.slice bA bL bC, .slice wA wL wC], fun i _ => (((2 : Nat) : Int) - i).toNat, ⟨by omega, by omega, n14.fr, n14.rd⟩, ?_⟩
  rintro i h15 ⟨i0, i1, f15, r15⟩
  have hs15 := f15.size
  refine cd (fun hi => ?_) fun hi => ?_
  · obtain ⟨xA, xL, xC, x, ec, S, hxl⟩ : ∃ xA xL xC, ∃ x : List UInt8, cellOf h15 (Addr.add ⟨h13.size, 0, none⟩ (Int.toNat i)) = some (.slice xA xL xC) ∧ StrAt h15 xA xL x ∧ xL ≤ 140737488351232 := by
      by_cases e : i = 0
      · subst e; exact ⟨_, _, _, b, rda r15 rfl, StrAt.fr f15 Bb fun _ _ x => x, hb⟩
      · have e : i = 1 := by omega
        subst e; exact ⟨_, _, _, w, rda r15 rfl, StrAt.fr f15 Bw fun _ _ x => x, hw⟩
    have hx := S.1
    obtain ⟨q1, q2, q3⟩ := StrAt.src S
    refine ⟨⟨i0, by omega⟩, _, _, _, ec, New.intro fun h16 n16 => ⟨_, q1, SlCells.fr n16.fr q2 fun _ _ x => x, q3, ?_⟩⟩
    refine append_from (xs := []) n16.fr (Sl.made n16 rfl (Nat.le_refl _) rfl (Nat.le_refl _) rfl) q1 rfl (by show (0 + xL) * 1 ≤ _; omega) (by omega) fun a17 c17 h17 f17 s17 => ?_
    rw [Nat.zero_add, List.nil_append] at s17
    rw [Nat.zero_add]
    refine New.intro fun h18 n18 => ⟨[bv 108], rfl, cellsAll n18.rd, bv_one [108], ?_⟩
    refine append_from (f17.new n18) (s17.fr n18.fr fun _ _ _ x => x) rfl rfl (by show (xL + 1) * 1 ≤ _; omega) (by omega) fun a19 c19 h19 f19 s19 => ?_
    have s19 : Sl h19 1 a19 (xL + 1) c19 ((x ++ [108]).map bv) (From h15.size) := by rw [List.map_append]; exact s19
    have le19 := s19.le
    have B19 := s19.str
    have X19 := StrAt.take B19 (n := xL) (by omega)
    rw [← hx, List.take_left, hx] at X19
    have F19 := f15.trans f19 fun _ _ x => x
    have g19 := g.no F19
    refine ⟨⟨by omega, by omega⟩, ?_⟩
    rw [Int.toNat_natCast]
    refine Nums_spec (n := n) g19 X19 (by omega) (by omega) fun a20 l20 c20 h20 f20 e20 s20 => ⟨_, _, _, _, rfl, ?_⟩
    refine rNums_spec (n := n) (StrAt.fr f20 (StrAt.fr f19 S fun _ _ x => x) fun _ _ x => x) (by omega) fun a21 l21 c21 h21 f21 e21 s21 => ⟨_, _, _, _, rfl, ?_⟩
    have nl96 : (numsM x n).1.length ≤ 96 := by
      unfold numsM
      split
      · exact Nat.zero_le _
      · split
        · exact Nat.zero_le _
        · split
          · exact Nat.zero_le _
          · split
            · exact Nat.zero_le _
            · split
              · exact Nat.zero_le _
              · split
                · exact Nat.zero_le _
                · split
                  · exact Nat.zero_le _
                  · rw [numsL_length]; omega
    refine same_spec (s20.fr f21 fun _ _ _ x => x).cells s21.cells e20.symm e21.symm (by omega) ⟨_, rfl, cnot (ct rfl (cn (fun x => absurd rfl x) fun _ => ⟨⟨by omega, by omega⟩, ?_⟩))⟩
    have F21 := (F19.trans f20 fun _ _ x => x).trans f21 fun _ _ x => x
    have c21' : ∀ h', Fr No h13 h' → cellOf h' (Addr.add ⟨h1.size, 0, none⟩ 1) = some (.slice da dl dc) := fun h' f => rda ((f.rd hlt fun x => x).trans rc) rfl
    refine ⟨_, _, _, c21' _ F21, in_spec (R.fr F21) fun a22 c22 ss22 D22 => ⟨_, _, _, rfl, c21' _ F21, ?_⟩⟩
    have X21 := StrAt.fr f21 (StrAt.fr f20 X19 fun _ _ x => x) fun _ _ x => x
    refine Good_spec (n := n) (g.no F21) X21 (by omega) (by omega) D22 (by omega) fun h24 f24 => ⟨_, rfl, c21' _ (F21.trans f24 fun _ _ x => x), ?_⟩
    have F24 := F21.trans f24 fun _ _ x => x
    have SX : ∀ h', Fr No h15 h' → StrAt h' xA xL x := fun h' f => StrAt.fr f S fun _ _ x => x
    have F24' : Fr No h15 h24 := ((f19.trans f20 fun _ _ x => x).trans f21 fun _ _ x => x).trans f24 fun _ _ x => x
    refine rGood_spec (n := n) (SX _ F24') (by omega) (D.fr F24) (by omega) fun h25 f25 => ⟨_, rfl, cnot (ct (beq_self_eq_true _) ⟨⟨by omega, by omega⟩, x, ?_, x, SX _ (F24'.trans f25 fun _ _ x => x), cnot (ct (beq_self_eq_true _) ⟨⟨by omega, by omega⟩, ?_⟩)⟩)⟩
    · exact StrAt.fr f25 (StrAt.fr f24 X21 fun _ _ x => x) fun _ _ x => x
    have B25 := StrAt.fr f25 (StrAt.fr f24 (StrAt.fr f21 (StrAt.fr f20 B19 fun _ _ x => x) fun _ _ x => x) fun _ _ x => x) fun _ _ x => x
    have hl1 : xL < (x ++ [(108 : UInt8)]).length := by rw [List.length_append]; show xL < x.length + 1; omega
    obtain ⟨pt, ept, ct'⟩ := byte_get B25 hl1
    rw [ept]
    have e108 : (x ++ [(108 : UInt8)])[xL]'hl1 = 108 := by
      rw [List.getElem_append_right (by omega)]
      simp only [hx, Nat.sub_self, List.getElem_cons_zero]
    rw [e108] at ct'
    refine os ⟨_, ct', cf rfl ?_⟩
    rw [wrap_i64 (by omega) (by omega)]
    have F25 := F24.trans f25 fun _ _ x => x
    refine ⟨⟨by omega, by omega, F25, ?_⟩, falls (m := 2) hi⟩
    have F1525 := F24'.trans f25 fun _ _ x => x
    rw [F1525.rd (rd_lt (show (rd h15 h13.size)[0]? = some _ by rw [r15]; rfl)) (fun x => x)]; exact r15
  · refine ⟨_, _, _, rda ((f15.rd hlt fun x => x).trans rc) rfl, kept_spec (R.fr f15) (D.fr f15) hdl ⟨_, rfl, hK h15 f15⟩⟩
theorem HeadExact_spec {na da bA : Option Addr} {nl nc dl dc bL bC : Nat} {n : Int} {ns : List Int} {b : List UInt8} {ss : List Sc} {ds : List (List UInt8)} {h : Heap} {K : Value → Heap → Prop} (g : Glo h) (N : SlCells h na (ints ns)) (hns : ns.length = nl) (hnl : nl * 8 ≤ 140737488351232)
    (D : Dat h da dl ss ds) (hdl : dl * 24 ≤ 140737488351232) (hd : ∀ d ∈ ds, d.length ≤ 140737488351232) (B : StrAt h bA bL b) (hb : bL ≤ 140737488351232) (hK : ∀ h', Fr No h h' → K (.bool true) h') : C.bolelaw04_HeadExact [.slice na nl nc, .slice da dl dc] bA bL bC n h K := by
  refine bolelaw04_HeadExact.ok (New.intro fun h2 n2 => ?_)
  have hs2 := n2.size
  refine known_spec (g.no n2.fr) fun h3 f3 => ⟨_, rfl, cnot (ct rfl ?_)⟩
  have F3 : Fr No h h3 := n2.fr.no f3
  have r3 : rd h3 h.size = [.slice na nl nc, .slice da dl dc] := (f3.rd n2.own.lt fun x => x).trans n2.rd
  have hlt3 : h.size < h3.size := rd_lt (show (rd h3 h.size)[0]? = some _ by rw [r3]; rfl)
  have cell : ∀ h', Fr No h3 h' → rd h' h.size = [.slice na nl nc, .slice da dl dc] := fun h' f => (f.rd hlt3 fun x => x).trans r3
  refine ⟨_, _, _, rda r3 rfl, _, _, _, rda r3 rfl, room_spec (D.fr F3) hdl hd fun h4 f4 R4 => ⟨_, rfl, rda (cell h4 f4) rfl, ?_⟩⟩
  refine ints_spec (SlCells.fr (F3.no f4) N fun _ _ x => x) hns hnl fun a5 c5 h5 f5 s5 => ⟨_, _, _, rfl, ?_⟩
  have F5 := (F3.no f4).no f5
  have f35 := f4.no f5
  have le5 := s5.le
  have N5 : SlCells h5 a5 (ints ns) := by
    have := SlCells.take s5.cells nl
    rw [ints, List.map_append, List.take_append_of_le_length (by rw [List.length_map]; omega), List.take_of_length_le (by rw [List.length_map]; omega)] at this
    exact this
  refine in_spec (R4.fr f5) fun a6 c6 ss6 D6 => ⟨_, _, _, rfl, ?_⟩
  have hn := D.num
  have hlen := D.len
  refine make_uni (g.no F5) N5 hns (by omega) D6 (by omega) fun a7 l7 c7 h7 f7 W7 => ⟨_, _, _, _, rfl, ?_⟩
  have f37 := f35.no f7
  have F7 := F5.no f7
  refine ⟨_, _, _, rda (cell h7 f37) rfl, _, _, _, rda (cell h7 f37) rfl, rMake_uni (SlCells.fr F7 N fun _ _ x => x) hns (by omega) (D.fr F7) (by omega) fun a8 l8 c8 h8 f8 W8 => ⟨_, _, _, _, rfl, ?_⟩⟩
  have f38 := f37.no f8
  have F8 := F7.no f8
  refine ⟨_, _, _, rda (cell h8 f38) rfl, ?_⟩
  have w2 : IntKind.wrap .i64 ((nl : Int) + 2) = ((nl + 2 : Nat) : Int) := by rw [wrap_i64 (by omega) (by omega)]; omega
  have w1 : IntKind.wrap .i64 ((nl : Int) + 1) = ((nl + 1 : Nat) : Int) := by rw [wrap_i64 (by omega) (by omega)]; omega
  rw [w2]
  refine ⟨⟨by omega, by omega⟩, _, StrAt.fr f8 W7 fun _ _ x => x, _, W8, cnot (ct (beq_self_eq_true _) (cn (fun x => absurd rfl x) fun _ => ⟨_, _, _, rda (cell h8 f38) rfl, ?_⟩))⟩
  have R8 := ((R4.fr f5).fr f7).fr f8
  have f58 : Fr No h5 h8 := f7.no f8
  refine kept_spec R8 (D.fr F8) hdl ⟨_, rfl, cnot (ct rfl ⟨_, _, _, rda (cell h8 f38) rfl, ?_⟩)⟩
  refine same_spec (SlCells.fr f58 N5 fun _ _ x => x) (SlCells.fr F8 N fun _ _ x => x) hns hns (by omega) ⟨_, rfl, cnot (ct rfl ⟨_, _, _, rda (cell h8 f38) rfl, ⟨by omega, ?_⟩, ?_⟩)⟩
  · rw [Int.toNat_natCast]; omega
  obtain ⟨p5, e5, cl⟩ := ints_get (SlCells.fr f58 s5.cells fun _ _ x => x) (i := nl) (by rw [List.length_append, hns]; show nl < nl + 2; omega)
  obtain ⟨p5', e5', cl2⟩ := ints_get (SlCells.fr f58 s5.cells fun _ _ x => x) (i := nl + 1) (by rw [List.length_append, hns]; show nl + 1 < nl + 2; omega)
  rw [e5] at e5'
  cases e5'
  have v1 : (ns ++ [(-71 : Int), -72])[nl]'(by rw [List.length_append, hns]; show nl < nl + 2; omega) = -71 := by
    rw [List.getElem_append_right (by omega)]
    simp only [hns, Nat.sub_self, List.getElem_cons_zero]
  have v2 : (ns ++ [(-71 : Int), -72])[nl + 1]'(by rw [List.length_append, hns]; show nl + 1 < nl + 2; omega) = -72 := by
    rw [List.getElem_append_right (by omega)]
    simp only [hns, show nl + 1 - nl = 1 by omega]; rfl
  rw [v1] at cl
  rw [v2] at cl2
  rw [e5]
  refine os ⟨_, cl, cf rfl ⟨_, _, _, rda (cell h8 f38) rfl, ?_⟩⟩
  rw [w1]
  refine ⟨⟨by omega, by rw [Int.toNat_natCast]; omega⟩, os ⟨_, cl2, cf rfl ?_⟩⟩
  refine Empty_spec fun h11 n11 => ⟨_, _, _, rfl, zeros 512, strAll n11.rd (zeros_length _), ?_⟩
  refine rEmpty_spec fun a12 c12 h12 f12 s12 => ⟨_, _, _, rfl, ?_, zeros 512, s12.str, ?_⟩
  · rw [toList_mkStr]; exact StrAt.fr f12 (strAll n11.rd (zeros_length _)) fun _ _ x => x
  refine cnot (ct (beq_self_eq_true _) ?_)
  have f812 : Fr No h8 h12 := n11.fr.no f12
  have F12 := F8.no f812
  have hl8 := W8.1
  have hm8 := make_length ns ds
  exact exact_loop (g.no F12) (StrAt.fr F12 B fun _ _ x => x) (StrAt.fr f812 W8 fun _ _ x => x) (D.fr F12) (cell h12 (f38.no f812)) (R8.fr f812) hb (by omega) hdl fun h' f' => hK h' (F12.no f')
end Go.Proofs.YtnlmieklakolkaaDoor.Cr
