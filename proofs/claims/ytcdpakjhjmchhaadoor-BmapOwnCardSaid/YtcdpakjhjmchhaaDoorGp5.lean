/-
  TEXTS FOR bmapOwn_card: BmF BmI RxA RxB RxC BmK Tb9 BmR BmU BmO BnA BnD RwA OwA OwB.
-/
import Derived.Shelf.SlIterI.Sorted
import Derived.Shelf.SortM.Plain
import Derived.Shelf.SortM.SortNone
import Derived.Test.YtcdpakjhjmchhaaDoorGp4
namespace Go.Proofs.YtcdpakjhjmchhaaDoor.Bm
open Go Go.Proofs Go.Proofs.YtcdpakjhjmchhaaDoor.Wx Go.Proofs.YtcdpakjhjmchhaaDoor.Hp Go.Proofs.YtcdpakjhjmchhaaDoor.W Go.Proofs.YtcdpakjhjmchhaaDoor.Ad Go.Proofs.YtcdpakjhjmchhaaDoor.Tm Go.Proofs.YtcdpakjhjmchhaaDoor.Spc Go.Proofs.YtcdpakjhjmchhaaDoor.Re Go.Proofs.YtcdpakjhjmchhaaDoor.Av
open Go.Proofs.YtcdpakjhjmchhaaDoor.Hd (ints wrap_u64)
open Go.Proofs.YtcdpakjhjmchhaaDoor.In (Glo ints_length ints_one)
def giveF (T : TM) (g : G) (v : Int) : TM × Int := if lookM g v ≠ 0 then (T, lookM g v) else Spc.give T g v
def numsL (b : Txt) : List Int := (List.range 128).map fun i => ((num4 b i : Nat) : Int)
theorem numsL_len (b : Txt) : (numsL b).length = 128 := by unfold numsL; rw [List.length_map, List.length_range]
theorem numsL_get {b : Txt} {j : Nat} (h : j < (numsL b).length) : (numsL b)[j] = ((num4 b j : Nat) : Int) := by
  simp only [numsL, List.getElem_map, List.getElem_range]
abbrev DropM := TM → Nat → Int → TM × Bool × Int
structure CutS where
  T : TM
  b : Txt
  left : Bool
  turned : Bool
def cutGo (dM : DropM) (from_ : Int) : List Int → Nat → CutS → CutS × Int
  | [], _, S => (S, 0)
  | v :: r, i, S => if v = 0 then cutGo dM from_ r (i + 1) S else if (i : Int) < from_ then cutGo dM from_ r (i + 1) { S with left := true } else
      if (dM S.T i v).2.2 ≠ 0 then ({ S with T := (dM S.T i v).1 }, (dM S.T i v).2.2) else
      cutGo dM from_ r (i + 1) ⟨(dM S.T i v).1, if (dM S.T i v).2.1 = true then set4 S.b i 0 else S.b, S.left || !(dM S.T i v).2.1, S.turned || (dM S.T i v).2.1⟩
def cutEnd (g : G) (tab : Int) (C : CutS × Int) : TM × Bool × Int :=
  if C.2 ≠ 0 then (C.1.T, false, C.2) else if C.1.left = false then ((Spc.give C.1.T g tab).1, false, (Spc.give C.1.T g tab).2) else
    if C.1.turned = true then ((C.1.T.write tab C.1.b).1, true, (C.1.T.write tab C.1.b).2) else (C.1.T, true, 0)
def cutT (dM : DropM) (T : TM) (g : G) (tab from_ : Int) : TM × Bool × Int :=
  if lookM g tab ≠ 0 then (T, false, lookM g tab) else if (T.read tab).2 ≠ 0 then (T, false, (T.read tab).2) else
    cutEnd g tab (cutGo dM from_ (numsL (T.read tab).1) 0 ⟨T, (T.read tab).1, false, false⟩)
def leafD (g : G) : DropM := fun T _ v => ((giveF T g v).1, true, (giveF T g v).2)
def tabD (g : G) (first : Int) : DropM := fun T i v => ((cutT (leafD g) T g v (first - 128 * i)).1, !(cutT (leafD g) T g v (first - 128 * i)).2.1, (cutT (leafD g) T g v (first - 128 * i)).2.2)
theorem give_un (T : TM) (g : G) (i : Int) : (Spc.give T g i).1.undo.length ≤ T.undo.length + 1 := by
  unfold Spc.give
  split
  · exact Nat.le_add_right _ _
  · split
    · exact Nat.le_add_right _ _
    · split
      · exact Nat.le_add_right _ _
      · exact setBit_un _ _ _ _
theorem giveF_un (T : TM) (g : G) (v : Int) : (giveF T g v).1.undo.length ≤ T.undo.length + 1 := by
  unfold giveF
  split
  · exact Nat.le_add_right _ _
  · exact give_un _ _ _
theorem cutGo_un {dM : DropM} {from_ : Int} {u : Nat} (hd : ∀ T i v, (dM T i v).1.undo.length ≤ T.undo.length + u) : ∀ (l : List Int) (i : Nat) (S : CutS), (cutGo dM from_ l i S).1.T.undo.length ≤ S.T.undo.length + u * l.length
  | [], _, S => Nat.le_add_right _ _
  | v :: r, i, S => by
    rw [List.length_cons, Nat.mul_succ]
    unfold cutGo
    split
    · have := cutGo_un (from_ := from_) hd r (i + 1) S; omega
    · split
      · have := cutGo_un (from_ := from_) hd r (i + 1) { S with left := true }
        have this : (cutGo dM from_ r (i + 1) { S with left := true }).1.T.undo.length ≤ S.T.undo.length + u * r.length := this
        omega
      · have h1 := hd S.T i v
        split
        · show (dM S.T i v).1.undo.length ≤ _; omega
        · have := cutGo_un (from_ := from_) hd r (i + 1) ⟨(dM S.T i v).1, if (dM S.T i v).2.1 = true then set4 S.b i 0 else S.b, S.left || !(dM S.T i v).2.1, S.turned || (dM S.T i v).2.1⟩
          have this : _ ≤ (dM S.T i v).1.undo.length + u * r.length := this
          omega
theorem cutT_un {dM : DropM} {T : TM} {g : G} {tab from_ : Int} {u : Nat} (hd : ∀ T i v, (dM T i v).1.undo.length ≤ T.undo.length + u) : (cutT dM T g tab from_).1.undo.length ≤ T.undo.length + (u * 128 + 1) := by
  unfold cutT
  split
  · exact Nat.le_add_right _ _
  · split
    · exact Nat.le_add_right _ _
    · have h := cutGo_un (from_ := from_) hd (numsL (T.read tab).1) 0 ⟨T, (T.read tab).1, false, false⟩
      rw [numsL_len] at h
      have h : _ ≤ T.undo.length + u * 128 := h
      generalize cutGo dM from_ (numsL (T.read tab).1) 0 ⟨T, (T.read tab).1, false, false⟩ = C at h
      unfold cutEnd
      split
      · show C.1.T.undo.length ≤ _; omega
      · split
        · have := give_un C.1.T g tab
          show (Spc.give C.1.T g tab).1.undo.length ≤ _; omega
        · split
          · have := write_un C.1.T tab C.1.b
            show (C.1.T.write tab C.1.b).1.undo.length ≤ _; omega
          · show C.1.T.undo.length ≤ _; omega
theorem leafD_un (g : G) (T : TM) (i : Nat) (v : Int) : (leafD g T i v).1.undo.length ≤ T.undo.length + 1 := giveF_un T g v
theorem tabD_un (g : G) (first : Int) (T : TM) (i : Nat) (v : Int) : (tabD g first T i v).1.undo.length ≤ T.undo.length + 129 := cutT_un (leafD_un g)
theorem give_spec {h : Heap} {F : Nat → Prop} {t d : Option Addr} {T : TM} {g : G} {R : List Int} {fb : Nat} {v : Int} {K : Value → Heap → Prop} (x : Tx h F t d T) (ok : g.ok) (e : rd h fb = fileV t g R) (hu : T.undo.length < 1000000000)
    (hK : ∀ h' F', Fr F h h' → Gw h F h' F' → Tx h' F' t d (giveF T g v).1 → K (.int .i64 (giveF T g v).2) h') : C.bmap_file_give (some ⟨fb, 0, none⟩) v h K := by
  refine bmap_file_give.ok (look_spec e ⟨_, rfl, cn (fun y => ?_) fun y => os ⟨t, rda e rfl, os ⟨g.v, rfl, cellsa e rfl, Give_spec x ok hu fun h3 F3 f3 g3 x3 => ⟨_, rfl, ?_⟩⟩⟩⟩)
  · have e0 : giveF T g v = (T, lookM g v) := by unfold giveF; rw [if_pos y]
    rw [e0] at hK
    exact hK h F (Fr.refl _ _) (Gw.refl (Nat.le_refl _) fun b hb => x.lt hb) x
  · have e0 : giveF T g v = Spc.give T g v := by unfold giveF; rw [if_neg (fun z => z y)]
    rw [e0] at hK
    exact hK h3 F3 f3 g3 x3
theorem numbers_spec {h : Heap} {F : Nat → Prop} {t d : Option Addr} {T : TM} {g : G} {R : List Int} {fb : Nat} {tab : Int} {K : Value → Heap → Prop} (gl : Glo h) (x : Tx h F t d T) (e : rd h fb = fileV t g R)
    (hE : (lookM g tab ≠ 0 ∨ (T.read tab).2 ≠ 0) → ∀ h', Fr No h h' → K (.tuple #[.slice none 0 0, .slice none 0 0, .int .i64 (if lookM g tab ≠ 0 then lookM g tab else (T.read tab).2)]) h')
    (hK : lookM g tab = 0 → (T.read tab).2 = 0 → (T.read tab).1.length = 512 → ∀ sa sc lb h', Fr No h h' → h.size ≤ lb → Sl h' 1 sa 512 sc ((T.read tab).1.map bv) (fun y => h.size ≤ y ∧ y ≠ lb) → rd h' lb = ints (numsL (T.read tab).1) → Own h' lb →
      K (.tuple #[.slice sa 512 sc, .slice (some ⟨lb, 0, none⟩) 128 128, .int .i64 0]) h') : C.bmap_file_numbers (some ⟨fb, 0, none⟩) tab h K := by
  refine bmap_file_numbers.ok (look_spec e ⟨_, rfl, cn (fun y => ?_) fun y => os ⟨t, rda e rfl, Tm.Read_spec x fun sa sl sc h3 f3 el s3 => ⟨_, _, _, _, rfl, cn (fun y2 => ?_) fun y2 => ?_⟩⟩⟩)
  · have := hE (.inl y) h (Fr.refl _ _)
    rw [if_pos y] at this; exact this
  · have := hE (.inr y2) h3 f3
    rw [if_neg (fun z => z y)] at this; exact this
  have hlen : (T.read tab).1.length = 512 := Tx.readLen x y2
  have hK := hK y y2 hlen
  rw [hlen] at el
  subst el
  generalize (T.read tab).1 = b at hK hlen s3
  refine ⟨⟨by decide, by decide, by decide, by decide⟩, New.intro fun h4 n4 => ?_⟩
  have z3 := f3.size
  have z4 := n4.size
  have nl := numsL_len b
  have r4 : rd h4 h3.size = ints (List.replicate 128 0) := by
    rw [n4.rd, ints, List.map_replicate]; exact rep_one' 128
  have s4 := s3.fr n4.fr fun _ _ _ y => y
  have s4 : Sl h4 1 sa 512 sc (b.map bv) (fun y => h.size ≤ y ∧ y ≠ h3.size) := (sl_rngB s3).fr n4.fr (fun _ _ _ y => y) |>.mono fun y hy => ⟨hy.1, by have := hy.2; omega⟩
  refine ⟨fun i hh => ∃ j : Nat, i = j ∧ j ≤ 128 ∧ Fr (fun y => y = h3.size) h4 hh ∧ Own hh h3.size ∧ rd hh h3.size = ints ((numsL b).take j ++ List.replicate (128 - j) 0), fun i _ => ((128 : Int) - i).toNat, ⟨0, rfl, by decide, Fr.refl _ _, n4.own, r4⟩, ?_⟩
  intro i h5 hI
  obtain ⟨j, ei, hj, f5, o5, r5⟩ := hI
  have F5 : Fr No h h5 := ((f3.new n4).trans f5 fun c hc y => by have y : c = h3.size := y; omega)
  have s5 := s4.fr f5 fun c _ hc y => hc.2 y
  have c128 : ((Int.toNat 128 : Nat) : Int) = 128 := rfl
  rw [c128]
  refine cd (fun hl => ?_) fun hl => ?_
  · subst ei
    have hj' : j < (numsL b).length := by omega
    rw [wrap_i64 (n := 4 * (j : Int)) (by omega) (by omega)]
    refine In.Get_w (gl.no F5) s5.str (by decide) (.inr (.inr (.inl rfl))) (by omega) (by omega) ⟨_, _, rfl, ⟨by omega, hl⟩, ?_⟩
    have en : leN ((b.drop (4 * (j : Int)).toNat).take (Int.toNat 4)) = num4 b j := by
      unfold num4
      rw [show (4 * (j : Int)).toNat = 4 * j by omega]; rfl
    have lt := num4_lt b j
    rw [en, wrap_i64 (n := ((num4 b j : Nat) : Int)) (by omega) (by omega), wrap_i64 (n := (j : Int) + 1) (by omega) (by omega), Int.toNat_natCast]
    have ll : (ints ((numsL b).take j ++ List.replicate (128 - j) 0)).length = 128 := by rw [ints_length, List.length_append, List.length_take, List.length_replicate]; omega
    refine Put.add o5 (by rw [r5, ll]; omega) fun h6 d6 => ⟨⟨j + 1, by omega, by omega, f5.did d6 fun _ => rfl, d6.own, ?_⟩, by show ((128 : Int) - ((j : Int) + 1)).toNat < ((128 : Int) - (j : Int)).toNat; omega⟩
    rw [d6.rd, r5, Nat.zero_add, ints, ← List.map_set]
    show ints _ = ints _
    congr 1
    have lt' : ((numsL b).take j).length = j := by rw [List.length_take]; omega
    rw [List.set_append_right _ _ (by omega), lt', Nat.sub_self, take_snoc _ _ hj', numsL_get hj', show 128 - j = (128 - (j + 1)) + 1 by omega, List.replicate_succ, List.set_cons_zero, List.append_assoc]; rfl
  · have ej : j = 128 := by omega
    subst ej
    rw [Nat.sub_self, List.replicate_zero, List.append_nil, List.take_of_length_le (by omega)] at r5
    exact hK sa sc h3.size h5 F5 z3 s5 r5 o5
end Go.Proofs.YtcdpakjhjmchhaaDoor.Bm
namespace Go.Proofs.YtcdpakjhjmchhaaDoor.Bm
open Go Go.Proofs Go.Proofs.YtcdpakjhjmchhaaDoor.Wx Go.Proofs.YtcdpakjhjmchhaaDoor.Hp Go.Proofs.YtcdpakjhjmchhaaDoor.W Go.Proofs.YtcdpakjhjmchhaaDoor.Ad Go.Proofs.YtcdpakjhjmchhaaDoor.Tm Go.Proofs.YtcdpakjhjmchhaaDoor.Spc Go.Proofs.YtcdpakjhjmchhaaDoor.Re Go.Proofs.YtcdpakjhjmchhaaDoor.Av
open Go.Proofs.YtcdpakjhjmchhaaDoor.Hd (ints wrap_u64)
open Go.Proofs.YtcdpakjhjmchhaaDoor.In (Glo ints_length ints_one)
/-- a closure that drops a number, as dM says -/
def DropS (dv : Value) (dM : DropM) (h0 : Heap) (F0 : Nat → Prop) (t d : Option Addr) (lim : Nat) : Prop :=
  ∀ (hh : Heap) (F : Nat → Prop) (T : TM) (i : Nat) (v : Int) (K : Value → Heap → Prop), Fr F0 h0 hh → Gw h0 F0 hh F → Tx hh F t d T → T.undo.length < lim → i < 128 → 0 < v → v < 4294967296 →
    (∀ h' F', Fr F hh h' → Gw hh F h' F' → Tx h' F' t d (dM T i v).1 → K (.tuple #[.bool (dM T i v).2.1, .int .i64 (dM T i v).2.2]) h') → HCallsV Tryd.prog dv [.int .i64 (i : Int), .int .i64 v] hh K
def leafV (fb : Nat) : Value := .func (.func 88) ⟨[.pointer (some ⟨fb, 0, none⟩)]⟩ ⟨[]⟩
theorem leaf_drop {h : Heap} {F : Nat → Prop} {t d : Option Addr} {g : G} {R : List Int} {fb : Nat} (ok : g.ok) (e : rd h fb = fileV t g R) (hf : ¬ F fb) : DropS (leafV fb) (leafD g) h F t d 1000000000 := by
  intro hh F' T i v K f gw x hu _ _ _ hK
  show C.bmap_file_leaf (some ⟨fb, 0, none⟩) (i : Int) v hh K
  have fl : fb < h.size := rd_lt (o := 0) (by rw [e]; rfl)
  exact bmap_file_leaf.ok (give_spec x ok ((f.rd fl hf).trans e) hu fun h' F2 f2 g2 x2 => ⟨_, rfl, hK h' F2 f2 g2 x2⟩)
theorem cutGo_cons (dM : DropM) (from_ v : Int) (r : List Int) (i : Nat) (S : CutS) : cutGo dM from_ (v :: r) i S = if v = 0 then cutGo dM from_ r (i + 1) S else if (i : Int) < from_ then cutGo dM from_ r (i + 1) { S with left := true } else
      if (dM S.T i v).2.2 ≠ 0 then ({ S with T := (dM S.T i v).1 }, (dM S.T i v).2.2) else
      cutGo dM from_ r (i + 1) ⟨(dM S.T i v).1, if (dM S.T i v).2.1 = true then set4 S.b i 0 else S.b, S.left || !(dM S.T i v).2.1, S.turned || (dM S.T i v).2.1⟩ := rfl
theorem cut_spec {h : Heap} {F : Nat → Prop} {t d : Option Addr} {T : TM} {g : G} {R : List Int} {fb : Nat} {tab from_ : Int} {dv : Value} {dM : DropM} {u lim : Nat} {K : Value → Heap → Prop} (gl : Glo h) (x : Tx h F t d T) (ok : g.ok) (e : rd h fb = fileV t g R) (hf : ¬ F fb) (g0 : ∀ b, b < 1 → ¬ F b)
    (D : DropS dv dM h F t d lim) (hun : ∀ T i v, (dM T i v).1.undo.length ≤ T.undo.length + u) (hu : T.undo.length + (u * 128 + 1) < lim) (hlim : lim ≤ 1000000000)
    (hK : ∀ h' F', Fr F h h' → Gw h F h' F' → Tx h' F' t d (cutT dM T g tab from_).1 → K (.tuple #[.bool (cutT dM T g tab from_).2.1, .int .i64 (cutT dM T g tab from_).2.2]) h') :
    C.bmap_file_cut (some ⟨fb, 0, none⟩) tab from_ dv h K := by
  have fl : fb < h.size := rd_lt (o := 0) (by rw [e]; rfl)
  have gl1 := gl.lt
  have Flt := fun y (hy : F y) => x.lt hy
  refine bmap_file_cut.ok (numbers_spec gl x e (fun he h2 f2 => ⟨_, _, _, _, _, _, _, rfl, cn (fun _ => ?_) fun y => ?_⟩) fun y1 y2 hlen sa sc lb h2 f2 hlb s2 r2 o2 => ⟨_, _, _, _, _, _, _, rfl, cn (fun y => absurd rfl y) fun _ => ?_⟩)
  · have hK := hK h2 F (f2.mono fun _ _ y => y.elim) (Gw.refl f2.size Flt)
    unfold cutT at hK
    by_cases h1 : lookM g tab ≠ 0
    · rw [if_pos h1] at hK ⊢; exact hK (x.no f2)
    · rw [if_neg h1] at hK ⊢
      have h3 : (T.read tab).2 ≠ 0 := he.resolve_left h1
      rw [if_pos h3] at hK; exact hK (x.no f2)
  · exfalso
    by_cases h1 : lookM g tab ≠ 0
    · rw [if_pos h1] at y; exact h1 y
    · rw [if_neg h1] at y; exact (he.resolve_left h1) y
  have e0 : cutT dM T g tab from_ = cutEnd g tab (cutGo dM from_ (numsL (T.read tab).1) 0 ⟨T, (T.read tab).1, false, false⟩) := by unfold cutT; rw [if_neg (fun z => z y1), if_neg (fun z => z y2)]
  rw [e0] at hK
  have nl := numsL_len (T.read tab).1
  have nlt : ∀ j (hj : j < (numsL (T.read tab).1).length), 0 ≤ (numsL (T.read tab).1)[j] ∧ (numsL (T.read tab).1)[j] < 4294967296 := fun j hj => by
    rw [numsL_get hj]
    have := num4_lt (T.read tab).1 j
    omega
  generalize (T.read tab).1 = b0 at hK hlen s2 r2 nl nlt
  generalize numsL b0 = ns at hK r2 nl nlt
  have z2 := f2.size
  have G2 : Gw h F h2 F := Gw.refl z2 Flt
  obtain ⟨N, hN⟩ : ∃ N : Int, N = 128 := ⟨_, rfl⟩
  refine ⟨fun left turned i hh => ∃ (j : Nat) (F' : Nat → Prop) (T' : TM) (b' : Txt), i = j ∧ j ≤ 128 ∧ Fr (fun y => F y ∨ h.size ≤ y) h hh ∧ h2.size ≤ hh.size ∧ Gw h2 F hh F' ∧ Tx hh F' t d T' ∧ b'.length = 512 ∧ Sl hh 1 sa 512 sc (b'.map bv) (fun y => h.size ≤ y ∧ y ≠ lb ∧ y < h2.size) ∧ rd hh lb = ints ns ∧ T'.undo.length ≤ T.undo.length + u * j ∧
      cutGo dM from_ (ns.drop j) j ⟨T', b', left, turned⟩ = cutGo dM from_ ns 0 ⟨T, b0, false, false⟩, fun _ _ i _ => ((128 : Int) - i).toNat,
    ⟨0, F, T, b0, rfl, by decide, f2.mono (fun _ _ y => y.elim), Nat.le_refl _, Gw.refl (Nat.le_refl _) (fun b hb => Nat.lt_of_lt_of_le (Flt b hb) z2), x.no f2, hlen, (sl_rngB s2).mono fun y hy => ⟨hy.1.1, hy.1.2, hy.2⟩, r2, Nat.le_refl _, by rw [List.drop_zero]⟩, ?_⟩
  intro left turned i h3 hI
  obtain ⟨j, F', T', b', ei, hj, f3, zz, g3, x3, lb', s3, r3, u3, ew⟩ := hI
  have old3 : ∀ y, y < h2.size → (F' y ↔ F y) := g3.old
  have F3 : Fr F h h3 := f3.mono fun c hc y => y.resolve_right (by omega)
  have G3 : Gw h F h3 F' := G2.trans g3 z2
  have lbl : lb < h2.size := o2.lt
  have hju : u * j ≤ u * 128 := Nat.mul_le_mul_left _ hj
  refine cd (fun hl => ?_) fun hl => ?_
  · subst ei
    have hj' : j < ns.length := by omega
    have hjn : j < 128 := by omega
    rw [drop_cons hj', cutGo_cons] at ew
    have nj := nlt j hj'
    rw [Int.toNat_natCast]
    have cv : cellOf h3 (Addr.add ⟨lb, 0, none⟩ j) = some (.int .i64 ns[j]) := rda r3 (by rw [Nat.zero_add, ints, List.getElem?_map, List.getElem?_eq_getElem hj']; rfl)
    have wr : IntKind.wrap .i64 ((j : Int) + 1) = ((j + 1 : Nat) : Int) := by rw [wrap_i64 (by omega) (by omega)]; omega
    have me : ((128 : Int) - ((j + 1 : Nat) : Int)).toNat < ((128 : Int) - (j : Int)).toNat := by omega
    have hu1 : u * j ≤ u * (j + 1) := Nat.mul_le_mul_left _ (Nat.le_succ j)
    refine ⟨⟨by omega, hl⟩, os ⟨_, cv, ce (fun y => ?_) fun y => cd (fun y2 => ?_) fun y2 => ?_⟩⟩
    · rw [if_pos y] at ew
      rw [wr]
      exact ⟨⟨j + 1, F', T', b', rfl, hjn, f3, zz, g3, x3, lb', s3, r3, by omega, ew⟩, me⟩
    · rw [if_neg y, if_pos y2] at ew
      rw [wr]
      exact ⟨⟨j + 1, F', T', b', rfl, hjn, f3, zz, g3, x3, lb', s3, r3, by omega, ew⟩, me⟩
    rw [if_neg y, if_neg y2] at ew
    refine D h3 F' T' j (ns[j]'hj') _ F3 G3 x3 (by omega) hjn (by omega) nj.2 fun h4 F4 f4 g4 x4 => ⟨_, _, rfl, ?_⟩
    have hd := hun T' j (ns[j]'hj')
    have hm : u * (j + 1) = u * j + u := Nat.mul_succ u j
    generalize dM T' j (ns[j]'hj') = W at ew x4 hd
    obtain ⟨T4, gone, e4⟩ := W
    simp only at ew x4 hd
    have z4 := f4.size
    have F4' : Fr F h h4 := F3.trans f4 fun c hc y => (old3 c (by omega)).mp y
    have nF : ∀ c, h.size ≤ c → c < h2.size → ¬ F' c := fun c h1 h2' y => by have := Flt c ((old3 c h2').mp y); omega
    refine cn (fun he => ?_) fun he => ?_
    · rw [if_pos he] at ew
      rw [← ew] at hK
      have hK := hK h4 F4 F4' (G3.trans g4 F3.size)
      unfold cutEnd at hK
      rw [if_pos he] at hK
      exact hK x4
    rw [if_neg (fun z => z he)] at ew
    have s4 := s3.fr f4 fun c _ hc y => nF c hc.1 hc.2.2 y
    have r4 : rd h4 lb = ints ns := (f4.rd (by omega) (nF lb hlb lbl)).trans r3
    have g24 : Gw h2 F h4 F4 := g3.trans g4 zz
    have fr4 : Fr (fun y => F y ∨ h.size ≤ y) h h4 := F4'.mono fun _ _ y => .inl y
    -- behind the drop, at h6
    have go : ∀ (h6 : Heap) (b6 : Txt), Fr (fun y => F y ∨ h.size ≤ y) h h6 → h2.size ≤ h6.size → Gw h2 F h6 F4 → Tx h6 F4 t d T4 → b6.length = 512 → Sl h6 1 sa 512 sc (b6.map bv) (fun y => h.size ≤ y ∧ y ≠ lb ∧ y < h2.size) → rd h6 lb = ints ns →
        cutGo dM from_ (ns.drop (j + 1)) (j + 1) ⟨T4, b6, left || !gone, turned || gone⟩ = cutGo dM from_ ns 0 ⟨T, b0, false, false⟩ →
        bmap_file_cut.k1 left turned (j : Int) h3 (fun left turned i hh => ∃ (j : Nat) (F' : Nat → Prop) (T' : TM) (b' : Txt), i = j ∧ j ≤ 128 ∧ Fr (fun y => F y ∨ h.size ≤ y) h hh ∧ h2.size ≤ hh.size ∧ Gw h2 F hh F' ∧ Tx hh F' t d T' ∧ b'.length = 512 ∧ Sl hh 1 sa 512 sc (b'.map bv) (fun y => h.size ≤ y ∧ y ≠ lb ∧ y < h2.size) ∧ rd hh lb = ints ns ∧ T'.undo.length ≤ T.undo.length + u * j ∧
          cutGo dM from_ (ns.drop j) j ⟨T', b', left, turned⟩ = cutGo dM from_ ns 0 ⟨T, b0, false, false⟩) (fun _ _ i _ => ((128 : Int) - i).toNat) gone h6 K := fun h6 b6 a1 a2 a3 a4 a5 a6 a7 a8 => by
      unfold bmap_file_cut.k1
      rw [wr]
      cases left <;> cases turned <;> exact ⟨⟨j + 1, F4, T4, b6, rfl, hjn, a1, a2, a3, a4, a5, a6, a7, by omega, a8⟩, me⟩
    cases gone with
    | false => exact go h4 b' fr4 (by omega) g24 x4 lb' s4 r4 ew
    | true =>
      obtain ⟨⟨pb, po, sp⟩, ep, _⟩ := s4.get (by decide)
      subst ep
      have esp : sp = none := s4.2.1
      subst esp
      have k4 := s4.2.2.1
      have k4 : h.size ≤ pb ∧ pb ≠ lb ∧ pb < h2.size := k4
      have gl4 : Glo h4 := gl.fr F4' g0
      rw [wrap_i64 (n := 4 * (j : Int)) (by omega) (by omega)]
      refine In.Put_w (v := 0) gl4 s4 (by decide) (.inr (.inr rfl)) (by omega) (by omega) (by decide) fun h5 f5 s5 => ⟨_, rfl, ?_⟩
      have e5 : putU b' (4 * (j : Int)).toNat (leBs (Int.toNat 4) 0) = set4 b' j 0 := by
        unfold set4
        rw [show (4 * (j : Int)).toNat = 4 * j by omega]; rfl
      rw [e5] at s5
      have z5 := f5.size
      refine go h5 (set4 b' j 0) (fr4.trans f5 fun c hc y => ?_) (by omega) ⟨g24.old, fun b hb => Nat.lt_of_lt_of_le (g24.lt b hb) z5⟩ (x4.fr f5 fun c hc y => ?_) (set4_length lb' hjn) s5 ((f5.rd (by omega) fun y => k4.2.1 y.symm).trans r4) ew
      · have y : c = pb := y
        omega
      · have y : c = pb := y
        rw [y] at hc
        have := (g24.old pb k4.2.2).mp hc
        have := Flt _ this
        omega
  · have ej : j = 128 := by omega
    subst ej
    have ed : ns.drop 128 = [] := List.drop_eq_nil_of_le (by omega)
    rw [ed] at ew
    have ew : ((⟨T', b', left, turned⟩ : CutS), (0 : Int)) = cutGo dM from_ ns 0 ⟨T, b0, false, false⟩ := ew
    rw [← ew] at hK
    have rf : rd h3 fb = _ := (F3.rd fl hf).trans e
    unfold cutEnd at hK
    rw [if_neg (fun z => z rfl)] at hK
    cases left with
    | false =>
      rw [if_pos rfl] at hK
      refine ct rfl (os ⟨t, rda rf rfl, os ⟨g.v, rfl, cellsa rf rfl, Give_spec x3 ok (by omega) fun h7 F7 f7 g7 x7 => ⟨_, rfl, ?_⟩⟩⟩)
      exact hK h7 F7 (F3.trans f7 fun c hc y => (old3 c (by omega)).mp y) (G3.trans g7 F3.size) x7
    | true =>
      rw [if_neg (by simp)] at hK
      refine cf rfl ?_
      cases turned with
      | true =>
        rw [if_pos rfl] at hK
        refine ct rfl (os ⟨t, rda rf rfl, Tm.Write_spec x3 s3.str (by decide) (fun p ep y => ?_) (by omega) fun h8 F8 f8 g8 x8 => ⟨_, rfl, ?_⟩⟩)
        · have k3 : h.size ≤ p.block ∧ p.block ≠ lb ∧ p.block < h2.size := by
            rw [ep] at s3; exact s3.2.2.1
          have := Flt _ ((old3 _ k3.2.2).mp y)
          omega
        · exact hK h8 F8 (F3.trans f8 fun c hc y => (old3 c (by omega)).mp y) (G3.trans g8 F3.size) x8
      | false =>
        rw [if_neg (by simp)] at hK
        exact cf rfl (hK h3 F' F3 G3 x3)
end Go.Proofs.YtcdpakjhjmchhaaDoor.Bm
namespace Go.Proofs.YtcdpakjhjmchhaaDoor.Bm
open Go Go.Proofs Go.Proofs.YtcdpakjhjmchhaaDoor.Wx Go.Proofs.YtcdpakjhjmchhaaDoor.Hp Go.Proofs.YtcdpakjhjmchhaaDoor.W Go.Proofs.YtcdpakjhjmchhaaDoor.Ad Go.Proofs.YtcdpakjhjmchhaaDoor.Tm Go.Proofs.YtcdpakjhjmchhaaDoor.Spc Go.Proofs.YtcdpakjhjmchhaaDoor.Re Go.Proofs.YtcdpakjhjmchhaaDoor.Av
open Go.Proofs.YtcdpakjhjmchhaaDoor.Hd (ints wrap_u64)
open Go.Proofs.YtcdpakjhjmchhaaDoor.In (Glo ints_length ints_one)
def dirGo (g : G) : List Nat → TM → List Int → (TM × List Int) × Int
  | [], T, R => ((T, R), 0)
  | i :: r, T, R => if R.getD (3 + i) 0 = 0 then dirGo g r T R else if (giveF T g (R.getD (3 + i) 0)).2 ≠ 0 then (((giveF T g (R.getD (3 + i) 0)).1, R), (giveF T g (R.getD (3 + i) 0)).2) else
      dirGo g r (giveF T g (R.getD (3 + i) 0)).1 (R.set (3 + i) 0)
def rootEnd (i : Nat) (R : List Int) (C : TM × Bool × Int) : (TM × List Int) × Int := if C.2.2 ≠ 0 then ((C.1, R), C.2.2) else ((C.1, if C.2.1 = true then R else R.set i 0), 0)
def oneM (g : G) (k : Int) (T : TM) (R : List Int) : (TM × List Int) × Int := if k < 138 ∧ R.getD 13 0 ≠ 0 then rootEnd 13 R (cutT (leafD g) T g (R.getD 13 0) (k - 10)) else ((T, R), 0)
def firstM (k : Int) : Int := if k - 138 > 0 then k - 138 else 0
def twoM (g : G) (k : Int) (T : TM) (R : List Int) : (TM × List Int) × Int := if k < 16522 ∧ R.getD 14 0 ≠ 0 then rootEnd 14 R (cutT (tabD g (firstM k)) T g (R.getD 14 0) (firstM k / 128)) else ((T, R), 0)
def dirsM (k : Int) : List Nat := List.range' k.toNat (10 - k.toNat)
def cutS (g : G) (k : Int) (T : TM) (R : List Int) : (TM × List Int) × Int :=
  if (dirGo g (dirsM k) T R).2 ≠ 0 then dirGo g (dirsM k) T R else
  if (oneM g k (dirGo g (dirsM k) T R).1.1 (dirGo g (dirsM k) T R).1.2).2 ≠ 0 then oneM g k (dirGo g (dirsM k) T R).1.1 (dirGo g (dirsM k) T R).1.2 else
    twoM g k (oneM g k (dirGo g (dirsM k) T R).1.1 (dirGo g (dirsM k) T R).1.2).1.1 (oneM g k (dirGo g (dirsM k) T R).1.1 (dirGo g (dirsM k) T R).1.2).1.2
def cutM (T : TM) (g : G) (R : List Int) (k : Int) : TM × List Int × Int :=
  if k < 0 ∨ k > 16522 then (T, z15, 101) else if (cutS g k T R).2 ≠ 0 then (((cutS g k T R).1.1.back T.undo.length).1, z15, (cutS g k T R).2) else ((cutS g k T R).1.1, (cutS g k T R).1.2, 0)
structure Ids where
  yb : Nat
  eb : Nat
  ob : Nat
  tb : Nat
  mb : Nat
  bk : Nat
  fb : Nat
  pb : Nat
structure Ids.Ok (I : Ids) : Prop where
  a1 : I.yb < I.eb
  a2 : I.eb < I.ob
  a3 : I.eb < I.tb
  a4 : I.eb < I.mb
  a5 : I.ob < I.bk
  a6 : I.tb < I.bk
  a7 : I.mb < I.bk
  a8 : I.bk < I.fb
  a9 : I.fb < I.pb
structure CX (h : Heap) (F : Nat → Prop) (t d : Option Addr) (T0 : TM) (g : G) (I : Ids) (hh : Heap) (F' : Nat → Prop) (T' : TM) (R' : List Int) (u : Nat) : Prop where
  ok : I.Ok
  lo : h.size ≤ I.yb
  hi : I.pb < hh.size
  fr : Fr F h hh
  gw : Gw h F hh F'
  x : Tx hh F' t d T'
  un : T'.undo.length ≤ u
  len : R'.length = 15
  ry : rd hh I.yb = ints z15
  oy : Own hh I.yb
  re : rd hh I.eb = [.int .i64 0]
  oe : Own hh I.eb
  rb : rd hh I.bk = [gdV I.ob I.tb I.mb]
  rp : rd hh I.pb = [.pointer (some ⟨I.fb, 0, none⟩)]
  rf : rd hh I.fb = fileV t g R'
  of_ : Own hh I.fb
  gd : Gd hh I.ob I.tb I.mb t T0.mark
  nF : ∀ b, I.yb ≤ b → b ≤ I.pb → ¬ F' b
theorem CX.call {h hh h' : Heap} {F F' F'' : Nat → Prop} {t d : Option Addr} {T0 T' T'' : TM} {g : G} {I : Ids} {R' : List Int} {u u' : Nat} (c : CX h F t d T0 g I hh F' T' R' u) (f : Fr F' hh h') (gw : Gw hh F' h' F'') (x : Tx h' F'' t d T'') (un : T''.undo.length ≤ u') : CX h F t d T0 g I h' F'' T'' R' u' := by
  obtain ⟨a1, a2, a3, a4, a5, a6, a7, a8, a9⟩ := c.ok
  have hi := c.hi
  have z := f.size
  have q : ∀ b, I.yb ≤ b → b ≤ I.pb → rd h' b = rd hh b := fun b h1 h2 => f.rd (by omega) (c.nF b h1 h2)
  have w : ∀ b, I.yb ≤ b → b ≤ I.pb → Own hh b → Own h' b := fun b h1 h2 o => f.own (by omega) (c.nF b h1 h2) o
  have lo := c.lo
  exact ⟨c.ok, c.lo, by omega, c.fr.trans f fun b hb y => (c.gw.old b hb).mp y, c.gw.trans gw c.fr.size, x, un, c.len, (q _ (by omega) (by omega)).trans c.ry, w _ (by omega) (by omega) c.oy, (q _ (by omega) (by omega)).trans c.re, w _ (by omega) (by omega) c.oe,
    (q _ (by omega) (by omega)).trans c.rb, (q _ (by omega) (by omega)).trans c.rp, (q _ (by omega) (by omega)).trans c.rf, w _ (by omega) (by omega) c.of_,
    ⟨(q _ (by omega) (by omega)).trans c.gd.o, (q _ (by omega) (by omega)).trans c.gd.t, (q _ (by omega) (by omega)).trans c.gd.m⟩, fun b h1 h2 y => c.nF b h1 h2 ((gw.old b (by omega)).mp y)⟩
theorem CX.no {h hh h' : Heap} {F F' : Nat → Prop} {t d : Option Addr} {T0 T' : TM} {g : G} {I : Ids} {R' : List Int} {u : Nat} (c : CX h F t d T0 g I hh F' T' R' u) (f : Fr No hh h') : CX h F t d T0 g I h' F' T' R' u :=
  c.call (f.mono fun _ _ y => y.elim) (Gw.refl f.size fun b hb => c.x.lt hb) (c.x.no f) c.un
/-- the record is written -/
theorem CX.setR {h hh h' : Heap} {F F' : Nat → Prop} {t d : Option Addr} {T0 T' : TM} {g : G} {I : Ids} {R' R'' : List Int} {u : Nat} (c : CX h F t d T0 g I hh F' T' R' u) (dd : Did I.fb hh h' (fileV t g R'')) (hl : R''.length = 15) : CX h F t d T0 g I h' F' T' R'' u := by
  obtain ⟨a1, a2, a3, a4, a5, a6, a7, a8, a9⟩ := c.ok
  have hi := c.hi
  have lo := c.lo
  have z := dd.size
  have q : ∀ b, I.yb ≤ b → b ≤ I.pb → b ≠ I.fb → rd h' b = rd hh b := fun b h1 h2 h3 => dd.at_ (by omega) h3
  exact ⟨c.ok, c.lo, by omega, c.fr.did dd fun hl => by omega, ⟨c.gw.old, fun b hb => Nat.lt_of_lt_of_le (c.gw.lt b hb) dd.fr.size⟩, c.x.fr dd.fr fun b hb y => c.nF I.fb (by omega) (by omega) (by have y : b = I.fb := y; rw [← y]; exact hb), c.un, hl, (q _ (by omega) (by omega) (by omega)).trans c.ry, dd.ow c.oy, (q _ (by omega) (by omega) (by omega)).trans c.re, dd.ow c.oe,
    (q _ (by omega) (by omega) (by omega)).trans c.rb, (q _ (by omega) (by omega) (by omega)).trans c.rp, dd.rd, dd.own,
    ⟨(q _ (by omega) (by omega) (by omega)).trans c.gd.o, (q _ (by omega) (by omega) (by omega)).trans c.gd.t, (q _ (by omega) (by omega) (by omega)).trans c.gd.m⟩, c.nF⟩
/-- Cut ends -/
theorem CX.fin {h hh : Heap} {F F' : Nat → Prop} {t d : Option Addr} {T0 T' : TM} {g : G} {I : Ids} {R' Y : List Int} {u : Nat} {e : Int} {K : Value → Heap → Prop} (c : CX h F t d T0 g I hh F' T' R' u) (hu : u < 1000000000) (hY : Y.length = 15) (em : T0.mark = ((T0.undo.length : Int), 0))
    (hK : ∀ h' F', Fr F h h' → Gw h F h' F' → Tx h' F' t d (if e ≠ 0 then (T'.back T0.undo.length).1 else T') → K (.tuple #[.agg ⟨ints (if e ≠ 0 then z15 else Y)⟩, .int .i64 e]) h') :
    PutRow ⟨I.yb, 0, none⟩ (ints Y) 15 hh fun h1 => Put ⟨I.eb, 0, none⟩ (.int .i64 e) h1 fun h2 => D.bmap_Cut_c1 (some ⟨I.bk, 0, none⟩) (some ⟨I.eb, 0, none⟩) (some ⟨I.yb, 0, none⟩) h2 fun h3 =>
      ∃ res1 : List Value, List.length res1 = 15 ∧ Cells h3 ⟨I.yb, 0, none⟩ res1 ∧ ∃ (res2 : Int), cellOf h3 ⟨I.eb, 0, none⟩ = some (.int .i64 res2) ∧ K (.tuple #[.agg ⟨res1⟩, .int .i64 res2]) h3 := by
  obtain ⟨a1, a2, a3, a4, a5, a6, a7, a8, a9⟩ := c.ok
  have hi := c.hi
  have lo := c.lo
  refine PutRow.intro c.oy (by rw [ints_length, hY]) (ints_one _) (by rw [c.ry]; exact Nat.le_refl _) fun h1 d1 => Put.intro (d1.ow c.oe) (by rw [d1.at_ (by omega) (by omega), c.re]; exact Nat.zero_lt_one) fun h2 d2 => ?_
  have z1 := d1.size
  have z2 := d2.size
  have f2 : Fr (fun b => b = I.yb ∨ b = I.eb) hh h2 := ((Fr.refl _ _).did d1 fun _ => .inl rfl).did d2 fun _ => .inr rfl
  have ry : rd h2 I.yb = ints Y := by rw [d2.at_ (by omega) (by omega), d1.rd, c.ry]; exact put_all _ _ (by rw [ints_length, hY]; rfl)
  have re : rd h2 I.eb = [.int .i64 e] := by rw [d2.rd, d1.at_ (by omega) (by omega), c.re]; rfl
  have oy : Own h2 I.yb := d2.ow d1.own
  have x2 : Tx h2 F' t d T' := c.x.fr f2 fun b hb y => by
    rcases y with rfl | rfl
    · exact c.nF _ (by omega) (by omega) hb
    · exact c.nF _ (by omega) (by omega) hb
  have gd2 : Gd h2 I.ob I.tb I.mb t T0.mark := c.gd.fr f2 (by rintro (y | y) <;> omega) (by rintro (y | y) <;> omega) (by rintro (y | y) <;> omega)
  have rb : rd h2 I.bk = [gdV I.ob I.tb I.mb] := (f2.rd (by omega) (by rintro (y | y) <;> omega)).trans c.rb
  have un := c.un
  refine bmap_Cut_c1.okD (os ⟨_, rdc rb rfl, os ⟨_, rdc re rfl, guard_c1_spec x2 gd2 (by omega) fun h3 f3 x3 => ⟨rfl, ?_⟩⟩⟩)
  have z3 := f3.size
  have F3 : Fr F h h3 := (c.fr.trans f2 fun b hb y => by rcases y with y | y <;> omega).trans f3 fun b hb y => (c.gw.old b hb).mp y
  have G3 : Gw h F h3 F' := ⟨c.gw.old, fun b hb => Nat.lt_of_lt_of_le (c.gw.lt b hb) (by omega)⟩
  have re3 : rd h3 I.eb = [.int .i64 e] := (f3.rd (by omega) (c.nF _ (by omega) (by omega))).trans re
  have ry3 : rd h3 I.yb = ints Y := (f3.rd (by omega) (c.nF _ (by omega) (by omega))).trans ry
  rw [em] at x3
  refine os ⟨_, rdc re3 rfl, cn (fun he => ?_) fun he => ?_⟩
  · rw [if_pos ⟨he, rfl⟩] at x3
    rw [if_pos he, if_pos he] at hK
    refine os (PutRow.intro (f3.own (by omega) (c.nF _ (by omega) (by omega)) oy) rfl z15_one (by rw [ry3, ints_length, hY]; exact Nat.le_refl _) fun h4 d4 => ?_)
    have z4 := d4.size
    refine ⟨ints z15, rfl, cellsAll ?_, e, rdc (xs := [.int .i64 e]) ((d4.at_ (by omega) (by omega)).trans re3) rfl, hK h4 F' (F3.did d4 fun hl => by omega) ⟨G3.old, fun b hb => Nat.lt_of_lt_of_le (G3.lt b hb) d4.fr.size⟩ (x3.fr d4.fr fun b hb y => c.nF I.yb (by omega) (by omega) (by have y : b = I.yb := y; rw [← y]; exact hb))⟩
    rw [d4.rd, ry3]; exact put_all _ _ (by rw [ints_length, hY]; rfl)
  · rw [if_neg (fun y => y.1 he)] at x3
    rw [if_neg (fun y => y he), if_neg (fun y => y he)] at hK
    exact ⟨ints Y, by rw [ints_length, hY], cellsAll ry3, e, rdc re3 rfl, hK h3 F' F3 G3 x3⟩
end Go.Proofs.YtcdpakjhjmchhaaDoor.Bm
namespace Go.Proofs.YtcdpakjhjmchhaaDoor.Bm
open Go Go.Proofs Go.Proofs.YtcdpakjhjmchhaaDoor.Wx Go.Proofs.YtcdpakjhjmchhaaDoor.Hp Go.Proofs.YtcdpakjhjmchhaaDoor.W Go.Proofs.YtcdpakjhjmchhaaDoor.Ad Go.Proofs.YtcdpakjhjmchhaaDoor.Tm Go.Proofs.YtcdpakjhjmchhaaDoor.Spc Go.Proofs.YtcdpakjhjmchhaaDoor.Re Go.Proofs.YtcdpakjhjmchhaaDoor.Av
open Go.Proofs.YtcdpakjhjmchhaaDoor.Hd (ints wrap_u64)
open Go.Proofs.YtcdpakjhjmchhaaDoor.In (Glo ints_length ints_one)
def tabV (pb xb : Nat) : Value := .func (.func 89) #[] ⟨[.pointer (some ⟨pb, 0, none⟩), .pointer (some ⟨xb, 0, none⟩)]⟩
theorem tab_drop {h : Heap} {F : Nat → Prop} {t d : Option Addr} {g : G} {R : List Int} {fb pb xb : Nat} {first : Int} (gl : Glo h) (ok : g.ok) (e : rd h fb = fileV t g R) (hf : ¬ F fb ∧ ¬ F pb ∧ ¬ F xb) (g0 : ∀ b, b < 1 → ¬ F b) (rp : rd h pb = [.pointer (some ⟨fb, 0, none⟩)]) (rx : rd h xb = [.int .i64 first])
    (h0 : 0 ≤ first) (h1 : first < 100000) (Flt : ∀ b, F b → b < h.size) : DropS (tabV pb xb) (tabD g first) h F t d 999999000 := by
  intro hh F' T i v K f gw x hu hi _ _ hK
  show C.bmap_Cut_c2 (i : Int) v (some ⟨pb, 0, none⟩) (some ⟨xb, 0, none⟩) hh K
  have fl : fb < h.size := rd_lt (o := 0) (by rw [e]; rfl)
  have pl : pb < h.size := rd_lt (o := 0) (by rw [rp]; rfl)
  have xl : xb < h.size := rd_lt (o := 0) (by rw [rx]; rfl)
  have gl1 := gl.lt
  have ef : rd hh fb = fileV t g R := (f.rd fl hf.1).trans e
  have hf' : ¬ F' fb := fun y => hf.1 ((gw.old _ fl).mp y)
  have g0' : ∀ b, b < 1 → ¬ F' b := fun b hb y => g0 b hb ((gw.old b (by omega)).mp y)
  have rp' := (f.rd pl hf.2.1).trans rp
  refine bmap_Cut_c2.ok (os ⟨_, rdc rp' rfl, os ⟨_, rdc ((f.rd xl hf.2.2).trans rx) rfl, os ⟨_, rdc rp' rfl, ?_⟩⟩⟩)
  rw [wrap_i64 (n := (i : Int) * 128) (by omega) (by omega), wrap_i64 (n := first - (i : Int) * 128) (by omega) (by omega), show first - (i : Int) * 128 = first - 128 * (i : Int) by omega]
  exact cut_spec (gl.fr f g0) x ok ef hf' g0' (leaf_drop ok ef hf') (leafD_un g) (by omega) (Nat.le_refl _) fun h' F2 f2 g2 x2 => ⟨_, _, rfl, hK h' F2 f2 g2 x2⟩
theorem cell3 {h : Heap} {b i j k : Nat} {xs : List Value} {v : Value} (e : rd h b = xs) (hv : xs[i + (j + k)]? = some v) : cellOf h (Addr.add (Addr.add (Addr.add ⟨b, 0, none⟩ i) j) k) = some v := by
  rw [add_mk, add_mk, add_mk, cellOf_rd, e, show 0 + i + j + k = i + (j + k) by omega]; exact hv
/-- what is left to be shown of a Cut that has come so far: E is what becomes of it -/
def Goal (h : Heap) (F : Nat → Prop) (t d : Option Addr) (T : TM) (K : Value → Heap → Prop) (E : (TM × List Int) × Int) : Prop :=
  ∀ h' F', Fr F h h' → Gw h F h' F' → Tx h' F' t d (if E.2 ≠ 0 then (E.1.1.back T.undo.length).1 else E.1.1) → K (.tuple #[.agg ⟨ints (if E.2 ≠ 0 then z15 else E.1.2)⟩, .int .i64 E.2]) h'
theorem cellsR {h : Heap} {fb : Nat} {t : Option Addr} {g : G} {R : List Int} (e : rd h fb = fileV t g R) : Cells h (Addr.add ⟨fb, 0, none⟩ 6) (ints R) := by
  refine cellsa e ?_
  show (ints R).take _ = _
  exact List.take_of_length_le (Nat.le_refl _)
section
variable {h : Heap} {F : Nat → Prop} {t d : Option Addr} {T : TM} {g : G} {I : Ids} {K : Value → Heap → Prop} {k : Int}
theorem tail2 (gl : Glo h) (ok : g.ok) (g0 : ∀ b, b < 1 → ¬ F b) (em : T.mark = ((T.undo.length : Int), 0)) (h0 : 0 ≤ k) (h1 : k ≤ 16522) {h3 h4 h11 h14 hh : Heap} {F' : Nat → Prop} {T' : TM} {R' : List Int} {u : Nat} (c : CX h F t d T g I hh F' T' R' u) (hu : u < 999900000)
    (e1 : h3.size = I.yb) (e2 : h4.size = I.eb) (e3 : h11.size = I.bk) (e4 : h14.size = I.pb) (hK : Goal h F t d T K (twoM g k T' R')) : bmap_Cut.k2 k h3 h4 h11 h14 hh K := by
  obtain ⟨a1, a2, a3, a4, a5, a6, a7, a8, a9⟩ := c.ok
  have lo := c.lo
  have hi := c.hi
  have gl1 := gl.lt
  have g0' : ∀ b, b < 1 → ¬ F' b := fun b hb y => g0 b hb ((c.gw.old b (by omega)).mp y)
  have glh : Glo hh := gl.fr c.fr g0
  unfold bmap_Cut.k2
  rw [e1, e2, e3, e4]
  -- nothing to cut
  have none_ : twoM g k T' R' = ((T', R'), 0) → ∃ cs, List.length cs = 15 ∧ Cells hh (Addr.add ⟨I.fb, 0, none⟩ 6) cs ∧ PutRow ⟨I.yb, 0, none⟩ cs 15 hh fun h1 => Put ⟨I.eb, 0, none⟩ (.int .i64 0) h1 fun h2 => D.bmap_Cut_c1 (some ⟨I.bk, 0, none⟩) (some ⟨I.eb, 0, none⟩) (some ⟨I.yb, 0, none⟩) h2 fun h3 =>
      ∃ res1 : List Value, List.length res1 = 15 ∧ Cells h3 ⟨I.yb, 0, none⟩ res1 ∧ ∃ (res2 : Int), cellOf h3 ⟨I.eb, 0, none⟩ = some (.int .i64 res2) ∧ K (.tuple #[.agg ⟨res1⟩, .int .i64 res2]) h3 := fun e => by
    rw [e] at hK
    exact ⟨ints R', by rw [ints_length, c.len], cellsR c.rf, c.fin (e := 0) (by omega) c.len em hK⟩
  refine cd (fun y => ⟨_, rdc c.rp rfl, os ⟨_, cell2 c.rf (fileV_get (i := 14) (by rw [c.len]; decide)), cn (fun y2 => ?_) fun y2 => ?_⟩⟩) fun y => ⟨_, rdc c.rp rfl, os (none_ ?_)⟩
  · have e0 : twoM g k T' R' = rootEnd 14 R' (cutT (tabD g (firstM k)) T' g (R'.getD 14 0) (firstM k / 128)) := by unfold twoM; rw [if_pos ⟨y, y2⟩]
    rw [e0] at hK
    rw [wrap_i64 (n := k - 138) (by omega) (by omega)]
    have ef : (if k - 138 > 0 then k - 138 else 0) = firstM k := rfl
    rw [ef]
    have fr0 : 0 ≤ firstM k ∧ firstM k < 100000 := by unfold firstM; split <;> omega
    refine New.intro fun h29 n29 => Put.intro n29.own (by rw [n29.rd]; decide) fun h30 d30 => ?_
    have z29 := n29.size
    have z30 := d30.size
    have F30 : Fr No hh h30 := n29.fr.did d30 fun hl => by omega
    have c30 := c.no F30
    have rx : rd h30 hh.size = [.int .i64 (firstM k)] := by rw [d30.rd, n29.rd]; rfl
    have nx : ¬ F' hh.size := fun y => by have := c.x.lt y; omega
    refine ⟨_, rdc c30.rp rfl, _, rdc c30.rp rfl, os ⟨_, cell2 c30.rf (fileV_get (i := 14) (by rw [c.len]; decide)), _, rdc rx rfl, ?_⟩⟩
    have ed : Int.tdiv (firstM k) 128 = firstM k / 128 := Int.tdiv_eq_ediv_of_nonneg fr0.1
    rw [ed, wrap_i64 (n := firstM k / 128) (by omega) (by omega)]
    have un := c.un
    have nfb := c.nF I.fb (by omega) (by omega)
    refine cut_spec (u := 129) (lim := 999999000) (glh.no F30) c30.x ok c30.rf nfb g0' (tab_drop (glh.no F30) ok c30.rf ⟨nfb, c.nF I.pb (by omega) (by omega), nx⟩ g0' c30.rp rx fr0.1 fr0.2 fun b hb => c30.x.lt hb) (tabD_un g (firstM k)) (by omega) (by decide) fun h31 F31 f31 g31 x31 => ⟨_, _, rfl, ?_⟩
    have hun := cutT_un (T := T') (g := g) (tab := R'.getD 14 0) (from_ := firstM k / 128) (tabD_un g (firstM k))
    generalize cutT (tabD g (firstM k)) T' g (R'.getD 14 0) (firstM k / 128) = C at hK x31 hun
    obtain ⟨T3, left, er⟩ := C
    simp only at x31 hun
    have c31 := c30.call f31 g31 x31 (u' := u + 20000) (by omega)
    unfold rootEnd at hK
    refine cn (fun he => ?_) fun he => cnot ?_
    · rw [if_pos he] at hK
      exact ⟨ints z15, rfl, cellsAll c31.ry, c31.fin (Y := z15) (e := er) (by omega) rfl em (by
        intro h' F2 f2 g2 x2
        have := hK h' F2 f2 g2
        simp only at this
        rw [if_pos he] at x2 this
        rw [if_pos he]
        rw [if_pos he] at this
        exact this x2)⟩
    · have he : er = 0 := he
      rw [if_neg (fun z => z he)] at hK
      cases left with
      | true =>
        exact ct rfl ⟨_, rdc c31.rp rfl, os ⟨ints R', by rw [ints_length, c.len], cellsR c31.rf, c31.fin (e := 0) (by omega) c.len em hK⟩⟩
      | false =>
        refine cf rfl ⟨_, rdc c31.rp rfl, os ?_⟩
        rw [add_mk, add_mk]
        refine Put.intro c31.of_ (by rw [c31.rf, fileV_len c.len]; decide) fun h35 d35 => ?_
        have d35 : Did I.fb h31 h35 (fileV t g (R'.set 14 0)) := by
          have := d35
          rw [c31.rf, show 0 + 6 + 14 = 6 + 14 by rfl, fileV_set] at this; exact this
        have c35 := c31.setR d35 (by rw [List.length_set]; exact c.len)
        exact ⟨_, rdc c35.rp rfl, os ⟨ints (R'.set 14 0), by rw [ints_length, c35.len], cellsR c35.rf, c35.fin (e := 0) (by omega) c35.len em hK⟩⟩
  · refine ⟨_, rdc c.rp rfl, os (none_ ?_)⟩
    unfold twoM; rw [if_neg (fun z => z.2 y2)]
  · unfold twoM; rw [if_neg (fun z => y z.1)]
end
theorem Cut_spec {h : Heap} {F : Nat → Prop} {t d : Option Addr} {T : TM} {g : G} {R : List Int} {k : Int} {K : Value → Heap → Prop} (gl : Glo h) (ok : g.ok) (x : Tx h F t d T) (live : T.over = false) (hR : R.length = 15) (g0 : ∀ b, b < 1 → ¬ F b) (hu : T.undo.length < 900000000)
    (hK : ∀ h' F', Fr F h h' → Gw h F h' F' → Tx h' F' t d (cutM T g R k).1 → K (.tuple #[.agg ⟨ints (cutM T g R k).2.1⟩, .int .i64 (cutM T g R k).2.2]) h') : C.bmap_Cut t g.v (ints R) k h K := by
  have Flt := fun y (hy : F y) => x.lt hy
  have gl1 := gl.lt
  refine bmap_Cut.ok (New.intro fun h2 n2 => New.intro fun h3 n3 => New.intro fun h4 n4 => New.intro fun h5 n5 => ?_)
  have z2 := n2.size
  have z3 := n3.size
  have z4 := n4.size
  have z5 := n5.size
  have F5 : Fr No h h5 := ((n2.fr.new n3).new n4).new n5
  have ry : rd h5 h3.size = ints z15 := (n5.at_ (by omega)).trans n4.rd
  have oy : Own h5 h3.size := n5.ow n4.own
  have re : rd h5 h4.size = [.int .i64 0] := n5.rd
  have oe' : Own h5 h4.size := n5.own
  by_cases hk : 0 ≤ k ∧ k ≤ 16522
  rotate_left
  · have e0 : cutM T g R k = (T, z15, 101) := by unfold cutM; rw [if_pos (by omega)]
    rw [e0] at hK
    have far : PutRow ⟨h3.size, 0, none⟩ (ints z15) 15 h5 fun h8 => Put ⟨h4.size, 0, none⟩ (.int .i64 101) h8 fun h10 =>
        ∃ res1 : List Value, List.length res1 = 15 ∧ Cells h10 ⟨h3.size, 0, none⟩ res1 ∧ ∃ (res2 : Int), cellOf h10 ⟨h4.size, 0, none⟩ = some (.int .i64 res2) ∧ K (.tuple #[.agg ⟨res1⟩, .int .i64 res2]) h10 := by
      refine PutRow.intro oy rfl z15_one (by rw [ry]; exact Nat.le_refl _) fun h8 d8 => Put.intro (d8.ow oe') (by rw [d8.at_ (by omega) (by omega), re]; decide) fun h10 d10 => ?_
      have z8 := d8.size
      have F10 : Fr No h h10 := (F5.did d8 fun hl => by omega).did d10 fun hl => by omega
      refine ⟨ints z15, rfl, cellsAll ?_, 101, rdc (xs := [.int .i64 101]) ?_ rfl, hK h10 F (F10.mono fun _ _ y => y.elim) (Gw.refl F10.size Flt) (x.no F10)⟩
      · rw [d10.at_ (by omega) (by omega), d8.rd, ry]; exact put_all _ _ rfl
      · rw [d10.rd, d8.at_ (by omega) (by omega), re]; rfl
    exact cd (fun _ => far) fun y => cd (fun _ => far) fun y2 => by exfalso; omega
  refine cd (fun y => by exfalso; omega) fun _ => cd (fun y => by exfalso; omega) fun _ => ?_
  have rg : rd h5 h.size = g.v := (n5.at_ (by omega)).trans ((n4.at_ (by omega)).trans ((n3.at_ (by omega)).trans n2.rd))
  have rx : rd h5 h2.size = ints R := (n5.at_ (by omega)).trans ((n4.at_ (by omega)).trans n3.rd)
  unfold bmap_Cut.k1
  refine guard_spec (x.no F5) fun ob tb mb h11 f11 b1 b2 b3 gd => ⟨_, _, _, rfl, New.intro fun h12 n12 => ?_⟩
  have z11 := f11.size
  have z12 := n12.size
  obtain ⟨gl1', gl2', gl3'⟩ := gd.lt
  refine Put.intro n12.own (by rw [n12.rd]; decide) fun h13 d13 => ?_
  have z13 := d13.size
  have q13 : ∀ b, b < h11.size → rd h13 b = rd h11 b := fun b hb => (d13.at_ (by omega) (by omega)).trans (n12.at_ hb)
  have q5 : ∀ b, b < h5.size → rd h11 b = rd h5 b := fun b hb => f11.rd hb fun y => y
  refine ⟨g.v, rfl, cellsAll ((q13 _ (by omega)).trans ((q5 _ (by omega)).trans rg)), ints R, by rw [ints_length, hR], cellsAll ((q13 _ (by omega)).trans ((q5 _ (by omega)).trans rx)), rfl, by rw [ints_length, hR], New.intro fun h14 n14 => New.intro fun h15 n15 => ?_⟩
  have z14 := n14.size
  have z15' := n15.size
  refine Put.intro n15.own (by rw [n15.rd]; decide) fun h16 d16 => ?_
  have z16 := d16.size
  have q16 : ∀ b, b < h13.size → rd h16 b = rd h13 b := fun b hb => (d16.at_ (by omega) (by omega)).trans ((n15.at_ (by omega)).trans (n14.at_ hb))
  have o16 : ∀ {b}, Own h5 b → Own h16 b := fun w => d16.ow (n15.ow (n14.ow (d13.ow (n12.ow (f11.own w.lt (fun y => y) w)))))
  have F13 : Fr No h h13 := ((F5.no f11).new n12).did d13 fun hl => by omega
  have F16 : Fr No h h16 := ((F13.new n14).new n15).did d16 fun hl => by omega
  have s5 := F5.size
  have em : T.mark = ((T.undo.length : Int), 0) := by unfold TM.mark; rw [live, if_neg (by simp)]
  have c16 : CX h F t d T g ⟨h3.size, h4.size, ob, tb, mb, h11.size, h13.size, h14.size⟩ h16 F T R T.undo.length := by
    refine ⟨⟨by show h3.size < h4.size; omega, by show h4.size < ob; omega, by show h4.size < tb; omega, by show h4.size < mb; omega, gl1', gl2', gl3', by show h11.size < h13.size; omega, by show h13.size < h14.size; omega⟩, by show h.size ≤ h3.size; omega, by show h14.size < h16.size; omega, F16.mono fun _ _ y => y.elim, Gw.refl F16.size Flt, x.no F16, Nat.le_refl _, hR,
      (q16 h3.size (by omega)).trans ((q13 _ (by omega)).trans ((q5 _ (by omega)).trans ry)), o16 oy, (q16 h4.size (by omega)).trans ((q13 _ (by omega)).trans ((q5 _ (by omega)).trans re)), o16 oe', (q16 h11.size (by omega)).trans (by rw [d13.rd, n12.rd]; rfl), (show rd h16 h14.size = _ by rw [d16.rd, n15.rd]; rfl),
      (d16.at_ (c := h13.size) (by omega) (by omega)).trans ((n15.at_ (by omega)).trans n14.rd), d16.ow (n15.ow n14.own), ⟨(q16 ob (by omega)).trans ((q13 _ gl1').trans gd.o), (q16 tb (by omega)).trans ((q13 _ gl2').trans gd.t), (q16 mb (by omega)).trans ((q13 _ gl3').trans gd.m)⟩, fun b hb _ y => ?_⟩
    have hb : h3.size ≤ b := hb
    have := Flt b y
    omega
  obtain ⟨I, j1, j2, j3, j4, j5, c16⟩ : ∃ I : Ids, h3.size = I.yb ∧ h4.size = I.eb ∧ h11.size = I.bk ∧ h14.size = I.pb ∧ h13.size = I.fb ∧ CX h F t d T g I h16 F T R T.undo.length := ⟨_, rfl, rfl, rfl, rfl, rfl, c16⟩
  have ec : cutM T g R k = if (cutS g k T R).2 ≠ 0 then (((cutS g k T R).1.1.back T.undo.length).1, z15, (cutS g k T R).2) else ((cutS g k T R).1.1, (cutS g k T R).1.2, 0) := by unfold cutM; rw [if_neg (by omega)]
  have hG : Goal h F t d T K (cutS g k T R) := by
    intro h' F2 f2 g2 x2
    have := hK h' F2 f2 g2
    rw [ec] at this
    by_cases he : (cutS g k T R).2 ≠ 0
    · rw [if_pos he] at x2 this ⊢
      exact this x2
    · have he' : (cutS g k T R).2 = 0 := Decidable.byContradiction he
      rw [if_neg he] at x2 this ⊢
      rw [he']
      exact this x2
  clear hK ec
  refine ⟨fun i hh => ∃ (F' : Nat → Prop) (T' : TM) (R' : List Int), CX h F t d T g I hh F' T' R' (T.undo.length + (i - k).toNat) ∧ k ≤ i ∧ (i ≤ 10 ∨ i = k) ∧ dirGo g (List.range' i.toNat (10 - i.toNat)) T' R' = dirGo g (dirsM k) T R, fun i _ => ((10 : Int) - i).toNat,
    ⟨F, T, R, by rw [Int.sub_self]; exact c16, Int.le_refl _, .inr rfl, rfl⟩, ?_⟩
  rintro i h17 ⟨F', T', R', c, i0, i1, ed⟩
  obtain ⟨a1, a2, a3, a4, a5, a6, a7, a8, a9⟩ := c.ok
  have lo := c.lo
  have hi := c.hi
  have un := c.un
  have g0' : ∀ b, b < 1 → ¬ F' b := fun b hb y => g0 b hb ((c.gw.old b (by omega)).mp y)
  have glh : Glo h17 := gl.fr c.fr g0
  rw [j1, j2, j3, j4]
  refine cd (fun hl => ?_) fun hl => ?_
  · have el : List.range' i.toNat (10 - i.toNat) = i.toNat :: List.range' (i + 1).toNat (10 - (i + 1).toNat) := by
      rw [show 10 - i.toNat = (10 - (i + 1).toNat) + 1 by omega, List.range'_succ, show (i + 1).toNat = i.toNat + 1 by omega]
    rw [el] at ed
    have ed : (if R'.getD (3 + i.toNat) 0 = 0 then dirGo g (List.range' (i + 1).toNat (10 - (i + 1).toNat)) T' R' else if (giveF T' g (R'.getD (3 + i.toNat) 0)).2 ≠ 0 then (((giveF T' g (R'.getD (3 + i.toNat) 0)).1, R'), (giveF T' g (R'.getD (3 + i.toNat) 0)).2) else
      dirGo g (List.range' (i + 1).toNat (10 - (i + 1).toNat)) (giveF T' g (R'.getD (3 + i.toNat) 0)).1 (R'.set (3 + i.toNat) 0)) = dirGo g (dirsM k) T R := ed
    have cell := fileV_get (t := t) (g := g) (R := R') (i := 3 + i.toNat) (by rw [c.len]; omega)
    have wr : IntKind.wrap .i64 (i + 1) = i + 1 := wrap_i64 (by omega) (by omega)
    rw [wr]
    refine ⟨_, rdc c.rp rfl, os ⟨⟨by omega, hl⟩, _, cell3 c.rf cell, cn (fun y => ?_) fun y => ?_⟩⟩
    · rw [if_neg y] at ed
      refine ⟨_, rdc c.rp rfl, _, rdc c.rp rfl, os ⟨⟨by omega, hl⟩, _, cell3 c.rf cell, give_spec c.x ok c.rf (by omega) fun h18 F8 f8 g8 x8 => ⟨_, rfl, ?_⟩⟩⟩
      have gu := giveF_un T' g (R'.getD (3 + i.toNat) 0)
      generalize giveF T' g (R'.getD (3 + i.toNat) 0) = W at ed x8 gu
      obtain ⟨T8, e8⟩ := W
      simp only at ed x8 gu
      have c8 := c.call f8 g8 x8 (u' := T.undo.length + (i + 1 - k).toNat) (by omega)
      refine cn (fun he => ?_) fun he => ?_
      · rw [if_pos he] at ed
        have es : cutS g k T R = ((T8, R'), e8) := by unfold cutS; rw [← ed, if_pos he]
        rw [es] at hG
        refine ⟨ints z15, rfl, cellsAll c8.ry, c8.fin (Y := z15) (e := e8) (by omega) rfl em ?_⟩
        intro h' F2 f2 g2 x2
        have := hG h' F2 f2 g2
        simp only at this
        rw [if_pos he] at x2
        rw [if_pos he, if_pos he] at this
        rw [if_pos he]
        exact this x2
      · rw [if_neg (fun z => z he)] at ed
        refine ⟨_, rdc c8.rp rfl, os ⟨⟨by omega, hl⟩, ?_⟩⟩
        rw [add_mk, add_mk, add_mk]
        refine Put.intro c8.of_ (by rw [c8.rf, fileV_len c8.len]; omega) fun h22 d22 => ?_
        have d22 : Did I.fb h18 h22 (fileV t g (R'.set (3 + i.toNat) 0)) := by
          have := d22
          rw [c8.rf, show 0 + 6 + 3 + i.toNat = 6 + (3 + i.toNat) by omega, fileV_set] at this; exact this
        exact ⟨⟨F8, T8, _, c8.setR d22 (by rw [List.length_set]; exact c8.len), by omega, by omega, ed⟩, by show ((10 : Int) - (i + 1)).toNat < ((10 : Int) - i).toNat; omega⟩
    · rw [if_pos y] at ed
      exact ⟨⟨F', T', R', ⟨c.ok, c.lo, c.hi, c.fr, c.gw, c.x, by omega, c.len, c.ry, c.oy, c.re, c.oe, c.rb, c.rp, c.rf, c.of_, c.gd, c.nF⟩, by omega, by omega, ed⟩, by show ((10 : Int) - (i + 1)).toNat < ((10 : Int) - i).toNat; omega⟩
  · have el : List.range' i.toNat (10 - i.toNat) = [] := by rw [show 10 - i.toNat = 0 by omega]; rfl
    rw [el] at ed
    have ed : ((T', R'), (0 : Int)) = dirGo g (dirsM k) T R := ed
    have ubd : (i - k).toNat ≤ 10 := by omega
    have es : cutS g k T R = if (oneM g k T' R').2 ≠ 0 then oneM g k T' R' else twoM g k (oneM g k T' R').1.1 (oneM g k T' R').1.2 := by unfold cutS; rw [← ed, if_neg (fun z => z rfl)]
    rw [es] at hG
    have skip : oneM g k T' R' = ((T', R'), 0) → bmap_Cut.k2 k h3 h4 h11 h14 h17 K := fun e => by
      rw [e, if_neg (fun z => z rfl)] at hG
      exact tail2 gl ok g0 em hk.1 hk.2 c (by omega) j1 j2 j3 j4 hG
    refine cd (fun y => ⟨_, rdc c.rp rfl, os ⟨_, cell2 c.rf (fileV_get (i := 13) (by rw [c.len]; decide)), cn (fun y2 => ?_) fun y2 => skip ?_⟩⟩) fun y => skip ?_
    · have e0 : oneM g k T' R' = rootEnd 13 R' (cutT (leafD g) T' g (R'.getD 13 0) (k - 10)) := by unfold oneM; rw [if_pos ⟨y, y2⟩]
      rw [e0] at hG
      have nfb := c.nF I.fb (by omega) (by omega)
      refine ⟨_, rdc c.rp rfl, _, rdc c.rp rfl, os ⟨_, cell2 c.rf (fileV_get (i := 13) (by rw [c.len]; decide)), _, rdc c.rp rfl, ?_⟩⟩
      rw [wrap_i64 (n := k - 10) (by omega) (by omega)]
      refine cut_spec (u := 1) (lim := 1000000000) glh c.x ok c.rf nfb g0' (leaf_drop ok c.rf nfb) (leafD_un g) (by omega) (Nat.le_refl _) fun h23 F3 f3 g3 x3 => ⟨_, _, rfl, ?_⟩
      have hun := cutT_un (T := T') (g := g) (tab := R'.getD 13 0) (from_ := k - 10) (leafD_un g)
      generalize cutT (leafD g) T' g (R'.getD 13 0) (k - 10) = C at hG x3 hun
      obtain ⟨T3, left, er⟩ := C
      simp only at x3 hun
      have c23 := c.call f3 g3 x3 (u' := T.undo.length + 1000) (by omega)
      unfold rootEnd at hG
      refine cn (fun he => ?_) fun he => cnot ?_
      · simp only at hG
        rw [if_pos he, if_pos he] at hG
        refine ⟨ints z15, rfl, cellsAll c23.ry, c23.fin (Y := z15) (e := er) (by omega) rfl em ?_⟩
        intro h' F2 f2 g2 x2
        have := hG h' F2 f2 g2
        simp only at this
        rw [if_pos he] at x2
        rw [if_pos he, if_pos he] at this
        rw [if_pos he]
        exact this x2
      · have he : er = 0 := he
        simp only at hG
        rw [if_neg (show ¬ (er ≠ 0) from fun z => z he), if_neg (fun z => z rfl)] at hG
        cases left with
        | true => exact ct rfl (tail2 gl ok g0 em hk.1 hk.2 c23 (by omega) j1 j2 j3 j4 hG)
        | false =>
          refine cf rfl ⟨_, rdc c23.rp rfl, os ?_⟩
          rw [add_mk, add_mk]
          refine Put.intro c23.of_ (by rw [c23.rf, fileV_len c23.len]; decide) fun h27 d27 => ?_
          have d27 : Did I.fb h23 h27 (fileV t g (R'.set 13 0)) := by
            have := d27
            rw [c23.rf, show 0 + 6 + 13 = 6 + 13 by rfl, fileV_set] at this; exact this
          exact tail2 gl ok g0 em hk.1 hk.2 (c23.setR d27 (by rw [List.length_set]; exact c23.len)) (by omega) j1 j2 j3 j4 hG
    · unfold oneM; rw [if_neg (fun z => z.2 y2)]
    · unfold oneM; rw [if_neg (fun z => y z.1)]
end Go.Proofs.YtcdpakjhjmchhaaDoor.Bm
namespace Go.Proofs.YtcdpakjhjmchhaaDoor.Bm
open Go Go.Proofs Go.Proofs.YtcdpakjhjmchhaaDoor.Wx Go.Proofs.YtcdpakjhjmchhaaDoor.Hp Go.Proofs.YtcdpakjhjmchhaaDoor.W Go.Proofs.YtcdpakjhjmchhaaDoor.Ad Go.Proofs.YtcdpakjhjmchhaaDoor.Tm Go.Proofs.YtcdpakjhjmchhaaDoor.Spc Go.Proofs.YtcdpakjhjmchhaaDoor.Re Go.Proofs.YtcdpakjhjmchhaaDoor.Av
open Go.Proofs.YtcdpakjhjmchhaaDoor.Hd (ints wrap_u64)
open Go.Proofs.YtcdpakjhjmchhaaDoor.In (Glo ints_length ints_one)
structure AllS where
  L : List (Int × Int)
  M : List Int
def AllS.n (S : AllS) : Nat := S.L.length + S.M.length
abbrev DoM := AllS → Nat → Int → AllS × Int
def ownA (g : G) (S : AllS) (k v : Int) : AllS × Int := if v = 0 then (S, 0) else (⟨S.L ++ [(k, v)], S.M⟩, lookM g v)
def eachGo (dO : DoM) : List Int → Nat → AllS → AllS × Int
  | [], _, S => (S, 0)
  | v :: r, i, S => if (dO S i v).2 ≠ 0 then dO S i v else eachGo dO r (i + 1) (dO S i v).1
def eachM (T : TM) (g : G) (dO : DoM) (tab : Int) (S : AllS) : AllS × Int :=
  if tab = 0 then (S, 0) else if lookM g tab ≠ 0 then (⟨S.L, S.M ++ [tab]⟩, lookM g tab) else if (T.read tab).2 ≠ 0 then (⟨S.L, S.M ++ [tab]⟩, (T.read tab).2) else
    eachGo dO (numsL (T.read tab).1) 0 ⟨S.L, S.M ++ [tab]⟩
def dirD (g : G) : DoM := fun S i v => ownA g S i v
def oneD (g : G) : DoM := fun S i v => ownA g S (10 + i) v
def inD (g : G) (i : Nat) : DoM := fun S j v => ownA g S (138 + (i : Int) * 128 + j) v
def twoD (T : TM) (g : G) : DoM := fun S i tab => eachM T g (inD g i) tab S
def allS (T : TM) (g : G) (R : List Int) : AllS × Int :=
  if (eachGo (dirD g) ((R.drop 3).take 10) 0 ⟨[], []⟩).2 ≠ 0 then eachGo (dirD g) ((R.drop 3).take 10) 0 ⟨[], []⟩ else
  if (eachM T g (oneD g) (R.getD 13 0) (eachGo (dirD g) ((R.drop 3).take 10) 0 ⟨[], []⟩).1).2 ≠ 0 then eachM T g (oneD g) (R.getD 13 0) (eachGo (dirD g) ((R.drop 3).take 10) 0 ⟨[], []⟩).1 else
    eachM T g (twoD T g) (R.getD 14 0) (eachM T g (oneD g) (R.getD 13 0) (eachGo (dirD g) ((R.drop 3).take 10) 0 ⟨[], []⟩).1).1
def allM (T : TM) (g : G) (R : List Int) : List (Int × Int) × List Int × Int := if (allS T g R).2 ≠ 0 then ([], [], (allS T g R).2) else ((allS T g R).1.L, (allS T g R).1.M, 0)
theorem ownA_n (g : G) (S : AllS) (k v : Int) : (ownA g S k v).1.n ≤ S.n + 1 := by
  unfold ownA
  split
  · exact Nat.le_add_right _ _
  · unfold AllS.n; rw [List.length_append]; show S.L.length + 1 + S.M.length ≤ _; omega
theorem eachGo_n {dO : DoM} {w : Nat} (hd : ∀ S i v, (dO S i v).1.n ≤ S.n + w) : ∀ (l : List Int) (i : Nat) (S : AllS), (eachGo dO l i S).1.n ≤ S.n + w * l.length
  | [], _, S => Nat.le_add_right _ _
  | v :: r, i, S => by
    rw [List.length_cons, Nat.mul_succ]
    have h1 := hd S i v
    unfold eachGo
    split
    · omega
    · have := eachGo_n hd r (i + 1) (dO S i v).1; omega
theorem eachM_n {T : TM} {g : G} {dO : DoM} {tab : Int} {S : AllS} {w : Nat} (hd : ∀ S i v, (dO S i v).1.n ≤ S.n + w) : (eachM T g dO tab S).1.n ≤ S.n + (w * 128 + 1) := by
  have e : (⟨S.L, S.M ++ [tab]⟩ : AllS).n = S.n + 1 := by unfold AllS.n; rw [List.length_append]; show S.L.length + (S.M.length + 1) = _; omega
  unfold eachM
  split
  · exact Nat.le_add_right _ _
  · split
    · show (⟨S.L, S.M ++ [tab]⟩ : AllS).n ≤ _; omega
    · split
      · show (⟨S.L, S.M ++ [tab]⟩ : AllS).n ≤ _; omega
      · have := eachGo_n hd (numsL (T.read tab).1) 0 ⟨S.L, S.M ++ [tab]⟩
        rw [numsL_len] at this; omega
def pcellA (p : Int × Int) : List Value := [.int .i64 p.1, .int .i64 p.2]
structure AIds where
  fb : Nat
  fp : Nat
  bc : Nat
  tc : Nat
  oc : Nat
  ec : Nat
def ownV (I : AIds) : Value := .func (.func 47) #[] ⟨[.pointer (some ⟨I.bc, 0, none⟩), .pointer (some ⟨I.fp, 0, none⟩)]⟩
def eachV (I : AIds) : Value := .func (.func 49) #[] ⟨[.pointer (some ⟨I.fp, 0, none⟩), .pointer (some ⟨I.tc, 0, none⟩)]⟩
structure AH (F : Nat → Prop) (t d : Option Addr) (T : TM) (g : G) (R : List Int) (I : AIds) (hh : Heap) (Q : Nat → Prop) (S : AllS) : Prop where
  gl : Glo hh
  x : Tx hh F t d T
  rf : rd hh I.fb = fileV t g R
  rp : rd hh I.fp = [.pointer (some ⟨I.fb, 0, none⟩)]
  ro : rd hh I.oc = [ownV I]
  re : rd hh I.ec = [eachV I]
  ob : Own hh I.bc
  ot : Own hh I.tc
  ne : I.bc ≠ I.tc
  rows : ∃ P1 P2 a1 c1 a2 c2, rd hh I.bc = [.slice a1 S.L.length c1] ∧ rd hh I.tc = [.slice a2 S.M.length c2] ∧ Sl hh 2 a1 S.L.length c1 (S.L.flatMap pcellA) P1 ∧ Sl hh 1 a2 S.M.length c2 (S.M.map (.int .i64)) P2 ∧ (∀ b, P1 b → b ≠ I.bc ∧ b ≠ I.tc ∧ ¬ P2 b) ∧ (∀ b, P2 b → b ≠ I.bc ∧ b ≠ I.tc) ∧ ∀ b, Q b ↔ b = I.bc ∨ b = I.tc ∨ P1 b ∨ P2 b
  lt : ∀ b, Q b → b < hh.size
  nQ : ∀ b, Q b → ¬ F b ∧ b ≠ I.fb ∧ b ≠ I.fp ∧ b ≠ I.oc ∧ b ≠ I.ec ∧ 1 ≤ b
theorem AH.no {F : Nat → Prop} {t d : Option Addr} {T : TM} {g : G} {R : List Int} {I : AIds} {hh h' : Heap} {Q : Nat → Prop} {S : AllS} (a : AH F t d T g R I hh Q S) (f : Fr No hh h') : AH F t d T g R I h' Q S := by
  obtain ⟨P1, P2, a1, c1, a2, c2, r1, r2, s1, s2, k1, k2, k3⟩ := a.rows
  have q : ∀ {b xs v}, rd hh b = v :: xs → rd h' b = v :: xs := fun e => (f.rd (rd_lt (o := 0) (by rw [e]; rfl)) fun y => y).trans e
  exact ⟨a.gl.no f, a.x.no f, q a.rf, q a.rp, q a.ro, q a.re, f.own a.ob.lt (fun y => y) a.ob, f.own a.ot.lt (fun y => y) a.ot, a.ne, ⟨P1, P2, a1, c1, a2, c2, q r1, q r2, s1.fr f (fun _ _ _ y => y), s2.fr f (fun _ _ _ y => y), k1, k2, k3⟩, fun b hb => Nat.lt_of_lt_of_le (a.lt b hb) f.size, a.nQ⟩
/-- a closure that does a number, as dO says -/
def DoS (dv : Value) (dO : DoM) (h0 : Heap) (Q0 : Nat → Prop) (F : Nat → Prop) (t d : Option Addr) (T : TM) (g : G) (R : List Int) (I : AIds) (lim : Nat) : Prop :=
  ∀ (hh : Heap) (Q : Nat → Prop) (S : AllS) (i : Nat) (v : Int) (K : Value → Heap → Prop), Fr Q0 h0 hh → Gw h0 Q0 hh Q → AH F t d T g R I hh Q S → S.n < lim → i < 128 → -9223372036854775808 ≤ v → v ≤ 9223372036854775807 →
    (∀ h' Q', Fr Q hh h' → Gw hh Q h' Q' → AH F t d T g R I h' Q' (dO S i v).1 → K (.int .i64 (dO S i v).2) h') → HCallsV Tryd.prog dv [.int .i64 (i : Int), .int .i64 v] hh K
theorem own_spec' {F : Nat → Prop} {t d : Option Addr} {T : TM} {g : G} {R : List Int} {I : AIds} {hh : Heap} {Q : Nat → Prop} {S : AllS} {k v : Int} {K : Value → Heap → Prop} (a : AH F t d T g R I hh Q S) (hn : S.n < 1000000)
    (hK : ∀ h' Q', Fr Q hh h' → Gw hh Q h' Q' → AH F t d T g R I h' Q' (ownA g S k v).1 → K (.int .i64 (ownA g S k v).2) h') : HCallsV Tryd.prog (ownV I) [.int .i64 k, .int .i64 v] hh K := by
  show C.bmap_All_c1 k v (some ⟨I.bc, 0, none⟩) (some ⟨I.fp, 0, none⟩) hh K
  obtain ⟨P1, P2, a1, c1, a2, c2, r1, r2, s1, s2, k1, k2, k3⟩ := a.rows
  refine bmap_All_c1.ok (ce (fun y => ?_) fun y => os ⟨_, _, _, rdc r1 rfl, rfl, New.intro fun h2 n2 => ⟨pcellA (k, v), rfl, cellsAll n2.rd, one2 rfl rfl, ?_⟩⟩)
  · have e0 : ownA g S k v = (S, 0) := by unfold ownA; rw [if_pos y]
    rw [e0] at hK
    exact hK hh Q (Fr.refl _ _) (Gw.refl (Nat.le_refl _) a.lt) a
  have e0 : ownA g S k v = (⟨S.L ++ [(k, v)], S.M⟩, lookM g v) := by unfold ownA; rw [if_neg y]
  rw [e0] at hK
  have z2 := n2.size
  have hSn : S.L.length ≤ S.n := Nat.le_add_right _ _
  refine append_own (elem := ti56) ((sl_rngB s1).fr n2.fr fun _ _ _ y => y) rfl rfl (by show (_ + 1) * 16 ≤ _; omega) (by omega) fun a' c' h3 f3 s3 => ?_
  have z3 := f3.size
  have lb := a.ob.lt
  have ltc := a.ot.lt
  have q3 : ∀ b, b < hh.size → ¬ P1 b → rd h3 b = rd hh b := fun b hb hp => (f3.rd (by omega) fun y => hp y.1).trans (n2.at_ hb)
  have w3 : ∀ b, ¬ P1 b → Own hh b → Own h3 b := fun b hp o => f3.own (by have := o.lt; omega) (fun y => hp y.1) (n2.ow o)
  have nb : ¬ P1 I.bc := fun y => (k1 _ y).1 rfl
  have nt : ¬ P1 I.tc := fun y => (k1 _ y).2.1 rfl
  have r3 : rd h3 I.bc = _ := (q3 _ lb nb).trans r1
  refine os (Put.intro (w3 _ nb a.ob) (by rw [r3]; exact Nat.zero_lt_one) fun h4 d4 => ?_)
  have z4 := d4.size
  have nid : ∀ b, (b = I.fb ∨ b = I.fp ∨ b = I.oc ∨ b = I.ec ∨ b < 1 ∨ F b) → ¬ Q b := fun b hb y => by
    have n := a.nQ b y
    rcases hb with h | h | h | h | h | h
    · exact n.2.1 h
    · exact n.2.2.1 h
    · exact n.2.2.2.1 h
    · exact n.2.2.2.2.1 h
    · omega
    · exact n.1 h
  have F4 : Fr Q hh h4 := (((n2.fr.mono fun _ _ y => y.elim).trans f3 fun b _ y => (k3 b).mpr (.inr (.inr (.inl y.1)))).did d4 fun _ => (k3 _).mpr (.inl rfl))
  have idl : ∀ {b v}, rd hh b = [v] → (b = I.fb ∨ b = I.fp ∨ b = I.oc ∨ b = I.ec ∨ b < 1 ∨ F b) → rd h4 b = [v] := fun e hb => (F4.rd (rd_lt (o := 0) (by rw [e]; rfl)) (nid _ hb)).trans e
  have rf4 : rd h4 I.fb = fileV t g R := (F4.rd (rd_lt (o := 0) (by rw [a.rf]; rfl)) (nid _ (.inl rfl))).trans a.rf
  have rp4 := idl a.rp (.inr (.inl rfl))
  refine os ⟨_, rdc rp4 rfl, look_spec rf4 ⟨_, rfl, ?_⟩⟩
  have s3' := (sl_rngB s3).fr d4.fr fun b hb y e => by
    have e : b = I.bc := e
    have y := y.1
    rcases y with y | y
    · exact nb (e ▸ y.1)
    · rw [e] at y; omega
  have s24 : Sl h4 1 a2 S.M.length c2 (S.M.map (.int .i64)) (fun b => P2 b ∧ b < hh.size) := (((sl_rngB s2).fr n2.fr fun _ _ _ y => y).fr f3 fun b _ y z => (k1 b z.1).2.2 y.1).fr d4.fr fun b _ y e => (k2 b y.1).1 e
  have rt4 : rd h4 I.tc = [.slice a2 S.M.length c2] := (d4.at_ (by omega) a.ne.symm).trans ((q3 _ ltc nt).trans r2)
  refine hK h4 (fun b => b = I.bc ∨ b = I.tc ∨ ((P1 b ∧ b < hh.size ∨ h2.size ≤ b) ∧ b < h3.size) ∨ (P2 b ∧ b < hh.size)) F4 ⟨fun b hb => ?_, fun b hb => ?_⟩ ⟨a.gl.fr F4 (fun b hb => nid b (by omega)), a.x.fr F4 (fun b hb => nid b (by simp [hb])), rf4, rp4, idl a.ro (by simp), idl a.re (by simp), d4.own, d4.ow (w3 _ nt a.ot), a.ne,
    ⟨_, _, a', c', a2, c2, ?_, rt4, ?_, s24, fun b hb => ?_, fun b hb => k2 b hb.1, fun b => Iff.rfl⟩, fun b hb => ?_, fun b hb => ?_⟩
  · show _ ↔ Q b
    rw [k3 b]
    constructor
    · rintro (y | y | y | y)
      · exact .inl y
      · exact .inr (.inl y)
      · rcases y.1 with z | z
        · exact .inr (.inr (.inl z.1))
        · omega
      · exact .inr (.inr (.inr y.1))
    · rintro (y | y | y | y)
      · exact .inl y
      · exact .inr (.inl y)
      · exact .inr (.inr (.inl ⟨.inl ⟨y, hb⟩, by omega⟩))
      · exact .inr (.inr (.inr ⟨y, hb⟩))
  · rcases hb with y | y | y | y <;> omega
  · show rd h4 I.bc = [.slice a' (S.L ++ [(k, v)]).length c']
    rw [d4.rd, r3, List.length_append]; rfl
  · show Sl h4 2 a' (S.L ++ [(k, v)]).length c' ((S.L ++ [(k, v)]).flatMap pcellA) _
    rw [List.length_append, List.flatMap_append]
    exact s3'
  · rcases hb with ⟨y | y, z⟩
    · have := k1 b y.1
      exact ⟨this.1, this.2.1, fun w => this.2.2 w.1⟩
    · exact ⟨by omega, by omega, fun w => by omega⟩
  · rcases hb with y | y | y | y <;> omega
  · have new : h2.size ≤ b → ¬ F b ∧ b ≠ I.fb ∧ b ≠ I.fp ∧ b ≠ I.oc ∧ b ≠ I.ec ∧ 1 ≤ b := fun hl => by
      have l1 : I.fb < hh.size := rd_lt (o := 0) (by rw [a.rf]; rfl)
      have l2 : I.fp < hh.size := rd_lt (o := 0) (by rw [a.rp]; rfl)
      have l3 : I.oc < hh.size := rd_lt (o := 0) (by rw [a.ro]; rfl)
      have l4 : I.ec < hh.size := rd_lt (o := 0) (by rw [a.re]; rfl)
      exact ⟨fun y => by have := a.x.lt y; omega, by omega, by omega, by omega, by omega, by omega⟩
    rcases hb with y | y | y | y
    · exact a.nQ b ((k3 b).mpr (.inl y))
    · exact a.nQ b ((k3 b).mpr (.inr (.inl y)))
    · rcases y.1 with z | z
      · exact a.nQ b ((k3 b).mpr (.inr (.inr (.inl z.1))))
      · exact new z
    · exact a.nQ b ((k3 b).mpr (.inr (.inr (.inr y.1))))
end Go.Proofs.YtcdpakjhjmchhaaDoor.Bm
namespace Go.Proofs.YtcdpakjhjmchhaaDoor.Bm
open Go Go.Proofs Go.Proofs.YtcdpakjhjmchhaaDoor.Wx Go.Proofs.YtcdpakjhjmchhaaDoor.Hp Go.Proofs.YtcdpakjhjmchhaaDoor.W Go.Proofs.YtcdpakjhjmchhaaDoor.Ad Go.Proofs.YtcdpakjhjmchhaaDoor.Tm Go.Proofs.YtcdpakjhjmchhaaDoor.Spc Go.Proofs.YtcdpakjhjmchhaaDoor.Re Go.Proofs.YtcdpakjhjmchhaaDoor.Av
open Go.Proofs.YtcdpakjhjmchhaaDoor.Hd (ints wrap_u64)
open Go.Proofs.YtcdpakjhjmchhaaDoor.In (Glo ints_length ints_one)
theorem AH.pushM {F : Nat → Prop} {t d : Option Addr} {T : TM} {g : G} {R : List Int} {I : AIds} {hh : Heap} {Q : Nat → Prop} {S : AllS} {tab : Int} {X : Heap → Prop} (a : AH F t d T g R I hh Q S) (hn : S.n < 1000000)
    (hX : ∀ h' Q', Fr Q hh h' → Gw hh Q h' Q' → AH F t d T g R I h' Q' ⟨S.L, S.M ++ [tab]⟩ → X h') :
    ∃ (sA3 : Option Addr) (sL3 : Nat) (sC3 : Nat), cellOf hh ⟨I.tc, 0, none⟩ = some (.slice sA3 sL3 sC3) ∧ New [.int .i64 tab] 3 hh fun h3 =>
      ∃ new1 : List Value, List.length new1 = 1 * 1 ∧ SlCells h3 (some ⟨hh.size, 0, none⟩) new1 ∧ (∀ v ∈ new1, v.oneCell' = true) ∧ AppendP ti3 3 sA3 sL3 sC3 1 new1 h3 fun sA4 sL4 sC4 h4 => onSome (some (⟨I.tc, 0, none⟩ : Addr)) fun p3 => Put p3 (.slice sA4 sL4 sC4) h4 fun h5 => X h5 := by
  obtain ⟨P1, P2, a1, c1, a2, c2, r1, r2, s1, s2, k1, k2, k3⟩ := a.rows
  refine ⟨_, _, _, rdc r2 rfl, New.intro fun h2 n2 => ⟨[.int .i64 tab], rfl, cellsAll n2.rd, (fun v hv => by rw [List.mem_singleton.mp hv]; rfl), ?_⟩⟩
  have z2 := n2.size
  have hSn : S.M.length ≤ S.n := Nat.le_add_left _ _
  refine append_own (elem := ti3) ((sl_rngB s2).fr n2.fr fun _ _ _ y => y) rfl rfl (by show (_ + 1) * 8 ≤ _; omega) (by omega) fun a' c' h3 f3 s3 => ?_
  have z3 := f3.size
  have lb := a.ob.lt
  have ltc := a.ot.lt
  have q3 : ∀ b, b < hh.size → ¬ P2 b → rd h3 b = rd hh b := fun b hb hp => (f3.rd (by omega) fun y => hp y.1).trans (n2.at_ hb)
  have w3 : ∀ b, ¬ P2 b → Own hh b → Own h3 b := fun b hp o => f3.own (by have := o.lt; omega) (fun y => hp y.1) (n2.ow o)
  have nb : ¬ P2 I.bc := fun y => (k2 _ y).1 rfl
  have nt : ¬ P2 I.tc := fun y => (k2 _ y).2 rfl
  have r3 : rd h3 I.tc = _ := (q3 _ ltc nt).trans r2
  refine os (Put.intro (w3 _ nt a.ot) (by rw [r3]; exact Nat.zero_lt_one) fun h4 d4 => ?_)
  have z4 := d4.size
  have nid : ∀ b, (b = I.fb ∨ b = I.fp ∨ b = I.oc ∨ b = I.ec ∨ b < 1 ∨ F b) → ¬ Q b := fun b hb y => by
    have n := a.nQ b y
    rcases hb with h | h | h | h | h | h
    · exact n.2.1 h
    · exact n.2.2.1 h
    · exact n.2.2.2.1 h
    · exact n.2.2.2.2.1 h
    · omega
    · exact n.1 h
  have F4 : Fr Q hh h4 := (((n2.fr.mono fun _ _ y => y.elim).trans f3 fun b _ y => (k3 b).mpr (.inr (.inr (.inr y.1)))).did d4 fun _ => (k3 _).mpr (.inr (.inl rfl)))
  have idl : ∀ {b v}, rd hh b = [v] → (b = I.fb ∨ b = I.fp ∨ b = I.oc ∨ b = I.ec ∨ b < 1 ∨ F b) → rd h4 b = [v] := fun e hb => (F4.rd (rd_lt (o := 0) (by rw [e]; rfl)) (nid _ hb)).trans e
  have rf4 : rd h4 I.fb = fileV t g R := (F4.rd (rd_lt (o := 0) (by rw [a.rf]; rfl)) (nid _ (.inl rfl))).trans a.rf
  have rp4 := idl a.rp (.inr (.inl rfl))
  have s3' := (sl_rngB s3).fr d4.fr fun b hb y e => by
    have e : b = I.tc := e
    have y := y.1
    rcases y with y | y
    · exact nt (e ▸ y.1)
    · rw [e] at y; omega
  have s14 : Sl h4 2 a1 S.L.length c1 (S.L.flatMap pcellA) (fun b => P1 b ∧ b < hh.size) := (((sl_rngB s1).fr n2.fr fun _ _ _ y => y).fr f3 fun b _ y z => (k1 b y.1).2.2 z.1).fr d4.fr fun b _ y e => (k1 b y.1).2.1 e
  have rb4 : rd h4 I.bc = [.slice a1 S.L.length c1] := (d4.at_ (by omega) a.ne).trans ((q3 _ lb nb).trans r1)
  refine hX h4 (fun b => b = I.bc ∨ b = I.tc ∨ (P1 b ∧ b < hh.size) ∨ ((P2 b ∧ b < hh.size ∨ h2.size ≤ b) ∧ b < h3.size)) F4 ⟨fun b hb => ?_, fun b hb => ?_⟩ ⟨a.gl.fr F4 (fun b hb => nid b (by omega)), a.x.fr F4 (fun b hb => nid b (by simp [hb])), rf4, rp4, idl a.ro (by simp), idl a.re (by simp), d4.ow (w3 _ nb a.ob), d4.own, a.ne,
    ⟨_, _, a1, c1, a', c', rb4, ?_, s14, ?_, fun b hb => ?_, fun b hb => ?_, fun b => Iff.rfl⟩, fun b hb => ?_, fun b hb => ?_⟩
  · show _ ↔ Q b
    rw [k3 b]
    constructor
    · rintro (y | y | y | y)
      · exact .inl y
      · exact .inr (.inl y)
      · exact .inr (.inr (.inl y.1))
      · rcases y.1 with z | z
        · exact .inr (.inr (.inr z.1))
        · omega
    · rintro (y | y | y | y)
      · exact .inl y
      · exact .inr (.inl y)
      · exact .inr (.inr (.inl ⟨y, hb⟩))
      · exact .inr (.inr (.inr ⟨.inl ⟨y, hb⟩, by omega⟩))
  · rcases hb with y | y | y | y <;> omega
  · show rd h4 I.tc = [.slice a' (S.M ++ [tab]).length c']
    rw [d4.rd, r3, List.length_append]; rfl
  · show Sl h4 1 a' (S.M ++ [tab]).length c' ((S.M ++ [tab]).map (.int .i64)) _
    rw [List.length_append, List.map_append]
    exact s3'
  · have := k1 b hb.1
    refine ⟨this.1, this.2.1, fun w => ?_⟩
    rcases w with ⟨y | y, z⟩
    · exact this.2.2 y.1
    · have := hb.2; omega
  · rcases hb with ⟨y | y, z⟩
    · exact k2 b y.1
    · exact ⟨by omega, by omega⟩
  · rcases hb with y | y | y | y <;> omega
  · have new : h2.size ≤ b → ¬ F b ∧ b ≠ I.fb ∧ b ≠ I.fp ∧ b ≠ I.oc ∧ b ≠ I.ec ∧ 1 ≤ b := fun hl => by
      have l1 : I.fb < hh.size := rd_lt (o := 0) (by rw [a.rf]; rfl)
      have l2 : I.fp < hh.size := rd_lt (o := 0) (by rw [a.rp]; rfl)
      have l3 : I.oc < hh.size := rd_lt (o := 0) (by rw [a.ro]; rfl)
      have l4 : I.ec < hh.size := rd_lt (o := 0) (by rw [a.re]; rfl)
      exact ⟨fun y => by have := a.x.lt y; omega, by omega, by omega, by omega, by omega, by omega⟩
    rcases hb with y | y | y | y
    · exact a.nQ b ((k3 b).mpr (.inl y))
    · exact a.nQ b ((k3 b).mpr (.inr (.inl y)))
    · exact a.nQ b ((k3 b).mpr (.inr (.inr (.inl y.1))))
    · rcases y.1 with z | z
      · exact a.nQ b ((k3 b).mpr (.inr (.inr (.inr z.1))))
      · exact new z
theorem eachGo_cons (dO : DoM) (v : Int) (r : List Int) (i : Nat) (S : AllS) : eachGo dO (v :: r) i S = if (dO S i v).2 ≠ 0 then dO S i v else eachGo dO r (i + 1) (dO S i v).1 := rfl
theorem each_spec {F : Nat → Prop} {t d : Option Addr} {T : TM} {g : G} {R : List Int} {I : AIds} {hh : Heap} {Q : Nat → Prop} {S : AllS} {tab : Int} {dv : Value} {dO : DoM} {w lim : Nat} {K : Value → Heap → Prop} (a : AH F t d T g R I hh Q S) (D : DoS dv dO hh Q F t d T g R I lim) (hd : ∀ S i v, (dO S i v).1.n ≤ S.n + w) (hn : S.n + (w * 128 + 2) < lim) (hlim : lim ≤ 1000000)
    (hK : ∀ h' Q', Fr Q hh h' → Gw hh Q h' Q' → AH F t d T g R I h' Q' (eachM T g dO tab S).1 → K (.int .i64 (eachM T g dO tab S).2) h') : HCallsV Tryd.prog (eachV I) [.int .i64 tab, dv] hh K := by
  show C.bmap_All_c2 tab dv (some ⟨I.fp, 0, none⟩) (some ⟨I.tc, 0, none⟩) hh K
  refine bmap_All_c2.ok (ce (fun y => ?_) fun y => os ⟨_, rdc a.rp rfl, numbers_spec a.gl a.x a.rf (fun he h2 f2 => ⟨_, _, _, _, _, _, _, rfl, os ?_⟩) fun y1 y2 hlen sa sc lb h2 f2 hlb s2 r2 o2 => ⟨_, _, _, _, _, _, _, rfl, os ?_⟩⟩)
  · have e0 : eachM T g dO tab S = (S, 0) := by unfold eachM; rw [if_pos y]
    rw [e0] at hK
    exact hK hh Q (Fr.refl _ _) (Gw.refl (Nat.le_refl _) a.lt) a
  · have z2 := f2.size
    refine (a.no f2).pushM (by omega) fun h5 Q5 f5 g5 a5 => ?_
    have F5 : Fr Q hh h5 := (f2.mono fun _ _ y => y.elim).trans f5 fun _ _ y => y
    have G5 : Gw hh Q h5 Q5 := (Gw.refl z2 a.lt).trans g5 z2
    have hK := hK h5 Q5 F5 G5
    have e0 : eachM T g dO tab S = (⟨S.L, S.M ++ [tab]⟩, if lookM g tab ≠ 0 then lookM g tab else (T.read tab).2) := by
      unfold eachM
      rw [if_neg y]
      by_cases h1 : lookM g tab ≠ 0
      · rw [if_pos h1, if_pos h1]
      · rw [if_neg h1, if_neg h1, if_pos (he.resolve_left h1)]
    rw [e0] at hK
    refine ⟨fun e i h6 => e = (if lookM g tab ≠ 0 then lookM g tab else (T.read tab).2) ∧ i = 0 ∧ h6 = h5, fun _ _ _ => 0, ⟨rfl, rfl, rfl⟩, ?_⟩
    rintro e i h6 ⟨rfl, rfl, rfl⟩
    exact cd (fun z => absurd z (by decide)) fun _ => hK a5
  · have z2 := f2.size
    refine (a.no f2).pushM (by omega) fun h5 Q5 f5 g5 a5 => ?_
    have F5 : Fr Q hh h5 := (f2.mono fun _ _ y => y.elim).trans f5 fun _ _ y => y
    have G5 : Gw hh Q h5 Q5 := (Gw.refl z2 a.lt).trans g5 z2
    have z5 := f5.size
    have e0 : eachM T g dO tab S = eachGo dO (numsL (T.read tab).1) 0 ⟨S.L, S.M ++ [tab]⟩ := by unfold eachM; rw [if_neg y, if_neg (fun z => z y1), if_neg (fun z => z y2)]
    rw [e0] at hK
    have nl := numsL_len (T.read tab).1
    have nlt : ∀ j (hj : j < (numsL (T.read tab).1).length), 0 ≤ (numsL (T.read tab).1)[j] ∧ (numsL (T.read tab).1)[j] < 4294967296 := fun j hj => by
      rw [numsL_get hj]
      have := num4_lt (T.read tab).1 j
      omega
    generalize numsL (T.read tab).1 = ns at hK r2 nl nlt
    have lbl : lb < h2.size := o2.lt
    have nlb : ¬ Q lb := fun y => by have := a.lt lb y; omega
    have r5 : rd h5 lb = ints ns := (f5.rd lbl nlb).trans r2
    have n5 : (⟨S.L, S.M ++ [tab]⟩ : AllS).n = S.n + 1 := by unfold AllS.n; rw [List.length_append]; show S.L.length + (S.M.length + 1) = _; omega
    refine ⟨fun e i h6 => ∃ (j : Nat) (Q6 : Nat → Prop) (S6 : AllS), i = j ∧ j ≤ 128 ∧ Fr Q hh h6 ∧ Gw h2 Q h6 Q6 ∧ h2.size ≤ h6.size ∧ AH F t d T g R I h6 Q6 S6 ∧ rd h6 lb = ints ns ∧ S6.n ≤ S.n + 1 + w * j ∧
        ((e = 0 ∧ eachGo dO (ns.drop j) j S6 = eachGo dO ns 0 ⟨S.L, S.M ++ [tab]⟩) ∨ (e ≠ 0 ∧ (S6, e) = eachGo dO ns 0 ⟨S.L, S.M ++ [tab]⟩)), fun _ i _ => ((128 : Int) - i).toNat,
      ⟨0, Q5, _, rfl, by decide, F5, g5, z5, a5, r5, by rw [n5]; exact Nat.le_refl _, .inl ⟨rfl, by rw [List.drop_zero]⟩⟩, ?_⟩
    intro e i h6 hI
    obtain ⟨j, Q6, S6, ei, hj, f6, g6, zz, a6, r6, u6, hE⟩ := hI
    have G6 : Gw hh Q h6 Q6 := (Gw.refl z2 a.lt).trans g6 z2
    have fin : (S6, e) = eachGo dO ns 0 ⟨S.L, S.M ++ [tab]⟩ → K (.int .i64 e) h6 := fun ee => by rw [← ee] at hK; exact hK h6 Q6 f6 G6 a6
    refine cd (fun hl => ce (fun h0 => ?_) fun h0 => fin ?_) fun hl => fin ?_
    · subst ei
      have ew := (hE.resolve_right (fun z => z.1 h0)).2
      have hj' : j < ns.length := by omega
      have hjn : j < 128 := by omega
      rw [drop_cons hj', eachGo_cons] at ew
      have nj := nlt j hj'
      have cv : cellOf h6 (Addr.add ⟨lb, 0, none⟩ j) = some (.int .i64 (ns[j]'hj')) := rda r6 (by rw [Nat.zero_add, ints, List.getElem?_map, List.getElem?_eq_getElem hj']; rfl)
      have wr : IntKind.wrap .i64 ((j : Int) + 1) = ((j + 1 : Nat) : Int) := by rw [wrap_i64 (by omega) (by omega)]; omega
      have hju : w * j ≤ w * 128 := Nat.mul_le_mul_left _ hj
      have hm : w * (j + 1) = w * j + w := Nat.mul_succ w j
      unfold bmap_All_c2.k1
      rw [Int.toNat_natCast, wr]
      refine ⟨⟨by omega, hl⟩, os ⟨_, cv, D h6 Q6 S6 j (ns[j]'hj') _ f6 G6 a6 (by omega) hjn (by omega) (by omega) fun h7 Q7 f7 g7 a7 => ⟨_, rfl, ⟨j + 1, Q7, _, rfl, hjn, f6.trans f7 fun c hc y => (G6.old c hc).mp y, g6.trans g7 zz, by have := f7.size; omega, a7, (f7.rd (by omega) fun y => nlb ((g6.old lb lbl).mp y)).trans r6, ?_, ?_⟩, by show ((128 : Int) - ((j + 1 : Nat) : Int)).toNat < ((128 : Int) - (j : Int)).toNat; omega⟩⟩⟩
      · have := hd S6 j (ns[j]'hj'); omega
      · by_cases he : (dO S6 j (ns[j]'hj')).2 = 0
        · rw [if_neg (fun z => z he)] at ew
          exact .inl ⟨he, ew⟩
        · rw [if_pos he] at ew
          exact .inr ⟨he, ew⟩
    · exact (hE.resolve_left (fun z => h0 z.1)).2
    · rcases hE with ⟨h0, ew⟩ | ⟨_, ew⟩
      · have ej : j = 128 := by omega
        have ed : ns.drop j = [] := List.drop_eq_nil_of_le (by omega)
        rw [ed] at ew
        rw [h0]; exact ew
      · exact ew
def oneV (I : AIds) : Value := .func (.func 51) #[] ⟨[.pointer (some ⟨I.oc, 0, none⟩)]⟩
def twoV (I : AIds) : Value := .func (.func 52) #[] ⟨[.pointer (some ⟨I.ec, 0, none⟩), .pointer (some ⟨I.oc, 0, none⟩)]⟩
def inV (I : AIds) (ib : Nat) : Value := .func (.func 53) #[] ⟨[.pointer (some ⟨I.oc, 0, none⟩), .pointer (some ⟨ib, 0, none⟩)]⟩
theorem one_do {F : Nat → Prop} {t d : Option Addr} {T : TM} {g : G} {R : List Int} {I : AIds} {h0 : Heap} {Q0 : Nat → Prop} : DoS (oneV I) (oneD g) h0 Q0 F t d T g R I 1000000 := by
  intro hh Q S i v K _ _ a hn hi _ _ hK
  show C.bmap_All_c3 (i : Int) v (some ⟨I.oc, 0, none⟩) hh K
  refine bmap_All_c3.ok (os ⟨_, rdc a.ro rfl, ?_⟩)
  rw [wrap_i64 (by omega) (by omega)]
  exact own_spec' a hn fun h' Q' f gw a' => ⟨_, rfl, hK h' Q' f gw a'⟩
theorem in_do {F : Nat → Prop} {t d : Option Addr} {T : TM} {g : G} {R : List Int} {I : AIds} {h0 : Heap} {Q0 : Nat → Prop} {ib i : Nat} (hi : i < 128) (ri : rd h0 ib = [.int .i64 (i : Int)]) (hq : ¬ Q0 ib) : DoS (inV I ib) (inD g i) h0 Q0 F t d T g R I 1000000 := by
  intro hh Q S j v K f _ a hn hj _ _ hK
  show C.bmap_All_c4_c1 (j : Int) v (some ⟨I.oc, 0, none⟩) (some ⟨ib, 0, none⟩) hh K
  refine bmap_All_c4_c1.ok (os ⟨_, rdc a.ro rfl, os ⟨_, rdc ((f.rd (rd_lt (o := 0) (by rw [ri]; rfl)) hq).trans ri) rfl, ?_⟩⟩)
  rw [wrap_i64 (n := (i : Int) * 128) (by omega) (by omega), wrap_i64 (n := 138 + (i : Int) * 128) (by omega) (by omega), wrap_i64 (n := 138 + (i : Int) * 128 + j) (by omega) (by omega)]
  exact own_spec' a hn fun h' Q' f gw a' => ⟨_, rfl, hK h' Q' f gw a'⟩
theorem inD_n (g : G) (i : Nat) (S : AllS) (j : Nat) (v : Int) : (inD g i S j v).1.n ≤ S.n + 1 := ownA_n g S _ v
theorem two_do {F : Nat → Prop} {t d : Option Addr} {T : TM} {g : G} {R : List Int} {I : AIds} {h0 : Heap} {Q0 : Nat → Prop} : DoS (twoV I) (twoD T g) h0 Q0 F t d T g R I 999000 := by
  intro hh Q S i v K _ _ a hn hi _ _ hK
  show C.bmap_All_c4 (i : Int) v (some ⟨I.ec, 0, none⟩) (some ⟨I.oc, 0, none⟩) hh K
  refine bmap_All_c4.ok (New.intro fun h2 n2 => ?_)
  have a2 := a.no n2.fr
  have z2 := n2.size
  have nq : ¬ Q hh.size := fun y => by have := a.lt _ y; omega
  refine os ⟨_, rdc a2.re rfl, each_spec (w := 1) (lim := 1000000) a2 (in_do hi n2.rd nq) (inD_n g i) (by omega) (Nat.le_refl _) fun h3 Q3 f3 g3 a3 => ⟨_, rfl, hK h3 Q3 ((n2.fr.mono fun _ _ y => y.elim).trans f3 fun _ _ y => y) ((Gw.refl n2.fr.size a.lt).trans g3 n2.fr.size) a3⟩⟩
end Go.Proofs.YtcdpakjhjmchhaaDoor.Bm
namespace Go.Proofs.YtcdpakjhjmchhaaDoor.Bm
open Go Go.Proofs Go.Proofs.YtcdpakjhjmchhaaDoor.Wx Go.Proofs.YtcdpakjhjmchhaaDoor.Hp Go.Proofs.YtcdpakjhjmchhaaDoor.W Go.Proofs.YtcdpakjhjmchhaaDoor.Ad Go.Proofs.YtcdpakjhjmchhaaDoor.Tm Go.Proofs.YtcdpakjhjmchhaaDoor.Spc Go.Proofs.YtcdpakjhjmchhaaDoor.Re Go.Proofs.YtcdpakjhjmchhaaDoor.Av
open Go.Proofs.YtcdpakjhjmchhaaDoor.Hd (ints wrap_u64)
open Go.Proofs.YtcdpakjhjmchhaaDoor.In (Glo ints_length ints_one)
theorem oneD_n (g : G) (S : AllS) (j : Nat) (v : Int) : (oneD g S j v).1.n ≤ S.n + 1 := ownA_n g S _ v
theorem twoD_n (T : TM) (g : G) (S : AllS) (j : Nat) (v : Int) : (twoD T g S j v).1.n ≤ S.n + 129 := eachM_n (inD_n g j)
theorem All_spec {h : Heap} {F : Nat → Prop} {t d : Option Addr} {T : TM} {g : G} {R : List Int} {K : Value → Heap → Prop} (gl : Glo h) (x : Tx h F t d T) (hR : R.length = 15)
    (hK : ∀ P1 P2 a1 c1 a2 c2 h', Fr No h h' → Sl h' 2 a1 (allM T g R).1.length c1 ((allM T g R).1.flatMap pcellA) P1 → Sl h' 1 a2 (allM T g R).2.1.length c2 ((allM T g R).2.1.map (.int .i64)) P2 → (∀ b, P1 b → h.size ≤ b ∧ ¬ P2 b) → (∀ b, P2 b → h.size ≤ b) →
      K (.tuple #[.slice a1 (allM T g R).1.length c1, .slice a2 (allM T g R).2.1.length c2, .int .i64 (allM T g R).2.2]) h') : C.bmap_All t g.v (ints R) h K := by
  have Flt := fun y (hy : F y) => x.lt hy
  have gl1 := gl.lt
  refine bmap_All.ok (New.intro fun h2 n2 => New.intro fun h3 n3 => ⟨g.v, rfl, cellsAll ((n3.at_ n2.own.lt).trans n2.rd), ints R, by rw [ints_length, hR], cellsAll n3.rd, rfl, by rw [ints_length, hR], New.intro fun h4 n4 => New.intro fun h5 n5 => ?_⟩)
  have z2 := n2.size
  have z3 := n3.size
  have z4 := n4.size
  have z5 := n5.size
  refine Put.intro n5.own (by rw [n5.rd]; decide) fun h6 d6 => New.intro fun h7 n7 => New.intro fun h8 n8 => New.intro fun h9 n9 => ?_
  have z6 := d6.size
  have z7 := n7.size
  have z8 := n8.size
  have z9 := n9.size
  refine Put.intro n9.own (by rw [n9.rd]; decide) fun h10 d10 => New.intro fun h11 n11 => ?_
  have z10 := d10.size
  have z11 := n11.size
  refine Put.intro n11.own (by rw [n11.rd]; decide) fun h12 d12 => ?_
  have z12 := d12.size
  have q12 : ∀ b, b < h10.size → rd h12 b = rd h10 b := fun b hb => (d12.at_ (by omega) (by omega)).trans (n11.at_ hb)
  have q10 : ∀ b, b < h8.size → rd h10 b = rd h8 b := fun b hb => (d10.at_ (by omega) (by omega)).trans (n9.at_ hb)
  have q8 : ∀ b, b < h6.size → rd h8 b = rd h6 b := fun b hb => (n8.at_ (by omega)).trans (n7.at_ hb)
  have F6 : Fr No h h6 := ((((n2.fr.new n3).new n4).new n5).did d6 fun hl => by omega)
  have F12 : Fr No h h12 := ((((((F6.new n7).new n8).new n9).did d10 fun hl => by omega).new n11).did d12 fun hl => by omega)
  have rx : rd h12 h2.size = ints R := (q12 _ (by omega)).trans ((q10 _ (by omega)).trans ((q8 _ (by omega)).trans ((d6.at_ (by omega) (by omega)).trans ((n5.at_ (by omega)).trans ((n4.at_ (by omega)).trans n3.rd)))))
  have rf : rd h12 h3.size = fileV t g R := (q12 _ (by omega)).trans ((q10 _ (by omega)).trans ((q8 _ (by omega)).trans ((d6.at_ (by omega) (by omega)).trans ((n5.at_ (by omega)).trans n4.rd))))
  have rp : rd h12 h4.size = [.pointer (some ⟨h3.size, 0, none⟩)] := (q12 _ (by omega)).trans ((q10 _ (by omega)).trans ((q8 _ (by omega)).trans (by rw [d6.rd, n5.rd]; rfl)))
  have rb : rd h12 h6.size = [.slice none 0 0] := (q12 _ (by omega)).trans ((q10 _ (by omega)).trans ((n8.at_ (by omega)).trans n7.rd))
  have rt : rd h12 h7.size = [.slice none 0 0] := (q12 _ (by omega)).trans ((q10 _ (by omega)).trans n8.rd)
  obtain ⟨I, eI⟩ : ∃ I : AIds, I = ⟨h3.size, h4.size, h6.size, h7.size, h8.size, h10.size⟩ := ⟨_, rfl⟩
  have ro : rd h12 h8.size = [ownV I] := (q12 _ (by omega)).trans (by rw [d10.rd, n9.rd, eI]; rfl)
  have re : rd h12 h10.size = [eachV I] := by rw [d12.rd, n11.rd, eI]; rfl
  have ob : Own h12 h6.size := d12.ow (n11.ow (d10.ow (n9.ow (n8.ow n7.own))))
  have ot : Own h12 h7.size := d12.ow (n11.ow (d10.ow (n9.ow n8.own)))
  obtain ⟨Q, eQ⟩ : ∃ Q : Nat → Prop, ∀ b, Q b ↔ b = h6.size ∨ b = h7.size := ⟨_, fun _ => Iff.rfl⟩
  have a12 : AH F t d T g R I h12 Q ⟨[], []⟩ := by
    rw [eI]
    rw [eI] at ro re
    refine ⟨gl.no F12, x.no F12, rf, rp, ro, re, ob, ot, by show h6.size ≠ h7.size; omega, ⟨fun _ => False, fun _ => False, none, 0, none, 0, rb, rt, Sl.nil _ _ _, Sl.nil _ _ _, fun _ y => y.elim, fun _ y => y.elim, fun b => ?_⟩, fun b hb => ?_, fun b hb => ?_⟩
    · rw [eQ b]; simp
    · rcases (eQ b).mp hb with y | y <;> omega
    · have k : h.size ≤ b ∧ b ≠ h3.size ∧ b ≠ h4.size ∧ b ≠ h8.size ∧ b ≠ h10.size := by rcases (eQ b).mp hb with y | y <;> omega
      exact ⟨fun y => by have := Flt b y; omega, k.2.1, k.2.2.1, k.2.2.2.1, k.2.2.2.2, by omega⟩
  have j1 : h8.size = I.oc := by rw [eI]
  have j2 : h10.size = I.ec := by rw [eI]
  have j3 : h6.size = I.bc := by rw [eI]
  have j4 : h7.size = I.tc := by rw [eI]
  have nqx : ¬ Q h2.size := fun y => by rcases (eQ _).mp y with y | y <;> omega
  have base : ∀ b, Q b → h.size ≤ b := fun b y => by rcases (eQ b).mp y with y | y <;> omega
  clear eI eQ
  -- the end
  have k4 : ∀ (hh : Heap) (Q' : Nat → Prop) (S : AllS) (e : Int), Fr Q h12 hh → Gw h12 Q hh Q' → AH F t d T g R I hh Q' S → (S, e) = allS T g R → bmap_All.k4 h6 h7 e hh K := fun hh Q' S e f gw a es => by
    have F' : Fr No h hh := F12.trans f fun b hb y => by have := base b y; omega
    have em : allM T g R = if e ≠ 0 then ([], [], e) else (S.L, S.M, 0) := by unfold allM; rw [← es]
    rw [em] at hK
    unfold bmap_All.k4
    refine cn (fun he => ?_) fun he => ?_
    · rw [if_pos he] at hK
      exact hK No No none 0 none 0 hh F' (Sl.nil _ _ _) (Sl.nil _ _ _) (fun _ y => y.elim) fun _ y => y.elim
    · rw [if_neg (fun z => z he)] at hK
      obtain ⟨P1, P2, a1, c1, a2, c2, r1, r2, s1, s2, k1, k2, k3⟩ := a.rows
      rw [j3, j4]
      have old : ∀ b, Q' b → h.size ≤ b := fun b y => by
        rcases gw.new y with z | z
        · exact base b z
        · have := F12.size; omega
      refine ⟨_, _, _, rdc r1 rfl, _, _, _, rdc r2 rfl, hK P1 P2 a1 c1 a2 c2 hh F' s1 s2 (fun b hb => ⟨old b ((k3 b).mpr (.inr (.inr (.inl hb)))), (k1 b hb).2.2⟩) fun b hb => old b ((k3 b).mpr (.inr (.inr (.inr hb))))⟩
  have k3 : ∀ (hh : Heap) (Q' : Nat → Prop) (S : AllS) (e : Int), Fr Q h12 hh → Gw h12 Q hh Q' → AH F t d T g R I hh Q' S → S.n ≤ 500 → ((e ≠ 0 ∧ (S, e) = allS T g R) ∨ (e = 0 ∧ eachM T g (twoD T g) (R.getD 14 0) S = allS T g R)) → bmap_All.k3 h2 h6 h7 h8 h10 e hh K := fun hh Q' S e f gw a hn es => by
    unfold bmap_All.k3
    refine ce (fun he => ?_) fun he => k4 hh Q' S e f gw a (es.resolve_right fun z => he z.1).2
    have es := (es.resolve_left fun z => z.1 he).2
    have rxh : rd hh h2.size = ints R := (f.rd (by omega) nqx).trans rx
    rw [j1, j2]
    refine ⟨_, rdc a.re rfl, _, rda rxh (by rw [Nat.zero_add, ints, List.getElem?_map, List.getElem?_eq_getElem (by omega)]; rfl), ?_⟩
    have e14 : R[14]'(by omega) = R.getD 14 0 := by rw [List.getD_eq_getElem?_getD, List.getElem?_eq_getElem (by omega)]; rfl
    rw [e14]
    refine each_spec (w := 129) (lim := 999000) a two_do (twoD_n T g) (by omega) (by decide) fun h' Q2 f2 g2 a2 => ⟨_, rfl, k4 h' Q2 _ _ (f.trans f2 fun b hb y => (gw.old b hb).mp y) (gw.trans g2 f.size) a2 es⟩
  have k2 : ∀ (hh : Heap) (Q' : Nat → Prop) (S : AllS) (e : Int), Fr Q h12 hh → Gw h12 Q hh Q' → AH F t d T g R I hh Q' S → S.n ≤ 10 → (S, e) = eachGo (dirD g) ((R.drop 3).take 10) 0 ⟨[], []⟩ → bmap_All.k2 h2 h6 h7 h8 h10 e hh K := fun hh Q' S e f gw a hn es => by
    unfold bmap_All.k2
    refine ce (fun he => ?_) fun he => k3 hh Q' S e f gw a (by omega) (.inl ⟨he, ?_⟩)
    · have rxh : rd hh h2.size = ints R := (f.rd (by omega) nqx).trans rx
      refine ⟨_, rdc (xs := [eachV I]) (by rw [j2]; exact a.re) rfl, _, rda rxh (by rw [Nat.zero_add, ints, List.getElem?_map, List.getElem?_eq_getElem (by omega)]; rfl), ?_⟩
      have e13 : R[13]'(by omega) = R.getD 13 0 := by rw [List.getD_eq_getElem?_getD, List.getElem?_eq_getElem (by omega)]; rfl
      rw [e13]
      have ea : allS T g R = if (eachM T g (oneD g) (R.getD 13 0) S).2 ≠ 0 then eachM T g (oneD g) (R.getD 13 0) S else eachM T g (twoD T g) (R.getD 14 0) (eachM T g (oneD g) (R.getD 13 0) S).1 := by
        unfold allS; rw [← es]; show (if e ≠ 0 then _ else _) = _; rw [if_neg (fun z => z he)]
      have en := eachM_n (T := T) (g := g) (tab := R.getD 13 0) (S := S) (oneD_n g)
      have ev : oneV I = Value.func (.func 51) #[] ⟨[.pointer (some ⟨h8.size, 0, none⟩)]⟩ := by rw [j1]; rfl
      rw [← ev]
      refine each_spec (w := 1) (lim := 1000000) a one_do (oneD_n g) (by omega) (Nat.le_refl _) fun h' Q2 f2 g2 a2 => ⟨_, rfl, k3 h' Q2 _ _ (f.trans f2 fun b hb y => (gw.old b hb).mp y) (gw.trans g2 f.size) a2 (by omega) ?_⟩
      by_cases h2' : (eachM T g (oneD g) (R.getD 13 0) S).2 = 0
      · rw [if_neg (fun z => z h2')] at ea
        exact .inr ⟨h2', ea.symm⟩
      · rw [if_pos h2'] at ea
        exact .inl ⟨h2', ea.symm⟩
    · unfold allS; rw [← es]; show _ = (if e ≠ 0 then _ else _); rw [if_pos he]
  generalize hds : (R.drop 3).take 10 = ds at k2
  have dl : ds.length = 10 := by rw [← hds, List.length_take, List.length_drop, hR]; rfl
  have dg : ∀ j (hj : j < ds.length), R[3 + j]? = some (ds[j]'hj) := fun j hj => by
    subst hds
    rw [List.getElem_take, List.getElem_drop, List.getElem?_eq_getElem]
  refine ⟨fun e i hh => ∃ (j : Nat) (Q' : Nat → Prop) (S' : AllS), i = j ∧ j ≤ 10 ∧ Fr Q h12 hh ∧ Gw h12 Q hh Q' ∧ AH F t d T g R I hh Q' S' ∧ S'.n ≤ j ∧ ((e = 0 ∧ eachGo (dirD g) (ds.drop j) j S' = eachGo (dirD g) ds 0 ⟨[], []⟩) ∨ (e ≠ 0 ∧ (S', e) = eachGo (dirD g) ds 0 ⟨[], []⟩)), fun _ i _ => ((10 : Int) - i).toNat,
    ⟨0, Q, _, rfl, by decide, Fr.refl _ _, Gw.refl (Nat.le_refl _) a12.lt, a12, Nat.le_refl _, .inl ⟨rfl, by rw [List.drop_zero]⟩⟩, ?_⟩
  intro e i hh hI
  obtain ⟨j, Q', S', ei, hj, f, gw, a, hn, hE⟩ := hI
  refine cd (fun hl => ce (fun h0 => ?_) fun h0 => k2 hh Q' S' e f gw a (by omega) (hE.resolve_left (fun z => h0 z.1)).2) fun hl => k2 hh Q' S' e f gw a (by omega) ?_
  · subst ei
    have ew := (hE.resolve_right (fun z => z.1 h0)).2
    have hj' : j < ds.length := by omega
    rw [drop_cons hj', eachGo_cons] at ew
    have rxh : rd hh h2.size = ints R := (f.rd (by omega) nqx).trans rx
    have wr : IntKind.wrap .i64 ((j : Int) + 1) = ((j + 1 : Nat) : Int) := by rw [wrap_i64 (by omega) (by omega)]; omega
    unfold bmap_All.k1
    rw [Int.toNat_natCast, wr]
    refine ⟨_, rdc (xs := [ownV I]) (by rw [j1]; exact a.ro) rfl, ⟨by omega, by omega⟩, (ds[j]'hj'), cell2 rxh (by rw [ints, List.getElem?_map, dg j hj']; rfl), own_spec' a (by omega) fun h' Q2 f2 g2 a2 => ⟨_, rfl, ⟨j + 1, Q2, _, rfl, by omega, f.trans f2 fun b hb y => (gw.old b hb).mp y, gw.trans g2 f.size, a2, ?_, ?_⟩, by show ((10 : Int) - ((j + 1 : Nat) : Int)).toNat < ((10 : Int) - (j : Int)).toNat; omega⟩⟩
    · have := ownA_n g S' (j : Int) (ds[j]'hj'); omega
    · have edr : dirD g S' j (ds[j]'hj') = ownA g S' (j : Int) (ds[j]'hj') := rfl
      rw [edr] at ew
      by_cases he : (ownA g S' (j : Int) (ds[j]'hj')).2 = 0
      · rw [if_neg (fun z => z he)] at ew
        exact .inl ⟨he, ew⟩
      · rw [if_pos he] at ew
        exact .inr ⟨he, ew⟩
  · rcases hE with ⟨h0, ew⟩ | ⟨_, ew⟩
    · have ed : ds.drop j = [] := List.drop_eq_nil_of_le (by omega)
      rw [ed] at ew
      rw [h0]; exact ew
    · exact ew
end Go.Proofs.YtcdpakjhjmchhaaDoor.Bm
namespace Go.Proofs.YtcdpakjhjmchhaaDoor.Rx
open Go Go.Proofs Go.Proofs.YtcdpakjhjmchhaaDoor.Wx Go.Proofs.YtcdpakjhjmchhaaDoor.Hp Go.Proofs.YtcdpakjhjmchhaaDoor.W Go.Proofs.YtcdpakjhjmchhaaDoor.Ad Go.Proofs.YtcdpakjhjmchhaaDoor.Tm Go.Proofs.YtcdpakjhjmchhaaDoor.Spc Go.Proofs.YtcdpakjhjmchhaaDoor.Re
def lget (row : List (Int × Txt)) (i : Int) : Option Txt := row.foldl (fun o p => if p.1 = i then some p.2 else o) none
structure RM where
  first : Txt
  out : Bool
  row : List (Int × Txt)
  ends : Bool
/-- the document's transaction is as this one -/
structure Sim (T : TM) (M : RM) : Prop where
  ends : M.ends = T.over
  n : M.first.length = 512 * T.N
  out : M.out = T.disk.down
  base : T.disk.down = false → ∀ k, k < T.N → readAt T.disk k = (M.first.drop (k * 512)).take 512
  gone : T.over = true → T.put = [] ∧ T.undo = []
  un : T.over = false → T.undo.length = M.row.length
  nd : T.over = false → ∀ k, k ≤ M.row.length → ((undoAll T.put (T.undo.drop k)).map (·.1)).Nodup
  get : T.over = false → ∀ k, k ≤ M.row.length → ∀ i, aget (undoAll T.put (T.undo.drop k)) i = lget (M.row.take k) i
  rr : ∀ p ∈ M.row, 98 ≤ p.1 ∧ p.1 < T.N ∧ p.2.length = 512
end Go.Proofs.YtcdpakjhjmchhaaDoor.Rx
namespace Go.Proofs.YtcdpakjhjmchhaaDoor.Rx
open Go Go.Proofs Go.Proofs.YtcdpakjhjmchhaaDoor.Wx Go.Proofs.YtcdpakjhjmchhaaDoor.Hp Go.Proofs.YtcdpakjhjmchhaaDoor.W Go.Proofs.YtcdpakjhjmchhaaDoor.Ad Go.Proofs.YtcdpakjhjmchhaaDoor.Tm Go.Proofs.YtcdpakjhjmchhaaDoor.Spc Go.Proofs.YtcdpakjhjmchhaaDoor.Re
def dcell (p : Int × Txt) : List Value := [.int .i64 p.1, .string (mkStr p.2)]
structure RR where
  rb : Nat
  eb : Nat
  fa : Option Addr
  fn : Nat
  fc : Nat
  ra : Option Addr
  rc : Nat
  ka : Option Addr
  kn : Nat
  kc : Nat
structure RxC (h : Heap) (col : Nat → Nat) (R : RR) (M : RM) : Prop where
  nrm : ∀ b, h.size ≤ b → col b = 0
  rc : col R.rb = 1
  ro : Own h R.rb
  rr : rd h R.rb = [.pointer (some ⟨R.eb, 0, none⟩), .slice R.ra M.row.length R.rc, .bool M.ends]
  ec : col R.eb = 2
  eo : Own h R.eb
  er : rd h R.eb = [.slice R.fa R.fn R.fc, .slice none 0 0, .slice R.ka R.kn R.kc, .int .i64 0, .bool M.out, .int .i64 0, .int .i64 0]
  f : Sl h 1 R.fa R.fn R.fc (M.first.map bv) (On col 3)
  fm : R.fn ≤ 8388608
  row : Sl h 2 R.ra M.row.length R.rc (M.row.flatMap dcell) (On col 4)
  rm : M.row.length ≤ 1000000000
def Rx (h : Heap) (F : Nat → Prop) (r e : Option Addr) (M : RM) : Prop := ∃ col R, r = some ⟨R.rb, 0, none⟩ ∧ e = some ⟨R.eb, 0, none⟩ ∧ RxC h col R M ∧ ∀ b, F b ↔ 1 ≤ col b ∧ col b ≤ 4
theorem RxC.keep {h h' : Heap} {col : Nat → Nat} {R : RR} {M : RM} {G : Nat → Prop} (X : RxC h col R M) (f : Fr G h h') (hG : ∀ b, b < h.size → 1 ≤ col b → col b ≤ 4 → ¬ G b) : RxC h' col R M := by
  have c1 := X.rc
  have c2 := X.ec
  have l1 := X.ro.lt
  have l2 := X.eo.lt
  have g1 := hG _ l1 (by omega) (by omega)
  have g2 := hG _ l2 (by omega) (by omega)
  exact ⟨fun b hb => X.nrm b (Nat.le_trans f.size hb), c1, f.own l1 g1 X.ro, (f.rd l1 g1).trans X.rr, c2, f.own l2 g2 X.eo, (f.rd l2 g2).trans X.er,
    X.f.fr f (fun b hb e => hG b hb (by have e : col b = 3 := e; omega) (by have e : col b = 3 := e; omega)), X.fm, X.row.fr f (fun b hb e => hG b hb (by have e : col b = 4 := e; omega) (by have e : col b = 4 := e; omega)), X.rm⟩
theorem Rx.fr {h h' : Heap} {F G : Nat → Prop} {r e : Option Addr} {M : RM} (x : Rx h F r e M) (f : Fr G h h') (hG : ∀ b, F b → ¬ G b) : Rx h' F r e M := by
  obtain ⟨col, R, e1, e2, X, hF⟩ := x
  exact ⟨col, R, e1, e2, X.keep f fun b _ h1 h2 => hG b ((hF b).mpr ⟨h1, h2⟩), hF⟩
def Rd (h : Heap) (D : Nat → Prop) (q : Option Addr) (bs : Txt) : Prop := ∃ eb fa fn fc, q = some ⟨eb, 0, none⟩ ∧ D eb ∧ Own h eb ∧ rd h eb = [.slice fa fn fc, .slice none 0 0, .slice none 0 0, .int .i64 0, .bool false, .int .i64 0, .int .i64 0] ∧
  Sl h 1 fa fn fc (bs.map bv) (fun b => D b ∧ b ≠ eb) ∧ fn ≤ 8388608 ∧ ∀ b, D b → b < h.size
theorem Rd.no {h h' : Heap} {D : Nat → Prop} {q : Option Addr} {bs : Txt} (x : Rd h D q bs) (f : Fr No h h') : Rd h' D q bs := by
  obtain ⟨eb, fa, fn, fc, e, d, o, r, s, m, l⟩ := x
  exact ⟨eb, fa, fn, fc, e, d, f.own o.lt (fun y => y) o, (f.rd o.lt fun y => y).trans r, s.fr f (fun _ _ _ y => y), m, fun b hb => Nat.lt_of_lt_of_le (l b hb) f.size⟩
theorem copied_spec {a : Option Addr} {l c : Nat} {bs : List UInt8} {h : Heap} {K : Value → Heap → Prop} (B : StrAt h a l bs) (hl : l ≤ 140737488355328)
    (hK : ∀ a' c' h', Fr No h h' → Sl h' 1 a' l c' (bs.map bv) (From h.size) → K (.slice a' l c') h') : C.boleref03_copied a l c h K := by
  obtain ⟨s1, s2, s3⟩ := StrAt.src B
  refine boleref03_copied.ok ⟨_, s1, s2, s3, append_nil s1 rfl (by show l * 1 ≤ _; omega) hl hK⟩
theorem sl_rng {h : Heap} {ec l c : Nat} {a : Option Addr} {xs : List Value} {F : Nat → Prop} (s : Sl h ec a l c xs F) : Sl h ec a l c xs (fun b => F b ∧ b < h.size) := by
  obtain ⟨h1, h2⟩ := s
  refine ⟨h1, ?_⟩
  cases a with
  | none => exact h2
  | some p => exact ⟨h2.1, ⟨h2.2.1, h2.2.2.1.lt⟩, h2.2.2.1, h2.2.2.2.1, h2.2.2.2.2⟩
theorem Of_spec {a : Option Addr} {l c : Nat} {bs : List UInt8} {h : Heap} {K : Value → Heap → Prop} (B : StrAt h a l bs) (h0 : 0 < l) (hm : l % 512 = 0) (hl : l ≤ 8388608)
    (hK : ∀ q h' D, Fr No h h' → Rd h' D (some q) bs → (∀ b, D b → h.size ≤ b) → K (.tuple #[.pointer (some q), .int .i64 0]) h') : C.boleref03_Of a l c h K := by
  have hbl := B.1
  have hd : Int.tdiv (l : Int) 512 = ((l / 512 : Nat) : Int) := by rw [Int.tdiv_eq_ediv_of_nonneg (by omega)]; omega
  have hmd : Int.tmod (l : Int) 512 = ((l % 512 : Nat) : Int) := by rw [Int.tmod_eq_emod_of_nonneg (by omega)]; omega
  have hw : IntKind.wrap .i64 (Int.tdiv (l : Int) 512) = ((l / 512 : Nat) : Int) := by rw [hd]; exact wrap_i64 (by omega) (by omega)
  refine boleref03_Of.ok (ce (fun y => by exfalso; omega) fun _ => cn (fun y => by exfalso; omega) fun _ => ?_)
  rw [hw]
  refine cd (fun z => by exfalso; omega) fun _ => copied_spec B (by omega) fun a' c' h3 f3 s3 => ⟨_, _, _, rfl, New.intro fun h4 n4 => ?_⟩
  have z3 := f3.size
  have z4 := n4.size
  refine hK _ h4 (fun b => h.size ≤ b ∧ b < h4.size) (f3.new n4) ⟨_, a', l, c', rfl, ⟨z3, by omega⟩, n4.own, n4.rd, ?_, hl, fun b hb => hb.2⟩ fun b hb => hb.1
  exact ((sl_rng s3).fr n4.fr fun _ _ _ y => y).mono fun b hb => ⟨⟨hb.1, by have := hb.2; omega⟩, by have := hb.2; omega⟩
theorem Begin_spec {h : Heap} {D : Nat → Prop} {q : Option Addr} {bs : Txt} {K : Value → Heap → Prop} (x : Rd h D q bs)
    (hK : ∀ F h', Fr No h h' → Rx h' F (some ⟨h.size, 0, none⟩) q ⟨bs, false, [], false⟩ → (∀ b, F b ↔ D b ∨ b = h.size) → K (.pointer (some ⟨h.size, 0, none⟩)) h') : C.boleref06_Begin q h K := by
  obtain ⟨eb, fa, fn, fc, rfl, d, o, r, s, m, l⟩ := x
  refine boleref06_Begin.ok (New.intro fun h2 n2 => ?_)
  have z := n2.size
  have el := o.lt
  obtain ⟨col, c1, c2, c3, c4⟩ : ∃ col : Nat → Nat, col h.size = 1 ∧ col eb = 2 ∧ (∀ b, D b → b ≠ eb → col b = 3) ∧ ∀ b, ¬ D b → b ≠ h.size → col b = 0 :=
    ⟨fun b => if b = h.size then 1 else if b = eb then 2 else @ite _ (D b) (Classical.propDecidable _) 3 0, if_pos rfl, (by show (if eb = h.size then 1 else if eb = eb then 2 else @ite _ (D eb) (Classical.propDecidable _) 3 0) = 2; rw [if_neg (by omega), if_pos rfl]),
      (fun b hb hne => by have := l b hb; show (if b = h.size then 1 else if b = eb then 2 else @ite _ (D b) (Classical.propDecidable _) 3 0) = 3; rw [if_neg (by omega), if_neg hne, if_pos hb]), (fun b hb hne => by show (if b = h.size then 1 else if b = eb then 2 else @ite _ (D b) (Classical.propDecidable _) 3 0) = 0; rw [if_neg hne, if_neg (fun e => hb (by rw [e]; exact d)), if_neg hb])⟩
  refine hK (fun b => 1 ≤ col b ∧ col b ≤ 4) h2 n2.fr ⟨col, ⟨h.size, eb, fa, fn, fc, none, 0, none, 0, 0⟩, rfl, rfl, ⟨fun b hb => c4 b (fun y => by have := l b y; omega) (by omega), c1, n2.own, n2.rd, c2, n2.ow o, (n2.at_ el).trans r,
    (s.fr n2.fr fun _ _ _ y => y).mono fun b hb => c3 b hb.1 hb.2, m, Sl.nil _ _ _, Nat.zero_le _⟩, fun b => Iff.rfl⟩ fun b => ⟨fun hb => ?_, fun hb => ?_⟩
  · by_cases y : D b
    · exact .inl y
    · refine .inr (Classical.byContradiction fun ne => ?_)
      have := c4 b y ne; omega
  · rcases hb with y | rfl
    · by_cases e : b = eb
      · subst e; omega
      · have := c3 b y e; omega
    · omega
end Go.Proofs.YtcdpakjhjmchhaaDoor.Rx
namespace Go.Proofs.YtcdpakjhjmchhaaDoor.Rx
open Go Go.Proofs Go.Proofs.YtcdpakjhjmchhaaDoor.Wx Go.Proofs.YtcdpakjhjmchhaaDoor.Hp Go.Proofs.YtcdpakjhjmchhaaDoor.W Go.Proofs.YtcdpakjhjmchhaaDoor.Ad Go.Proofs.YtcdpakjhjmchhaaDoor.Tm Go.Proofs.YtcdpakjhjmchhaaDoor.Spc Go.Proofs.YtcdpakjhjmchhaaDoor.Re
def RxS (h : Heap) (F : Nat → Prop) (r e : Option Addr) (T : TM) : Prop := ∃ M, Sim T M ∧ Rx h F r e M
theorem RxS.fr {h h' : Heap} {F G : Nat → Prop} {r e : Option Addr} {T : TM} (x : RxS h F r e T) (f : Fr G h h') (hG : ∀ b, F b → ¬ G b) : RxS h' F r e T := by
  obtain ⟨M, s, x⟩ := x; exact ⟨M, s, x.fr f hG⟩
theorem sim_fresh {n : Nat} {L : Txt} (hL : L.length = 512 * n) : Sim ⟨fresh (chunks L), [], [], false⟩ ⟨L, false, [], false⟩ := by
  have hn : (chunks L).length = n := by rw [chunks_length, hL]; omega
  refine ⟨rfl, ?_, rfl, fun _ k hk => ?_, fun y => (by cases y), fun _ => rfl, fun _ k _ => ?_, fun _ k _ i => ?_, fun p hp => (by cases hp)⟩
  · show L.length = 512 * (chunks L).length
    rw [hn, hL]
  · have hk : k < (chunks L).length := hk
    show (chunks L).getD k [] = _
    rw [List.getD_eq_getElem?_getD, List.getElem?_eq_getElem hk, Option.getD_some, chunks_get]
  · show ((undoAll [] (([] : List (Int × Option Txt)).drop k)).map _).Nodup
    rw [List.drop_nil]; exact List.nodup_nil
  · show aget (undoAll [] (([] : List (Int × Option Txt)).drop k)) i = lget (([] : List (Int × Txt)).take k) i
    rw [List.drop_nil, List.take_nil]; rfl
end Go.Proofs.YtcdpakjhjmchhaaDoor.Rx
namespace Go.Proofs.YtcdpakjhjmchhaaDoor.Bm
open Go Go.Proofs Go.Proofs.YtcdpakjhjmchhaaDoor.Wx Go.Proofs.YtcdpakjhjmchhaaDoor.Hp Go.Proofs.YtcdpakjhjmchhaaDoor.W Go.Proofs.YtcdpakjhjmchhaaDoor.Ad Go.Proofs.YtcdpakjhjmchhaaDoor.Tm Go.Proofs.YtcdpakjhjmchhaaDoor.Bt Go.Proofs.YtcdpakjhjmchhaaDoor.Spc Go.Proofs.YtcdpakjhjmchhaaDoor.Re Go.Proofs.YtcdpakjhjmchhaaDoor.Av
open Go.Proofs.YtcdpakjhjmchhaaDoor.Hd (ints wrap_u64)
open Go.Proofs.YtcdpakjhjmchhaaDoor.In (Glo ints_length ints_one)
theorem u64_nat (k : Int) : 0 ≤ IntKind.wrap .u64 k ∧ IntKind.wrap .u64 k < 18446744073709551616 := by
  simp only [IntKind.wrap, IntKind.bits, IntKind.signed, Bool.false_and, Bool.false_eq_true, if_false, Int.reducePow]
  omega
/-- how many blocks -/
def nOf (more : Int) : Nat := 128 + (IntKind.wrap .u64 more % 4300).toNat
theorem nOf_rng (more : Int) : 128 ≤ nOf more ∧ nOf more < 4428 := by
  have := u64_nat more
  unfold nOf; omega
def setupV (more : Int) (ta : Option Addr) (tl tc : Nat) (ra : Option Addr) (rl rc : Nat) : List Value := [.int .i64 more, .slice ta tl tc, .slice ra rl rc]
theorem blocks_spec {more : Int} {ta ra : Option Addr} {tl tc rl rc : Nat} {h : Heap} {K : Value → Heap → Prop} (hK : ∀ h', Fr No h h' → K (.int .i64 (nOf more : Nat)) h') : C.bolelaw10_Setup_blocks (setupV more ta tl tc ra rl rc) h K := by
  refine bolelaw10_Setup_blocks.ok (New.intro fun h2 n2 => ⟨more, rda n2.rd rfl, ?_⟩)
  have u := u64_nat more
  have e1 : Int.tmod (IntKind.wrap .u64 more) 4300 = IntKind.wrap .u64 more % 4300 := Int.tmod_eq_emod_of_nonneg u.1
  rw [e1, wrap_i64 (n := IntKind.wrap .u64 more % 4300) (by omega) (by omega), wrap_i64 (n := 128 + IntKind.wrap .u64 more % 4300) (by omega) (by omega)]
  have e2 : 128 + IntKind.wrap .u64 more % 4300 = ((nOf more : Nat) : Int) := by unfold nOf; omega
  rw [e2]; exact hK h2 n2.fr
/-- an image whose bitmap says U -/
structure Im (n : Nat) (U : Nat → Bool) (L : Txt) : Prop where
  len : L.length = 512 * n
  bits : ∀ j, j < 4096 * ((geoN n).inodes - 98) → bitAt L (98 * 4096 + j) = U j
def updU (U : Nat → Bool) (i : Nat) : Nat → Bool := fun j => if j = i then true else U j
theorem Im.put {n i : Nat} {U : Nat → Bool} {L : Txt} (a : Im n U L) (hn : 128 ≤ n ∧ n < 4428) (hi : i < 4096 * ((geoN n).inodes - 98)) : Im n (updU U i) (putBit L (98 * 4096 + i) true) := by
  have hle : (geoN n).inodes * 512 ≤ n * 512 := by show (98 + (n + 4095) / 4096) * 512 ≤ _; omega
  have h98 : 98 ≤ (geoN n).inodes := by show 98 ≤ 98 + _; omega
  refine ⟨(putBit_length ..).trans a.len, fun j hj => ?_⟩
  rw [bitAt_putBit _ _ _ _ (by rw [a.len]; omega)]
  unfold updU
  by_cases h : j = i
  · rw [if_pos (by omega), if_pos h]
  · rw [if_neg (by omega), if_neg h, a.bits j hj]
/-- a bit is set -/
theorem orBit {n i ib : Nat} {U : Nat → Bool} {L : Txt} {hh : Heap} {X : Heap → Prop} (a : Im n U L) (hn : 128 ≤ n ∧ n < 4428) (hi : i < 4096 * ((geoN n).inodes - 98)) (r : rd hh ib = L.map bv) (o : Own hh ib)
    (hX : ∀ h' L', Did ib hh h' (L'.map bv) → Im n (updU U i) L' → X h') :
    (0 ≤ (IntKind.wrap .i64 (Int.tdiv (i : Int) 8)) ∧ (IntKind.wrap .i64 (Int.tdiv (i : Int) 8)) < ((512 * (geoN n).inodes - 512 * (geoN n).bitmap : Nat) : Int)) ∧
      onSome (Option.map (Addr.add · (512 * (geoN n).bitmap)) (some (⟨ib, 0, none⟩ : Addr))) fun p1 => ∃ (n5 : Int), cellOf hh (Addr.add p1 (Int.toNat (IntKind.wrap .i64 (Int.tdiv (i : Int) 8)))) = some (.int .u8 n5) ∧
      if (Int.tmod (i : Int) 8) < 0 then False else
      (0 ≤ (IntKind.wrap .i64 (Int.tdiv (i : Int) 8)) ∧ (IntKind.wrap .i64 (Int.tdiv (i : Int) 8)) < ((512 * (geoN n).inodes - 512 * (geoN n).bitmap : Nat) : Int)) ∧
      onSome (Option.map (Addr.add · (512 * (geoN n).bitmap)) (some (⟨ib, 0, none⟩ : Addr))) fun p2 =>
      Put (Addr.add p2 (Int.toNat (IntKind.wrap .i64 (Int.tdiv (i : Int) 8)))) (.int .u8 (bitsI .or .u8 n5 (IntKind.wrap .u8 ((1 * 2 ^ min (Int.toNat (Int.tmod (i : Int) 8)) 8))))) hh X := by
  have hle : (geoN n).inodes * 512 ≤ n * 512 := by show (98 + (n + 4095) / 4096) * 512 ≤ _; omega
  have h98 : 98 ≤ (geoN n).inodes := by show 98 ≤ 98 + _; omega
  have eb : (geoN n).bitmap = 98 := rfl
  have hln := a.len
  rw [tdiv8, tmod8, wrap_i64 (n := ((i / 8 : Nat) : Int)) (by omega) (by omega), Int.toNat_natCast, eb]
  have hi2 : 512 * 98 + i / 8 < L.length := by omega
  have c10 : cellOf hh (Addr.add (Addr.add ⟨ib, 0, none⟩ (512 * 98)) (i / 8)) = some (bv (L.getD (512 * 98 + i / 8) 0)) := by
    refine cell2 r ?_
    rw [List.getElem?_map, List.getD_eq_getElem?_getD, List.getElem?_eq_getElem hi2]; rfl
  refine ⟨⟨by omega, by omega⟩, os ⟨_, c10, ?_⟩⟩
  rw [if_neg (by omega)]
  refine ⟨⟨by omega, by omega⟩, os ?_⟩
  have hx : (L.getD (512 * 98 + i / 8) 0).toNat < 256 := UInt8.toNat_lt _
  have ob := bit_or ⟨(L.getD (512 * 98 + i / 8) 0).toNat, hx⟩ ⟨i % 8, by omega⟩
  have ob : bitsI .or .u8 ((L.getD (512 * 98 + i / 8) 0).toNat : Int) (IntKind.wrap .u8 (1 * 2 ^ min (Int.toNat ((i % 8 : Nat) : Int)) 8)) = (setB (L.getD (512 * 98 + i / 8) 0).toNat (i % 8) true : Nat) := ob
  rw [ob]
  show Put (Addr.add (Addr.add ⟨ib, 0, none⟩ (512 * 98)) (i / 8)) _ hh X
  rw [add_mk, add_mk]
  refine Put.intro o (by rw [r, List.length_map]; omega) fun h' d' => hX h' (putBit L (98 * 4096 + i) true) ?_ (a.put hn hi)
  have ex : (.int .u8 ((setB (L.getD (512 * 98 + i / 8) 0).toNat (i % 8) true : Nat) : Int) : Value) = bv (UInt8.ofNat (setB (L.getD (512 * 98 + i / 8) 0).toNat (i % 8) true)) := by
    show _ = Value.int .u8 _
    rw [UInt8.toNat_ofNat_of_lt' (setB_lt' hx (by omega) true)]
  have := d'
  rw [r, ex, ← List.map_set, show 0 + 512 * 98 + i / 8 = 512 * 98 + i / 8 by omega] at this
  unfold putBit
  rw [show (98 * 4096 + i) / 8 = 512 * 98 + i / 8 by omega, show (98 * 4096 + i) % 8 = i % 8 by omega]
  exact this
theorem Im.congr {n : Nat} {U U' : Nat → Bool} {L : Txt} (a : Im n U L) (h : ∀ j, U j = U' j) : Im n U' L := ⟨a.len, fun j hj => (a.bits j hj).trans (h j)⟩
def edge (n j : Nat) : Bool := decide (j < (geoN n).data) || decide (n ≤ j)
def lowU (n k : Nat) : Nat → Bool := fun j => decide (j < k) && edge n j
theorem lowU_hit {n k : Nat} (h : edge n k = true) (j : Nat) : updU (lowU n k) k j = lowU n (k + 1) j := by
  unfold updU lowU
  by_cases e : j = k
  · subst e; rw [if_pos rfl, h, decide_eq_true (by omega)]; rfl
  · have : decide (j < k + 1) = decide (j < k) := decide_eq_decide.mpr (by omega)
    rw [if_neg e, this]
theorem lowU_miss {n k : Nat} (h : edge n k = false) (j : Nat) : lowU n k j = lowU n (k + 1) j := by
  unfold lowU
  by_cases e : j = k
  · subst e; rw [h, Bool.and_false, Bool.and_false]
  · have : decide (j < k + 1) = decide (j < k) := decide_eq_decide.mpr (by omega)
    rw [this]
/-- which block a number says -/
def takI (n : Nat) (v : Int) : Nat := (geoN n).data + (IntKind.wrap .u64 v % ((n - (geoN n).data : Nat) : Int)).toNat
def tkU (n : Nat) (l : List Int) : Nat → Bool := fun j => edge n j || l.any fun v => takI n v == j
theorem tkU_snoc (n : Nat) (l : List Int) (v : Int) (j : Nat) : updU (tkU n l) (takI n v) j = tkU n (l ++ [v]) j := by
  unfold updU tkU
  rw [List.any_append, List.any_cons, List.any_nil, Bool.or_false]
  by_cases e : j = takI n v
  · subst e; rw [if_pos rfl, beq_self_eq_true, Bool.or_true, Bool.or_true]
  · have : (takI n v == j) = false := by rw [beq_eq_false_iff_ne]; exact fun y => e y.symm
    rw [if_neg e, this, Bool.or_false]
structure RawI where
  num : Int
  a : Option Addr
  l : Nat
  c : Nat
  bs : Txt
def RawI.v (r : RawI) : List Value := [.int .i64 r.num, .slice r.a r.l r.c]
theorem Im.copy {n o : Nat} {U : Nat → Bool} {L ys : Txt} (a : Im n U L) (h1 : 512 * (geoN n).inodes ≤ o) (h2 : o + ys.length ≤ 512 * n) : Im n U (putU L o ys) := by
  have hl := a.len
  refine ⟨(putU_length (by omega)).trans hl, fun j hj => ?_⟩
  have h98 : 98 ≤ (geoN n).inodes := by show 98 ≤ 98 + _; omega
  rw [← a.bits j hj]
  unfold bitAt putU
  have hi : (98 * 4096 + j) / 8 < o := by omega
  rw [List.getD_eq_getElem?_getD, List.getD_eq_getElem?_getD, List.append_assoc, List.getElem?_append_left (by rw [List.length_take]; omega), List.getElem?_take, if_pos hi]
theorem image_spec {more : Int} {ta ra : Option Addr} {tc rc : Nat} {ks : List Int} {rs : List RawI} {h : Heap} {K : Value → Heap → Prop} (X : SlCells h ta (ints ks)) (Y : SlCells h ra (rs.flatMap RawI.v)) (hY : ∀ r ∈ rs, StrAt h r.a r.l r.bs) (hkl : ks.length ≤ 140737488355328) (hrl : rs.length ≤ 140737488355328)
    (hK : ∀ ib L h', Fr No h h' → Im (nOf more) (tkU (nOf more) ks) L → Own h' ib → h.size ≤ ib → rd h' ib = L.map bv → K (.tuple #[.slice (some ⟨ib, 0, none⟩) (512 * nOf more) (512 * nOf more), .agg ⟨(geoN (nOf more)).v⟩]) h') :
    C.bolelaw10_Setup_image (setupV more ta ks.length tc ra rs.length rc) h K := by
  have hn := nOf_rng more
  refine bolelaw10_Setup_image.ok (New.intro fun h2 n2 => New.intro fun h3 n3 => ⟨_, rfl, cellsAll ((n3.at_ n2.own.lt).trans n2.rd), blocks_spec fun h4 f4 => ⟨_, rfl, ?_⟩⟩)
  generalize nOf more = n at hn hK ⊢
  refine Geo_spec (by omega) fun h5 f5 => ⟨_, rfl, NewRow.intro rfl (G.one _) rfl fun h7 n7 => ?_⟩
  have hdat : (geoN n).data = 98 + (n + 4095) / 4096 + n / 64 := rfl
  have hino : (geoN n).inodes = 98 + (n + 4095) / 4096 := rfl
  have hbit : (geoN n).bitmap = 98 := rfl
  have z2 := n2.size
  have z3 := n3.size
  have z4 := f4.size
  have z5 := f5.size
  have z7 := n7.size
  have e1 : IntKind.wrap .i64 (512 * (n : Int)) = ((512 * n : Nat) : Int) := by rw [wrap_i64 (by omega) (by omega)]; omega
  rw [e1, Int.toNat_natCast]
  refine ⟨⟨by omega, by omega, by omega, by omega⟩, New.intro fun h8 n8 => ?_⟩
  have z8 := n8.size
  have rg : rd h8 h5.size = (geoN n).v := (n8.at_ (by omega)).trans n7.rd
  have F8 : Fr No h h8 := ((((n2.fr.new n3).no f4).no f5).new n7).new n8
  have rs8 : rd h8 h.size = setupV more ta ks.length tc ra rs.length rc := (n8.at_ (by omega)).trans ((n7.at_ (by omega)).trans ((f5.rd (by omega) fun y => y).trans ((f4.rd (by omega) fun y => y).trans ((n3.at_ (by omega)).trans n2.rd))))
  have rr8 : rd h8 h2.size = z29 := (n8.at_ (by omega)).trans ((n7.at_ (by omega)).trans ((f5.rd (by omega) fun y => y).trans ((f4.rd (by omega) fun y => y).trans n3.rd)))
  have or8 : Own h8 h2.size := n8.ow (n7.ow (f5.own (by omega) (fun y => y) (f4.own n3.own.lt (fun y => y) n3.own)))
  refine ⟨((geoN n).bitmap : Int), rda rg rfl, ((geoN n).inodes : Int), rda rg rfl, ?_⟩
  have e2 : IntKind.wrap .i64 (512 * ((geoN n).bitmap : Int)) = ((512 * (geoN n).bitmap : Nat) : Int) := by rw [wrap_i64 (by omega) (by omega)]; omega
  have e3 : IntKind.wrap .i64 (512 * ((geoN n).inodes : Int)) = ((512 * (geoN n).inodes : Nat) : Int) := by rw [wrap_i64 (by omega) (by omega)]; omega
  rw [e2, e3, Int.toNat_natCast, Int.toNat_natCast, if_neg (by omega)]
  have e4 : IntKind.wrap .i64 (8 * ((512 * (geoN n).inodes - 512 * (geoN n).bitmap : Nat) : Int)) = ((4096 * ((geoN n).inodes - 98) : Nat) : Int) := by rw [wrap_i64 (by omega) (by omega)]; omega
  rw [e4]
  refine ⟨⟨by omega, by omega, by omega⟩, ?_⟩
  have I0 : Im n (lowU n 0) (List.replicate (512 * n) 0) := by
    refine ⟨List.length_replicate, fun j hj => ?_⟩
    have : lowU n 0 j = false := by unfold lowU; rw [decide_eq_false (by omega)]; rfl
    rw [this]
    unfold bitAt
    rw [List.getD_eq_getElem?_getD, List.getElem?_replicate]
    split <;> exact Nat.zero_testBit _
  refine ⟨fun i hh => ∃ (k : Nat) (L : Txt), i = k ∧ k ≤ 4096 * ((geoN n).inodes - 98) ∧ Im n (lowU n k) L ∧ rd hh h7.size = L.map bv ∧ Own hh h7.size ∧ Fr (fun b => b = h7.size) h8 hh, fun i _ => ((4096 * ((geoN n).inodes - 98) : Nat) - i).toNat,
    ⟨0, _, rfl, Nat.zero_le _, I0, by rw [n8.rd, List.map_replicate]; exact rep_one _ _, n8.own, Fr.refl _ _⟩, ?_⟩
  intro i h9 hI
  obtain ⟨k, L, ei, hk, I, r9, o9, f9⟩ := hI
  have z9 := f9.size
  have rg9 : rd h9 h5.size = (geoN n).v := (f9.rd (by omega) (by omega)).trans rg
  have fall : ((4096 * ((geoN n).inodes - 98) : Nat) - ((k + 1 : Nat) : Int)).toNat < ((4096 * ((geoN n).inodes - 98) : Nat) - (k : Int)).toNat ∨ 4096 * ((geoN n).inodes - 98) ≤ k := by omega
  have wr : IntKind.wrap .i64 ((k : Int) + 1) = ((k + 1 : Nat) : Int) := by rw [wrap_i64 (by omega) (by omega)]; omega
  refine cd (fun hl => ?_) fun hl => ?_
  · subst ei
    have hk' : k < 4096 * ((geoN n).inodes - 98) := by omega
    have fall := fall.resolve_right (by omega)
    rw [wr]
    have set : edge n k = true → _ := fun he => orBit (X := fun h' => (∃ (k' : Nat) (L : Txt), ((k + 1 : Nat) : Int) = k' ∧ k' ≤ 4096 * ((geoN n).inodes - 98) ∧ Im n (lowU n k') L ∧ rd h' h7.size = L.map bv ∧ Own h' h7.size ∧ Fr (fun b => b = h7.size) h8 h') ∧ ((4096 * ((geoN n).inodes - 98) : Nat) - ((k + 1 : Nat) : Int)).toNat < ((4096 * ((geoN n).inodes - 98) : Nat) - (k : Int)).toNat)
      I hn hk' r9 o9 fun h' L' d' I' => ⟨⟨k + 1, L', rfl, hk', I'.congr (lowU_hit he), d'.rd, d'.own, f9.trans d'.fr fun _ _ e => e⟩, fall⟩
    refine ⟨_, rda rg9 rfl, cd (fun hd => set ?_) fun hd => cd (fun hd2 => set ?_) fun hd2 => ⟨⟨k + 1, L, rfl, hk', I.congr (lowU_miss ?_), r9, o9, f9⟩, fall⟩⟩
    · unfold edge; rw [decide_eq_true (by omega)]; rfl
    · unfold edge; rw [decide_eq_true (show n ≤ k by omega), Bool.or_true]
    · unfold edge; rw [decide_eq_false (by omega), decide_eq_false (by omega)]; rfl
  have ek : k = 4096 * ((geoN n).inodes - 98) := by omega
  have I1 : Im n (tkU n []) L := ⟨I.len, fun j hj => by rw [I.bits j hj]; unfold lowU tkU; rw [decide_eq_true (by omega), List.any_nil, Bool.or_false, Bool.true_and]⟩
  clear I I0 fall wr hl hk ek ei k
  refine ⟨_, _, _, rda ((f9.rd (by omega) (by omega)).trans rs8) rfl, ?_⟩
  have hlt : (geoN n).data < n := by omega
  refine ⟨fun i hh => ∃ (k : Nat) (L : Txt), i = k ∧ k ≤ ks.length ∧ Im n (tkU n (ks.take k)) L ∧ rd hh h7.size = L.map bv ∧ Own hh h7.size ∧ Fr (fun b => b = h7.size) h8 hh, fun i _ => ((ks.length : Int) - i).toNat, ⟨0, L, rfl, Nat.zero_le _, I1, r9, o9, f9⟩, ?_⟩
  clear I1 r9 o9 rg9 z9 L
  intro i h12 hI
  obtain ⟨k, L, ei, hk, I, r12, o12, f12⟩ := hI
  have z12 := f12.size
  have rg12 : rd h12 h5.size = (geoN n).v := (f12.rd (by omega) (by omega)).trans rg
  have F12 : Fr No h h12 := F8.trans f12 fun b hb y => by have y : b = h7.size := y; omega
  refine cd (fun hl => ?_) fun hl => ?_
  · subst ei
    have hk' : k < ks.length := by omega
    have wr : IntKind.wrap .i64 ((k : Int) + 1) = ((k + 1 : Nat) : Int) := by rw [wrap_i64 (by omega) (by omega)]; omega
    have X12 := SlCells.fr F12 X fun _ _ y => y
    obtain ⟨p, ep, cv⟩ := Hd.ints_get (ns := ks) (i := (k : Int).toNat) X12 (by omega)
    have u := u64_nat (ks[(k : Int).toNat]'(by omega))
    rw [wr]
    refine ⟨⟨by omega, hl⟩, Tm.oe ep ⟨_, cv, ((geoN n).data : Int), rda rg12 rfl, ((geoN n).data : Int), rda rg12 rfl, ?_⟩⟩
    have ed : IntKind.wrap .u64 (IntKind.wrap .i64 ((n : Int) - ((geoN n).data : Int))) = ((n - (geoN n).data : Nat) : Int) := by
      rw [wrap_i64 (by omega) (by omega), wrap_u64 (by omega) (by omega)]; omega
    rw [ed, if_neg (by omega)]
    have et : Int.tmod (IntKind.wrap .u64 (ks[(k : Int).toNat]'(by omega))) ((n - (geoN n).data : Nat) : Int) = IntKind.wrap .u64 (ks[(k : Int).toNat]'(by omega)) % ((n - (geoN n).data : Nat) : Int) := Int.tmod_eq_emod_of_nonneg u.1
    rw [et]
    have m0 := Int.emod_nonneg (IntKind.wrap .u64 (ks[(k : Int).toNat]'(by omega))) (show ((n - (geoN n).data : Nat) : Int) ≠ 0 by omega)
    have m1 := Int.emod_lt_of_pos (IntKind.wrap .u64 (ks[(k : Int).toNat]'(by omega))) (show (0 : Int) < ((n - (geoN n).data : Nat) : Int) by omega)
    have ek : ks[(k : Int).toNat]'(by omega) = ks[k]'hk' := rfl
    have ei : IntKind.wrap .i64 (((geoN n).data : Int) + IntKind.wrap .i64 (IntKind.wrap .u64 (ks[(k : Int).toNat]'(by omega)) % ((n - (geoN n).data : Nat) : Int))) = ((takI n (ks[k]'hk') : Nat) : Int) := by
      rw [wrap_i64 (n := IntKind.wrap .u64 (ks[(k : Int).toNat]'(by omega)) % ((n - (geoN n).data : Nat) : Int)) (by omega) (by omega), wrap_i64 (by omega) (by omega)]
      rw [ek] at m0 m1 ⊢
      unfold takI; omega
    rw [ei]
    have tl : takI n (ks[k]'hk') < n := by
      rw [ek] at m0 m1
      unfold takI; omega
    refine orBit I hn (by omega) r12 o12 fun h' L' d' I' => ⟨⟨k + 1, L', rfl, hk', ?_, d'.rd, d'.own, f12.trans d'.fr fun _ _ e => e⟩, by show ((ks.length : Int) - ((k + 1 : Nat) : Int)).toNat < ((ks.length : Int) - (k : Int)).toNat; omega⟩
    rw [take_snoc _ _ hk']
    exact I'.congr (tkU_snoc n _ _)
  have ek : k = ks.length := by omega
  subst ek
  rw [List.take_length] at I
  clear hl hk ei i
  refine ⟨_, _, _, rda ((f12.rd (by omega) (by omega)).trans rs8) rfl, ?_⟩
  refine ⟨fun i hh => ∃ (k : Nat) (L : Txt), i = k ∧ k ≤ rs.length ∧ Im n (tkU n ks) L ∧ rd hh h7.size = L.map bv ∧ Own hh h7.size ∧ Fr (fun b => b = h7.size) h8 hh, fun i _ => ((rs.length : Int) - i).toNat, ⟨0, L, rfl, Nat.zero_le _, I, r12, o12, f12⟩, ?_⟩
  clear I r12 o12 rg12 z12 L F12 f12
  intro i h14 hI
  obtain ⟨k, L, ei, hk, I, r14, o14, f14⟩ := hI
  have z14 := f14.size
  have rg14 : rd h14 h5.size = (geoN n).v := (f14.rd (by omega) (by omega)).trans rg
  have F14 : Fr No h h14 := F8.trans f14 fun b hb y => by have y : b = h7.size := y; omega
  refine cd (fun hl => ?_) fun hl => ?_
  · subst ei
    have hk' : k < rs.length := by omega
    have wr : IntKind.wrap .i64 ((k : Int) + 1) = ((k + 1 : Nat) : Int) := by rw [wrap_i64 (by omega) (by omega)]; omega
    have me : ((rs.length : Int) - ((k + 1 : Nat) : Int)).toNat < ((rs.length : Int) - (k : Int)).toNat := by omega
    have Y14 := SlCells.fr F14 Y fun _ _ y => y
    obtain ⟨p, ep, cc⟩ : ∃ p, ra = some p ∧ Cells h14 (p.add (k * 2)) (RawI.v (rs[k]'hk')) := by
      have hw : ∀ r ∈ rs, (RawI.v r).length = 2 := fun _ _ => rfl
      cases ra with
      | none =>
        have c : rs.flatMap RawI.v = [] := Y14
        have := flat_length RawI.v 2 rs hw
        rw [c] at this
        exact absurd this (by simp; omega)
      | some p =>
        refine ⟨p, rfl, ?_⟩
        have := Cells.take (Cells.drop Y14 (k * 2)) 2
        rw [flat_part RawI.v 2 rs hw k hk'] at this
        exact this
    have By := hY _ (List.getElem_mem hk')
    rw [Int.toNat_natCast, wr]
    generalize rs[k]'hk' = rw_ at cc By
    refine ⟨⟨by omega, hl⟩, Tm.oe ep ⟨_, rfl, cc, NewRow.intro rfl (one2 rfl rfl) rfl fun h16 n16 => ⟨rw_.num, rda n16.rd rfl, ((geoN n).data : Int), rda ((n16.at_ (by omega)).trans rg14) rfl, ?_⟩⟩⟩
    have z16 := n16.size
    have f16 : Fr (fun b => b = h7.size) h8 h16 := f14.no n16.fr
    have r16 : rd h16 h7.size = L.map bv := (n16.at_ (by omega)).trans r14
    have o16 : Own h16 h7.size := n16.ow o14
    have skip : (∃ (k' : Nat) (L : Txt), ((k + 1 : Nat) : Int) = k' ∧ k' ≤ rs.length ∧ Im n (tkU n ks) L ∧ rd h16 h7.size = L.map bv ∧ Own h16 h7.size ∧ Fr (fun b => b = h7.size) h8 h16) ∧ ((rs.length : Int) - ((k + 1 : Nat) : Int)).toNat < ((rs.length : Int) - (k : Int)).toNat := ⟨⟨k + 1, L, rfl, hk', I, r16, o16, f16⟩, me⟩
    refine cd (fun hd => ⟨rw_.num, rda n16.rd rfl, cd (fun hd2 => ?_) fun _ => skip⟩) fun _ => skip
    have eq1 : IntKind.wrap .i64 (512 * rw_.num) = 512 * rw_.num := wrap_i64 (by omega) (by omega)
    have eq2 : IntKind.wrap .i64 (512 * rw_.num + 512) = 512 * rw_.num + 512 := wrap_i64 (by omega) (by omega)
    refine ⟨rw_.num, rda n16.rd rfl, rw_.num, rda n16.rd rfl, ?_⟩
    rw [eq1, eq2, if_neg (by omega)]
    refine ⟨⟨by omega, by omega, by omega⟩, _, _, _, rda n16.rd rfl, ?_⟩
    show CopyP _ (some (Addr.add ⟨h7.size, 0, none⟩ (512 * rw_.num).toNat)) _ _ _ _
    rw [add_mk, show (512 * rw_.num + 512).toNat - (512 * rw_.num).toNat = 512 by omega]
    have Bz := StrAt.take (StrAt.fr (F14.new n16) By fun _ _ y => y) (n := min rw_.l 512) (Nat.min_le_left _ _)
    have lz : (rw_.bs.take (min rw_.l 512)).length = min rw_.l 512 := by rw [List.length_take, By.1]; omega
    have hl := I.len
    refine CopyP.intro (new := (rw_.bs.take (min rw_.l 512)).map bv) (by rw [List.length_map, lz]; show _ = min rw_.l 512 * 1; omega) Bz.2 (bv_one _) o16 (by rw [r16, List.length_map, List.length_map, lz]; omega) fun h17 d17 => ?_
    refine ⟨⟨k + 1, putU L (512 * rw_.num).toNat (rw_.bs.take (min rw_.l 512)), rfl, hk', I.copy (by omega) (by rw [lz]; omega), ?_, d17.own, f16.trans d17.fr fun _ _ e => e⟩, me⟩
    rw [d17.rd, r16, Nat.zero_add]
    exact putU_put (by rw [lz]; omega)
  have z14' := z14
  refine ⟨(geoN n).v, rfl, cellsAll rg14, PutRow.intro (f14.own (by omega) (by omega) or8) rfl (G.one _) (by rw [f14.rd (by omega) (by omega), rr8]; exact Nat.le_refl _) fun h18 d18 => ⟨(geoN n).v, rfl, cellsAll ?_, ?_⟩⟩
  · rw [d18.rd, f14.rd (by omega) (by omega), rr8]; exact put_all _ _ rfl
  · have z18 := d18.size
    exact hK h7.size L h18 (F14.did d18 fun hl => by omega) I (d18.ow o14) (by omega) ((d18.at_ (by omega) (by omega)).trans r14)
end Go.Proofs.YtcdpakjhjmchhaaDoor.Bm
namespace Go.Proofs.YtcdpakjhjmchhaaDoor.Bm
open Go Go.Proofs Go.Proofs.YtcdpakjhjmchhaaDoor.Wx Go.Proofs.YtcdpakjhjmchhaaDoor.Hp Go.Proofs.YtcdpakjhjmchhaaDoor.W Go.Proofs.YtcdpakjhjmchhaaDoor.Ad Go.Proofs.YtcdpakjhjmchhaaDoor.Tm Go.Proofs.YtcdpakjhjmchhaaDoor.Bt Go.Proofs.YtcdpakjhjmchhaaDoor.Spc Go.Proofs.YtcdpakjhjmchhaaDoor.Re Go.Proofs.YtcdpakjhjmchhaaDoor.Av
open Go.Proofs.YtcdpakjhjmchhaaDoor.Hd (ints wrap_u64)
open Go.Proofs.YtcdpakjhjmchhaaDoor.In (Glo ints_length ints_one)
theorem num_spec {e : Int} {h : Heap} {K : Value → Heap → Prop} (hK : K (.int .i64 e) h) : C.bolelaw10_num e h K := bolelaw10_num.ok hK
theorem begin_spec {more : Int} {ta ra : Option Addr} {tc rc : Nat} {ks : List Int} {rs : List RawI} {h : Heap} {K : Value → Heap → Prop} (X : SlCells h ta (ints ks)) (Y : SlCells h ra (rs.flatMap RawI.v)) (hY : ∀ r ∈ rs, StrAt h r.a r.l r.bs) (hkl : ks.length ≤ 140737488355328) (hrl : rs.length ≤ 140737488355328)
    (hK : ∀ t u q d F H L h', Fr No h h' → Tx h' F t d ⟨fresh (chunks L), [], [], false⟩ → Rx.RxS h' H u q ⟨fresh (chunks L), [], [], false⟩ → Im (nOf more) (tkU (nOf more) ks) L → (∀ b, F b → h.size ≤ b) → (∀ b, H b → h.size ≤ b ∧ ¬ F b) →
      K (.tuple #[.pointer t, .pointer u, .agg ⟨(geoN (nOf more)).v⟩, .bool true]) h') :
    C.bolelaw10_Setup_begin (setupV more ta ks.length tc ra rs.length rc) h K := by
  have hn := nOf_rng more
  refine bolelaw10_Setup_begin.ok (New.intro fun h2 n2 => New.intro fun h3 n3 => ⟨_, rfl, cellsAll ((n3.at_ n2.own.lt).trans n2.rd), ?_⟩)
  have z2 := n2.size
  have z3 := n3.size
  have F3 := n2.fr.new n3
  refine image_spec (SlCells.fr F3 X fun _ _ y => y) (SlCells.fr F3 Y fun _ _ y => y) (fun r hr => StrAt.fr F3 (hY r hr) fun _ _ y => y) hkl hrl fun ib L h4 f4 I o4 hib r4 => ⟨_, _, _, _, rfl, NewRow.intro rfl (G.one _) rfl fun h6 n6 => ?_⟩
  have z4 := f4.size
  have z6 := n6.size
  generalize nOf more = n at hn hK I n6 ⊢
  have hL := I.len
  have B6 : StrAt h6 (some ⟨ib, 0, none⟩) (512 * n) L := strAll ((n6.at_ o4.lt).trans r4) hL
  refine openF_spec B6 (Nat.le_refl _) (by omega) (fun y => by exfalso; omega) fun _ _ _ dq h7 D f7 hD A => ⟨_, _, rfl, ?_⟩
  refine Rx.Of_spec (StrAt.fr f7 B6 fun _ _ y => y) (by omega) (by omega) (by omega) fun rq h8 E f8 R8 hE => ⟨_, _, rfl, num_spec ⟨_, rfl, cn (fun y => absurd rfl y) fun _ => num_spec ⟨_, rfl, cn (fun y => absurd rfl y) fun _ => cf rfl ?_⟩⟩⟩
  have z7 := f7.size
  have z8 := f8.size
  have F6 : Fr No h h6 := (F3.no f4).new n6
  have s6 := F6.size
  have gz : ∀ {h' : Heap}, Fr No h8 h' → rd h' h4.size = (geoN n).v := fun f => (f.rd (by omega) fun y => y).trans ((f8.rd (by omega) fun y => y).trans ((f7.rd (by omega) fun y => y).trans n6.rd))
  have rz : ∀ {h' : Heap}, Fr No h8 h' → rd h' h2.size = z29 ∧ Own h' h2.size := fun f => by
    have ff : Fr No h3 _ := (((f4.new n6).no f7).no f8).no f
    exact ⟨(ff.rd n3.own.lt fun y => y).trans n3.rd, ff.own n3.own.lt (fun y => y) n3.own⟩
  unfold bolelaw10_Setup_begin.k1
  refine Tm.Begin_spec (A.no f8) fun tb h15 F f15 g15 x15 => ⟨_, rfl, (geoN n).v, rfl, cellsAll (gz f15), ?_⟩
  have z15 := f15.size
  refine Rx.Begin_spec (R8.no f15) fun H h16 f16 x16 eH => ⟨_, rfl, ⟨rfl, cellsAll (gz (f15.no f16))⟩, ?_⟩
  have z16 := f16.size
  obtain ⟨rr, oo⟩ := rz (f15.no f16)
  refine PutRow.intro oo rfl (G.one _) (by rw [rr]; exact Nat.le_refl _) fun h17 d17 => ⟨(geoN n).v, rfl, cellsAll (by rw [d17.rd, rr]; exact put_all _ _ rfl), ?_⟩
  have Elt : ∀ b, E b → b < h8.size := by obtain ⟨_, _, _, _, _, _, _, _, _, _, l⟩ := R8; exact l
  have Dlt : ∀ b, D b → b < h7.size := fun b => A.lt
  have sF : ∀ b, F b → h6.size ≤ b ∧ b < h7.size ∨ h8.size ≤ b ∧ b < h15.size := fun b y => by
    rcases g15.new y with w | w
    · exact .inl ⟨hD b w, Dlt b w⟩
    · exact .inr ⟨w, x15.lt y⟩
  have sH : ∀ b, H b → h7.size ≤ b ∧ b < h8.size ∨ b = h15.size := fun b y => by
    rcases (eH b).mp y with w | w
    · exact .inl ⟨hE b w, Elt b w⟩
    · exact .inr w
  refine hK _ _ (some rq) (some dq) F H L h17 (((((F6.no f7).no f8).no f15).no f16).did d17 fun hl => by omega) ((x15.no f16).fr d17.fr fun b hb y => ?_) (Rx.RxS.fr ⟨_, Rx.sim_fresh hL, x16⟩ d17.fr fun b hb y => ?_) I (fun b hb => ?_) fun b hb => ?_
  · have y : b = h2.size := y
    have := sF b hb; omega
  · have y : b = h2.size := y
    have := sH b hb; omega
  · have := sF b hb; omega
  · have h1 := sH b hb
    exact ⟨by omega, fun y => by have := sF b y; omega⟩
end Go.Proofs.YtcdpakjhjmchhaaDoor.Bm
namespace Go.Proofs.YtcdpakjhjmchhaaDoor
open Go Go.ChangeShapes Go.WideShapes Go.ChangeAt Go.RowKit Go.Proofs.YtcdpakjhjmchhaaDoor.Wx Go.Proofs.YtcdpakjhjmchhaaDoor.Hp Go.Proofs.YtcdpakjhjmchhaaDoor.Gl
theorem Tryd.cellsInts : Tryd.prog.cellsOf 22 = 1 := by kernel_rfl
theorem Tryd.cellsRaws : Tryd.prog.cellsOf 23 = 1 := by kernel_rfl
theorem Tryd.cellsRaw : Tryd.prog.cellsOf 137 = 2 := by kernel_rfl
theorem Tryd.cellsBytes : Tryd.prog.cellsOf 72 = 1 := by kernel_rfl
theorem Tryd.cellsByte : Tryd.prog.cellsOf 5 = 1 := by kernel_rfl
theorem Tryd.cellsSetup : Tryd.prog.cellsOf 25 = 3 := by kernel_rfl
theorem Tryd.bytesRaw : Tryd.prog.bytesOf 137 = 32 := by kernel_rfl
set_option maxRecDepth 100000 in
theorem one_raw {H : Type} {enc : TypeId × Value → H} {W : World} (n : Nat) (cs : List Value) (y : DataW H × List MemPlace) (h : DataW.trod enc Tryd.prog W 0 (fun _ => true) true n 137 cs = some y) : ∃ x : Bm.RawI, cs = x.v ∧ StrAt W.heap x.a x.l x.bs := by
  obtain ⟨y0, y1, k, _, hl, h0, h1⟩ := trod_struct2 Tryd.underlying137 h
  rw [Tryd.cellsRaw] at hl
  simp only [Tryd.cellsInt, Tryd.cellsBytes] at h0 h1
  match cs, hl with
  | [a, b], _ =>
    obtain ⟨n0, e0, _, _⟩ := DataW.trod_int Tryd.underlying3 h0
    obtain ⟨ba, bl, bc, bs, e1, B, _, _⟩ := inner_bytes Tryd.underlying72 Tryd.underlying5 Tryd.cellsByte h1
    have e0 : a = .int .i64 n0 := by simpa using e0
    have e1 : b = .slice ba bl bc := by simpa using e1
    exact ⟨⟨n0, ba, bl, bc, bs⟩, by rw [e0, e1]; rfl, B⟩
set_option maxRecDepth 100000 in
theorem open_setup {H : Type} {enc : TypeId × Value → H} {W : World} {base : Nat} {v : Value} {d : DataW H} {p : List MemPlace} (hval : Value.okWide Tryd.prog W .any base 25 v) (h : DataW.Trod enc Tryd.prog W 0 (fun _ => true) true 25 v d p) (L : Light Tryd.prog 25 d) :
    ∃ more ta tc ra rc, ∃ ks : List Int, ∃ rs : List Bm.RawI, v = .agg ⟨Bm.setupV more ta ks.length tc ra rs.length rc⟩ ∧ SlCells W.heap ta (Hd.ints ks) ∧ SlCells W.heap ra (rs.flatMap Bm.RawI.v) ∧ (∀ r ∈ rs, StrAt W.heap r.a r.l r.bs) ∧ ks.length ≤ 140737488355328 ∧ rs.length ≤ 140737488355328 := by
  obtain ⟨cs, rfl, _⟩ := okWide_struct Tryd.underlying25 hval
  obtain ⟨fuel, hf⟩ := h
  obtain ⟨xs, n, _, hd, hl, hlen, hf⟩ := DataW.trod_struct Tryd.underlying25 hf
  rw [Tryd.cellsSetup] at hl
  match xs, hlen with
  | [y0, y1, y2], _ =>
    have h0 : DataW.trod enc Tryd.prog W 0 (fun _ => true) true n 3 (List.take (Tryd.prog.cellsOf 3) (List.drop 0 _)) = some y0 := hf 0 _ rfl
    have h1 : DataW.trod enc Tryd.prog W 0 (fun _ => true) true n 22 (List.take (Tryd.prog.cellsOf 22) (List.drop 1 _)) = some y1 := hf 1 _ rfl
    have h2 : DataW.trod enc Tryd.prog W 0 (fun _ => true) true n 23 (List.take (Tryd.prog.cellsOf 23) (List.drop 2 _)) = some y2 := hf 2 _ rfl
    have ed : d = .agg [y0.1, y1.1, y2.1] := by
      have := congrArg Prod.fst hd
      simpa using this
    rw [ed] at L
    simp only [Tryd.cellsInt, Tryd.cellsInts, Tryd.cellsRaws] at h0 h1 h2
    obtain ⟨cl⟩ := cs
    match cl, hl with
    | [c0, c1, c2], _ =>
      obtain ⟨n0, e0, _, _⟩ := DataW.trod_int Tryd.underlying3 h0
      obtain ⟨ta, tl, tc, ks, e1, K1, k1, k2, r1⟩ := inner_intsR Tryd.underlying22 Tryd.underlying3 Tryd.cellsInt h1
      obtain ⟨ra, rl, rc, rs, e2, K2, q1, q2, r2, hq⟩ := inner_rowW (α := Bm.RawI) Bm.RawI.v (fun _ x => StrAt W.heap x.a x.l x.bs) (fun _ => rfl) Tryd.underlying23 Tryd.cellsRaw h2 one_raw
      have L1 : Light Tryd.prog 22 y1.1 := fun w hw => L w (weight_part (j := 1) Tryd.underlying25 rfl rfl hw)
      have L2 : Light Tryd.prog 23 y2.1 := fun w hw => L w (weight_part (j := 2) Tryd.underlying25 rfl rfl hw)
      have m1 := light_room L1 Tryd.underlying22 r1
      have m2 := light_room L2 Tryd.underlying23 r2
      rw [Tryd.bytesInt] at m1
      rw [Tryd.bytesRaw] at m2
      have e0 : [c0] = [.int .i64 n0] := e0
      have e1 : [c1] = [.slice ta tl tc] := e1
      have e2 : [c2] = [.slice ra rl rc] := e2
      have e0 := (List.cons.inj e0).1
      have e1 := (List.cons.inj e1).1
      have e2 := (List.cons.inj e2).1
      refine ⟨n0, ta, tc, ra, rc, ks, rs, by rw [e0, e1, e2, k1, q1]; rfl, K1, K2, fun r hr => ?_, by omega, by omega⟩
      obtain ⟨i, hi, rfl⟩ := List.mem_iff_getElem.mp hr
      obtain ⟨z, _, B⟩ := hq i hi
      exact B
end Go.Proofs.YtcdpakjhjmchhaaDoor
namespace Go.Proofs.YtcdpakjhjmchhaaDoor.Bm
open Go Go.Proofs Go.Proofs.YtcdpakjhjmchhaaDoor.Wx Go.Proofs.YtcdpakjhjmchhaaDoor.Hp Go.Proofs.YtcdpakjhjmchhaaDoor.W Go.Proofs.YtcdpakjhjmchhaaDoor.Ad Go.Proofs.YtcdpakjhjmchhaaDoor.Tm Go.Proofs.YtcdpakjhjmchhaaDoor.Bt Go.Proofs.YtcdpakjhjmchhaaDoor.Spc Go.Proofs.YtcdpakjhjmchhaaDoor.Re Go.Proofs.YtcdpakjhjmchhaaDoor.Av
/-- the pairs of m indices from k on -/
def rowN (f : Nat → Nat) : Nat → Nat → List (Int × Int)
  | _, 0 => []
  | k, m + 1 => (if f k = 0 then [] else [((k : Int), (f k : Int))]) ++ rowN f (k + 1) m
def tabN (f : Nat → Nat) : Nat → Nat → List Int
  | _, 0 => []
  | k, m + 1 => (if f k = 0 then [] else [(f k : Int)]) ++ tabN f (k + 1) m
theorem rowN_zero {f : Nat → Nat} : ∀ (m k : Nat), (∀ j, j < m → f (k + j) = 0) → rowN f k m = []
  | 0, _, _ => rfl
  | m + 1, k, h => by
    have h0 := h 0 (by omega)
    rw [Nat.add_zero] at h0
    show (if f k = 0 then [] else _) ++ rowN f (k + 1) m = []
    rw [if_pos h0, rowN_zero m (k + 1) fun j hj => by have := h (j + 1) (by omega); rwa [show k + (j + 1) = k + 1 + j by omega] at this]; rfl
theorem rowN_add {f : Nat → Nat} : ∀ (a k b : Nat), rowN f k (a + b) = rowN f k a ++ rowN f (k + a) b
  | 0, k, b => by rw [Nat.zero_add]; rfl
  | a + 1, k, b => by
    rw [show a + 1 + b = (a + b) + 1 by omega]
    show (if f k = 0 then [] else _) ++ rowN f (k + 1) (a + b) = ((if f k = 0 then [] else _) ++ rowN f (k + 1) a) ++ _
    rw [rowN_add a (k + 1) b, List.append_assoc, show k + 1 + a = k + (a + 1) by omega]
theorem own_go {g : G} {f : Nat → Nat} {dO : DoM} {b : Nat} (hd : ∀ S i v, dO S i v = ownA g S ((b + i : Nat) : Int) v) : ∀ (vs : List Int) (i : Nat) (S : AllS), (∀ j (hj : j < vs.length), vs[j] = (f (b + i + j) : Int)) → (∀ j, j < vs.length → f (b + i + j) ≠ 0 → lookM g (f (b + i + j) : Int) = 0) →
    eachGo dO vs i S = (⟨S.L ++ rowN f (b + i) vs.length, S.M⟩, 0)
  | [], i, S, _, _ => by show (S, (0 : Int)) = (⟨S.L ++ [], S.M⟩, 0); rw [List.append_nil]
  | v :: r, i, S, h1, h2 => by
    have hv : v = (f (b + i) : Int) := h1 0 (Nat.succ_pos _)
    have ih := fun S' => own_go hd r (i + 1) S' (fun j hj => by
      have := h1 (j + 1) (Nat.succ_lt_succ hj)
      rw [show b + i + (j + 1) = b + (i + 1) + j by omega] at this
      exact this) (fun j hj hne => by
      have := h2 (j + 1) (Nat.succ_lt_succ hj)
      rw [show b + i + (j + 1) = b + (i + 1) + j by omega] at this
      exact this hne)
    rw [eachGo_cons, hd, List.length_cons]
    show _ = (AllS.mk (S.L ++ ((if f (b + i) = 0 then [] else _) ++ rowN f (b + i + 1) r.length)) S.M, (0 : Int))
    by_cases h0 : f (b + i) = 0
    · have e : ownA g S ((b + i : Nat) : Int) v = (S, 0) := by unfold ownA; rw [if_pos (by omega)]
      rw [e, if_neg (fun z => z rfl), ih S, if_pos h0]; rfl
    · have l0 := h2 0 (Nat.succ_pos _) h0
      have l0 : lookM g (f (b + i) : Int) = 0 := l0
      have e : ownA g S ((b + i : Nat) : Int) v = (⟨S.L ++ [(((b + i : Nat) : Int), v)], S.M⟩, 0) := by unfold ownA; rw [if_neg (by omega), hv, l0]
      rw [e, if_neg (fun z => z rfl), ih, if_neg h0, hv]
      show (AllS.mk (S.L ++ [(((b + i : Nat) : Int), (f (b + i) : Int))] ++ rowN f (b + (i + 1)) r.length) S.M, (0 : Int)) = _
      rw [List.append_assoc]; rfl
theorem each_ok {n : Nat} {Z : Nat → Txt} {R : List Int} {T : TM} {dO : DoM} {b q : Nat} {S : AllS} (a : Av n Z T) (w : Wf n Z R) (hd : ∀ S i v, dO S i v = ownA (geoN n) S ((b + i : Nat) : Int) v) (hq : q < nS) (hb : ∀ j, j < 128 → b + j < nS ∧ par (b + j) = some (q, j)) :
    eachM T (geoN n) dO (num Z R q : Nat) S = (⟨S.L ++ rowN (num Z R) b 128, S.M ++ tabN (num Z R) q 1⟩, 0) := by
  have ch : ∀ j, j < 128 → num Z R (b + j) = sub Z (num Z R q) j := fun j hj => num_some (hb j hj).2 (hb j hj).1
  unfold eachM
  show _ = (AllS.mk _ (S.M ++ ((if num Z R q = 0 then [] else _) ++ [])), (0 : Int))
  by_cases h0 : num Z R q = 0
  · rw [if_pos (by omega), if_pos h0, rowN_zero 128 b fun j hj => by rw [ch j hj, h0]; rfl, List.append_nil, List.append_nil, List.append_nil]
  · have ru := w.rng q hq h0
    rw [if_neg (by omega), if_neg (fun z => z (look_ok ru.1 ru.2.1)), a.z _ ru.2.1, if_neg (fun z => z rfl), if_neg h0]
    have lk : ∀ j, j < (numsL (Z (num Z R q))).length → num Z R (b + 0 + j) ≠ 0 → lookM (geoN n) (num Z R (b + 0 + j) : Int) = 0 := fun j hj hne => by
      rw [numsL_len] at hj
      rw [Nat.add_zero] at hne ⊢
      have r2 := w.rng _ (hb j hj).1 hne
      exact look_ok r2.1 r2.2.1
    have g := own_go (f := num Z R) hd (numsL (Z (num Z R q))) 0 ⟨S.L, S.M ++ [((num Z R q : Nat) : Int)]⟩ (fun j hj => by
      rw [numsL_get hj]
      rw [numsL_len] at hj
      rw [Nat.add_zero, ch j hj]
      unfold sub
      rw [if_neg h0]) lk
    rw [numsL_len, Nat.add_zero] at g
    rw [g, List.append_nil]
theorem two_go {n : Nat} {Z : Nat → Txt} {R : List Int} {T : TM} (a : Av n Z T) (w : Wf n Z R) : ∀ (vs : List Int) (i : Nat) (S : AllS), i + vs.length ≤ 128 → (∀ j (hj : j < vs.length), vs[j] = (num Z R (16524 + i + j) : Int)) →
    eachGo (twoD T (geoN n)) vs i S = (⟨S.L ++ rowN (num Z R) (138 + 128 * i) (128 * vs.length), S.M ++ tabN (num Z R) (16524 + i) vs.length⟩, 0)
  | [], i, S, _, _ => by show (S, (0 : Int)) = (AllS.mk (S.L ++ []) (S.M ++ []), 0); rw [List.append_nil, List.append_nil]
  | v :: r, i, S, hl, h1 => by
    rw [List.length_cons] at hl
    have hv : v = (num Z R (16524 + i) : Int) := h1 0 (Nat.succ_pos _)
    have ih := fun S' => two_go a w r (i + 1) S' (by omega) (fun j hj => by
      have := h1 (j + 1) (Nat.succ_lt_succ hj)
      rw [show 16524 + i + (j + 1) = 16524 + (i + 1) + j by omega] at this
      exact this)
    have ed : twoD T (geoN n) S i v = (⟨S.L ++ rowN (num Z R) (138 + 128 * i) 128, S.M ++ tabN (num Z R) (16524 + i) 1⟩, 0) := by
      show eachM T (geoN n) (inD (geoN n) i) v S = _
      rw [hv]
      refine each_ok a w (fun S j v => ?_) (by unfold nS; omega) fun j hj => ⟨by unfold nS; omega, ?_⟩
      · show ownA (geoN n) S (138 + (i : Int) * 128 + j) v = _
        rw [show 138 + (i : Int) * 128 + j = ((138 + 128 * i + j : Nat) : Int) by omega]
      · unfold par
        rw [if_neg (by omega), if_neg (by omega), if_pos (by omega), show 16524 + (138 + 128 * i + j - 138) / 128 = 16524 + i by omega, show (138 + 128 * i + j - 138) % 128 = j by omega]
    rw [eachGo_cons, ed, if_neg (fun z => z rfl), ih, List.length_cons, show 128 * (r.length + 1) = 128 + 128 * r.length by omega, rowN_add, show 138 + 128 * i + 128 = 138 + 128 * (i + 1) by omega]
    show (AllS.mk ((S.L ++ rowN (num Z R) (138 + 128 * i) 128) ++ _) ((S.M ++ ((if num Z R (16524 + i) = 0 then [] else _) ++ [])) ++ _), (0 : Int)) = (AllS.mk (S.L ++ (_ ++ _)) (S.M ++ ((if num Z R (16524 + i) = 0 then [] else _) ++ _)), (0 : Int))
    rw [List.append_assoc, List.append_assoc, List.append_nil]; rfl
/-- All tells the numbers of all indices that have one, rising, and the tables -/
theorem allS_ok {n : Nat} {Z : Nat → Txt} {R : List Int} {T : TM} (a : Av n Z T) (w : Wf n Z R) : allM T (geoN n) R = (rowN (num Z R) 0 16522, tabN (num Z R) 16522 1 ++ (tabN (num Z R) 16523 1 ++ if num Z R 16523 = 0 then [] else tabN (num Z R) 16524 128), 0) := by
  have rl := w.rl
  have dirs : eachGo (dirD (geoN n)) ((R.drop 3).take 10) 0 ⟨[], []⟩ = (⟨rowN (num Z R) 0 10, []⟩, 0) := by
    have hl : ((R.drop 3).take 10).length = 10 := by rw [List.length_take, List.length_drop, rl]; rfl
    have g := own_go (g := geoN n) (f := num Z R) (dO := dirD (geoN n)) (b := 0) (fun S i v => by show ownA _ S (i : Int) v = _; rw [Nat.zero_add]) ((R.drop 3).take 10) 0 ⟨[], []⟩ (fun j hj => by
      have h0 : par (0 + 0 + j) = none := by unfold par; rw [if_pos (by omega)]
      rw [← root_num w (by unfold nS; omega) h0]
      unfold root
      rw [if_pos (by omega), List.getElem_take, List.getElem_drop, List.getD_eq_getElem?_getD, List.getElem?_eq_getElem (by omega)]
      show _ = R[3 + (0 + 0 + j)]
      congr 1; omega) (fun j hj hne => by
      have r2 := w.rng _ (by unfold nS; omega) hne
      exact look_ok r2.1 r2.2.1)
    rw [hl] at g
    exact g
  have r13 : R.getD 13 0 = (num Z R 16522 : Nat) := by
    have := root_num w (s := 16522) (by decide) (by decide)
    unfold root at this
    rw [if_neg (by decide), if_pos rfl] at this; exact this
  have r14 : R.getD 14 0 = (num Z R 16523 : Nat) := by
    have := root_num w (s := 16523) (by decide) (by decide)
    unfold root at this
    rw [if_neg (by decide), if_neg (by decide)] at this; exact this
  have one : ∀ S, eachM T (geoN n) (oneD (geoN n)) (R.getD 13 0) S = (⟨S.L ++ rowN (num Z R) 10 128, S.M ++ tabN (num Z R) 16522 1⟩, 0) := fun S => by
    rw [r13]
    refine each_ok a w (fun S j v => ?_) (by decide) fun j hj => ⟨by unfold nS; omega, ?_⟩
    · show ownA (geoN n) S (10 + (j : Int)) v = _
      rw [show 10 + (j : Int) = ((10 + j : Nat) : Int) by omega]
    · unfold par
      rw [if_neg (by omega), if_pos (by omega), show 10 + j - 10 = j by omega]
  have two : ∀ S, eachM T (geoN n) (twoD T (geoN n)) (R.getD 14 0) S = (⟨S.L ++ rowN (num Z R) 138 16384, S.M ++ (tabN (num Z R) 16523 1 ++ if num Z R 16523 = 0 then [] else tabN (num Z R) 16524 128)⟩, 0) := fun S => by
    rw [r14]
    have pt : ∀ p, p < 128 → num Z R (16524 + p) = sub Z (num Z R 16523) p := fun p hp => num_some (par_table hp) (by unfold nS; omega)
    unfold eachM
    show _ = (AllS.mk _ (S.M ++ (((if num Z R 16523 = 0 then [] else _) ++ []) ++ _)), (0 : Int))
    by_cases h0 : num Z R 16523 = 0
    · rw [if_pos (by omega), if_pos h0, if_pos h0, rowN_zero 16384 138 fun j hj => ?_]
      · simp only [List.append_nil]
      · have e : par (138 + j) = some (16524 + j / 128, j % 128) := by
          unfold par
          rw [if_neg (by omega), if_neg (by omega), if_pos (by omega), Nat.add_sub_cancel_left]
        rw [num_some e (by unfold nS; omega), pt (j / 128) (by omega), h0]; rfl
    · have ru := w.rng 16523 (by decide) h0
      rw [if_neg (by omega), if_neg (fun z => z (look_ok ru.1 ru.2.1)), a.z _ ru.2.1, if_neg (fun z => z rfl), if_neg h0, if_neg h0]
      have g := two_go a w (numsL (Z (num Z R 16523))) 0 ⟨S.L, S.M ++ [((num Z R 16523 : Nat) : Int)]⟩ (by rw [numsL_len]; decide) (fun j hj => by
        rw [numsL_get hj]
        rw [numsL_len] at hj
        rw [Nat.add_zero, pt j hj]
        unfold sub
        rw [if_neg h0])
      rw [numsL_len] at g
      rw [g, List.append_nil, ← List.append_assoc]
  have sum : rowN (num Z R) 0 16522 = (rowN (num Z R) 0 10 ++ rowN (num Z R) 10 128) ++ rowN (num Z R) 138 16384 := by
    rw [show 16522 = 10 + (128 + 16384) by rfl, rowN_add, rowN_add, ← List.append_assoc]
  have es : allS T (geoN n) R = (⟨rowN (num Z R) 0 16522, tabN (num Z R) 16522 1 ++ (tabN (num Z R) 16523 1 ++ if num Z R 16523 = 0 then [] else tabN (num Z R) 16524 128)⟩, 0) := by
    unfold allS
    rw [dirs, if_neg (fun z => z rfl), one, if_neg (fun z => z rfl), two, sum]; rfl
  unfold allM
  rw [es, if_neg (fun z => z rfl)]
end Go.Proofs.YtcdpakjhjmchhaaDoor.Bm
namespace Go.Proofs.YtcdpakjhjmchhaaDoor.Bm
open Go Go.Proofs Go.Proofs.YtcdpakjhjmchhaaDoor.Wx Go.Proofs.YtcdpakjhjmchhaaDoor.Hp Go.Proofs.YtcdpakjhjmchhaaDoor.W Go.Proofs.YtcdpakjhjmchhaaDoor.Ad Go.Proofs.YtcdpakjhjmchhaaDoor.Tm Go.Proofs.YtcdpakjhjmchhaaDoor.Bt Go.Proofs.YtcdpakjhjmchhaaDoor.Spc Go.Proofs.YtcdpakjhjmchhaaDoor.Re Go.Proofs.YtcdpakjhjmchhaaDoor.Av
def Z0 (L : Txt) : Nat → Txt := fun k => (L.drop (k * 512)).take 512
theorem fresh_av {n : Nat} {L : Txt} (hL : L.length = 512 * n) : Av n (Z0 L) ⟨fresh (chunks L), [], [], false⟩ := by
  have hn : (chunks L).length = n := by rw [chunks_length, hL]; omega
  refine ⟨rfl, hn, fun k hk => ?_, fun k hk => by unfold Z0; rw [List.length_take, List.length_drop, hL]; omega, List.nodup_nil, fun x hx => (by cases hx)⟩
  have hN : TM.N ⟨fresh (chunks L), [], [], false⟩ = n := hn
  rw [TM.read_live rfl, hN, if_neg (by omega), TM.get_none rfl, if_neg (by intro y; cases y)]
  have : readAt (fresh (chunks L)) ((k : Nat) : Int).toNat = Z0 L k := by
    show (chunks L).getD k [] = _
    rw [List.getD_eq_getElem?_getD, List.getElem?_eq_getElem (by omega), Option.getD_some, chunks_get]; rfl
  rw [this]
theorem bitAt_chunk (L : Txt) (k t : Nat) (ht : t < 4096) : bitAt (Z0 L k) t = bitAt L (4096 * k + t) := by
  unfold bitAt Z0
  rw [List.getD_eq_getElem?_getD, List.getElem?_take, if_pos (by omega), List.getElem?_drop, ← List.getD_eq_getElem?_getD, show k * 512 + t / 8 = (4096 * k + t) / 8 by omega, show t % 8 = (4096 * k + t) % 8 by omega]
/-- which blocks a case's bitmap says are taken -/
theorem Im.bit {n : Nat} {U : Nat → Bool} {L : Txt} (a : Im n U L) (hn : 128 ≤ n ∧ n < 4428) {j : Nat} (hj : j < n) : Av.bit (Z0 L) j = U j := by
  have hino : (geoN n).inodes = 98 + (n + 4095) / 4096 := rfl
  rw [← a.bits j (by omega)]
  unfold Av.bit
  rw [bitAt_chunk _ _ _ (Nat.mod_lt _ (by decide))]
  congr 1; omega
/-- a record without a number -/
theorem num_nil {Z : Nat → Txt} {R : List Int} (h : ∀ i, 3 ≤ i → i < 15 → R.getD i 0 = 0) : ∀ s, s < nS → num Z R s = 0 := by
  refine slots (fun s hs e => ?_) fun s q p hs e ih => ?_
  · rw [num_none e]
    have b := par_none e
    have : root R s = 0 := by
      unfold root
      split
      · exact h _ (by omega) (by omega)
      · split
        · exact h _ (by omega) (by omega)
        · exact h _ (by omega) (by omega)
    rw [this]; rfl
  · rw [num_some e hs, ih]; rfl
theorem wf_nil {n : Nat} {Z : Nat → Txt} {R : List Int} (hl : R.length = 15) (h : ∀ i, 3 ≤ i → i < 15 → R.getD i 0 = 0) : Wf n Z R :=
  ⟨hl, fun i h1 h2 => by rw [h i h1 h2]; exact Int.le_refl _, fun s hs h0 => absurd (num_nil h s hs) h0, fun s s' hs _ h0 _ => absurd (num_nil h s hs) h0⟩
end Go.Proofs.YtcdpakjhjmchhaaDoor.Bm
namespace Go.Proofs.YtcdpakjhjmchhaaDoor.Bm
open Go Go.Proofs Go.Proofs.YtcdpakjhjmchhaaDoor.Wx Go.Proofs.YtcdpakjhjmchhaaDoor.Hp Go.Proofs.YtcdpakjhjmchhaaDoor.W Go.Proofs.YtcdpakjhjmchhaaDoor.Ad Go.Proofs.YtcdpakjhjmchhaaDoor.Tm Go.Proofs.YtcdpakjhjmchhaaDoor.Bt Go.Proofs.YtcdpakjhjmchhaaDoor.Spc Go.Proofs.YtcdpakjhjmchhaaDoor.Re Go.Proofs.YtcdpakjhjmchhaaDoor.Av
def loS (q : Nat) : Nat := if q = 16522 then 10 else if q = 16523 then 138 else 138 + 128 * (q - 16524)
def hiS (q : Nat) : Nat := if q = 16522 then 138 else if q = 16523 then 16522 else 138 + 128 * (q - 16524) + 128
def ch (q p : Nat) : Nat := if q = 16522 then 10 + p else if q = 16523 then 16524 + p else 138 + 128 * (q - 16524) + p
theorem lo_tab (p : Nat) : loS (16524 + p) = 138 + 128 * p := by unfold loS; rw [if_neg (by omega), if_neg (by omega), Nat.add_sub_cancel_left]
theorem hi_tab (p : Nat) : hiS (16524 + p) = 138 + 128 * p + 128 := by unfold hiS; rw [if_neg (by omega), if_neg (by omega), Nat.add_sub_cancel_left]
theorem ch_tab (r p : Nat) : ch (16524 + r) p = 138 + 128 * r + p := by unfold ch; rw [if_neg (by omega), if_neg (by omega), Nat.add_sub_cancel_left]
theorem ch_one (p : Nat) : ch 16522 p = 10 + p := rfl
theorem ch_two (p : Nat) : ch 16523 p = 16524 + p := rfl
/-- the three kinds of tables -/
theorem tab_cases {q : Nat} (h1 : 16522 ≤ q) (h2 : q < nS) : q = 16522 ∨ q = 16523 ∨ ∃ r, r < 128 ∧ q = 16524 + r := by
  unfold nS at h2
  by_cases a : q = 16522
  · exact .inl a
  · by_cases b : q = 16523
    · exact .inr (.inl b)
    · exact .inr (.inr ⟨q - 16524, by omega, by omega⟩)
theorem ch_par {q p : Nat} (h1 : 16522 ≤ q) (h2 : q < nS) (hp : p < 128) : par (ch q p) = some (q, p) ∧ ch q p < nS := by
  rcases tab_cases h1 h2 with rfl | rfl | ⟨r, hr, rfl⟩
  · rw [ch_one]
    refine ⟨?_, by unfold nS; omega⟩
    unfold par
    rw [if_neg (by omega), if_pos (by omega), Nat.add_sub_cancel_left]
  · rw [ch_two]
    exact ⟨par_table hp, by unfold nS; omega⟩
  · rw [ch_tab]
    refine ⟨?_, by unfold nS; omega⟩
    unfold par
    rw [if_neg (by omega), if_neg (by omega), if_pos (by omega), show (138 + 128 * r + p - 138) / 128 = r by omega, show (138 + 128 * r + p - 138) % 128 = p by omega]
theorem par_ch {s q p : Nat} (h : par s = some (q, p)) (hs : s < nS) : ch q p = s ∧ p < 128 ∧ 16522 ≤ q ∧ q < nS := by
  have a := par_up h hs
  have b := par_ne h hs
  refine ⟨?_, a.1, b.2.2, b.2.1⟩
  rcases a.2 with ⟨rfl, e⟩ | ⟨rfl, e⟩ | ⟨h1, h2, e⟩
  · rw [ch_one, e]
  · rw [ch_two, e]
  · rcases tab_cases b.2.2 b.2.1 with rfl | rfl | ⟨r, _, rfl⟩
    · omega
    · omega
    · rw [ch_tab]; omega
theorem ch_num {Z : Nat → Txt} {R : List Int} {q p : Nat} (h1 : 16522 ≤ q) (h2 : q < nS) (hp : p < 128) : num Z R (ch q p) = sub Z (num Z R q) p := by
  obtain ⟨a, b⟩ := ch_par h1 h2 hp
  exact num_some a b
theorem ch_num' {Z : Nat → Txt} {R : List Int} {q p : Nat} (h1 : 16522 ≤ q) (h2 : q < nS) (hp : p < 128) (h0 : num Z R q ≠ 0) : num Z R (ch q p) = num4 (Z (num Z R q)) p := by
  rw [ch_num h1 h2 hp]; unfold sub; rw [if_neg h0]
/-- slot s is q or below it -/
def Sub (q s : Nat) : Prop := s = q ∨ (16522 ≤ q ∧ loS q ≤ s ∧ s < hiS q) ∨ (q = 16523 ∧ 16524 ≤ s ∧ s < nS)
theorem sub_leaf {c s : Nat} (h : c < 16522) : Sub c s ↔ s = c := by unfold Sub; omega
theorem sub_one {s : Nat} : Sub 16522 s ↔ s = 16522 ∨ (10 ≤ s ∧ s < 138) := by
  have e1 : loS 16522 = 10 := rfl
  have e2 : hiS 16522 = 138 := rfl
  unfold Sub; rw [e1, e2]; omega
theorem sub_two {s : Nat} : Sub 16523 s ↔ s = 16523 ∨ (138 ≤ s ∧ s < 16522) ∨ (16524 ≤ s ∧ s < nS) := by
  have e1 : loS 16523 = 138 := rfl
  have e2 : hiS 16523 = 16522 := rfl
  unfold Sub; rw [e1, e2]; omega
theorem sub_tab {r s : Nat} : Sub (16524 + r) s ↔ s = 16524 + r ∨ (138 + 128 * r ≤ s ∧ s < 138 + 128 * r + 128) := by
  unfold Sub; rw [lo_tab, hi_tab]; omega
theorem sub_split {q s : Nat} (h1 : 16522 ≤ q) (h2 : q < nS) : Sub q s ↔ s = q ∨ ∃ j, j < 128 ∧ Sub (ch q j) s := by
  rcases tab_cases h1 h2 with rfl | rfl | ⟨r, hr, rfl⟩
  · rw [sub_one]
    constructor
    · rintro (h | h)
      · exact .inl h
      · exact .inr ⟨s - 10, by omega, by rw [ch_one, sub_leaf (by omega)]; omega⟩
    · rintro (h | ⟨j, hj, h⟩)
      · exact .inl h
      · rw [ch_one, sub_leaf (by omega)] at h; omega
  · rw [sub_two]
    constructor
    · rintro (h | h | h)
      · exact .inl h
      · exact .inr ⟨(s - 138) / 128, by omega, by rw [ch_two, sub_tab]; omega⟩
      · exact .inr ⟨s - 16524, by unfold nS at h; omega, by rw [ch_two, sub_tab]; omega⟩
    · rintro (h | ⟨j, hj, h⟩)
      · exact .inl h
      · rw [ch_two, sub_tab] at h; unfold nS; omega
  · rw [sub_tab]
    constructor
    · rintro (h | h)
      · exact .inl h
      · exact .inr ⟨s - (138 + 128 * r), by omega, by rw [ch_tab, sub_leaf (by omega)]; omega⟩
    · rintro (h | ⟨j, hj, h⟩)
      · exact .inl h
      · rw [ch_tab, sub_leaf (by omega)] at h; omega
theorem sub_inj {q i j s : Nat} (h1 : 16522 ≤ q) (h2 : q < nS) (hi : i < 128) (hj : j < 128) (a : Sub (ch q i) s) (b : Sub (ch q j) s) : i = j := by
  rcases tab_cases h1 h2 with rfl | rfl | ⟨r, hr, rfl⟩
  · rw [ch_one, sub_leaf (by omega)] at a b; omega
  · rw [ch_two, sub_tab] at a b; omega
  · rw [ch_tab, sub_leaf (by omega)] at a b; omega
theorem sub_not {q i : Nat} (h1 : 16522 ≤ q) (h2 : q < nS) (hi : i < 128) : ¬ Sub (ch q i) q := by
  rcases tab_cases h1 h2 with rfl | rfl | ⟨r, hr, rfl⟩
  · rw [ch_one, sub_leaf (by omega)]; omega
  · rw [ch_two, sub_tab]; omega
  · rw [ch_tab, sub_leaf (by omega)]; omega
theorem sub_self (q : Nat) : Sub q q := .inl rfl
theorem sub_lt {q s : Nat} (h1 : q < nS) (h : Sub q s) : s < nS := by
  rcases Nat.lt_or_ge q 16522 with h2 | h2
  · rw [sub_leaf h2] at h; omega
  · rcases tab_cases h2 h1 with rfl | rfl | ⟨r, hr, rfl⟩
    · rw [sub_one] at h; unfold nS; omega
    · rw [sub_two] at h; unfold nS at *; omega
    · rw [sub_tab] at h; unfold nS; omega
theorem sub_data {q s : Nat} (h1 : 16522 ≤ q) (h2 : q < nS) (h : Sub q s) (hs : s < 16522) : loS q ≤ s ∧ s < hiS q := by
  rcases tab_cases h1 h2 with rfl | rfl | ⟨r, hr, rfl⟩
  · rw [sub_one] at h; show 10 ≤ s ∧ s < 138; omega
  · rw [sub_two] at h; show 138 ≤ s ∧ s < 16522; omega
  · rw [sub_tab] at h; rw [lo_tab, hi_tab]; omega
theorem data_sub {q s : Nat} (h1 : 16522 ≤ q) (h2 : q < nS) (h : loS q ≤ s) (h' : s < hiS q) : Sub q s ∧ s < 16522 := by
  refine ⟨.inr (.inl ⟨h1, h, h'⟩), ?_⟩
  rcases tab_cases h1 h2 with rfl | rfl | ⟨r, hr, rfl⟩
  · have : s < 138 := h'; omega
  · exact h'
  · rw [hi_tab] at h'; omega
/-- below nothing is nothing -/
theorem sub_zero {Z : Nat → Txt} {R : List Int} {q : Nat} (hq : q < nS) (h0 : num Z R q = 0) : ∀ s, Sub q s → num Z R s = 0 := by
  intro s h
  rcases Nat.lt_or_ge q 16522 with h1 | h1
  · rw [sub_leaf h1] at h; rw [h]; exact h0
  · rcases (sub_split h1 hq).mp h with rfl | ⟨j, hj, h⟩
    · exact h0
    · obtain ⟨e, hc⟩ := ch_par h1 hq hj
      have hz : num Z R (ch q j) = 0 := by rw [num_some e hc, h0]; exact if_pos rfl
      rcases Nat.lt_or_ge (ch q j) 16522 with h2 | h2
      · rw [sub_leaf h2] at h; rw [h]; exact hz
      · rcases (sub_split h2 hc).mp h with rfl | ⟨i, hi, h⟩
        · exact hz
        · obtain ⟨e', hc'⟩ := ch_par h2 hc hi
          have : ch (ch q j) i < 16522 := by
            rcases tab_cases h1 hq with rfl | rfl | ⟨r, hr, rfl⟩
            · rw [ch_one] at h2; omega
            · rw [ch_two, ch_tab]; omega
            · rw [ch_tab] at h2; omega
          rw [sub_leaf this] at h
          rw [h, num_some e' hc', hz]; exact if_pos rfl
/-- each table tells of a block -/
def Tight (Z : Nat → Txt) (R : List Int) : Prop := ∀ q, 16522 ≤ q → q < nS → num Z R q ≠ 0 → ∃ x, loS q ≤ x ∧ x < hiS q ∧ num Z R x ≠ 0
/-- Cut at k takes this slot -/
def Dk (Z : Nat → Txt) (R : List Int) (k s : Nat) : Prop := (s < 16522 → k ≤ s) ∧ (16522 ≤ s → ∀ x, loS s ≤ x → x < hiS s → x < k → num Z R x = 0)
theorem dk_data {Z : Nat → Txt} {R : List Int} {k s : Nat} (h : s < 16522) : Dk Z R k s ↔ k ≤ s := ⟨fun a => a.1 h, fun a => ⟨fun _ => a, fun y => by omega⟩⟩
theorem dk_tab {Z : Nat → Txt} {R : List Int} {k s : Nat} (h : 16522 ≤ s) : Dk Z R k s ↔ ∀ x, loS s ≤ x → x < hiS s → x < k → num Z R x = 0 := ⟨fun a => a.2 h, fun a => ⟨fun y => by omega, fun _ => a⟩⟩
theorem dk_ch {Z : Nat → Txt} {R : List Int} {k q : Nat} (h1 : 16522 ≤ q) (h2 : q < nS) : Dk Z R k q ↔ ∀ j, j < 128 → num Z R (ch q j) ≠ 0 → Dk Z R k (ch q j) := by
  rw [dk_tab h1]
  constructor
  · intro h j hj h0
    obtain ⟨e, hc⟩ := ch_par h1 h2 hj
    rcases Nat.lt_or_ge (ch q j) 16522 with h3 | h3
    · rw [dk_data h3]
      rcases Nat.lt_or_ge (ch q j) k with h4 | h4
      · have sd := sub_data h1 h2 ((sub_split h1 h2).mpr (.inr ⟨j, hj, sub_self _⟩)) h3
        exact absurd (h _ sd.1 sd.2 h4) h0
      · exact h4
    · rw [dk_tab h3]
      intro x a b c
      obtain ⟨sx, hx⟩ := data_sub h3 hc a b
      have sd := sub_data h1 h2 ((sub_split h1 h2).mpr (.inr ⟨j, hj, sx⟩)) hx
      exact h x sd.1 sd.2 c
  · intro h x a b c
    obtain ⟨sx, hx⟩ := data_sub h1 h2 a b
    rcases (sub_split h1 h2).mp sx with rfl | ⟨j, hj, sj⟩
    · omega
    · obtain ⟨e, hc⟩ := ch_par h1 h2 hj
      by_cases h0 : num Z R (ch q j) = 0
      · exact sub_zero hc h0 x sj
      · have hD := h j hj h0
        rcases Nat.lt_or_ge (ch q j) 16522 with h3 | h3
        · rw [sub_leaf h3] at sj
          rw [dk_data h3] at hD
          omega
        · rw [dk_tab h3] at hD
          have sd := sub_data h3 hc sj hx
          exact hD x sd.1 sd.2 c
/-- what lies wholly below k, and tells of something, stays -/
theorem dk_low {Z : Nat → Txt} {R : List Int} {k c : Nat} (tg : Tight Z R) (hc : c < nS) (hk : ∀ x, Sub c x → x < 16522 → x < k) : ∀ s, Sub c s → num Z R s ≠ 0 → ¬ Dk Z R k s := by
  intro s h h0 hD
  have hs := sub_lt hc h
  rcases Nat.lt_or_ge s 16522 with h1 | h1
  · have := hk s h h1
    rw [dk_data h1] at hD
    omega
  · obtain ⟨x, a, b, e⟩ := tg s h1 hs h0
    rw [dk_tab h1] at hD
    obtain ⟨sx, hx⟩ := data_sub h1 hs a b
    refine e (hD x a b (hk x ?_ hx))
    rcases Nat.lt_or_ge c 16522 with h2 | h2
    · rw [sub_leaf h2] at h; omega
    · rcases (sub_split h2 hc).mp h with rfl | ⟨j, hj, sj⟩
      · exact sx
      · refine (sub_split h2 hc).mpr (.inr ⟨j, hj, ?_⟩)
        obtain ⟨e', hc'⟩ := ch_par h2 hc hj
        have : 16522 ≤ ch c j := by
          rcases Nat.lt_or_ge (ch c j) 16522 with h3 | h3
          · rw [sub_leaf h3] at sj; omega
          · exact h3
        have e2 : ch c j = s := by
          rcases tab_cases h2 hc with rfl | rfl | ⟨r, hr, rfl⟩
          · rw [ch_one] at this; omega
          · rw [ch_two] at this ⊢ sj
            rw [sub_tab] at sj; omega
          · rw [ch_tab] at this; omega
        rw [e2]; exact sx
structure Ct (n k : Nat) (Z : Nat → Txt) (R : List Int) (E P : Nat → Prop) (Z' : Nat → Txt) : Prop where
  bits : ∀ j, 98 + j / 4096 < (geoN n).inodes → (bit Z' j = true ↔ bit Z j = true ∧ ∀ s, s < nS → E s → Dk Z R k s → num Z R s ≠ 0 → num Z R s ≠ j)
  tabs : ∀ q p, 16522 ≤ q → q < nS → num Z R q ≠ 0 → ¬ P q → p < 128 → ¬ (E q ∧ Dk Z R k q) → (E (ch q p) ∧ Dk Z R k (ch q p) → num4 (Z' (num Z R q)) p = 0) ∧ (¬ (E (ch q p) ∧ Dk Z R k (ch q p)) → num4 (Z' (num Z R q)) p = num4 (Z (num Z R q)) p)
  pend : ∀ q p, 16522 ≤ q → q < nS → P q → num Z R q ≠ 0 → p < 128 → num4 (Z' (num Z R q)) p = num4 (Z (num Z R q)) p
  cont : ∀ b, b < n → (geoN n).inodes ≤ b → (∀ q, 16522 ≤ q → q < nS → num Z R q ≠ 0 → b ≠ num Z R q) → Z' b = Z b
theorem Ct.nil (n k : Nat) (Z : Nat → Txt) (R : List Int) : Ct n k Z R (fun _ => False) (fun _ => False) Z :=
  ⟨fun j _ => ⟨fun h => ⟨h, fun _ _ y => y.elim⟩, fun h => h.1⟩, fun q p _ _ _ _ _ _ => ⟨fun y => y.1.elim, fun _ => rfl⟩, fun _ _ _ _ y => y.elim, fun _ _ _ _ => rfl⟩
/-- more slots were looked at, that had nothing or stay -/
theorem Ct.grow {n k : Nat} {Z Z' : Nat → Txt} {R : List Int} {E E' P : Nat → Prop} (c : Ct n k Z R E P Z') (h1 : ∀ s, E s → E' s) (h2 : ∀ s, s < nS → E' s → ¬ E s → num Z R s ≠ 0 → ¬ Dk Z R k s) : Ct n k Z R E' P Z' := by
  refine ⟨fun j hj => ?_, fun q p a b h0 hP hp hq => ?_, c.pend, c.cont⟩
  · rw [c.bits j hj]
    constructor
    · rintro ⟨a, b⟩
      refine ⟨a, fun s hs e hD h0 => ?_⟩
      by_cases he : E s
      · exact b s hs he hD h0
      · exact absurd hD (h2 s hs e he h0)
    · rintro ⟨a, b⟩
      exact ⟨a, fun s hs e => b s hs (h1 s e)⟩
  · obtain ⟨t1, t2⟩ := c.tabs q p a b h0 hP hp fun y => hq ⟨h1 _ y.1, y.2⟩
    refine ⟨fun y => ?_, fun y => t2 fun z => y ⟨h1 _ z.1, z.2⟩⟩
    by_cases he : E (ch q p)
    · exact t1 ⟨he, y.2⟩
    · rw [t2 fun z => he z.1, ← ch_num' a b hp h0]
      by_cases hz : num Z R (ch q p) = 0
      · exact hz
      · exact absurd y.2 (h2 _ (ch_par a b hp).2 y.1 he hz)
theorem Ct.iff {n k : Nat} {Z Z' : Nat → Txt} {R : List Int} {E E' P : Nat → Prop} (c : Ct n k Z R E P Z') (h : ∀ s, s < nS → (E s ↔ E' s)) : Ct n k Z R E' P Z' := by
  refine ⟨fun j hj => ?_, fun q p a b h0 hP hp hq => ?_, c.pend, c.cont⟩
  · rw [c.bits j hj]
    exact ⟨fun x => ⟨x.1, fun s hs e => x.2 s hs ((h s hs).mpr e)⟩, fun x => ⟨x.1, fun s hs e => x.2 s hs ((h s hs).mp e)⟩⟩
  · have := c.tabs q p a b h0 hP hp (by rw [h q b]; exact hq)
    rw [h _ (ch_par a b hp).2] at this; exact this
theorem Ct.iffP {n k : Nat} {Z Z' : Nat → Txt} {R : List Int} {E P P' : Nat → Prop} (c : Ct n k Z R E P Z') (h : ∀ s, P s ↔ P' s) : Ct n k Z R E P' Z' :=
  ⟨c.bits, fun q p a b h0 hP hp hq => c.tabs q p a b h0 (fun y => hP ((h q).mp y)) hp hq, fun q p a b y => c.pend q p a b ((h q).mpr y), c.cont⟩
/-- a table of which nothing was looked at yet waits -/
theorem Ct.wait {n k : Nat} {Z Z' : Nat → Txt} {R : List Int} {E P : Nat → Prop} (c : Ct n k Z R E P Z') {q : Nat} (h1 : 16522 ≤ q) (h2 : q < nS) (hE : ¬ E q) (hc : ∀ p, p < 128 → ¬ E (ch q p)) : Ct n k Z R E (fun x => P x ∨ x = q) Z' := by
  refine ⟨c.bits, fun q' p a b h0 hP => c.tabs q' p a b h0 fun y => hP (.inl y), fun q' p a b hP h0 hp => ?_, c.cont⟩
  rcases hP with hP | rfl
  · exact c.pend q' p a b hP h0 hp
  · by_cases hP : P q'
    · exact c.pend q' p a b hP h0 hp
    · exact (c.tabs q' p h1 h2 h0 hP hp fun y => hE y.1).2 fun y => hc p hp y.1
/-- a block is given back -/
theorem Ct.give {n k : Nat} {Z Z' : Nat → Txt} {R : List Int} {E P : Nat → Prop} (c : Ct n k Z R E P Z') (d : Dim n) (hl : ∀ k, k < n → (Z' k).length = 512) (w : Wf n Z R) {s : Nat} (hs : s < nS) (h0 : num Z R s ≠ 0) (hE : ¬ E s) (hD : Dk Z R k s) (hp : ∀ q p, par s = some (q, p) → P q ∨ (E q ∧ Dk Z R k q)) :
    bit Z' (num Z R s) = true ∧ Ct n k Z R (fun x => E x ∨ x = s) (fun x => P x ∧ x ≠ s) (setZ Z' (num Z R s) false) := by
  obtain ⟨r1, r2, r3⟩ := w.rng s hs h0
  obtain ⟨m1, m2, m3, m4⟩ := d.map r2
  have hb : ∀ j, bit (setZ Z' (num Z R s) false) j = if j = num Z R s then false else bit Z' j := bit_setZ (hl _ m4) false
  have hne : ∀ b, (geoN n).inodes ≤ b → setZ Z' (num Z R s) false b = Z' b := fun b h => setZ_ne (by omega)
  have ti : ∀ q, q < nS → num Z R q ≠ 0 → (geoN n).inodes ≤ num Z R q := fun q a b => by have := (w.rng q a b).1; omega
  refine ⟨(c.bits _ m2).mpr ⟨r3, fun s' h1 h2 _ h4 e => hE (w.inj s' s h1 hs h4 e ▸ h2)⟩, ⟨fun j hj => ?_, fun q p a b h1 hP hp' hq => ?_, fun q p a b hP h1 hp' => by rw [hne _ (ti q b h1)]; exact c.pend q p a b hP.1 h1 hp', fun b a e f => by rw [hne _ e]; exact c.cont b a e f⟩⟩
  · rw [hb]
    by_cases e : j = num Z R s
    · rw [if_pos e]
      exact ⟨fun y => (by cases y), fun y => absurd e.symm (y.2 s hs (.inr rfl) hD h0)⟩
    · rw [if_neg e, c.bits j hj]
      refine ⟨fun y => ⟨y.1, fun s' h1 h2 h3 h4 => ?_⟩, fun y => ⟨y.1, fun s' h1 h2 => y.2 s' h1 (.inl h2)⟩⟩
      rcases h2 with h2 | rfl
      · exact y.2 s' h1 h2 h3 h4
      · exact fun z => e z.symm
  · have qs : q ≠ s := fun e => hq ⟨.inr e, e ▸ hD⟩
    have hP : ¬ P q := fun y => hP ⟨y, qs⟩
    have t := c.tabs q p a b h1 hP hp' fun y => hq ⟨.inl y.1, y.2⟩
    have cs : ch q p ≠ s := fun e => by
      rcases hp q p (by rw [← e]; exact (ch_par a b hp').1) with y | y
      · exact hP y
      · exact hq ⟨.inl y.1, y.2⟩
    rw [hne _ (ti q b h1)]
    refine ⟨fun y => t.1 ⟨y.1.resolve_right cs, y.2⟩, fun y => t.2 fun z => y ⟨.inl z.1, z.2⟩⟩
/-- a table that waited is written -/
theorem Ct.write {n k : Nat} {Z Z' : Nat → Txt} {R : List Int} {E P : Nat → Prop} {b : Txt} (c : Ct n k Z R E P Z') (d : Dim n) (w : Wf n Z R) {q : Nat} (h1 : 16522 ≤ q) (h2 : q < nS) (h0 : num Z R q ≠ 0)
    (hb : ∀ p, p < 128 → (E (ch q p) ∧ Dk Z R k (ch q p) → num4 b p = 0) ∧ (¬ (E (ch q p) ∧ Dk Z R k (ch q p)) → num4 b p = num4 (Z (num Z R q)) p)) : Ct n k Z R E (fun x => P x ∧ x ≠ q) (up Z' (num Z R q) b) := by
  obtain ⟨r1, r2, r3⟩ := w.rng q h2 h0
  have hd := d.data
  have ne : ∀ q', q' < nS → num Z R q' ≠ 0 → q' ≠ q → num Z R q' ≠ num Z R q := fun q' a e f y => f (w.inj q' q a h2 e y)
  refine ⟨fun j hj => ?_, fun q' p a e h3 hP hp hq => ?_, fun q' p a e hP h3 hp => ?_, fun x a e f => ?_⟩
  · rw [bit_up (by have := (d.map r2).2.2.1; omega)]; exact c.bits j hj
  · by_cases hqq : q' = q
    · subst hqq
      rw [up_at]; exact hb p hp
    · rw [up_ne _ _ (ne q' e h3 hqq)]
      exact c.tabs q' p a e h3 (fun y => hP ⟨y, hqq⟩) hp hq
  · rw [up_ne _ _ (ne q' e h3 hP.2)]; exact c.pend q' p a e hP.1 h3 hp
  · rw [up_ne _ _ (f q h1 h2 h0)]; exact c.cont x a e f
/-- a table that waited stays as it is -/
theorem Ct.stay {n k : Nat} {Z Z' : Nat → Txt} {R : List Int} {E P : Nat → Prop} (c : Ct n k Z R E P Z') {q : Nat} (hP : P q) (hz : ∀ p, p < 128 → E (ch q p) → Dk Z R k (ch q p) → num Z R (ch q p) = 0) : Ct n k Z R E (fun x => P x ∧ x ≠ q) Z' := by
  refine ⟨c.bits, fun q' p a e h3 hP' hp hq => ?_, fun q' p a e hP' h3 hp => c.pend q' p a e hP'.1 h3 hp, c.cont⟩
  by_cases hqq : q' = q
  · subst hqq
    have t := c.pend q' p a e hP h3 hp
    refine ⟨fun y => ?_, fun _ => t⟩
    rw [t, ← ch_num' a e hp h3]
    exact hz p hp y.1 y.2
  · exact c.tabs q' p a e h3 (fun y => hP' ⟨y, hqq⟩) hp hq
end Go.Proofs.YtcdpakjhjmchhaaDoor.Bm
namespace Go.Proofs.YtcdpakjhjmchhaaDoor.Bm
open Go Go.Proofs Go.Proofs.YtcdpakjhjmchhaaDoor.Wx Go.Proofs.YtcdpakjhjmchhaaDoor.Hp Go.Proofs.YtcdpakjhjmchhaaDoor.W Go.Proofs.YtcdpakjhjmchhaaDoor.Ad Go.Proofs.YtcdpakjhjmchhaaDoor.Tm Go.Proofs.YtcdpakjhjmchhaaDoor.Bt Go.Proofs.YtcdpakjhjmchhaaDoor.Spc Go.Proofs.YtcdpakjhjmchhaaDoor.Re Go.Proofs.YtcdpakjhjmchhaaDoor.Av
theorem nz60 {x : Int} (e : x = 60) : x ≠ 0 := by rw [e]; decide
theorem nz90 {x : Int} (e : x = 90) : x ≠ 0 := by rw [e]; decide
/-- what is put is what was put, and in W -/
def KsOk (Tb T : TM) (W : List Int) : Prop := ∀ x ∈ ks T, x ∈ ks Tb ∨ x ∈ W
theorem KsOk.len {Tb T : TM} {W : List Int} (a : KsOk Tb T W) (nd : (ks T).Nodup) : (ks T).length ≤ (ks Tb).length + W.length := Bm.keys_le nd a
/-- what is fixed while a Cut runs -/
structure Cx (n k : Nat) (Z : Nat → Txt) (R : List Int) (W : List Int) : Prop where
  d : Dim n
  w : Wf n Z R
  tg : Tight Z R
  map : ∀ j, j < n → ((98 + j / 4096 : Nat) : Int) ∈ W
  one : ((num Z R 16522 : Nat) : Int) ∈ W
  two : ((num Z R 16523 : Nat) : Int) ∈ W
  tab : ((num Z R (16524 + (k - 138) / 128) : Nat) : Int) ∈ W
structure St (n k : Nat) (Z : Nat → Txt) (R W : List Int) (E P : Nat → Prop) (T0 Tb : TM) (Z' : Nat → Txt) (T : TM) : Prop where
  a : Av n Z' T
  c : Ct n k Z R E P Z'
  x : Ext T0 T
  ks : KsOk Tb T W
theorem St.iff {n k : Nat} {Z Z' : Nat → Txt} {R W : List Int} {E E' P P' : Nat → Prop} {T0 Tb T : TM} (s : St n k Z R W E P T0 Tb Z' T) (h : ∀ s, s < nS → (E s ↔ E' s)) (hp : ∀ s, P s ↔ P' s) : St n k Z R W E' P' T0 Tb Z' T :=
  ⟨s.a, (s.c.iff h).iffP hp, s.x, s.ks⟩
theorem St.grow {n k : Nat} {Z Z' : Nat → Txt} {R W : List Int} {E E' P : Nat → Prop} {T0 Tb T : TM} (s : St n k Z R W E P T0 Tb Z' T) (h1 : ∀ s, E s → E' s) (h2 : ∀ s, s < nS → E' s → ¬ E s → num Z R s ≠ 0 → ¬ Dk Z R k s) : St n k Z R W E' P T0 Tb Z' T :=
  ⟨s.a, s.c.grow h1 h2, s.x, s.ks⟩
/-- something is taken -/
def Som (k : Nat) (Z : Nat → Txt) (R : List Int) : Prop := ∃ x, x < nS ∧ num Z R x ≠ 0 ∧ Dk Z R k x
/-- what became of slot s and of all below it -/
inductive Out (n k : Nat) (Z : Nat → Txt) (R W : List Int) (E P : Nat → Prop) (T0 Tb : TM) (s : Nat) (T : TM) (r : TM × Bool × Int) : Prop where
  | ok (Z' : Nat → Txt) : r.2.2 = 0 → (r.2.1 = true ↔ Dk Z R k s) → St n k Z R W (fun x => E x ∨ Sub s x) P T0 Tb Z' r.1 → ((∀ x, Sub s x → num Z R x ≠ 0 → ¬ Dk Z R k x) → r.1 = T) → Out n k Z R W E P T0 Tb s T r
  | full : r.2.2 = 60 → Ext T0 r.1 → (96 ≤ (Av.ks Tb).length + W.length ∧ Som k Z R) → Out n k Z R W E P T0 Tb s T r
theorem give_ext {T0 T : TM} (e : Ext T0 T) (g : G) (i : Int) : Ext T0 (Spc.give T g i).1 := by
  unfold Spc.give
  split
  · exact e
  · split
    · exact e
    · split
      · exact e
      · exact setBit_ext e _ _ _
theorem give_ok {n k : Nat} {Z Z' : Nat → Txt} {R W : List Int} {E P : Nat → Prop} {T0 Tb T : TM} (C : Cx n k Z R W) (st : St n k Z R W E P T0 Tb Z' T) {s : Nat} (hs : s < nS) (h0 : num Z R s ≠ 0) (hE : ¬ E s) (hD : Dk Z R k s) (hp : ∀ q p, par s = some (q, p) → P q ∨ (E q ∧ Dk Z R k q)) :
    ((Spc.give T (geoN n) (num Z R s : Nat)).2 = 0 ∧ St n k Z R W (fun x => E x ∨ x = s) (fun x => P x ∧ x ≠ s) T0 Tb (setZ Z' (num Z R s) false) (Spc.give T (geoN n) (num Z R s : Nat)).1) ∨
      ((Spc.give T (geoN n) (num Z R s : Nat)).2 = 60 ∧ Ext T0 (Spc.give T (geoN n) (num Z R s : Nat)).1 ∧ (96 ≤ (Av.ks Tb).length + W.length ∧ Som k Z R)) := by
  obtain ⟨r1, r2, r3⟩ := C.w.rng s hs h0
  obtain ⟨b1, c1⟩ := st.c.give C.d st.a.len C.w hs h0 hE hD hp
  rcases st.a.give C.d r1 r2 b1 with ⟨e, a', k'⟩ | ⟨e, h96⟩
  · refine .inl ⟨e, a', c1, give_ext st.x _ _, fun x hx => ?_⟩
    rcases (k' x).mp hx with hx | hx
    · exact st.ks x hx
    · exact .inr (hx ▸ C.map _ r2)
  · refine .inr ⟨by rw [e], give_ext st.x _ _, ?_, s, hs, h0, hD⟩
    have := st.ks.len st.a.keys
    omega
theorem giveF_give {n k : Nat} {Z : Nat → Txt} {R W : List Int} (C : Cx n k Z R W) {s : Nat} (hs : s < nS) (h0 : num Z R s ≠ 0) (T : TM) : giveF T (geoN n) (num Z R s : Nat) = Spc.give T (geoN n) (num Z R s : Nat) := by
  obtain ⟨r1, r2, r3⟩ := C.w.rng s hs h0
  unfold giveF
  rw [if_neg fun y => y (look_ok r1 r2)]
theorem leaf_ok {n k : Nat} {Z Z' : Nat → Txt} {R W : List Int} {E P : Nat → Prop} {T0 Tb T : TM} (C : Cx n k Z R W) (st : St n k Z R W E P T0 Tb Z' T) {s : Nat} (hs : s < 16522) (h0 : num Z R s ≠ 0) (hE : ¬ E s) (hk : k ≤ s) (hP : ∀ x, P x → 16522 ≤ x) (hp : ∀ q p, par s = some (q, p) → P q) (i : Nat) :
    Out n k Z R W E P T0 Tb s T (leafD (geoN n) T i (num Z R s : Nat)) := by
  have hn : s < nS := by unfold nS; omega
  have hD : Dk Z R k s := (dk_data hs).mpr hk
  have eg : leafD (geoN n) T i (num Z R s : Nat) = ((Spc.give T (geoN n) (num Z R s : Nat)).1, true, (Spc.give T (geoN n) (num Z R s : Nat)).2) := by
    show ((giveF T (geoN n) (num Z R s : Nat)).1, true, (giveF T (geoN n) (num Z R s : Nat)).2) = _
    rw [giveF_give C hn h0]
  rw [eg]
  rcases give_ok C st hn h0 hE hD (fun q p e => .inl (hp q p e)) with ⟨e, st'⟩ | ⟨e, x, h⟩
  · refine .ok _ e ⟨fun _ => hD, fun _ => rfl⟩ (st'.iff (fun x _ => by rw [sub_leaf hs]) fun x => ⟨fun y => y.1, fun y => ⟨y, fun z => by have := hP x y; omega⟩⟩) fun h => absurd hD (h s (sub_self s) h0)
  · exact .full e x h
structure GoI (k : Nat) (Z : Nat → Txt) (R : List Int) (q i : Nat) (S : CutS) : Prop where
  len : S.b.length = 512
  b : ∀ p, p < 128 → (p < i ∧ Dk Z R k (ch q p) → num4 S.b p = 0) ∧ (¬ (p < i ∧ Dk Z R k (ch q p)) → num4 S.b p = num4 (Z (num Z R q)) p)
  left : S.left = true ↔ ∃ j, j < i ∧ num Z R (ch q j) ≠ 0 ∧ ¬ Dk Z R k (ch q j)
  turned : S.turned = true ↔ ∃ j, j < i ∧ num Z R (ch q j) ≠ 0 ∧ Dk Z R k (ch q j)
theorem GoI.zero {k : Nat} {Z : Nat → Txt} {R : List Int} {q i : Nat} {S : CutS} (I : GoI k Z R q i S) (h1 : 16522 ≤ q) (h2 : q < nS) (h0 : num Z R q ≠ 0) (hi : i < 128) (hz : num Z R (ch q i) = 0) : GoI k Z R q (i + 1) S := by
  refine ⟨I.len, fun p hp => ?_, ?_, ?_⟩
  · obtain ⟨b1, b2⟩ := I.b p hp
    by_cases e : p = i
    · subst e
      have b2 := b2 fun y => absurd y.1 (Nat.lt_irrefl _)
      have e0 : num4 (Z (num Z R q)) p = 0 := by rw [← ch_num' h1 h2 hp h0]; exact hz
      exact ⟨fun _ => b2.trans e0, fun _ => b2⟩
    · exact ⟨fun y => b1 ⟨by omega, y.2⟩, fun y => b2 fun z => y ⟨by omega, z.2⟩⟩
  · rw [I.left]
    refine ⟨fun ⟨j, a, b⟩ => ⟨j, by omega, b⟩, fun ⟨j, a, b⟩ => ⟨j, ?_, b⟩⟩
    by_cases e : j = i
    · subst e; exact absurd hz b.1
    · omega
  · rw [I.turned]
    refine ⟨fun ⟨j, a, b⟩ => ⟨j, by omega, b⟩, fun ⟨j, a, b⟩ => ⟨j, ?_, b⟩⟩
    by_cases e : j = i
    · subst e; exact absurd hz b.1
    · omega
theorem GoI.step {k : Nat} {Z : Nat → Txt} {R : List Int} {q i : Nat} {S : CutS} {gone : Bool} {T' : TM} (I : GoI k Z R q i S) (hi : i < 128) (hz : num Z R (ch q i) ≠ 0) (hg : gone = true ↔ Dk Z R k (ch q i)) :
    GoI k Z R q (i + 1) ⟨T', if gone = true then set4 S.b i 0 else S.b, S.left || !gone, S.turned || gone⟩ := by
  refine ⟨?_, fun p hp => ?_, ?_, ?_⟩
  · show (if gone = true then set4 S.b i 0 else S.b).length = 512
    split
    · exact set4_length I.len hi
    · exact I.len
  · obtain ⟨b1, b2⟩ := I.b p hp
    show (_ → num4 (if gone = true then set4 S.b i 0 else S.b) p = 0) ∧ (_ → num4 (if gone = true then set4 S.b i 0 else S.b) p = _)
    by_cases hgt : gone = true
    · rw [if_pos hgt, num4_set I.len hi hp (by decide)]
      by_cases e : p = i
      · rw [if_pos e]
        exact ⟨fun _ => rfl, fun y => absurd ⟨by omega, e ▸ hg.mp hgt⟩ y⟩
      · rw [if_neg e]
        exact ⟨fun y => b1 ⟨by omega, y.2⟩, fun y => b2 fun z => y ⟨by omega, z.2⟩⟩
    · rw [if_neg hgt]
      have hnd : ¬ Dk Z R k (ch q i) := fun y => hgt (hg.mpr y)
      refine ⟨fun y => b1 ⟨?_, y.2⟩, fun y => b2 fun z => y ⟨by omega, z.2⟩⟩
      by_cases e : p = i
      · exact absurd (e ▸ y.2) hnd
      · omega
  · show (S.left || !gone) = true ↔ _
    rw [Bool.or_eq_true, I.left]
    constructor
    · rintro (⟨j, a, b⟩ | y)
      · exact ⟨j, by omega, b⟩
      · refine ⟨i, by omega, hz, fun z => ?_⟩
        rw [hg.mpr z] at y; cases y
    · rintro ⟨j, a, b, c⟩
      by_cases e : j = i
      · right
        cases hgt : gone with
        | true => exact absurd (e ▸ hg.mp hgt) c
        | false => rfl
      · exact .inl ⟨j, by omega, b, c⟩
  · show (S.turned || gone) = true ↔ _
    rw [Bool.or_eq_true, I.turned]
    constructor
    · rintro (⟨j, a, b⟩ | y)
      · exact ⟨j, by omega, b⟩
      · exact ⟨i, by omega, hz, hg.mp y⟩
    · rintro ⟨j, a, b, c⟩
      by_cases e : j = i
      · exact .inr (hg.mpr (e ▸ c))
      · exact .inl ⟨j, by omega, b, c⟩
def Ei (q : Nat) (E : Nat → Prop) (i : Nat) : Nat → Prop := fun s => E s ∨ ∃ j, j < i ∧ Sub (ch q j) s
theorem ei_succ (q : Nat) (E : Nat → Prop) (i s : Nat) : (Ei q E i s ∨ Sub (ch q i) s) ↔ Ei q E (i + 1) s := by
  unfold Ei
  constructor
  · rintro ((y | ⟨j, a, b⟩) | y)
    · exact .inl y
    · exact .inr ⟨j, by omega, b⟩
    · exact .inr ⟨i, by omega, y⟩
  · rintro (y | ⟨j, a, b⟩)
    · exact .inl (.inl y)
    · by_cases e : j = i
      · subst e; exact .inr b
      · exact .inl (.inr ⟨j, by omega, b⟩)
theorem cutGo_ok {n k : Nat} {Z : Nat → Txt} {R W : List Int} {E P : Nat → Prop} {T0 Tb : TM} (C : Cx n k Z R W) {q : Nat} (h1 : 16522 ≤ q) (h2 : q < nS) (h0 : num Z R q ≠ 0) {from_ : Int} {dM : DropM} (hE : ∀ s, Sub q s → ¬ E s)
    (hlow : ∀ i : Nat, i < 128 → (i : Int) < from_ → ∀ s, Sub (ch q i) s → num Z R s ≠ 0 → ¬ Dk Z R k s)
    (hd : ∀ i : Nat, i < 128 → from_ ≤ i → num Z R (ch q i) ≠ 0 → ∀ (E' : Nat → Prop) Z' T', (∀ s, Sub (ch q i) s → ¬ E' s) → St n k Z R W E' P T0 Tb Z' T' → Out n k Z R W E' P T0 Tb (ch q i) T' (dM T' i (num Z R (ch q i) : Nat))) :
    ∀ (l : List Int) (i : Nat) (S : CutS) (Z' : Nat → Txt), i + l.length = 128 → (∀ j (hj : j < l.length), l[j] = ((num Z R (ch q (i + j)) : Nat) : Int)) → St n k Z R W (Ei q E i) P T0 Tb Z' S.T → GoI k Z R q i S →
      ((cutGo dM from_ l i S).2 = 60 ∧ Ext T0 (cutGo dM from_ l i S).1.T ∧ (96 ≤ (Av.ks Tb).length + W.length ∧ Som k Z R)) ∨
      ((cutGo dM from_ l i S).2 = 0 ∧ ∃ Z'', St n k Z R W (Ei q E 128) P T0 Tb Z'' (cutGo dM from_ l i S).1.T ∧ GoI k Z R q 128 (cutGo dM from_ l i S).1 ∧ ((∀ x, Sub q x → num Z R x ≠ 0 → ¬ Dk Z R k x) → (cutGo dM from_ l i S).1.T = S.T))
  | [], i, S, Z', hi, _, st, I => by
    have : i = 128 := hi
    subst this
    exact .inr ⟨rfl, Z', st, I, fun _ => rfl⟩
  | v :: r, i, S, Z', hi, hv, st, I => by
    rw [List.length_cons] at hi
    have ev : v = ((num Z R (ch q i) : Nat) : Int) := hv 0 (Nat.succ_pos _)
    have hv' : ∀ j (hj : j < r.length), r[j] = ((num Z R (ch q (i + 1 + j)) : Nat) : Int) := fun j hj => by
      have := hv (j + 1) (Nat.succ_lt_succ hj)
      rw [show i + (j + 1) = i + 1 + j by omega] at this
      exact this
    have hi128 : i < 128 := by omega
    have hc := (ch_par h1 h2 hi128).2
    have hEc : ∀ s, Sub (ch q i) s → ¬ Ei q E i s := fun s hs y => by
      rcases y with y | ⟨j, hj, y⟩
      · exact hE s ((sub_split h1 h2).mpr (.inr ⟨i, hi128, hs⟩)) y
      · have := sub_inj h1 h2 hi128 (show j < 128 by omega) hs y
        omega
    rw [cutGo_cons]
    by_cases hz : num Z R (ch q i) = 0
    · rw [if_pos (by omega)]
      refine cutGo_ok C h1 h2 h0 hE hlow hd r (i + 1) S Z' (by omega) hv' (st.grow (fun s y => (ei_succ q E i s).mp (.inl y)) fun s hs y hn hz' => ?_) (I.zero h1 h2 h0 hi128 hz)
      rcases (ei_succ q E i s).mpr y with y | y
      · exact absurd y hn
      · exact absurd (sub_zero hc hz s y) hz'
    · rw [if_neg (by omega)]
      by_cases hf : (i : Int) < from_
      · rw [if_pos hf]
        have hl := hlow i hi128 hf
        have I' := I.step (T' := S.T) (gone := false) hi128 hz ⟨fun y => (by cases y), fun y => absurd y (hl _ (sub_self _) hz)⟩
        rw [Bool.not_false, Bool.or_true, Bool.or_false, if_neg (fun y => by cases y)] at I'
        exact cutGo_ok C h1 h2 h0 hE hlow hd r (i + 1) { S with left := true } Z' (by omega) hv' (st.grow (fun s y => (ei_succ q E i s).mp (.inl y)) fun s hs y hn hz' => by
          rcases (ei_succ q E i s).mpr y with y | y
          · exact absurd y hn
          · exact hl s y hz') I'
      · rw [if_neg hf, ev]
        rcases hd i hi128 (by omega) hz (Ei q E i) Z' S.T hEc st with ⟨Z'', e1, e2, st', e4⟩ | ⟨e1, e2, e3⟩
        · rw [if_neg (fun y => y e1)]
          have I' := I.step (T' := (dM S.T i (num Z R (ch q i) : Nat)).1) hi128 hz e2
          rcases cutGo_ok C h1 h2 h0 hE hlow hd r (i + 1) _ Z'' (by omega) hv' (st'.iff (fun s _ => ei_succ q E i s) fun _ => Iff.rfl) I' with y | ⟨y1, Z3, y2, y3, y4⟩
          · exact .inl y
          · refine .inr ⟨y1, Z3, y2, y3, fun h => (y4 h).trans (e4 fun x hx => h x ((sub_split h1 h2).mpr (.inr ⟨i, hi128, hx⟩)))⟩
        · rw [if_pos (nz60 e1)]
          exact .inl ⟨e1, e2, e3⟩
theorem cutT_ok {n k : Nat} {Z Z' : Nat → Txt} {R W : List Int} {E P : Nat → Prop} {T0 Tb T : TM} (C : Cx n k Z R W) {q : Nat} (h1 : 16522 ≤ q) (h2 : q < nS) (h0 : num Z R q ≠ 0) {from_ : Int} {dM : DropM} (hE : ∀ s, Sub q s → ¬ E s) (hP : ¬ P q) (hpar : ∀ q' p, par q = some (q', p) → P q')
    (hW : ∀ i j, i < 128 → j < 128 → num Z R (ch q i) ≠ 0 → ¬ Dk Z R k (ch q i) → num Z R (ch q j) ≠ 0 → Dk Z R k (ch q j) → ((num Z R q : Nat) : Int) ∈ W)
    (hlow : ∀ i : Nat, i < 128 → (i : Int) < from_ → ∀ s, Sub (ch q i) s → num Z R s ≠ 0 → ¬ Dk Z R k s)
    (hd : ∀ i : Nat, i < 128 → from_ ≤ i → num Z R (ch q i) ≠ 0 → ∀ (E' : Nat → Prop) Z' T', (∀ s, Sub (ch q i) s → ¬ E' s) → St n k Z R W E' (fun x => P x ∨ x = q) T0 Tb Z' T' → Out n k Z R W E' (fun x => P x ∨ x = q) T0 Tb (ch q i) T' (dM T' i (num Z R (ch q i) : Nat)))
    (st : St n k Z R W E P T0 Tb Z' T) : Out n k Z R W E P T0 Tb q T ((cutT dM T (geoN n) (num Z R q : Nat) from_).1, !(cutT dM T (geoN n) (num Z R q : Nat) from_).2.1, (cutT dM T (geoN n) (num Z R q : Nat) from_).2.2) := by
  obtain ⟨r1, r2, r3⟩ := C.w.rng q h2 h0
  have hdat := C.d.data
  have hEc : ∀ p, p < 128 → ¬ E (ch q p) := fun p hp => hE _ ((sub_split h1 h2).mpr (.inr ⟨p, hp, sub_self _⟩))
  have cw := st.c.wait h1 h2 (hE q (sub_self q)) hEc
  have st0 : St n k Z R W (Ei q E 0) (fun x => P x ∨ x = q) T0 Tb Z' T := ⟨st.a, cw.iff fun s _ => ⟨.inl, fun y => y.elim id fun ⟨j, a, _⟩ => by omega⟩, st.x, st.ks⟩
  have hb : ∀ p, p < 128 → num4 (Z' (num Z R q)) p = num4 (Z (num Z R q)) p := fun p hp => cw.pend q p h1 h2 (.inr rfl) h0 hp
  have I0 : GoI k Z R q 0 ⟨T, Z' (num Z R q), false, false⟩ := ⟨st.a.len _ r2, fun p hp => ⟨fun y => (by omega), fun _ => hb p hp⟩, ⟨fun y => (by cases y), fun ⟨j, a, _⟩ => by omega⟩, ⟨fun y => (by cases y), fun ⟨j, a, _⟩ => by omega⟩⟩
  unfold cutT
  rw [if_neg (fun y => y (look_ok r1 r2)), st.a.z _ r2, if_neg (fun y => y rfl)]
  have G := cutGo_ok C h1 h2 h0 hE hlow hd (numsL (Z' (num Z R q))) 0 ⟨T, Z' (num Z R q), false, false⟩ Z' (by rw [numsL_len]) (fun j hj => by
    have hj' : j < 128 := by rw [numsL_len] at hj; exact hj
    rw [numsL_get hj, hb j hj', Nat.zero_add, ch_num' h1 h2 hj' h0]) st0 I0
  show Out n k Z R W E P T0 Tb q T ((cutEnd (geoN n) (num Z R q : Nat) (cutGo dM from_ (numsL (Z' (num Z R q))) 0 ⟨T, Z' (num Z R q), false, false⟩)).1, !(cutEnd (geoN n) (num Z R q : Nat) (cutGo dM from_ (numsL (Z' (num Z R q))) 0 ⟨T, Z' (num Z R q), false, false⟩)).2.1, (cutEnd (geoN n) (num Z R q : Nat) (cutGo dM from_ (numsL (Z' (num Z R q))) 0 ⟨T, Z' (num Z R q), false, false⟩)).2.2)
  generalize cutGo dM from_ (numsL (Z' (num Z R q))) 0 ⟨T, Z' (num Z R q), false, false⟩ = c at G
  have e128 : ∀ s, (Ei q E 128 s ∨ s = q) ↔ (E s ∨ Sub q s) := fun s => by
    rw [sub_split h1 h2]
    unfold Ei
    constructor
    · rintro ((y | y) | y)
      · exact .inl y
      · exact .inr (.inr y)
      · exact .inr (.inl y)
    · rintro (y | y | y)
      · exact .inl (.inl y)
      · exact .inr y
      · exact .inl (.inr y)
  have ep : ∀ s, ((P s ∨ s = q) ∧ s ≠ q) ↔ P s := fun s => ⟨fun y => y.1.resolve_right y.2, fun y => ⟨.inl y, fun e => hP (e ▸ y)⟩⟩
  have hnE : ¬ Ei q E 128 q := by
    rintro (y | ⟨j, hj, y⟩)
    · exact hE q (sub_self q) y
    · exact sub_not h1 h2 hj y
  unfold cutEnd
  rcases G with ⟨e1, e2, e3⟩ | ⟨e1, Z'', st', I, nf⟩
  · rw [if_pos (nz60 e1)]
    exact .full e1 e2 e3
  rw [if_neg (fun y => y e1)]
  have Dq : Dk Z R k q ↔ c.1.left = false := by
    rw [dk_ch h1 h2]
    constructor
    · intro h
      cases hl : c.1.left with
      | false => rfl
      | true =>
        obtain ⟨j, a, b, e⟩ := I.left.mp hl
        exact absurd (h j a b) e
    · intro h j a b
      refine Classical.byContradiction fun e => ?_
      rw [I.left.mpr ⟨j, a, b, e⟩] at h; cases h
  cases hl : c.1.left with
  | false =>
    rw [if_pos rfl]
    have hD := Dq.mpr hl
    rcases give_ok C st' h2 h0 hnE hD (fun q' p e => .inl (.inl (hpar q' p e))) with ⟨e, st2⟩ | ⟨e, x, h⟩
    · refine .ok _ e ⟨fun _ => hD, fun _ => rfl⟩ (st2.iff (fun s _ => e128 s) ep) fun h => absurd hD (h q (sub_self q) h0)
    · exact .full e x h
  | true =>
    rw [if_neg (fun y => by cases y)]
    have hD : ¬ Dk Z R k q := fun y => by rw [Dq.mp y] at hl; cases hl
    have Eq : ∀ p, p < 128 → Ei q E 128 (ch q p) := fun p hp => .inr ⟨p, hp, sub_self _⟩
    have gro : ∀ {P' : Nat → Prop} {Z3 : Nat → Txt} {T3 : TM}, St n k Z R W (Ei q E 128) P' T0 Tb Z3 T3 → St n k Z R W (fun x => E x ∨ Sub q x) P' T0 Tb Z3 T3 := fun s3 => s3.grow (fun s y => (e128 s).mp (.inl y)) fun s hs y hn hz => by
      rcases (e128 s).mpr y with y | y
      · exact absurd y hn
      · exact y ▸ hD
    cases ht : c.1.turned with
    | false =>
      rw [if_neg (fun y => by cases y)]
      have c3 := st'.c.stay (q := q) (.inr rfl) fun p hp _ hDp => Classical.byContradiction fun z => by rw [I.turned.mpr ⟨p, hp, z, hDp⟩] at ht; cases ht
      exact .ok Z'' rfl ⟨fun y => (by cases y), fun y => absurd y hD⟩ (gro ⟨st'.a, c3.iffP ep, st'.x, st'.ks⟩) nf
    | true =>
      rw [if_pos rfl]
      obtain ⟨j, hj, j0, jD⟩ := I.turned.mp ht
      obtain ⟨i, hi, i0, iD⟩ := I.left.mp hl
      have hw := hW i j hi hj i0 iD j0 jD
      have bp : ∀ p, p < 128 → (Ei q E 128 (ch q p) ∧ Dk Z R k (ch q p) → num4 c.1.b p = 0) ∧ (¬ (Ei q E 128 (ch q p) ∧ Dk Z R k (ch q p)) → num4 c.1.b p = num4 (Z (num Z R q)) p) := fun p hp =>
        ⟨fun y => (I.b p hp).1 ⟨hp, y.2⟩, fun y => (I.b p hp).2 fun z => y ⟨Eq p hp, z.2⟩⟩
      have c3 := st'.c.write C.d C.w h1 h2 h0 bp
      rcases st'.a.write_full (i := num Z R q) (bs := c.1.b) (by omega) r2 I.len with e | ⟨e, h96, _⟩
      · refine .ok _ e ⟨fun y => (by cases y), fun y => absurd y hD⟩ (gro ⟨st'.a.write (by omega) r2 I.len e, c3.iffP ep, st'.x.write _ _, fun x hx => ?_⟩) fun h => ?_
        · rcases (write_keys e x).mp hx with hx | hx
          · exact st'.ks x hx
          · exact .inr (hx ▸ hw)
        · exact absurd jD (h _ ((sub_split h1 h2).mpr (.inr ⟨j, hj, sub_self _⟩)) j0)
      · refine .full (by show (c.1.T.write _ _).2 = 60; rw [e]) (st'.x.write _ _) ⟨?_, ch q j, (ch_par h1 h2 hj).2, j0, jD⟩
        have := st'.ks.len st'.a.keys
        omega
end Go.Proofs.YtcdpakjhjmchhaaDoor.Bm
namespace Go.Proofs.YtcdpakjhjmchhaaDoor.Bm
open Go Go.Proofs Go.Proofs.YtcdpakjhjmchhaaDoor.Wx Go.Proofs.YtcdpakjhjmchhaaDoor.Hp Go.Proofs.YtcdpakjhjmchhaaDoor.W Go.Proofs.YtcdpakjhjmchhaaDoor.Ad Go.Proofs.YtcdpakjhjmchhaaDoor.Tm Go.Proofs.YtcdpakjhjmchhaaDoor.Bt Go.Proofs.YtcdpakjhjmchhaaDoor.Spc Go.Proofs.YtcdpakjhjmchhaaDoor.Re Go.Proofs.YtcdpakjhjmchhaaDoor.Av
/-- the record under way -/
structure Rt (k : Nat) (Z : Nat → Txt) (R : List Int) (E : Nat → Prop) (R' : List Int) : Prop where
  len : R'.length = 15
  head : ∀ i, i < 3 → R'.getD i 0 = R.getD i 0
  root : ∀ s, s < nS → par s = none → (E s ∧ Dk Z R k s → Bm.root R' s = 0) ∧ (¬ (E s ∧ Dk Z R k s) → Bm.root R' s = Bm.root R s)
theorem Rt.grow {n k : Nat} {Z : Nat → Txt} {R R' : List Int} {E E' : Nat → Prop} (w : Wf n Z R) (r : Rt k Z R E R') (h1 : ∀ s, E s → E' s) (h2 : ∀ s, s < nS → par s = none → E' s → ¬ E s → num Z R s ≠ 0 → ¬ Dk Z R k s) : Rt k Z R E' R' := by
  refine ⟨r.len, r.head, fun s hs hp => ?_⟩
  obtain ⟨a, b⟩ := r.root s hs hp
  refine ⟨fun y => ?_, fun y => b fun z => y ⟨h1 s z.1, z.2⟩⟩
  by_cases he : E s
  · exact a ⟨he, y.2⟩
  · rw [b fun z => he z.1, root_num w hs hp]
    by_cases h0 : num Z R s = 0
    · rw [h0]; rfl
    · exact absurd y.2 (h2 s hs hp y.1 he h0)
theorem Rt.iff {k : Nat} {Z : Nat → Txt} {R R' : List Int} {E E' : Nat → Prop} (r : Rt k Z R E R') (h : ∀ s, s < nS → par s = none → (E s ↔ E' s)) : Rt k Z R E' R' :=
  ⟨r.len, r.head, fun s hs hp => by rw [← h s hs hp]; exact r.root s hs hp⟩
theorem root_dir {R : List Int} {i : Nat} (hi : i < 10) : root R i = R.getD (3 + i) 0 := if_pos hi
theorem root_one (R : List Int) : root R 16522 = R.getD 13 0 := rfl
theorem root_two (R : List Int) : root R 16523 = R.getD 14 0 := rfl
theorem setRoot_head {R : List Int} {s : Nat} {v : Int} {i : Nat} (hl : R.length = 15) (hs : s < 10 ∨ s = 16522 ∨ s = 16523) (hi : i < 3) : (setRoot R s v).getD i 0 = R.getD i 0 := by
  unfold setRoot
  split
  · rw [getD_set _ _ _ _ _ (by omega), if_neg (by omega)]
  · split
    · rw [getD_set _ _ _ _ _ (by omega), if_neg (by omega)]
    · rw [getD_set _ _ _ _ _ (by omega), if_neg (by omega)]
theorem setRoot_len {R : List Int} {s : Nat} {v : Int} : (setRoot R s v).length = R.length := by
  unfold setRoot
  split
  · exact List.length_set
  · split
    · exact List.length_set
    · exact List.length_set
theorem Rt.set {k : Nat} {Z : Nat → Txt} {R R' : List Int} {E : Nat → Prop} (r : Rt k Z R E R') {s : Nat} (hp : par s = none) (hD : Dk Z R k s) : Rt k Z R (fun x => E x ∨ x = s) (setRoot R' s 0) := by
  refine ⟨setRoot_len.trans r.len, fun i hi => (setRoot_head r.len (par_none hp) hi).trans (r.head i hi), fun x hx hpx => ?_⟩
  rw [root_set r.len hp hpx]
  obtain ⟨a, b⟩ := r.root x hx hpx
  by_cases e : x = s
  · rw [if_pos e]
    exact ⟨fun _ => rfl, fun y => absurd ⟨.inr e, e ▸ hD⟩ y⟩
  · rw [if_neg e]
    exact ⟨fun y => a ⟨y.1.resolve_right e, y.2⟩, fun y => b fun z => y ⟨.inl z.1, z.2⟩⟩
abbrev No' : Nat → Prop := fun _ => False
theorem dirGo_ok {n k : Nat} {Z : Nat → Txt} {R W : List Int} {T0 Tb : TM} (C : Cx n k Z R W) : ∀ (m i : Nat) (T : TM) (R' : List Int) (Z' : Nat → Txt), i + m = 10 → k ≤ i → St n k Z R W (fun s => s < i) No' T0 Tb Z' T → Rt k Z R (fun s => s < i) R' →
    ((dirGo (geoN n) (List.range' i m) T R').2 = 60 ∧ Ext T0 (dirGo (geoN n) (List.range' i m) T R').1.1 ∧ (96 ≤ (Av.ks Tb).length + W.length ∧ Som k Z R)) ∨
    ((dirGo (geoN n) (List.range' i m) T R').2 = 0 ∧ ∃ Z'', St n k Z R W (fun s => s < 10) No' T0 Tb Z'' (dirGo (geoN n) (List.range' i m) T R').1.1 ∧ Rt k Z R (fun s => s < 10) (dirGo (geoN n) (List.range' i m) T R').1.2 ∧
      ((∀ x, x < 10 → num Z R x ≠ 0 → ¬ Dk Z R k x) → (dirGo (geoN n) (List.range' i m) T R').1 = (T, R')))
  | 0, i, T, R', Z', hi, _, st, rt => by
    have : i = 10 := hi
    subst this
    exact .inr ⟨rfl, Z', st, rt, fun _ => rfl⟩
  | m + 1, i, T, R', Z', hi, hk, st, rt => by
    have hi10 : i < 10 := by omega
    have hs : i < nS := by unfold nS; omega
    have hp : par i = none := by unfold par; rw [if_pos hi10]
    have ev : R'.getD (3 + i) 0 = ((num Z R i : Nat) : Int) := by
      rw [← root_dir hi10, (rt.root i hs hp).2 (fun y => absurd y.1 (Nat.lt_irrefl _)), root_num C.w hs hp]
    rw [show List.range' i (m + 1) = i :: List.range' (i + 1) m from rfl]
    unfold dirGo
    rw [ev]
    by_cases h0 : num Z R i = 0
    · rw [if_pos (by omega)]
      exact dirGo_ok C m (i + 1) T R' Z' (by omega) (by omega) (st.grow (fun s y => by have y : s < i := y; show s < i + 1; omega) fun s _ y hn hz => by
        have y : s < i + 1 := y
        have hn : ¬ s < i := hn
        have : s = i := by omega
        exact absurd (this ▸ h0) hz) (rt.grow C.w (fun s y => by have y : s < i := y; show s < i + 1; omega) fun s _ _ y hn hz => by
        have y : s < i + 1 := y
        have hn : ¬ s < i := hn
        have : s = i := by omega
        exact absurd (this ▸ h0) hz)
    · rw [if_neg (by omega), giveF_give C hs h0]
      have hD : Dk Z R k i := (dk_data (by omega)).mpr hk
      rcases give_ok C st hs h0 (Nat.lt_irrefl _) hD (fun q p e => by rw [hp] at e; cases e) with ⟨e, st'⟩ | ⟨e, x, h⟩
      · rw [if_neg (fun y => y e)]
        have es : R'.set (3 + i) 0 = setRoot R' i 0 := by unfold setRoot; rw [if_pos hi10]
        rw [es]
        have lt : ∀ s, (s < i ∨ s = i) ↔ s < i + 1 := fun s => by omega
        rcases dirGo_ok C m (i + 1) _ _ _ (by omega) (by omega) (st'.iff (fun s _ => lt s) fun _ => ⟨fun y => y.1, fun y => y.elim⟩) ((rt.set hp hD).iff fun s _ _ => lt s) with y | ⟨y1, Z3, y2, y3, y4⟩
        · exact .inl y
        · exact .inr ⟨y1, Z3, y2, y3, fun h => absurd hD (h i hi10 h0)⟩
      · rw [if_pos (nz60 e)]
        exact .inl ⟨e, x, h⟩
theorem rootEnd_ok {n k : Nat} {Z : Nat → Txt} {R R' W : List Int} {E P : Nat → Prop} {T0 Tb T : TM} (_ : Cx n k Z R W) {q i : Nat} (hq : q = 16522 ∧ i = 13 ∨ q = 16523 ∧ i = 14) (rt : Rt k Z R E R') (hE : ¬ E q) {c : TM × Bool × Int} (o : Out n k Z R W E P T0 Tb q T (c.1, !c.2.1, c.2.2)) (h0 : num Z R q ≠ 0) :
    ((rootEnd i R' c).2 = 60 ∧ Ext T0 (rootEnd i R' c).1.1 ∧ (96 ≤ (Av.ks Tb).length + W.length ∧ Som k Z R)) ∨
    ((rootEnd i R' c).2 = 0 ∧ ∃ Z'', St n k Z R W (fun s => E s ∨ Sub q s) P T0 Tb Z'' (rootEnd i R' c).1.1 ∧ Rt k Z R (fun s => E s ∨ Sub q s) (rootEnd i R' c).1.2 ∧ ((∀ x, Sub q x → num Z R x ≠ 0 → ¬ Dk Z R k x) → (rootEnd i R' c).1 = (T, R'))) := by
  have hp : par q = none := by rcases hq with ⟨rfl, _⟩ | ⟨rfl, _⟩ <;> rfl
  have sr : ∀ s, Sub q s → par s = none → s = q := fun s hs e => by
    have b := par_none e
    rcases hq with ⟨rfl, _⟩ | ⟨rfl, _⟩
    · rw [sub_one] at hs; omega
    · rw [sub_two] at hs; omega
  unfold rootEnd
  rcases o with ⟨Z'', e1, e2, st', e4⟩ | ⟨e1, e2, e3⟩
  · have e1 : c.2.2 = 0 := e1
    have e2 : (!c.2.1) = true ↔ Dk Z R k q := e2
    rw [if_neg (fun y => y e1)]
    refine .inr ⟨rfl, Z'', st', ?_, fun h => ?_⟩
    · show Rt k Z R _ (if c.2.1 = true then R' else R'.set i 0)
      cases hl : c.2.1 with
      | true =>
        rw [if_pos rfl]
        have hD : ¬ Dk Z R k q := fun y => by have := e2.mpr y; rw [hl] at this; cases this
        refine ⟨rt.len, rt.head, fun s hs hps => ?_⟩
        obtain ⟨a, b⟩ := rt.root s hs hps
        refine ⟨fun y => a ⟨?_, y.2⟩, fun y => b fun z => y ⟨.inl z.1, z.2⟩⟩
        rcases y.1 with z | z
        · exact z
        · exact absurd (sr s z hps ▸ y.2) hD
      | false =>
        rw [if_neg (fun y => by cases y)]
        have hD : Dk Z R k q := e2.mp (by rw [hl]; rfl)
        have es : R'.set i 0 = setRoot R' q 0 := by rcases hq with ⟨rfl, rfl⟩ | ⟨rfl, rfl⟩ <;> rfl
        rw [es]
        refine (rt.set hp hD).iff fun s _ hps => ⟨fun y => y.elim .inl fun z => .inr (z ▸ sub_self _), fun y => y.elim .inl fun z => .inr (sr s z hps)⟩
    · have hD : ¬ Dk Z R k q := h q (sub_self q) h0
      have hl : c.2.1 = true := by
        cases hl : c.2.1 with
        | true => rfl
        | false => exact absurd (e2.mp (by rw [hl]; rfl)) hD
      show (c.1, if c.2.1 = true then R' else R'.set i 0) = (T, R')
      rw [if_pos hl]
      have : c.1 = T := e4 h
      rw [this]
  · have e1 : c.2.2 = 60 := e1
    rw [if_pos (nz60 e1)]
    exact .inl ⟨e1, e2, e3⟩
def E1 : Nat → Prop := fun s => s < 10
def E2 : Nat → Prop := fun s => E1 s ∨ Sub 16522 s
def E3 : Nat → Prop := fun s => E2 s ∨ Sub 16523 s
theorem oneM_ok {n k : Nat} {Z Z' : Nat → Txt} {R R' W : List Int} {T0 Tb T : TM} (C : Cx n k Z R W) (st : St n k Z R W E1 No' T0 Tb Z' T) (rt : Rt k Z R E1 R') :
    ((oneM (geoN n) k T R').2 = 60 ∧ Ext T0 (oneM (geoN n) k T R').1.1 ∧ (96 ≤ (Av.ks Tb).length + W.length ∧ Som k Z R)) ∨
    ((oneM (geoN n) k T R').2 = 0 ∧ ∃ Z'', St n k Z R W E2 No' T0 Tb Z'' (oneM (geoN n) k T R').1.1 ∧ Rt k Z R E2 (oneM (geoN n) k T R').1.2 ∧ ((∀ x, x < nS → num Z R x ≠ 0 → ¬ Dk Z R k x) → (oneM (geoN n) k T R').1 = (T, R'))) := by
  have hq : 16522 < nS := by decide
  have hnE : ∀ s, Sub 16522 s → ¬ E1 s := fun s h y => by rw [sub_one] at h; have y : s < 10 := y; omega
  have ev : R'.getD 13 0 = ((num Z R 16522 : Nat) : Int) := by
    rw [← root_one, (rt.root 16522 hq rfl).2 (fun y => hnE _ (sub_self _) y.1), root_num C.w hq rfl]
  have skip : (∀ s, Sub 16522 s → num Z R s ≠ 0 → ¬ Dk Z R k s) → ∃ Z'', St n k Z R W E2 No' T0 Tb Z'' T ∧ Rt k Z R E2 R' := fun h =>
    ⟨Z', st.grow (fun s y => .inl y) (fun s _ y hn hz => h s (y.resolve_left hn) hz), rt.grow C.w (fun s y => .inl y) fun s _ _ y hn hz => h s (y.resolve_left hn) hz⟩
  unfold oneM
  rw [ev]
  by_cases hc : (k : Int) < 138 ∧ ((num Z R 16522 : Nat) : Int) ≠ 0
  · rw [if_pos hc]
    have h0 : num Z R 16522 ≠ 0 := fun y => hc.2 (by rw [y]; rfl)
    have o := cutT_ok C (Nat.le_refl 16522) hq h0 (from_ := (k : Int) - 10) (dM := leafD (geoN n)) hnE (fun y => y) (fun q' p e => by cases e) (fun _ _ _ _ _ _ _ _ => C.one) (fun i hi hf s hs _ hD => by
      rw [ch_one, sub_leaf (by omega)] at hs
      rw [hs, dk_data (by omega)] at hD
      omega) (fun i hi hf hz E' Z3 T' hE' st' => by
      rw [ch_one] at hz hE' ⊢
      refine leaf_ok C st' (by omega) hz (hE' _ (sub_self _)) (by omega) (fun x y => y.elim (fun z => z.elim) fun z => by omega) (fun q p e => ?_) i
      have := (ch_par (Nat.le_refl 16522) hq hi).1
      rw [ch_one] at this
      rw [this] at e; cases e; exact .inr rfl) st
    rcases rootEnd_ok C (.inl ⟨rfl, rfl⟩) rt (hnE _ (sub_self _)) o h0 with y | ⟨y1, Z3, y2, y3, y4⟩
    · exact .inl y
    · exact .inr ⟨y1, Z3, y2, y3, fun h => y4 fun x hx => h x (sub_lt hq hx)⟩
  · rw [if_neg hc]
    have sk : ∀ s, Sub 16522 s → num Z R s ≠ 0 → ¬ Dk Z R k s := by
      by_cases h0 : num Z R 16522 = 0
      · exact fun s hs hz => absurd (sub_zero hq h0 s hs) hz
      · exact dk_low C.tg hq fun x hx _ => by
          rw [sub_one] at hx
          have : ¬ (k : Int) < 138 := fun y => hc ⟨y, by omega⟩
          omega
    obtain ⟨Z3, y2, y3⟩ := skip sk
    exact .inr ⟨rfl, Z3, y2, y3, fun _ => rfl⟩
theorem twoM_ok {n k : Nat} {Z Z' : Nat → Txt} {R R' W : List Int} {T0 Tb T : TM} (C : Cx n k Z R W) (st : St n k Z R W E2 No' T0 Tb Z' T) (rt : Rt k Z R E2 R') :
    ((twoM (geoN n) k T R').2 = 60 ∧ Ext T0 (twoM (geoN n) k T R').1.1 ∧ (96 ≤ (Av.ks Tb).length + W.length ∧ Som k Z R)) ∨
    ((twoM (geoN n) k T R').2 = 0 ∧ ∃ Z'', St n k Z R W E3 No' T0 Tb Z'' (twoM (geoN n) k T R').1.1 ∧ Rt k Z R E3 (twoM (geoN n) k T R').1.2 ∧ ((∀ x, x < nS → num Z R x ≠ 0 → ¬ Dk Z R k x) → (twoM (geoN n) k T R').1 = (T, R'))) := by
  have hq : 16523 < nS := by decide
  have hnE : ∀ s, Sub 16523 s → ¬ E2 s := fun s h y => by
    rw [sub_two] at h
    rcases y with y | y
    · have y : s < 10 := y; omega
    · rw [sub_one] at y; omega
  have ev : R'.getD 14 0 = ((num Z R 16523 : Nat) : Int) := by
    rw [← root_two, (rt.root 16523 hq rfl).2 (fun y => hnE _ (sub_self _) y.1), root_num C.w hq rfl]
  have skip : (∀ s, Sub 16523 s → num Z R s ≠ 0 → ¬ Dk Z R k s) → ∃ Z'', St n k Z R W E3 No' T0 Tb Z'' T ∧ Rt k Z R E3 R' := fun h =>
    ⟨Z', st.grow (fun s y => .inl y) (fun s _ y hn hz => h s (y.resolve_left hn) hz), rt.grow C.w (fun s y => .inl y) fun s _ _ y hn hz => h s (y.resolve_left hn) hz⟩
  unfold twoM
  rw [ev]
  by_cases hc : (k : Int) < 16522 ∧ ((num Z R 16523 : Nat) : Int) ≠ 0
  · rw [if_pos hc]
    have h0 : num Z R 16523 ≠ 0 := fun y => hc.2 (by rw [y]; rfl)
    have hf : firstM k = ((k - 138 : Nat) : Int) := by
      unfold firstM
      split <;> omega
    have o := cutT_ok C (show 16522 ≤ 16523 by decide) hq h0 (from_ := firstM k / 128) (dM := tabD (geoN n) (firstM k)) hnE (fun y => y) (fun q' p e => by cases e) (fun _ _ _ _ _ _ _ _ => C.two) (fun i hi hfi => by
      rw [hf] at hfi
      rw [ch_two]
      exact dk_low C.tg (by unfold nS; omega) fun x hx hx2 => by rw [sub_tab] at hx; omega) (fun i hi hfi hz E' Z3 T' hE' st' => by
      rw [hf] at hfi
      rw [ch_two] at hz hE' ⊢
      have hqi : 16524 + i < nS := by unfold nS; omega
      have pi : par (16524 + i) = some (16523, i) := par_table hi
      refine cutT_ok C (show 16522 ≤ 16524 + i by omega) hqi hz (from_ := firstM k - 128 * (i : Int)) (dM := leafD (geoN n)) hE' (fun y => y.elim (fun z => z) fun z => by omega) (fun q' p e => by rw [pi] at e; cases e; exact .inr rfl) (fun a b ha hb _ a1 _ b1 => ?_) (fun a ha hfa s hs _ hD => ?_) (fun a ha hfa hza E3 Z4 T3 hE3 st3 => ?_) st'
      · rw [ch_tab] at a1 b1
        rw [dk_data (by omega)] at a1 b1
        have : i = (k - 138) / 128 := by omega
        rw [this]; exact C.tab
      · rw [hf] at hfa
        rw [ch_tab, sub_leaf (by omega)] at hs
        rw [hs, dk_data (by omega)] at hD
        omega
      · rw [hf] at hfa
        have pc := (ch_par (show 16522 ≤ 16524 + i by omega) hqi ha).1
        rw [ch_tab] at hza hE3 pc ⊢
        exact leaf_ok C st3 (by omega) hza (hE3 _ (sub_self _)) (by omega) (fun x (y : (No' x ∨ x = 16523) ∨ x = 16524 + i) => y.elim (fun z => z.elim (fun w => w.elim) fun w => by omega) fun z => by omega) (fun q p e => by rw [pc] at e; cases e; exact .inr rfl) a) st
    rcases rootEnd_ok C (.inr ⟨rfl, rfl⟩) rt (hnE _ (sub_self _)) o h0 with y | ⟨y1, Z3, y2, y3, y4⟩
    · exact .inl y
    · exact .inr ⟨y1, Z3, y2, y3, fun h => y4 fun x hx => h x (sub_lt hq hx)⟩
  · rw [if_neg hc]
    have sk : ∀ s, Sub 16523 s → num Z R s ≠ 0 → ¬ Dk Z R k s := by
      by_cases h0 : num Z R 16523 = 0
      · exact fun s hs hz => absurd (sub_zero hq h0 s hs) hz
      · exact dk_low C.tg hq fun x hx hx2 => by
          have : ¬ (k : Int) < 16522 := fun y => hc ⟨y, by omega⟩
          omega
    obtain ⟨Z3, y2, y3⟩ := skip sk
    exact .inr ⟨rfl, Z3, y2, y3, fun _ => rfl⟩
theorem e3_all {s : Nat} (hs : s < nS) : E3 s := by
  unfold nS at hs
  by_cases h1 : s < 10
  · exact .inl (.inl h1)
  · by_cases h2 : s < 138 ∨ s = 16522
    · exact .inl (.inr (sub_one.mpr (by omega)))
    · exact .inr (sub_two.mpr (by unfold nS; omega))
/-- what Cut at k leaves -/
structure Cutd (n k : Nat) (Z : Nat → Txt) (R : List Int) (Z' : Nat → Txt) (R' : List Int) : Prop where
  w : Wf n Z' R'
  tg : Tight Z' R'
  gone : ∀ s, s < nS → Dk Z R k s → num Z' R' s = 0
  kept : ∀ s, s < nS → ¬ Dk Z R k s → num Z' R' s = num Z R s
  bits : ∀ j, 98 + j / 4096 < (geoN n).inodes → (bit Z' j = true ↔ bit Z j = true ∧ ∀ s, s < nS → Dk Z R k s → num Z R s ≠ 0 → num Z R s ≠ j)
  head : ∀ i, i < 3 → R'.getD i 0 = R.getD i 0
  cont : ∀ b, b < n → (geoN n).inodes ≤ b → (∀ q, 16522 ≤ q → q < nS → num Z R q ≠ 0 → b ≠ num Z R q) → Z' b = Z b
theorem cutd_of {n k : Nat} {Z Z' : Nat → Txt} {R R' W : List Int} (C : Cx n k Z R W) (c : Ct n k Z R E3 No' Z') (rt : Rt k Z R E3 R') : Cutd n k Z R Z' R' := by
  have w := C.w
  have N : ∀ s, s < nS → (Dk Z R k s → num Z' R' s = 0) ∧ (¬ Dk Z R k s → num Z' R' s = num Z R s) := by
    refine slots (fun s hs e => ?_) fun s q p hs e ih => ?_
    · rw [num_none e, num_none e]
      obtain ⟨a, b⟩ := rt.root s hs e
      exact ⟨fun y => by rw [a ⟨e3_all hs, y⟩]; rfl, fun y => by rw [b fun z => y z.2]⟩
    · obtain ⟨rfl, hp, h1, h2⟩ := par_ch e hs
      rw [num_some e hs]
      by_cases hD : Dk Z R k q
      · rw [ih.1 hD]
        refine ⟨fun _ => rfl, fun y => ?_⟩
        show 0 = _
        exact (Classical.byContradiction fun z => y ((dk_ch h1 h2).mp hD p hp fun t => z t.symm))
      · rw [ih.2 hD]
        by_cases h0 : num Z R q = 0
        · rw [ch_num h1 h2 hp, h0]; exact ⟨fun _ => rfl, fun _ => rfl⟩
        · obtain ⟨a, b⟩ := c.tabs q p h1 h2 h0 (fun y => y) hp fun y => hD y.2
          unfold sub
          rw [if_neg h0, ch_num' h1 h2 hp h0]
          exact ⟨fun y => a ⟨e3_all hs, y⟩, fun y => b fun z => y z.2⟩
  have bits : ∀ j, 98 + j / 4096 < (geoN n).inodes → (bit Z' j = true ↔ bit Z j = true ∧ ∀ s, s < nS → Dk Z R k s → num Z R s ≠ 0 → num Z R s ≠ j) := fun j hj => by
    rw [c.bits j hj]
    exact ⟨fun y => ⟨y.1, fun s hs => y.2 s hs (e3_all hs)⟩, fun y => ⟨y.1, fun s hs _ => y.2 s hs⟩⟩
  have nd : ∀ s, s < nS → num Z' R' s ≠ 0 → ¬ Dk Z R k s := fun s hs h y => h ((N s hs).1 y)
  have rr : ∀ s, s < nS → par s = none → 0 ≤ root R' s := fun s hs e => by
    obtain ⟨a, b⟩ := rt.root s hs e
    by_cases hD : Dk Z R k s
    · rw [a ⟨e3_all hs, hD⟩]; exact Int.le_refl _
    · rw [b fun z => hD z.2, root_num w hs e]; omega
  refine ⟨⟨rt.len, fun i h1 h2 => ?_, fun s hs h0 => ?_, fun s s' hs hs' h0 e => ?_⟩, fun q h1 h2 h0 => ?_, fun s hs => (N s hs).1, fun s hs => (N s hs).2, bits, rt.head, c.cont⟩
  · by_cases e : i < 13
    · have := rr (i - 3) (by unfold nS; omega) (by unfold par; rw [if_pos (by omega)])
      rw [root_dir (by omega), show 3 + (i - 3) = i by omega] at this; exact this
    · by_cases e : i = 13
      · subst e; exact rr 16522 (by decide) rfl
      · have : i = 14 := by omega
        subst this; exact rr 16523 (by decide) rfl
  · have hD := nd s hs h0
    have es := (N s hs).2 hD
    rw [es] at h0 ⊢
    obtain ⟨r1, r2, r3⟩ := w.rng s hs h0
    refine ⟨r1, r2, (bits _ (C.d.map r2).2.1).mpr ⟨r3, fun s' hs' hD' h0' e => hD (w.inj s' s hs' hs h0' e ▸ hD')⟩⟩
  · have hD := nd s hs h0
    have hD' := nd s' hs' (e ▸ h0)
    rw [(N s hs).2 hD, (N s' hs').2 hD'] at e
    rw [(N s hs).2 hD] at h0
    exact w.inj s s' hs hs' h0 e
  · have hD := nd q h2 h0
    rw [dk_tab h1] at hD
    obtain ⟨x, hx⟩ := Classical.not_forall.mp hD
    obtain ⟨a, hx⟩ := Classical.not_forall.mp hx
    obtain ⟨b, hx⟩ := Classical.not_forall.mp hx
    obtain ⟨e, hx⟩ := Classical.not_forall.mp hx
    obtain ⟨sx, hx2⟩ := data_sub h1 h2 a b
    refine ⟨x, a, b, ?_⟩
    rw [(N x (by unfold nS; omega)).2 (by rw [dk_data hx2]; omega)]; exact hx
theorem cutS_ok {n k : Nat} {Z : Nat → Txt} {R W : List Int} {T0 T : TM} (C : Cx n k Z R W) (a : Av n Z T) (x : Ext T0 T) :
    ((cutS (geoN n) k T R).2 = 60 ∧ Ext T0 (cutS (geoN n) k T R).1.1 ∧ (96 ≤ (Av.ks T).length + W.length ∧ Som k Z R)) ∨
    ((cutS (geoN n) k T R).2 = 0 ∧ ∃ Z', Av n Z' (cutS (geoN n) k T R).1.1 ∧ Cutd n k Z R Z' (cutS (geoN n) k T R).1.2 ∧ Ext T0 (cutS (geoN n) k T R).1.1 ∧ KsOk T (cutS (geoN n) k T R).1.1 W ∧ ((∀ x, x < nS → num Z R x ≠ 0 → ¬ Dk Z R k x) → (cutS (geoN n) k T R).1 = (T, R))) := by
  have st0 : St n k Z R W No' No' T0 T Z T := ⟨a, Ct.nil n k Z R, x, fun x hx => .inl hx⟩
  have rt0 : Rt k Z R No' R := ⟨C.w.rl, fun _ _ => rfl, fun s _ _ => ⟨fun y => y.1.elim, fun _ => rfl⟩⟩
  have dirs : ((dirGo (geoN n) (dirsM k) T R).2 = 60 ∧ Ext T0 (dirGo (geoN n) (dirsM k) T R).1.1 ∧ (96 ≤ (Av.ks T).length + W.length ∧ Som k Z R)) ∨
    ((dirGo (geoN n) (dirsM k) T R).2 = 0 ∧ ∃ Z'', St n k Z R W (fun s => s < 10) No' T0 T Z'' (dirGo (geoN n) (dirsM k) T R).1.1 ∧ Rt k Z R (fun s => s < 10) (dirGo (geoN n) (dirsM k) T R).1.2 ∧
      ((∀ x, x < 10 → num Z R x ≠ 0 → ¬ Dk Z R k x) → (dirGo (geoN n) (dirsM k) T R).1 = (T, R))) := by
    have ed : dirsM k = List.range' k (10 - k) := rfl
    have low : ∀ m, m ≤ k → m < 16522 → ∀ s, s < m → ¬ Dk Z R k s := fun m h1 h2 s hs hD => by rw [dk_data (by omega)] at hD; omega
    by_cases hk : k < 10
    · rw [ed]
      exact dirGo_ok C (10 - k) k T R Z (by omega) (Nat.le_refl _) (st0.grow (fun s y => y.elim) fun s _ y _ _ => low k (Nat.le_refl _) (by omega) s y) (rt0.grow C.w (fun s y => y.elim) fun s _ _ y _ _ => low k (Nat.le_refl _) (by omega) s y)
    · rw [ed, show 10 - k = 0 by omega]
      exact .inr ⟨rfl, Z, st0.grow (fun s y => y.elim) fun s _ y _ _ => low 10 (by omega) (by omega) s y, rt0.grow C.w (fun s y => y.elim) fun s _ _ y _ _ => low 10 (by omega) (by omega) s y, fun _ => rfl⟩
  unfold cutS
  rcases dirs with ⟨e, h⟩ | ⟨e, Z1, st1, rt1, nf1⟩
  · rw [if_pos (nz60 e)]
    exact .inl ⟨e, h⟩
  rw [if_neg (fun y => y e)]
  rcases oneM_ok C st1 rt1 with ⟨e2, h⟩ | ⟨e2, Z2, st2, rt2, nf2⟩
  · rw [if_pos (nz60 e2)]
    exact .inl ⟨e2, h⟩
  rw [if_neg (fun y => y e2)]
  rcases twoM_ok C st2 rt2 with ⟨e3, h⟩ | ⟨e3, Z3, st3, rt3, nf3⟩
  · exact .inl ⟨e3, h⟩
  refine .inr ⟨e3, Z3, st3.a, cutd_of C st3.c rt3, st3.x, st3.ks, fun h => ?_⟩
  rw [nf3 h]
  show ((oneM (geoN n) k (dirGo (geoN n) (dirsM k) T R).1.1 (dirGo (geoN n) (dirsM k) T R).1.2).1.1, (oneM (geoN n) k (dirGo (geoN n) (dirsM k) T R).1.1 (dirGo (geoN n) (dirsM k) T R).1.2).1.2) = (T, R)
  have e1 := nf1 fun x hx => h x (by unfold nS; omega)
  have e2' := nf2 h
  rw [e1] at e2' ⊢
  rw [e2']
end Go.Proofs.YtcdpakjhjmchhaaDoor.Bm
namespace Go.Proofs.YtcdpakjhjmchhaaDoor.Bm
open Go Go.Proofs Go.Proofs.YtcdpakjhjmchhaaDoor.Wx Go.Proofs.YtcdpakjhjmchhaaDoor.Hp Go.Proofs.YtcdpakjhjmchhaaDoor.W Go.Proofs.YtcdpakjhjmchhaaDoor.Ad Go.Proofs.YtcdpakjhjmchhaaDoor.Tm Go.Proofs.YtcdpakjhjmchhaaDoor.Bt Go.Proofs.YtcdpakjhjmchhaaDoor.Spc Go.Proofs.YtcdpakjhjmchhaaDoor.Re Go.Proofs.YtcdpakjhjmchhaaDoor.Av
def wOf (k : Nat) (Z : Nat → Txt) (R : List Int) : List Int := [98, 99, 100, 101, ((num Z R 16522 : Nat) : Int), ((num Z R 16523 : Nat) : Int), ((num Z R (16524 + (k - 138) / 128) : Nat) : Int)]
theorem cx_of {n k : Nat} {Z : Nat → Txt} {R : List Int} (d : Dim n) (w : Wf n Z R) (tg : Tight Z R) : Cx n k Z R (wOf k Z R) := by
  have hhi := d.hi
  refine ⟨d, w, tg, fun j hj => ?_, by simp [wOf], by simp [wOf], by simp [wOf]⟩
  have : j / 4096 = 0 ∨ j / 4096 = 1 ∨ j / 4096 = 2 ∨ j / 4096 = 3 := by omega
  rcases this with e | e | e | e <;> rw [e] <;> simp [wOf]
/-- Cut -/
theorem cut_ok {n k : Nat} {Z : Nat → Txt} {R : List Int} {T : TM} (d : Dim n) (a : Av n Z T) (w : Wf n Z R) (tg : Tight Z R) (hk : k ≤ 16522) :
    (cutM T (geoN n) R k = (T, z15, 60) ∧ 96 ≤ (ks T).length + 7 ∧ Som k Z R) ∨
    ∃ T' R' Z', cutM T (geoN n) R k = (T', R', 0) ∧ Av n Z' T' ∧ Cutd n k Z R Z' R' ∧ Ext T T' ∧ KsOk T T' (wOf k Z R) ∧ ((∀ x, x < nS → num Z R x ≠ 0 → ¬ Dk Z R k x) → T' = T ∧ R' = R) := by
  unfold cutM
  rw [if_neg (by omega)]
  rcases cutS_ok (cx_of (k := k) d w tg) a (Ext.refl T) with ⟨e, x, h⟩ | ⟨e, Z', a', c', x', k', nf⟩
  · rw [if_pos (nz60 e), x.back a.live, e]
    exact .inl ⟨rfl, h⟩
  · rw [if_neg (fun y => y e)]
    refine .inr ⟨_, _, Z', rfl, a', c', x', k', fun h => ?_⟩
    have := nf h
    rw [this]; exact ⟨rfl, rfl⟩
/-- Add -/
theorem add_ok {n k : Nat} {Z : Nat → Txt} {R : List Int} {T : TM} (d : Dim n) (a : Av n Z T) (w : Wf n Z R) (hk : k < 16522) :
    (addM T (geoN n) R k = (T, z15, 0, 60) ∧ 96 ≤ (ks T).length + 9) ∨ (addM T (geoN n) R k = (T, z15, 0, 90) ∧ frees n Z < miss Z R (path k)) ∨
    ∃ T' R' Z', addM T (geoN n) R k = (T', R', ((num Z' R' k : Nat) : Int), 0) ∧ Av n Z' T' ∧ Added n Z R none (path k) Z' R' ∧ (miss Z R (path k) = 0 → T' = T) ∧ (∀ x ∈ ks T', x ∈ ks T ∨ x < (geoN n).inodes ∨ ∃ s ∈ path k, x = ((num Z' R' s : Nat) : Int)) ∧ (∀ x ∈ ks T, x ∈ ks T') ∧ ∀ s ∈ path k, num Z R s = 0 → ((num Z' R' s : Nat) : Int) ∈ ks T' := by
  obtain ⟨c, e⟩ := path_chain hk
  unfold addM
  rw [if_neg (by omega), Int.toNat_natCast, ← e]
  have hl : (path k).length ≤ 3 := by
    unfold path
    split
    · simp
    · split <;> simp
  obtain ⟨o, x⟩ := walkA_ok d (path k) none Z T T R a w c (fun q y => by cases y) (Ext.refl T)
  have ea : at_ Z R none = 0 := rfl
  rw [ea] at o x
  rcases o with ⟨Z', e1, a', ad, nf, kk, lk1, lk2⟩ | ⟨e1, h⟩ | ⟨e1, h⟩
  · rw [if_neg (fun y => y (by rw [e1]))]
    refine .inr (.inr ⟨_, _, Z', ?_, a', ad, nf, fun x hx => ?_, lk1, lk2⟩)
    · rw [e1, path_last]; rfl
    · rcases kk x hx with h | h | h | ⟨q, h, _⟩
      · exact .inl h
      · exact .inr (.inl h)
      · exact .inr (.inr h)
      · cases h
  · rw [if_pos (nz60 (by rw [e1])), x.back a.live, e1]
    exact .inl ⟨rfl, by omega⟩
  · rw [if_pos (nz90 (by rw [e1])), x.back a.live, e1]
    exact .inr (.inl ⟨rfl, h⟩)
theorem path_under {k q : Nat} (hk : k < 16522) (h : q ∈ path k) (hq : 16522 ≤ q) : loS q ≤ k ∧ k < hiS q := by
  unfold path at h
  split at h
  · rw [List.mem_singleton] at h; omega
  · split at h
    · simp only [List.mem_cons, List.not_mem_nil, or_false] at h
      rcases h with rfl | rfl
      · show 10 ≤ k ∧ k < 138; omega
      · omega
    · simp only [List.mem_cons, List.not_mem_nil, or_false] at h
      rcases h with rfl | rfl | rfl
      · show 138 ≤ k ∧ k < 16522; omega
      · rw [lo_tab, hi_tab]; omega
      · omega
theorem path_self (k : Nat) : k ∈ path k := List.mem_of_getLast? (path_last k)
theorem Added.tight {n k : Nat} {Z Z' : Nat → Txt} {R R' : List Int} (a : Added n Z R none (path k) Z' R') (hk : k < 16522) (tg : Tight Z R) : Tight Z' R' := by
  intro q h1 h2 h0
  by_cases hq : q ∈ path k
  · obtain ⟨b, c⟩ := path_under hk hq h1
    exact ⟨k, b, c, a.got k (path_self k)⟩
  · rw [a.off q h2 hq] at h0
    obtain ⟨x, b, c, hx⟩ := tg q h1 h2 h0
    have hx2 := (data_sub h1 h2 b c).2
    refine ⟨x, b, c, ?_⟩
    by_cases hp : x ∈ path k
    · exact a.got x hp
    · rw [a.off x (by unfold nS; omega) hp]; exact hx
theorem tight_nil {Z : Nat → Txt} {R : List Int} (h : ∀ i, 3 ≤ i → i < 15 → R.getD i 0 = 0) : Tight Z R := fun q _ h2 h0 => absurd (num_nil h q h2) h0
theorem cnt_img (f : Nat → Nat) (n : Nat) : ∀ m, (∀ s, s < m → f s ≠ 0 → f s < n) → (∀ s s', s < m → s' < m → f s ≠ 0 → f s = f s' → s = s') → cnt (fun j => @decide (∃ s, s < m ∧ f s ≠ 0 ∧ f s = j) (Classical.propDecidable _)) n = cnt (fun s => decide (f s ≠ 0)) m
  | 0, _, _ => cnt_zero fun j _ => by
    rw [decide_eq_false_iff_not]
    rintro ⟨s, h, _⟩; omega
  | m + 1, h1, h2 => by
    have ih := cnt_img f n m (fun s hs => h1 s (by omega)) fun s s' hs hs' => h2 s s' (by omega) (by omega)
    show _ = cnt (fun s => decide (f s ≠ 0)) m + (if decide (f m ≠ 0) = true then 1 else 0)
    rw [← ih]
    by_cases h0 : f m = 0
    · rw [if_neg (by rw [decide_eq_true_eq]; exact fun y => y h0)]
      refine cnt_congr fun j _ => ?_
      rw [decide_eq_decide]
      refine ⟨fun ⟨s, a, b, c⟩ => ⟨s, ?_, b, c⟩, fun ⟨s, a, b⟩ => ⟨s, by omega, b⟩⟩
      by_cases e : s = m
      · subst e; exact absurd h0 b
      · omega
    · rw [if_pos (decide_eq_true h0)]
      have := cnt_upd (p := fun j => @decide (∃ s, s < m ∧ f s ≠ 0 ∧ f s = j) (Classical.propDecidable _)) (q := fun j => @decide (∃ s, s < m + 1 ∧ f s ≠ 0 ∧ f s = j) (Classical.propDecidable _)) (i := f m) (fun j hj => by
        rw [decide_eq_decide]
        refine ⟨fun ⟨s, a, b⟩ => ⟨s, by omega, b⟩, fun ⟨s, a, b, c⟩ => ⟨s, ?_, b, c⟩⟩
        by_cases e : s = m
        · subst e; exact absurd c.symm hj
        · omega) (by
        rw [decide_eq_false_iff_not]
        rintro ⟨s, a, b, c⟩
        have := h2 s m (by omega) (by omega) b c
        omega) (@decide_eq_true _ (Classical.propDecidable _) ⟨m, by omega, h0, rfl⟩) n
      rw [if_pos (h1 m (by omega) h0)] at this
      exact this
/-- a slot's block -/
def Used (Z : Nat → Txt) (R : List Int) (j : Nat) : Prop := ∃ s, s < nS ∧ num Z R s ≠ 0 ∧ num Z R s = j
theorem cnt_or {p q : Nat → Bool} (h : ∀ j, p j = true → q j = true → False) : ∀ m, cnt (fun j => p j || q j) m = cnt p m + cnt q m
  | 0 => rfl
  | m + 1 => by
    show cnt (fun j => p j || q j) m + (if (p m || q m) = true then 1 else 0) = cnt p m + (if p m = true then 1 else 0) + (cnt q m + (if q m = true then 1 else 0))
    rw [cnt_or h m]
    have := h m
    cases hp : p m <;> cases hq : q m
    · rfl
    · show _ + 1 = _ + 0 + (_ + 1); omega
    · show _ + 1 = _ + 1 + (_ + 0); omega
    · exact (this hp hq).elim
theorem many_used {n : Nat} {Z : Nat → Txt} {R : List Int} (w : Wf n Z R) : cnt (fun j => @decide (Used Z R j) (Classical.propDecidable _)) n = many Z R :=
  cnt_img (num Z R) n nS (fun s hs h0 => (w.rng s hs h0).2.1) w.inj
theorem frees_many {n : Nat} {Z Z' : Nat → Txt} {R R' : List Int} (w : Wf n Z R) (w' : Wf n Z' R') (h : ∀ j, j < n → (isFree n Z' j = true ∨ Used Z' R' j ↔ isFree n Z j = true ∨ Used Z R j)) : frees n Z' + many Z' R' = frees n Z + many Z R := by
  have dis : ∀ {Z : Nat → Txt} {R : List Int}, Wf n Z R → ∀ j, isFree n Z j = true → @decide (Used Z R j) (Classical.propDecidable _) = true → False := fun w j h1 h2 => by
    obtain ⟨s, hs, h0, e⟩ := @of_decide_eq_true _ (Classical.propDecidable _) h2
    have := (w.rng s hs h0).2.2
    rw [e, (isFree_iff.mp h1).2.2] at this; cases this
  rw [← many_used w, ← many_used w', frees, frees, ← cnt_or (dis w), ← cnt_or (dis w')]
  refine cnt_congr fun j hj => ?_
  rw [Bool.eq_iff_iff, Bool.or_eq_true, Bool.or_eq_true, @decide_eq_true_iff _ (Classical.propDecidable _), @decide_eq_true_iff _ (Classical.propDecidable _)]
  exact h j hj
theorem Cutd.frees {n k : Nat} {Z Z' : Nat → Txt} {R R' : List Int} (c : Cutd n k Z R Z' R') (d : Dim n) (w : Wf n Z R) : Av.frees n Z' + many Z' R' = Av.frees n Z + many Z R := by
  refine frees_many w c.w fun j hj => ?_
  constructor
  · rintro (h | ⟨s, hs, h0, e⟩)
    · obtain ⟨f1, f2, f3⟩ := isFree_iff.mp h
      cases hb : bit Z j with
      | false => exact .inl (isFree_iff.mpr ⟨f1, f2, hb⟩)
      | true =>
        refine .inr (Classical.byContradiction fun y => ?_)
        have := (c.bits j (d.map hj).2.1).mpr ⟨hb, fun s hs _ h0 e => y ⟨s, hs, h0, e⟩⟩
        rw [f3] at this; cases this
    · have hD : ¬ Dk Z R k s := fun y => h0 (c.gone s hs y)
      have es := c.kept s hs hD
      rw [es] at h0 e
      exact .inr ⟨s, hs, h0, e⟩
  · rintro (h | ⟨s, hs, h0, e⟩)
    · obtain ⟨f1, f2, f3⟩ := isFree_iff.mp h
      refine .inl (isFree_iff.mpr ⟨f1, f2, ?_⟩)
      cases hb : bit Z' j with
      | false => rfl
      | true =>
        have := ((c.bits j (d.map hj).2.1).mp hb).1
        rw [f3] at this; cases this
    · by_cases hD : Dk Z R k s
      · obtain ⟨r1, r2, r3⟩ := w.rng s hs h0
        refine .inl (isFree_iff.mpr ⟨by omega, hj, ?_⟩)
        cases hb : bit Z' j with
        | false => rfl
        | true => exact absurd e (((c.bits j (d.map hj).2.1).mp hb).2 s hs hD h0)
      · have es := c.kept s hs hD
        exact .inr ⟨s, hs, by rw [es]; exact h0, es.trans e⟩
/-- a record all of whose slots are empty -/
theorem list_ext0 {a b : List Int} {m : Nat} (ha : a.length = m) (hb : b.length = m) (h : ∀ i, i < m → a.getD i 0 = b.getD i 0) : a = b := by
  apply List.ext_getElem
  · rw [ha, hb]
  · intro i h1 h2
    have := h i (by omega)
    rw [List.getD_eq_getElem?_getD, List.getElem?_eq_getElem h1, List.getD_eq_getElem?_getD, List.getElem?_eq_getElem h2] at this; exact this
theorem roots_num {n : Nat} {Z : Nat → Txt} {R : List Int} (w : Wf n Z R) : (∀ i, i < 10 → R.getD (3 + i) 0 = ((num Z R i : Nat) : Int)) ∧ R.getD 13 0 = ((num Z R 16522 : Nat) : Int) ∧ R.getD 14 0 = ((num Z R 16523 : Nat) : Int) :=
  ⟨fun i hi => by rw [← root_dir hi]; exact root_num w (by unfold nS; omega) (by unfold par; rw [if_pos hi]), root_num w (s := 16522) (by decide) rfl, root_num w (s := 16523) (by decide) rfl⟩
/-- a record is settled by its head and the numbers of its roots -/
theorem rec_ext {n n' : Nat} {Z Z' : Nat → Txt} {R R' : List Int} (w : Wf n Z R) (w' : Wf n' Z' R') (h3 : ∀ i, i < 3 → R.getD i 0 = R'.getD i 0) (h : ∀ s, s < nS → par s = none → num Z R s = num Z' R' s) : R = R' := by
  obtain ⟨a1, a2, a3⟩ := roots_num w
  obtain ⟨b1, b2, b3⟩ := roots_num w'
  refine list_ext0 w.rl w'.rl fun i hi => ?_
  by_cases i1 : i < 3
  · exact h3 i i1
  · by_cases i2 : i < 13
    · obtain ⟨j, rfl⟩ : ∃ j, i = 3 + j := ⟨i - 3, by omega⟩
      rw [a1 j (by omega), b1 j (by omega), h j (by unfold nS; omega) (by unfold par; rw [if_pos (by omega)])]
    · by_cases i3 : i = 13
      · subst i3; rw [a2, b2, h 16522 (by decide) rfl]
      · have : i = 14 := by omega
        subst this; rw [a3, b3, h 16523 (by decide) rfl]
end Go.Proofs.YtcdpakjhjmchhaaDoor.Bm
namespace Go.Proofs.YtcdpakjhjmchhaaDoor.Bm
open Go Go.Proofs Go.Proofs.YtcdpakjhjmchhaaDoor.Wx Go.Proofs.YtcdpakjhjmchhaaDoor.Hp Go.Proofs.YtcdpakjhjmchhaaDoor.W Go.Proofs.YtcdpakjhjmchhaaDoor.Ad Go.Proofs.YtcdpakjhjmchhaaDoor.Tm Go.Proofs.YtcdpakjhjmchhaaDoor.Bt Go.Proofs.YtcdpakjhjmchhaaDoor.Spc Go.Proofs.YtcdpakjhjmchhaaDoor.Re Go.Proofs.YtcdpakjhjmchhaaDoor.Av
theorem walkA_un (g : G) : ∀ (l : List (Nat × Nat)) (T : TM) (R : List Int) (a : Int), (∀ s ∈ l, StOk s) → (walkA g l T R a).1.1.undo.length ≤ T.undo.length + 3 * l.length
  | [], T, R, a, _ => Nat.le_add_right _ _
  | s :: r, T, R, a, h => by
    have ih := fun T' R' a' => walkA_un g r T' R' a' fun x hx => h x (List.mem_cons_of_mem _ hx)
    have nx : ∀ (TR : TM × List Int) (nu er : Int), TR.1.undo.length ≤ T.undo.length + 3 → (nextM g TR nu er (walkA g r)).1.1.undo.length ≤ T.undo.length + 3 * (r.length + 1) := fun TR nu er hle => by
      unfold nextM
      split
      · show TR.1.undo.length ≤ _; omega
      · split
        · show TR.1.undo.length ≤ _; omega
        · split
          · show TR.1.undo.length ≤ _; omega
          · have := ih TR.1 TR.2 nu; omega
    rw [walkA_cons, List.length_cons]
    split
    · exact nx _ _ _ (holeM_un (h s (List.mem_cons_self ..)))
    · exact nx (T, R) _ _ (Nat.le_add_right _ _)
theorem back_un (T : TM) (m : Int) : (T.back m).1.undo.length ≤ T.undo.length := by
  unfold TM.back
  split
  · exact Nat.le_refl _
  · split
    · exact Nat.le_refl _
    · show (T.undo.take _).length ≤ _
      rw [List.length_take]; omega
theorem addM_un {T : TM} {g : G} {R : List Int} {k : Int} : (addM T g R k).1.undo.length ≤ T.undo.length + 9 := by
  unfold addM
  split
  · exact Nat.le_add_right _ _
  · rename_i hk
    have hl : (wayM k.toNat).length ≤ 3 := by
      unfold wayM
      split
      · simp
      · split <;> simp
    have := walkA_un g (wayM k.toNat) T R 0 (wayM_ok (by omega))
    split
    · have hb := back_un (walkA g (wayM k.toNat) T R 0).1.1 T.undo.length
      exact Nat.le_trans hb (by omega)
    · exact Nat.le_trans this (by omega)
theorem z15_get (i : Nat) : z15.getD i 0 = 0 := by
  unfold z15
  rw [List.getD_eq_getElem?_getD, List.getElem?_replicate]
  split <;> rfl
theorem rowN_two {f : Nat → Nat} (h0 : f 0 ≠ 0) (h1 : f 10 ≠ 0) (h : ∀ s, s < 16522 → s ≠ 0 → s ≠ 10 → f s = 0) : rowN f 0 16522 = [(0, (f 0 : Int)), (10, (f 10 : Int))] := by
  have e : rowN f 0 (1 + (9 + (1 + 16511))) = rowN f 0 1 ++ (rowN f 1 9 ++ (rowN f 10 1 ++ rowN f 11 16511)) := by
    rw [rowN_add, rowN_add, rowN_add]
  have e2 : rowN f 1 9 = [] := rowN_zero 9 1 fun j hj => h _ (by omega) (by omega) (by omega)
  have e3 : rowN f 11 16511 = [] := rowN_zero 16511 11 fun j hj => h _ (by omega) (by omega) (by omega)
  rw [show 16522 = 1 + (9 + (1 + 16511)) by rfl, e, e2, e3]
  show ((if f 0 = 0 then [] else [(((0 : Nat) : Int), (f 0 : Int))]) ++ []) ++ ([] ++ (((if f 10 = 0 then [] else [(((10 : Nat) : Int), (f 10 : Int))]) ++ []) ++ [])) = _
  rw [if_neg h0, if_neg h1]; rfl
theorem cnt_from {p : Nat → Bool} {a : Nat} (h : ∀ j, p j = decide (a ≤ j)) : ∀ m, cnt p m = m - a
  | 0 => by show 0 = _; omega
  | m + 1 => by
    show cnt p m + (if p m = true then 1 else 0) = _
    rw [cnt_from h m, h m]
    by_cases e : a ≤ m
    · rw [decide_eq_true e, if_pos rfl]; omega
    · rw [decide_eq_false e, if_neg (by simp)]; omega
theorem frees_from {n nx : Nat} {Z : Nat → Txt} (h : From_ n Z nx) : frees n Z = n - nx := by
  unfold frees
  rw [← cnt_from (p := fun j => decide (nx ≤ j)) (a := nx) (fun j => rfl) n]
  refine cnt_congr fun j hj => ?_
  rw [Bool.eq_iff_iff, h j, decide_eq_true_eq]; omega
structure KnownR (T0 T1 T2 T3 : TM) (R1 R2 : List Int) : Prop where
  a1 : addM T0 (geoN 128) z15 0 = (T1, R1, 101, 0)
  a2 : addM T1 (geoN 128) R1 10 = (T2, R2, 103, 0)
  f : findM T2 (geoN 128) R2 10 = (103, 0)
  l : allM T2 (geoN 128) R2 = ([(0, 101), (10, 103)], [102], 0)
  c : cutM T2 (geoN 128) R2 0 = (T3, z15, 0)
  n : cntTo T3 (geoN 128) (4096 * ((geoN 128).inodes - (geoN 128).bitmap)) = 27
  l1 : R1.length = 15
  l2 : R2.length = 15
  one : R2.getD 13 0 = 102
  dir : R2.getD 3 0 = 101
  v1 : T1.over = false
  v2 : T2.over = false
  rd : ∀ k : Nat, k < 128 → (T3.read k).2 = 0
theorem known_plain {Z : Nat → Txt} {T : TM} (a : Av 128 Z T) (hk : ks T = []) (hb : ∀ j, j < 128 → bit Z j = edge 128 j) : ∃ T1 T2 T3 R1 R2, KnownR T T1 T2 T3 R1 R2 := by
  have d : Dim 128 := ⟨by decide, by decide⟩
  have hdat : (geoN 128).data = 101 := rfl
  have F0 : From_ 128 Z 101 := fun j => by
    rw [isFree_iff, hdat]
    constructor
    · rintro ⟨h1, h2, _⟩; exact ⟨h1, h2⟩
    · rintro ⟨h1, h2⟩
      refine ⟨h1, h2, ?_⟩
      rw [hb j h2]
      unfold edge
      rw [hdat, decide_eq_false (by omega), decide_eq_false (by omega)]; rfl
  have n0 : ∀ s, s < nS → num Z z15 s = 0 := num_nil fun i _ _ => z15_get i
  have w0 : Wf 128 Z z15 := wf_nil rfl fun i _ _ => z15_get i
  have t0 : Tight Z z15 := tight_nil fun i _ _ => z15_get i
  have f0 : frees 128 Z = 27 := frees_from F0
  have p0 : path 0 = [0] := rfl
  have p10 : path 10 = [16522, 10] := rfl
  have k0 : (ks T).length = 0 := by rw [hk]; rfl
  -- the first block
  have m0 : miss Z z15 (path 0) = 1 := by
    rw [p0]
    show (if num Z z15 0 = 0 then 1 else 0) + 0 = 1
    rw [if_pos (n0 0 (by decide))]
  rcases add_ok (k := 0) d a w0 (by decide) with ⟨_, h⟩ | ⟨_, h⟩ | ⟨T1, R1, Z1, e1, a1, d1, _, kk1, _⟩
  · exfalso; omega
  · exfalso; omega
  obtain ⟨F1, low1⟩ := d1.low 101 F0
  rw [m0] at F1
  have l1 : num Z1 R1 0 = 101 := low1 0 (by rw [p0]; decide) (n0 0 (by decide))
  have o1 : ∀ s, s < nS → s ≠ 0 → num Z1 R1 s = 0 := fun s hs hne => by rw [d1.off s hs (by rw [p0, List.mem_singleton]; exact hne)]; exact n0 s hs
  have f1 : frees 128 Z1 = 26 := frees_from F1
  have k1 : (ks T1).length ≤ 0 + 2 := by
    have := Bm.keys_le (k := []) (l := [98, 101]) a1.keys fun x hx => by
      right
      rcases kk1 x hx with h | h | ⟨s, h, e⟩
      · rw [hk] at h; cases h
      · have := (a1.rng x hx).1
        have hi : (geoN 128).inodes = 99 := rfl
        have : x = 98 := by omega
        rw [this]; simp
      · rw [p0, List.mem_singleton] at h
        subst h
        rw [l1] at e; rw [e]; simp
    exact this
  -- the second block and its table
  have m1 : miss Z1 R1 (path 10) = 2 := by
    rw [p10]
    show (if num Z1 R1 16522 = 0 then 1 else 0) + ((if num Z1 R1 10 = 0 then 1 else 0) + 0) = 2
    rw [if_pos (o1 16522 (by decide) (by decide)), if_pos (o1 10 (by decide) (by decide))]
  rcases add_ok (k := 10) d a1 d1.w (by decide) with ⟨_, h⟩ | ⟨_, h⟩ | ⟨T2, R2, Z2, e2, a2, d2, _, kk2, _⟩
  · exfalso; omega
  · exfalso; omega
  obtain ⟨F2, low2⟩ := d2.low _ F1
  have l2 : num Z2 R2 16522 = 102 := low2 0 (by rw [p10]; decide) (o1 16522 (by decide) (by decide))
  have l3 : num Z2 R2 10 = 103 := by
    have := low2 1 (by rw [p10]; decide) (o1 10 (by decide) (by decide))
    have e : miss Z1 R1 ((path 10).take 1) = 1 := by
      show (if num Z1 R1 16522 = 0 then 1 else 0) + 0 = 1
      rw [if_pos (o1 16522 (by decide) (by decide))]
    rw [e] at this; exact this
  have o2 : ∀ s, s < nS → s ≠ 0 → s ≠ 10 → s ≠ 16522 → num Z2 R2 s = 0 := fun s hs h1 h2 h3 => by
    rw [d2.off s hs (by rw [p10]; simp only [List.mem_cons, List.not_mem_nil, or_false]; omega)]; exact o1 s hs h1
  have l4 : num Z2 R2 0 = 101 := by rw [d2.off 0 (by decide) (by rw [p10]; simp)]; exact l1
  have t1 := d1.tight (by decide) t0
  have t2 := d2.tight (by decide) t1
  have k2 : (ks T2).length ≤ (ks T1).length + 3 := by
    have := Bm.keys_le (k := ks T1) (l := [98, 102, 103]) a2.keys fun x hx => by
      rcases kk2 x hx with h | h | ⟨s, h, e⟩
      · exact .inl h
      · have := (a2.rng x hx).1
        have hi : (geoN 128).inodes = 99 := rfl
        have hx98 : x = 98 := by omega
        exact .inr (by rw [hx98]; simp)
      · rw [p10] at h
        simp only [List.mem_cons, List.not_mem_nil, or_false] at h
        rcases h with rfl | rfl
        · rw [l2] at e; exact .inr (by rw [e]; simp)
        · rw [l3] at e; exact .inr (by rw [e]; simp)
    exact this
  have f2 : frees 128 Z2 = 24 := by rw [frees_from F2, m1]
  have mn0 : many Z z15 = 0 := cnt_zero fun s hs => by rw [n0 s hs]; rfl
  have mn1 := d1.many
  have mn2 := d2.many
  rw [m0, mn0] at mn1
  rw [m1, mn1] at mn2
  rcases cut_ok (k := 0) d a2 d2.w t2 (by decide) with ⟨_, h, _⟩ | ⟨T3, R3, Z3, e3, a3, c3, _, _, _⟩
  · exfalso; omega
  have D0 : ∀ s, s < nS → Dk Z2 R2 0 s := fun s _ => ⟨fun _ => Nat.zero_le _, fun _ x _ _ h => by omega⟩
  have g3 : ∀ s, s < nS → num Z3 R3 s = 0 := fun s hs => c3.gone s hs (D0 s hs)
  have mn3 : many Z3 R3 = 0 := cnt_zero fun s hs => by rw [g3 s hs]; rfl
  have f3 := c3.frees d d2.w
  have w3 : Wf 128 Z3 z15 := wf_nil rfl fun i _ _ => z15_get i
  have eR : R3 = z15 := rec_ext c3.w w3 (fun i hi => by rw [c3.head i hi, d2.head i hi, d1.head i hi]) fun s hs _ => by rw [g3 s hs, num_nil (fun i _ _ => z15_get i) s hs]
  obtain ⟨r1, r2, r3⟩ := roots_num d2.w
  refine ⟨T1, T2, T3, R1, R2, ⟨by rw [l1] at e1; exact e1, by rw [l3] at e2; exact e2, ?_, ?_, by rw [eR] at e3; exact e3, ?_, d1.w.rl, d2.w.rl, by rw [r2, l2]; rfl, ?_, a1.live, a2.live, fun k hk => by rw [a3.z k hk]⟩⟩
  · have := find_ok a2 d2.w (k := 10) (by decide)
    rw [l3] at this; exact this
  · rw [allS_ok a2 d2.w, rowN_two (by rw [l4]; decide) (by rw [l3]; decide) fun s h1 h2 h3 => o2 s (by unfold nS; omega) h2 h3 (by omega), l4, l3]
    have z23 : num Z2 R2 16523 = 0 := o2 _ (by decide) (by decide) (by decide) (by decide)
    show (_, ((if num Z2 R2 16522 = 0 then [] else [((num Z2 R2 16522 : Nat) : Int)]) ++ []) ++ (((if num Z2 R2 16523 = 0 then [] else _) ++ []) ++ if num Z2 R2 16523 = 0 then [] else _), _) = _
    rw [if_pos z23, if_pos z23, l2]; rfl
  · rw [a3.cntZ d]; omega
  · have := r1 0 (by decide)
    rw [l4] at this; exact this
end Go.Proofs.YtcdpakjhjmchhaaDoor.Bm
namespace Go.Proofs.YtcdpakjhjmchhaaDoor.Bm
open Go Go.Proofs Go.Proofs.YtcdpakjhjmchhaaDoor.Wx Go.Proofs.YtcdpakjhjmchhaaDoor.Hp Go.Proofs.YtcdpakjhjmchhaaDoor.W Go.Proofs.YtcdpakjhjmchhaaDoor.Ad Go.Proofs.YtcdpakjhjmchhaaDoor.Tm Go.Proofs.YtcdpakjhjmchhaaDoor.Spc Go.Proofs.YtcdpakjhjmchhaaDoor.Re Go.Proofs.YtcdpakjhjmchhaaDoor.Av
open Go.Proofs.YtcdpakjhjmchhaaDoor.Hd (ints ints_get)
theorem same_spec {a b : Option Addr} {ac bc : Nat} {xs ys : List Int} {h : Heap} {K : Value → Heap → Prop} (A : SlCells h a (ints xs)) (B : SlCells h b (ints ys)) (hl : xs.length ≤ 140737488355328) (hK : K (.bool (decide (xs = ys))) h) : C.bolelaw10_same a xs.length ac b ys.length bc h K := by
  refine bolelaw10_same.ok (cn (fun y => ?_) fun y => ?_)
  · rw [decide_eq_false (fun e => y (by rw [e]))] at hK; exact hK
  have el : xs.length = ys.length := by omega
  refine ⟨fun i hh => ∃ j : Nat, i = j ∧ j ≤ xs.length ∧ hh = h ∧ xs.take j = ys.take j, fun i _ => ((xs.length : Int) - i).toNat, ⟨0, rfl, Nat.zero_le _, rfl, rfl⟩, ?_⟩
  rintro _ _ ⟨j, rfl, hj, rfl, et⟩
  refine cd (fun hlt => ?_) fun hlt => ?_
  · have h1 : j < xs.length := by omega
    have h2 : j < ys.length := by omega
    obtain ⟨p, ep, cp⟩ := ints_get A h1
    obtain ⟨q, eq, cq⟩ := ints_get B h2
    rw [Int.toNat_natCast]
    refine ⟨⟨by omega, hlt⟩, Tm.oe ep ⟨_, cp, ⟨by omega, by omega⟩, Tm.oe eq ⟨_, cq, cn (fun z => ?_) fun z => ?_⟩⟩⟩
    · rw [decide_eq_false (fun e => z (by subst e; rfl))] at hK; exact hK
    · rw [wrap_i64 (by omega) (by omega)]
      exact ⟨⟨j + 1, by omega, h1, rfl, by rw [take_snoc _ _ h1, take_snoc _ _ h2, et, z]⟩, falls hlt⟩
  · have ej : j = xs.length := by omega
    have e : xs = ys := by
      rw [List.take_of_length_le (by omega), List.take_of_length_le (by omega)] at et; exact et
    rw [decide_eq_true e] at hK; exact hK
theorem pair_at {h : Heap} {a : Option Addr} {xs : List (Int × Int)} (A : SlCells h a (xs.flatMap pcellA)) {j : Nat} (hj : j < xs.length) : ∃ p, a = some p ∧ Cells h (p.add (j * 2)) (pcellA xs[j]) := by
  have hw : ∀ r ∈ xs, (pcellA r).length = 2 := fun _ _ => rfl
  cases a with
  | none =>
    have c : xs.flatMap pcellA = [] := A
    have := flat_length pcellA 2 xs hw
    rw [c] at this
    exact absurd this (by simp; omega)
  | some p =>
    refine ⟨p, rfl, ?_⟩
    have := Cells.take (Cells.drop A (j * 2)) 2
    rw [flat_part pcellA 2 xs hw j hj] at this
    exact this
theorem pcell_eq (x y : Int × Int) : cellsEq (pcellA x) (pcellA y) = decide (x = y) := by
  obtain ⟨a, b⟩ := x
  obtain ⟨c, d⟩ := y
  show ((a == c) && ((b == d) && true)) = _
  rw [Bool.and_true, Bool.eq_iff_iff, Bool.and_eq_true, beq_iff_eq, beq_iff_eq, decide_eq_true_iff, Prod.mk.injEq]
theorem samePairs_spec {a b : Option Addr} {ac bc : Nat} {xs ys : List (Int × Int)} {h : Heap} {K : Value → Heap → Prop} (A : SlCells h a (xs.flatMap pcellA)) (B : SlCells h b (ys.flatMap pcellA)) (hl : xs.length ≤ 140737488355328) (hK : K (.bool (decide (xs = ys))) h) : C.bolelaw10_samePairs a xs.length ac b ys.length bc h K := by
  refine bolelaw10_samePairs.ok (cn (fun y => ?_) fun y => ?_)
  · rw [decide_eq_false (fun e => y (by rw [e]))] at hK; exact hK
  have el : xs.length = ys.length := by omega
  refine ⟨fun i hh => ∃ j : Nat, i = j ∧ j ≤ xs.length ∧ hh = h ∧ xs.take j = ys.take j, fun i _ => ((xs.length : Int) - i).toNat, ⟨0, rfl, Nat.zero_le _, rfl, rfl⟩, ?_⟩
  rintro _ _ ⟨j, rfl, hj, rfl, et⟩
  refine cd (fun hlt => ?_) fun hlt => ?_
  · have h1 : j < xs.length := by omega
    have h2 : j < ys.length := by omega
    obtain ⟨p, ep, cp⟩ := pair_at A h1
    obtain ⟨q, eq, cq⟩ := pair_at B h2
    rw [Int.toNat_natCast]
    refine ⟨⟨by omega, hlt⟩, Tm.oe ep ⟨_, rfl, cp, ⟨by omega, by omega⟩, Tm.oe eq ⟨_, rfl, cq, rfl, cnot ?_⟩⟩⟩
    rw [pcell_eq]
    refine cd (fun z => ?_) fun z => ?_
    · rw [wrap_i64 (by omega) (by omega)]
      exact ⟨⟨j + 1, by omega, h1, rfl, by rw [take_snoc _ _ h1, take_snoc _ _ h2, et, z]⟩, falls hlt⟩
    · rw [decide_eq_false (fun e => z (by subst e; rfl))] at hK; exact hK
  · have e : xs = ys := by
      rw [List.take_of_length_le (by omega), List.take_of_length_le (by omega)] at et; exact et
    rw [decide_eq_true e] at hK; exact hK
/-- an index out of any number -/
def idxN (v : Int) : Nat := (IntKind.wrap .u64 v % 16522).toNat
theorem idxN_lt (v : Int) : idxN v < 16522 := by
  have := u64_nat v
  unfold idxN; omega
theorem index_spec {v : Int} {h : Heap} {K : Value → Heap → Prop} (hK : K (.int .i64 (idxN v : Nat)) h) : C.bolelaw10_index v h K := by
  have u := u64_nat v
  refine bolelaw10_index.ok ?_
  unfold bolelaw10_index
  have e1 : Int.tmod (IntKind.wrap .u64 v) 16522 = IntKind.wrap .u64 v % 16522 := Int.tmod_eq_emod_of_nonneg u.1
  rw [e1, wrap_i64 (by omega) (by omega)]
  have e2 : IntKind.wrap .u64 v % 16522 = ((idxN v : Nat) : Int) := by unfold idxN; omega
  rw [e2]; exact hK
end Go.Proofs.YtcdpakjhjmchhaaDoor.Bm
namespace Go.Proofs.YtcdpakjhjmchhaaDoor.Rm
open Go Go.Proofs Go.Proofs.YtcdpakjhjmchhaaDoor.Wx Go.Proofs.YtcdpakjhjmchhaaDoor.Hp Go.Proofs.YtcdpakjhjmchhaaDoor.W Go.Proofs.YtcdpakjhjmchhaaDoor.Tm
end Go.Proofs.YtcdpakjhjmchhaaDoor.Rm
namespace Go.Proofs.YtcdpakjhjmchhaaDoor.Bm
open Go Go.Proofs Go.Proofs.YtcdpakjhjmchhaaDoor.Wx Go.Proofs.YtcdpakjhjmchhaaDoor.Hp Go.Proofs.YtcdpakjhjmchhaaDoor.W Go.Proofs.YtcdpakjhjmchhaaDoor.Ad Go.Proofs.YtcdpakjhjmchhaaDoor.Tm Go.Proofs.YtcdpakjhjmchhaaDoor.Spc Go.Proofs.YtcdpakjhjmchhaaDoor.Re Go.Proofs.YtcdpakjhjmchhaaDoor.Av Go.Proofs.YtcdpakjhjmchhaaDoor.Rm
end Go.Proofs.YtcdpakjhjmchhaaDoor.Bm
namespace Go.Proofs.YtcdpakjhjmchhaaDoor.Bm
open Go Go.Proofs Go.Proofs.YtcdpakjhjmchhaaDoor.Wx Go.Proofs.YtcdpakjhjmchhaaDoor.Hp Go.Proofs.YtcdpakjhjmchhaaDoor.W Go.Proofs.YtcdpakjhjmchhaaDoor.Ad Go.Proofs.YtcdpakjhjmchhaaDoor.Tm Go.Proofs.YtcdpakjhjmchhaaDoor.Bt Go.Proofs.YtcdpakjhjmchhaaDoor.Spc Go.Proofs.YtcdpakjhjmchhaaDoor.Re Go.Proofs.YtcdpakjhjmchhaaDoor.Av
/-- the tables' numbers -/
theorem tabN_add {f : Nat → Nat} : ∀ (a k b : Nat), tabN f k (a + b) = tabN f k a ++ tabN f (k + a) b
  | 0, k, b => by rw [Nat.zero_add]; rfl
  | a + 1, k, b => by
    rw [show a + 1 + b = (a + b) + 1 by omega]
    show (if f k = 0 then [] else _) ++ tabN f (k + 1) (a + b) = ((if f k = 0 then [] else _) ++ tabN f (k + 1) a) ++ _
    rw [tabN_add a (k + 1) b, List.append_assoc, show k + 1 + a = k + (a + 1) by omega]
theorem tabN_zero {f : Nat → Nat} : ∀ (m k : Nat), (∀ j, j < m → f (k + j) = 0) → tabN f k m = []
  | 0, _, _ => rfl
  | m + 1, k, h => by
    have h0 := h 0 (by omega)
    rw [Nat.add_zero] at h0
    show (if f k = 0 then [] else _) ++ tabN f (k + 1) m = []
    rw [if_pos h0, tabN_zero m (k + 1) fun j hj => by have := h (j + 1) (by omega); rwa [show k + (j + 1) = k + 1 + j by omega] at this]; rfl
theorem tabs_eq (Z : Nat → Txt) (R : List Int) : tabN (num Z R) 16522 1 ++ (tabN (num Z R) 16523 1 ++ if num Z R 16523 = 0 then [] else tabN (num Z R) 16524 128) = tabN (num Z R) 16522 130 := by
  rw [show 130 = 1 + (1 + 128) by rfl, tabN_add 1 16522, tabN_add 1 (16522 + 1)]
  congr 2
  split
  · rename_i h
    exact (tabN_zero 128 16524 fun j hj => sub_zero (q := 16523) (by decide) h _ (sub_two.mpr (.inr (.inr ⟨by omega, by unfold nS; omega⟩)))).symm
  · rfl
theorem tabN_le (f : Nat → Nat) : ∀ (m k : Nat), (tabN f k m).length ≤ m
  | 0, _ => Nat.le_refl _
  | m + 1, k => by
    have := tabN_le f m (k + 1)
    show ((if f k = 0 then [] else [((f k : Nat) : Int)]) ++ tabN f (k + 1) m).length ≤ _
    rw [List.length_append]
    split
    · rw [List.length_nil]; omega
    · rw [List.length_singleton]; omega
end Go.Proofs.YtcdpakjhjmchhaaDoor.Bm
namespace Go.Proofs.YtcdpakjhjmchhaaDoor.Bm
open Go Go.Proofs Go.Proofs.YtcdpakjhjmchhaaDoor.Wx Go.Proofs.YtcdpakjhjmchhaaDoor.Hp Go.Proofs.YtcdpakjhjmchhaaDoor.W Go.Proofs.YtcdpakjhjmchhaaDoor.Ad Go.Proofs.YtcdpakjhjmchhaaDoor.Tm Go.Proofs.YtcdpakjhjmchhaaDoor.Bt Go.Proofs.YtcdpakjhjmchhaaDoor.Spc Go.Proofs.YtcdpakjhjmchhaaDoor.Re Go.Proofs.YtcdpakjhjmchhaaDoor.Av
end Go.Proofs.YtcdpakjhjmchhaaDoor.Bm
namespace Go.Proofs.YtcdpakjhjmchhaaDoor.Bm
open Go Go.Proofs Go.Proofs.YtcdpakjhjmchhaaDoor.Wx Go.Proofs.YtcdpakjhjmchhaaDoor.Hp Go.Proofs.YtcdpakjhjmchhaaDoor.W Go.Proofs.YtcdpakjhjmchhaaDoor.Ad Go.Proofs.YtcdpakjhjmchhaaDoor.Tm Go.Proofs.YtcdpakjhjmchhaaDoor.Bt Go.Proofs.YtcdpakjhjmchhaaDoor.Spc Go.Proofs.YtcdpakjhjmchhaaDoor.Re Go.Proofs.YtcdpakjhjmchhaaDoor.Av Go.Proofs.YtcdpakjhjmchhaaDoor.Rm
open Go.Proofs.YtcdpakjhjmchhaaDoor.Hd (ints)
open Go.Proofs.YtcdpakjhjmchhaaDoor.In (Glo ints_length ints_one)
theorem Add_as {h : Heap} {F : Nat → Prop} {t d : Option Addr} {T T' : TM} {n : Nat} {R R' : List Int} {k v er : Int} {K : Value → Heap → Prop} (gl : Glo h) (dm : Dim n) (x : Tx h F t d T) (live : T.over = false) (hR : R.length = 15) (g0 : ∀ b, b < 1 → ¬ F b) (hu : T.undo.length < 700000000) (e : addM T (geoN n) R k = (T', R', v, er))
    (hK : ∀ h' F', Fr F h h' → Gw h F h' F' → Tx h' F' t d T' → K (.tuple #[.agg ⟨ints R'⟩, .int .i64 v, .int .i64 er]) h') : C.bmap_Add t (geoN n).v (ints R) k h K := by
  refine Add_spec gl dm x live hR g0 hu ?_
  rw [e]; exact hK
theorem Cut_as {h : Heap} {F : Nat → Prop} {t d : Option Addr} {T T' : TM} {g : G} {R R' : List Int} {k er : Int} {K : Value → Heap → Prop} (gl : Glo h) (ok : g.ok) (x : Tx h F t d T) (live : T.over = false) (hR : R.length = 15) (g0 : ∀ b, b < 1 → ¬ F b) (hu : T.undo.length < 900000000) (e : cutM T g R k = (T', R', er))
    (hK : ∀ h' F', Fr F h h' → Gw h F h' F' → Tx h' F' t d T' → K (.tuple #[.agg ⟨ints R'⟩, .int .i64 er]) h') : C.bmap_Cut t g.v (ints R) k h K := by
  refine Cut_spec gl ok x live hR g0 hu ?_
  rw [e]; exact hK
theorem Find_as {h : Heap} {F : Nat → Prop} {t d : Option Addr} {T : TM} {g : G} {R : List Int} {k v er : Int} {K : Value → Heap → Prop} (gl : Glo h) (x : Tx h F t d T) (hR : R.length = 15) (e : findM T g R k = (v, er))
    (hK : ∀ h', Fr No h h' → K (.tuple #[.int .i64 v, .int .i64 er]) h') : C.bmap_Find t g.v (ints R) k h K := by
  refine Find_spec gl x hR ?_
  rw [e]; exact hK
theorem All_as {h : Heap} {F : Nat → Prop} {t d : Option Addr} {T : TM} {g : G} {R : List Int} {P : List (Int × Int)} {M : List Int} {er : Int} {K : Value → Heap → Prop} (gl : Glo h) (x : Tx h F t d T) (hR : R.length = 15) (e : allM T g R = (P, M, er))
    (hK : ∀ P1 P2 a1 c1 a2 c2 h', Fr No h h' → Sl h' 2 a1 P.length c1 (P.flatMap pcellA) P1 → Sl h' 1 a2 M.length c2 (ints M) P2 → (∀ b, P1 b → h.size ≤ b ∧ ¬ P2 b) → (∀ b, P2 b → h.size ≤ b) →
      K (.tuple #[.slice a1 P.length c1, .slice a2 M.length c2, .int .i64 er]) h') : C.bmap_All t g.v (ints R) h K := by
  refine All_spec gl x hR ?_
  rw [e]; exact hK
theorem nOf_zero : nOf 0 = 128 := rfl
theorem known_spec {h : Heap} {K : Value → Heap → Prop} (gl : Glo h) (hK : ∀ h', Fr No h h' → K (.bool true) h') : C.bolelaw10_known h K := by
  have dm : Dim 128 := ⟨by decide, by decide⟩
  have gl1 := gl.lt
  refine bolelaw10_known.ok (begin_spec (more := 0) (ta := none) (tc := 0) (ra := none) (rc := 0) (ks := []) (rs := []) rfl rfl (fun r hr => by cases hr) (by simp) (by simp) fun t u q d F H L h2 f2 x2 y2 I hF _ => ⟨_, _, _, _, rfl, NewRow.intro rfl (G.one _) rfl fun h4 n4 => cf rfl ⟨_, rfl, cellsAll n4.rd, ?_⟩⟩)
  rw [nOf_zero] at I n4 ⊢
  have hL := I.len
  have A0 := fresh_av hL
  obtain ⟨T1, T2, T3, R1, R2, kr⟩ := known_plain A0 rfl fun j hj => by
    rw [I.bit (by decide) hj]
    unfold tkU
    rw [List.any_nil, Bool.or_false]
  have z4 := n4.size
  have Flt : ∀ b, F b → b < h2.size := fun b => x2.lt
  have x4 := x2.no n4.fr
  have F4 : Fr No h h4 := f2.new n4
  have u0 : (TM.mk (fresh (chunks L)) [] [] false).undo.length = 0 := rfl
  have u1 := addM_un (T := ⟨fresh (chunks L), [], [], false⟩) (g := geoN 128) (R := z15) (k := 0)
  have u2 := addM_un (T := T1) (g := geoN 128) (R := R1) (k := 10)
  rw [kr.a1] at u1
  rw [kr.a2] at u2
  have u1 : T1.undo.length ≤ 0 + 9 := u1
  have u2 : T2.undo.length ≤ T1.undo.length + 9 := u2
  refine Add_as (R := z15) (gl.no F4) dm x4 rfl rfl (fun b hb y => by have := hF b y; omega) (by rw [u0]; decide) kr.a1 fun h5 F5 f5 g5 x5 => ⟨_, _, _, rfl, NewRow.intro (by rw [ints_length, kr.l1]) (ints_one _) rfl fun h7 n7 => ?_⟩
  have z5 := f5.size
  have z7 := n7.size
  have k5 : ∀ b, b < h4.size → (F5 b ↔ F b) := g5.old
  have nf5 : ¬ F5 h2.size := fun y => by have := Flt _ ((k5 _ (by omega)).mp y); omega
  have o5 : ∀ b, F5 b → h.size ≤ b := fun b y => by
    rcases g5.new y with y | y
    · exact hF b y
    · have := F4.size; omega
  have F5' : Fr No h h5 := F4.trans f5 fun b hb y => by have := hF b y; omega
  have F7 : Fr No h h7 := F5'.new n7
  have rg7 : rd h7 h2.size = (geoN 128).v := (n7.at_ (by omega)).trans ((f5.rd (by omega) (fun y => by have := Flt _ y; omega)).trans n4.rd)
  refine ⟨_, rfl, cellsAll rg7, _, by rw [ints_length, kr.l1], cellsAll n7.rd, ?_⟩
  have lt5 : ∀ b, F5 b → b < h5.size := fun b => x5.lt
  refine Add_as (gl.no F7) dm (x5.no n7.fr) kr.v1 kr.l1 (fun b hb y => by have := o5 b y; omega) (by omega) kr.a2 fun h8 F8 f8 g8 x8 => ⟨_, _, _, rfl, NewRow.intro (by rw [ints_length, kr.l2]) (ints_one _) rfl fun h10 n10 => ?_⟩
  have z8 := f8.size
  have z10 := n10.size
  have o8 : ∀ b, F8 b → h.size ≤ b := fun b y => by
    rcases g8.new y with y | y
    · exact o5 b y
    · have := F7.size; omega
  have nf8 : ¬ F8 h2.size := fun y => nf5 ((g8.old _ (by omega)).mp y)
  have F8' : Fr No h h8 := F7.trans f8 fun b hb y => by have := o5 b y; omega
  have F10 : Fr No h h10 := F8'.new n10
  have rg10 : rd h10 h2.size = (geoN 128).v := (n10.at_ (by omega)).trans ((f8.rd (by omega) nf5).trans rg7)
  have lt8 : ∀ b, F8 b → b < h8.size := fun b => x8.lt
  have x10 := x8.no n10.fr
  refine ⟨_, rfl, cellsAll rg10, _, by rw [ints_length, kr.l2], cellsAll n10.rd, Find_as (gl.no F10) x10 kr.l2 kr.f fun h11 f11 => ⟨_, _, rfl, ?_⟩⟩
  have z11 := f11.size
  have rg11 : rd h11 h2.size = (geoN 128).v := (f11.rd (by omega) fun y => y).trans rg10
  have rr11 : rd h11 h8.size = ints R2 := (f11.rd (by omega) fun y => y).trans n10.rd
  refine ⟨_, rfl, cellsAll rg11, _, by rw [ints_length, kr.l2], cellsAll rr11, All_as (gl.no (F10.no f11)) (x10.no f11) kr.l2 kr.l fun P1 P2 a1 c1 a2 c2 h12 f12 s1 s2 hP1 hP2 => ⟨_, _, _, _, _, _, _, rfl, ?_⟩⟩
  have z12 := f12.size
  have rg12 : rd h12 h2.size = (geoN 128).v := (f12.rd (by omega) fun y => y).trans rg11
  have rr12 : rd h12 h8.size = ints R2 := (f12.rd (by omega) fun y => y).trans rr11
  have F12 : Fr No h h12 := (F10.no f11).no f12
  refine ⟨_, rfl, cellsAll rg12, _, by rw [ints_length, kr.l2], cellsAll rr12, Cut_as (gl.no F12) (geoN_ok (by decide)) ((x10.no f11).no f12) kr.v2 kr.l2 (fun b hb y => by have := o8 b y; omega) (by omega) kr.c fun h13 F13 f13 g13 x13 => ⟨_, _, rfl, NewRow.intro rfl (ints_one _) rfl fun h15 n15 => ?_⟩⟩
  have z13 := f13.size
  have zz15 := n15.size
  have F13' : Fr No h h13 := F12.trans f13 fun b hb y => by have := o8 b y; omega
  have rg15 : rd h15 h2.size = (geoN 128).v := (n15.at_ (by omega)).trans ((f13.rd (by omega) nf8).trans rg12)
  have rr15 : rd h15 h8.size = ints R2 := (n15.at_ (by omega)).trans ((f13.rd (by omega) fun y => by have := lt8 _ y; omega).trans rr12)
  have hino : (geoN 128).inodes = 99 := rfl
  have hbit : (geoN 128).bitmap = 98 := rfl
  refine ⟨_, rfl, cellsAll rg15, Spc.Free_spec (x13.no n15.fr) (geoN_ok (by decide)) (by decide) (fun k h1 h2 hb => absurd (kr.rd k (by omega)) hb) fun h16 f16 => ⟨_, _, rfl, ?_⟩⟩
  rw [kr.n]
  have z16 := f16.size
  have rr16 : rd h16 h8.size = ints R2 := (f16.rd (by omega) fun y => y).trans rr15
  refine num_spec ⟨_, rfl, cn (fun y => absurd rfl y) fun _ => num_spec ⟨_, rfl, cn (fun y => absurd rfl y) fun _ => num_spec ⟨_, rfl, cn (fun y => absurd rfl y) fun _ => num_spec ⟨_, rfl, cn (fun y => absurd rfl y) fun _ => num_spec ⟨_, rfl, cn (fun y => absurd rfl y) fun _ => num_spec ⟨_, rfl, cn (fun y => absurd rfl y) fun _ =>
    cn (fun y => absurd rfl y) fun _ => cn (fun y => absurd rfl y) fun _ => cn (fun y => absurd rfl y) fun _ => ?_⟩⟩⟩⟩⟩⟩
  have gi : ∀ i, i < 15 → (ints R2)[i]? = some (.int .i64 (R2.getD i 0)) := fun i hi => by
    unfold ints
    rw [List.getElem?_map, List.getD_eq_getElem?_getD, List.getElem?_eq_getElem (by rw [kr.l2]; exact hi)]; rfl
  refine ⟨102, rda rr16 ((gi 13 (by decide)).trans (by rw [kr.one])), cn (fun y => absurd rfl y) fun _ => ⟨⟨by decide, by decide⟩, 101, cell2 rr16 ((gi 3 (by decide)).trans (by rw [kr.dir])), cn (fun y => absurd rfl y) fun _ => ?_⟩⟩
  refine ⟨rfl, rfl, New.intro fun h24 n24 => ?_⟩
  have z24 := n24.size
  have q : Fr No h13 h24 := (n15.fr.no f16).new n24
  have s1' := (s1.fr f13 fun b _ hb y => by have := hP1 b hb; have := lt8 b y; omega).fr q fun _ _ _ y => y
  have s2' := (s2.fr f13 fun b _ hb y => by have := hP2 b hb; have := lt8 b y; omega).fr q fun _ _ _ y => y
  have F24 : Fr No h h24 := F13'.no q
  refine samePairs_spec (xs := [(0, 101), (10, 103)]) (ys := [(0, 101), (10, 103)]) s1'.cells (cellsAll n24.rd) (by decide) ⟨_, rfl, ct rfl (New.intro fun h26 n26 => ?_)⟩
  have z26 := n26.size
  refine same_spec (xs := [102]) (ys := [102]) (s2'.fr n26.fr fun _ _ _ y => y).cells (cellsAll n26.rd) (by decide) ⟨_, rfl, ct rfl ?_⟩
  have r15 : rd h26 h13.size = ints z15 := ((n26.at_ (by omega)).trans ((n24.at_ (by omega)).trans (f16.rd (by omega) fun y => y))).trans n15.rd
  exact ⟨ints z15, rfl, cellsAll r15, rfl, ct rfl (hK h26 (F24.new n26))⟩
end Go.Proofs.YtcdpakjhjmchhaaDoor.Bm
namespace Go.Proofs.YtcdpakjhjmchhaaDoor.Bm
open Go Go.Proofs Go.Proofs.YtcdpakjhjmchhaaDoor.Wx Go.Proofs.YtcdpakjhjmchhaaDoor.Hp Go.Proofs.YtcdpakjhjmchhaaDoor.W Go.Proofs.YtcdpakjhjmchhaaDoor.Ad Go.Proofs.YtcdpakjhjmchhaaDoor.Tm Go.Proofs.YtcdpakjhjmchhaaDoor.Bt Go.Proofs.YtcdpakjhjmchhaaDoor.Spc Go.Proofs.YtcdpakjhjmchhaaDoor.Re Go.Proofs.YtcdpakjhjmchhaaDoor.Av Go.Proofs.YtcdpakjhjmchhaaDoor.Rm
open Go.Proofs.YtcdpakjhjmchhaaDoor.Hd (ints)
open Go.Proofs.YtcdpakjhjmchhaaDoor.In (Glo ints_length ints_one)
end Go.Proofs.YtcdpakjhjmchhaaDoor.Bm
namespace Go.Proofs.YtcdpakjhjmchhaaDoor.Bm
open Go Go.Proofs Go.Proofs.YtcdpakjhjmchhaaDoor.Wx Go.Proofs.YtcdpakjhjmchhaaDoor.Hp Go.Proofs.YtcdpakjhjmchhaaDoor.W Go.Proofs.YtcdpakjhjmchhaaDoor.Ad Go.Proofs.YtcdpakjhjmchhaaDoor.Tm Go.Proofs.YtcdpakjhjmchhaaDoor.Bt Go.Proofs.YtcdpakjhjmchhaaDoor.Spc Go.Proofs.YtcdpakjhjmchhaaDoor.Re Go.Proofs.YtcdpakjhjmchhaaDoor.Av Go.Proofs.YtcdpakjhjmchhaaDoor.Rm
open Go.Proofs.YtcdpakjhjmchhaaDoor.Hd (ints)
open Go.Proofs.YtcdpakjhjmchhaaDoor.In (Glo ints_length ints_one)
theorem rowN_le (f : Nat → Nat) : ∀ (m k : Nat), (rowN f k m).length ≤ m
  | 0, _ => Nat.le_refl _
  | m + 1, k => by
    have := rowN_le f m (k + 1)
    show ((if f k = 0 then [] else [(((k : Nat) : Int), ((f k : Nat) : Int))]) ++ rowN f (k + 1) m).length ≤ _
    rw [List.length_append]
    split
    · rw [List.length_nil]; omega
    · rw [List.length_singleton]; omega
end Go.Proofs.YtcdpakjhjmchhaaDoor.Bm
namespace Go.Proofs.YtcdpakjhjmchhaaDoor.Rz
open Go Go.Proofs Go.Proofs.YtcdpakjhjmchhaaDoor.Wx Go.Proofs.YtcdpakjhjmchhaaDoor.Hp
/-- a slice -/
structure Sc where
  a : Option Addr
  l : Nat
  c : Nat
def Sc.v (s : Sc) : Value := .slice s.a s.l s.c
theorem oe {α : Type} {a : Option α} {p : α} {k : α → Prop} (e : a = some p) (h : k p) : onSome a k := by rw [e]; exact h
theorem Sl.keep' {h h' : Heap} {ec l c k : Nat} {a : Option Addr} {xs : List Value} {F : Nat → Prop} {col col' : Nat → Nat} (s : Sl h ec a l c xs (On col k)) (f : Fr F h h') (g : Ag h.size col col') (hF : ∀ b, b < h.size → col b = k → ¬ F b) : Sl h' ec a l c xs (On col' k) := by
  have s' := Hp.Sl.fr f s (fun b hb hk => hF b hb hk)
  obtain ⟨h1, h2⟩ := s'
  refine ⟨h1, ?_⟩
  cases a with
  | none => exact h2
  | some p => obtain ⟨a1, a2, a3, a4⟩ := h2; exact ⟨a1, (g _ s.lt).trans a2, a3, a4⟩
/-- append, where the old row stays readable -/
theorem append_both {elem : TI} {e : Nat} {a : Option Addr} {l c n : Nat} {xs new : List Value} {h : Heap} {F : Nat → Prop} {k : Option Addr → Nat → Nat → Heap → Prop}
    (s : Sl h elem.cells a l c xs F) (hn : new.length = n * elem.cells) (hz : elem.zero.length = elem.cells) (hb : (l + n) * elem.bytes ≤ 140737488355328) (hb' : l + n ≤ 140737488355328)
    (hk : ∀ a' c' h', Fr F h h' → Sl h' elem.cells a' (l + n) c' (xs ++ new) (fun b => F b ∨ h.size ≤ b) → Sl h' elem.cells a l c xs F → k a' (l + n) c' h') :
    AppendP elem e a l c n new h k := by
  refine ⟨xs, s.1, s.cells, hb, hb', fun hc => ?_, fun hc cap hcap => ?_⟩
  · have s0 := s
    obtain ⟨h1, h2⟩ := s
    cases a with
    | none =>
      obtain ⟨rfl, rfl⟩ := h2
      have : n = 0 := by omega
      subst this
      rw [Nat.zero_mul] at hn h1
      have e1 := List.length_eq_zero_iff.mp hn
      have e2 := List.length_eq_zero_iff.mp h1
      subst e1; subst e2
      exact ⟨by simp [WrS], hk none 0 _ (Fr.refl _ _) (Sl.nil _ _ _) (Sl.nil _ _ _)⟩
    | some p =>
      obtain ⟨b, o, sp⟩ := p
      obtain ⟨a1, a2, a3, a4, a5, a6⟩ := h2
      have a1 : sp = none := a1
      subst a1
      simp only at a2 a3 a5 a6
      have hm : (l + n) * elem.cells ≤ c * elem.cells := Nat.mul_le_mul_right _ hc
      rw [Nat.add_mul] at hm
      have big : Sl (setS h (some ⟨b, o, none⟩) (l * elem.cells) new) elem.cells (some ⟨b, o, none⟩) (l + n) c (xs ++ new) F := by
        simp only [setS, add_mk]
        refine ⟨by rw [List.length_append, h1, hn, Nat.add_mul], rfl, a2, own_setRow a3, hc, ?_, ?_⟩
        · simp only [rd_setRow_at, Nat.add_zero, List.length_append, ← h1] at a5 ⊢
          rw [take_put _ _ _ _ (by rw [h1]; omega), a5]
        · simp only [rd_setRow_at, put_length]; exact a6
      refine ⟨?_, hk (some ⟨b, o, none⟩) c _ ?_ (big.mono fun b hb => Or.inl hb) ?_⟩
      · simp only [WrS, add_mk]; exact wrN_rd a3 (by omega)
      · simp only [setS, add_mk]; exact (Fr.refl F h).setRow (Or.inl a2)
      · obtain ⟨b1, c1, c2, c3, c4, c5, c6⟩ := big
        refine ⟨h1, c1, c2, c3, a4, ?_, c6⟩
        rw [List.length_append] at c5
        have := congrArg (List.take xs.length) c5
        rw [List.take_take, Nat.min_eq_left (by omega), List.take_left] at this
        exact this
  · have hf : Fr F h (newO h (xs ++ new ++ repCells elem.zero (cap - (l + n))) e) := fr_newO _ _
    refine hk _ _ _ hf (Sl.new h elem.cells e (l + n) cap (xs ++ new) _ _ (Or.inr (Nat.le_refl _)) (by rw [List.length_append, s.1, hn, Nat.add_mul]) hcap ?_) (Hp.Sl.fr (fr_newO (F := No) _ _) s fun _ _ _ x => x)
    rw [length_repCells, hz]
/-- what is read and never written again -/
def Fz (h : Heap) (col : Nat → Nat) (a : Option Addr) (xs : List Value) : Prop := SlCells h a xs ∧ ∀ p, a = some p → p.block < h.size ∧ col p.block = 0
theorem Fz.keep {h h' : Heap} {col col' : Nat → Nat} {a : Option Addr} {xs : List Value} {F : Nat → Prop} (z : Fz h col a xs) (f : Fr F h h') (g : Ag h.size col col') (hF : ∀ b, b < h.size → col b = 0 → ¬ F b) : Fz h' col' a xs :=
  ⟨SlCells.fr f z.1 fun p e => hF _ (z.2 p e).1 (z.2 p e).2, fun p e => ⟨Nat.lt_of_lt_of_le (z.2 p e).1 f.size, (g _ (z.2 p e).1).trans (z.2 p e).2⟩⟩
theorem Fz.of {h : Heap} {col : Nat → Nat} {ec l c : Nat} {a : Option Addr} {xs : List Value} {F : Nat → Prop} (s : Sl h ec a l c xs F) (hF : ∀ b, b < h.size → F b → col b = 0) : Fz h col a xs :=
  ⟨s.cells, fun p e => by subst e; exact ⟨s.lt, hF _ s.lt s.2.2.1⟩⟩
variable {h0 hh h' : Heap} {col : Nat → Nat}
end Go.Proofs.YtcdpakjhjmchhaaDoor.Rz
namespace Go.Proofs.YtcdpakjhjmchhaaDoor.Rz
open Go Go.Proofs Go.Proofs.YtcdpakjhjmchhaaDoor.Wx Go.Proofs.YtcdpakjhjmchhaaDoor.Hp
/-- a row (of colour k) of slices, the i-th of them of colour m + i, with what they hold -/
structure Rx (h : Heap) (col : Nat → Nat) (k m w : Nat) (a : Option Addr) (c : Nat) (ss : List Sc) (vs : List (List Value)) : Prop where
  row : Sl h 1 a ss.length c (ss.map Sc.v) (On col k)
  len : ss.length = vs.length
  at_ : ∀ i (h1 : i < ss.length) (h2 : i < vs.length), Sl h w ss[i].a ss[i].l ss[i].c vs[i] (On col (m + i))
variable {h hh h' : Heap} {col col' : Nat → Nat} {k m w c c' : Nat} {a a' : Option Addr} {ss qs : List Sc} {vs : List (List Value)}
theorem Rx.nil (h : Heap) (col : Nat → Nat) (k m w : Nat) : Rx h col k m w none 0 [] [] := ⟨Sl.nil _ _ _, rfl, fun i h1 => absurd h1 (Nat.not_lt_zero _)⟩
theorem Rx.keep {F : Nat → Prop} (r : Rx h col k m w a c ss vs) (f : Fr F h h') (g : Ag h.size col col') (hF : ∀ b, b < h.size → (col b = k ∨ (m ≤ col b ∧ col b < m + ss.length)) → ¬ F b) : Rx h' col' k m w a c ss vs :=
  ⟨Sl.keep' r.row f g fun b hb hc => hF b hb (Or.inl hc), r.len, fun i h1 h2 => Sl.keep' (r.at_ i h1 h2) f g fun b hb hc => hF b hb (Or.inr (by omega))⟩
theorem Rx.cell (r : Rx h col k m w a c ss vs) {i : Nat} (hi : i < ss.length) : ∃ p, a = some p ∧ cellOf h (p.add i) = some (.slice ss[i].a ss[i].l ss[i].c) := by
  obtain ⟨p, e, cc⟩ := r.row.get (by omega)
  exact ⟨p, e, Cells.cell cc (by rw [List.getElem?_map, List.getElem?_eq_getElem hi]; rfl)⟩
theorem Rx.push {x : Sc} {xv : List Value} (r : Rx h col k m w a c ss vs) (hk : k < m ∨ m + ss.length + 1 ≤ k) (f : Fr (On col k) h h')
    (s : Sl h' 1 a' (ss.length + 1) c' (ss.map Sc.v ++ [x.v]) (On (upd col h.size k) k)) (it : Sl h w x.a x.l x.c xv (On col (m + ss.length))) :
    Rx h' (upd col h.size k) k m w a' c' (ss ++ [x]) (vs ++ [xv]) := by
  have g : Ag h.size col (upd col h.size k) := ag_upd _ _ _
  have hlen := r.len
  refine ⟨by rw [List.map_append, List.length_append]; exact s, by rw [List.length_append, List.length_append, r.len]; rfl, fun i h1 h2 => ?_⟩
  rw [List.length_append, List.length_singleton] at h1 h2
  by_cases hi : i < ss.length
  · have hi2 : i < vs.length := by rw [← r.len]; exact hi
    rw [List.getElem_append_left hi, List.getElem_append_left hi2]
    exact Sl.keep' (r.at_ i hi hi2) f g fun b _ hb hF => by have hF : col b = k := hF; omega
  · have e : i = ss.length := by omega
    subst e
    rw [List.getElem_append_right (Nat.le_refl _)]
    simp only [List.getElem_append_right (show vs.length ≤ ss.length by omega), List.getElem_singleton]
    exact Sl.keep' it f g fun b _ hb hF => by have hF : col b = k := hF; omega
theorem Rx.write (r : Rx h col k m w a c ss vs) {i : Nat} (hi : i < ss.length) {ys : List Value} (hk : k < m ∨ m + ss.length ≤ k) (f : Fr (On col (m + i)) h h')
    (s : Sl h' w ss[i].a ss[i].l ss[i].c ys (On col (m + i))) : Rx h' col k m w a c ss (vs.set i ys) := by
  refine ⟨Sl.keep' r.row f (Ag.refl _ _) fun b _ hb hF => by have hF : col b = m + i := hF; omega, by rw [List.length_set]; exact r.len, fun j h1 h2 => ?_⟩
  rw [List.length_set] at h2
  by_cases e : i = j
  · subst e
    rw [List.getElem_set_self]; exact s
  · rw [List.getElem_set_ne e]
    exact Sl.keep' (r.at_ j h1 h2) f (Ag.refl _ _) fun b _ hb hF => by have hF : col b = m + i := hF; omega
theorem Rx.app {i : Nat} (r : Rx hh col k m w a c qs vs) (hi : i < qs.length) (hv : i < vs.length) (hk : k < m ∨ m + qs.length ≤ k) (f : Fr (On col (m + i)) hh h')
    (s : Sl h' w qs[i].a qs[i].l qs[i].c vs[i] (On col (m + i))) : Rx h' (upd col hh.size (m + i)) k m w a c qs vs := by
  have g : Ag hh.size col (upd col hh.size (m + i)) := ag_upd _ _ _
  refine ⟨Sl.keep' r.row f g fun b _ hb hF => by have hF : col b = m + i := hF; omega, r.len, fun j h1 h2 => ?_⟩
  by_cases e : i = j
  · subst e
    refine s.mono fun b hb => ?_
    have hb : col b = m + i := hb
    show upd col hh.size (m + i) b = m + i
    unfold upd
    split
    · exact hb
    · rfl
  · exact Sl.keep' (r.at_ j h1 h2) f g fun b _ hb hF => by have hF : col b = m + i := hF; omega
/-- lists (a row of colour k, the lists of colours m ..), and lists with more behind each (a row of colour k2) -/
structure Fam where
  A : Option Addr
  C : Nat
  ls : List Sc
  ws : List (List Value)
  gA : Option Addr
  gC : Nat
  gs : List Sc
  gv : List (List Value)
structure Fam.At (k k2 m w : Nat) (h : Heap) (col : Nat → Nat) (d : Fam) : Prop where
  lists : Rx h col k m w d.A d.C d.ls d.ws
  longs : Rx h col k2 m w d.gA d.gC d.gs d.gv
  l3 : d.ls.length ≤ 3
  g3 : d.gs.length ≤ 3
variable {k2 : Nat} {d : Fam}
/-- no colour of a family -/
def Fam.Off (k k2 m : Nat) (x : Nat) : Prop := x ≠ k ∧ x ≠ k2 ∧ (x < m ∨ m + 3 ≤ x)
theorem Fam.At.keep {F : Nat → Prop} (s : d.At k k2 m w h col) (f : Fr F h h') (g : Ag h.size col col') (hF : ∀ b, b < h.size → F b → Fam.Off k k2 m (col b)) : d.At k k2 m w h' col' := by
  have l3 := s.l3
  have g3 := s.g3
  exact ⟨s.lists.keep f g fun b hb hc hf => by obtain ⟨o1, o2, o3⟩ := hF b hb hf; omega, s.longs.keep f g fun b hb hc hf => by obtain ⟨o1, o2, o3⟩ := hF b hb hf; omega, l3, g3⟩
theorem Fam.At.quiet (s : d.At k k2 m w h col) (f : Fr No h h') : d.At k k2 m w h' (upd col h.size 0) := s.keep f (ag_upd _ _ _) fun _ _ x => x.elim
/-- colours of a family -/
structure Fam.Cols (k k2 m : Nat) : Prop where
  a : k < m
  b : k2 < m
  ne : k ≠ k2
  k0 : 0 < k
  k20 : 0 < k2
theorem Fam.At.write (s : d.At k k2 m w hh col) (z : Fam.Cols k k2 m) (hg : d.gs = []) {i : Nat} (hi : i < d.ls.length) {ys : List Value} (f : Fr (On col (m + i)) hh h') (q : Sl h' w d.ls[i].a d.ls[i].l d.ls[i].c ys (On col (m + i))) :
    ({ d with ws := d.ws.set i ys } : Fam).At k k2 m w h' col := by
  have l3 := s.l3
  have z1 := z.b
  exact ⟨s.lists.write hi (Or.inl z.a) f q, s.longs.keep f (Ag.refl _ _) fun b _ h1 h2 => (by have h2 : col b = m + i := h2; rw [hg, List.length_nil] at h1; omega), l3, s.g3⟩
theorem Fam.At.app (s : d.At k k2 m w hh col) (z : Fam.Cols k k2 m) {i : Nat} (hi : i < d.ls.length) (hv : i < d.ws.length) (hgi : d.gs.length ≤ i) (f : Fr (On col (m + i)) hh h') (q : Sl h' w d.ls[i].a d.ls[i].l d.ls[i].c d.ws[i] (On col (m + i))) :
    d.At k k2 m w h' (upd col hh.size (m + i)) := by
  have z1 := z.b
  exact ⟨Rx.app s.lists hi hv (Or.inl z.a) f q, s.longs.keep f (ag_upd _ _ _) fun b _ h1 h2 => (by have h2 : col b = m + i := h2; omega), s.l3, s.g3⟩
theorem Fam.At.gpush (s : d.At k k2 m w hh col) (z : Fam.Cols k k2 m) (hl : d.gs.length < 3) {x : Sc} {xv : List Value} (f : Fr (On col k2) hh h') (r : Sl h' 1 a' (d.gs.length + 1) c' (d.gs.map Sc.v ++ [x.v]) (On (upd col hh.size k2) k2)) (it : Sl hh w x.a x.l x.c xv (On col (m + d.gs.length))) :
    ({ d with gA := a', gC := c', gs := d.gs ++ [x], gv := d.gv ++ [xv] } : Fam).At k k2 m w h' (upd col hh.size k2) := by
  have z1 := z.b
  have z2 := z.ne
  have z3 := z.a
  have l3 := s.l3
  exact ⟨s.lists.keep f (ag_upd _ _ _) fun b _ h1 h2 => (by have h2 : col b = k2 := h2; omega), Rx.push s.longs (Or.inl z1) f r it, l3, by show (d.gs ++ [x]).length ≤ 3; rw [List.length_append, List.length_singleton]; omega⟩
theorem Fam.At.lpush (s : d.At k k2 m w hh col) (z : Fam.Cols k k2 m) (hg : d.gs = []) (hl : d.ls.length < 3) {x : Sc} {xv : List Value} (f : Fr (On col k) hh h') (r : Sl h' 1 a' (d.ls.length + 1) c' (d.ls.map Sc.v ++ [x.v]) (On (upd col hh.size k) k)) (it : Sl hh w x.a x.l x.c xv (On col (m + d.ls.length))) :
    ({ d with A := a', C := c', ls := d.ls ++ [x], ws := d.ws ++ [xv] } : Fam).At k k2 m w h' (upd col hh.size k) := by
  have z2 := z.ne
  have z3 := z.a
  exact ⟨Rx.push s.lists (Or.inl z3) f r it, s.longs.keep f (ag_upd _ _ _) fun b _ h1 h2 => (by have h2 : col b = k := h2; rw [hg, List.length_nil] at h1; omega), by show (d.ls ++ [x]).length ≤ 3; rw [List.length_append, List.length_singleton]; omega, s.g3⟩
def Kept (B : Heap → (Nat → Nat) → Prop) : Prop := ∀ (h h' : Heap) (col col' : Nat → Nat) (G : Nat → Prop), B h col → Fr G h h' → Ag h.size col col' → (∀ b, b < h.size → G b → col b ≠ 0) → B h' col'
theorem Kept.and {B B' : Heap → (Nat → Nat) → Prop} (x : Kept B) (y : Kept B') : Kept fun h col => B h col ∧ B' h col := fun h h' col col' G b f g hG => ⟨x h h' col col' G b.1 f g hG, y h h' col col' G b.2 f g hG⟩
theorem Kept.fz (a : Option Addr) (xs : List Value) : Kept fun h col => Fz h col a xs := fun _ _ _ _ _ b f g hG => b.keep f g fun x hx e y => hG x hx y e
def kA : Bool → Nat | false => 1 | true => 2
def kG : Bool → Nat | false => 4 | true => 5
def kM : Bool → Nat | false => 10 | true => 20
def kW : Bool → Nat | false => 2 | true => 1
theorem cols : ∀ b, Fam.Cols (kA b) (kG b) (kM b)
  | false => ⟨by decide, by decide, by decide, by decide, by decide⟩
  | true => ⟨by decide, by decide, by decide, by decide, by decide⟩
theorem off (b : Bool) {x : Nat} (h : x = 0 ∨ x = kA (!b) ∨ x = kG (!b) ∨ (kM (!b) ≤ x ∧ x < kM (!b) + 3)) : Fam.Off (kA b) (kG b) (kM b) x := by
  unfold Fam.Off
  cases b <;> simp only [kA, kG, kM, Bool.not_true, Bool.not_false] at h ⊢ <;> omega
def upB {α : Type} (f : Bool → α) (b : Bool) (y : α) : Bool → α := fun x => if x = b then y else f x
theorem upB_at {α : Type} (f : Bool → α) (b : Bool) (y : α) : upB f b y b = y := if_pos rfl
theorem upB_ne {α : Type} (f : Bool → α) {b x : Bool} (y : α) (h : x ≠ b) : upB f b y x = f x := if_neg h
structure Ow (B : Heap → (Nat → Nat) → Prop) (d : Bool → Fam) (pd : Bool → Option (Sc × List Value)) (h : Heap) (col : Nat → Nat) : Prop where
  base : B h col
  fam : ∀ b, (d b).At (kA b) (kG b) (kM b) (kW b) h col
  pend : ∀ b x v, pd b = some (x, v) → (d b).gs.length < 3 ∧ Sl h (kW b) x.a x.l x.c v (On col (kM b + (d b).gs.length))
variable {B B' : Heap → (Nat → Nat) → Prop} {D : Bool → Fam} {pd : Bool → Option (Sc × List Value)}
theorem Ow.mono (s : Ow B D pd h col) (hB : B h col → B' h col) : Ow B' D pd h col := ⟨hB s.base, s.fam, s.pend⟩
theorem Ow.quiet (kB : Kept B) (s : Ow B D pd h col) (f : Fr No h h') : Ow B D pd h' (upd col h.size 0) :=
  ⟨kB _ _ _ _ _ s.base f (ag_upd _ _ _) fun _ _ y => y.elim, fun b => (s.fam b).quiet f, fun b x v e => ⟨(s.pend b x v e).1, Sl.keep' (s.pend b x v e).2 f (ag_upd _ _ _) fun _ _ _ y => y⟩⟩
theorem Ow.calm (kB : Kept B) (s : Ow B D pd h col) (f : Fr No h h') (g : Ag h.size col col') : Ow B D pd h' col' :=
  ⟨kB _ _ _ _ _ s.base f g fun _ _ y => y.elim, fun b => (s.fam b).keep f g fun _ _ y => y.elim, fun b x v e => ⟨(s.pend b x v e).1, Sl.keep' (s.pend b x v e).2 f g fun _ _ _ y => y⟩⟩
theorem Ow.new (kB : Kept B) (s : Ow B D pd h col) {cs : List Value} (n : Newly h h' cs) : Ow (fun h2 col2 => B h2 col2 ∧ Fz h2 col2 (some ⟨h.size, 0, none⟩) cs) D pd h' (upd col h.size 0) :=
  ⟨⟨(s.quiet kB n.fr).base, cellsAll n.rd, fun p e => by cases e; exact ⟨by rw [n.size]; exact Nat.lt_succ_self _, upd_ge (Nat.le_refl _)⟩⟩, (s.quiet kB n.fr).fam, (s.quiet kB n.fr).pend⟩
/-- list i is appended to -/
theorem Ow.pick (b : Bool) (kB : Kept B) (s : Ow B D pd h col) {i : Nat} (ei : i = (D b).gs.length) (hi : i < (D b).ls.length) (hv : i < (D b).ws.length) {elem : TI} {e : Nat} {new : List Value} {K : Option Addr → Nat → Nat → Heap → Prop} (hc : elem.cells = kW b) (hn : new.length = elem.cells) (hz : elem.zero.length = elem.cells) (hb : ((D b).ls[i].l + 1) * elem.bytes ≤ 140737488355328) (hb' : (D b).ls[i].l + 1 ≤ 140737488355328)
    (hK : ∀ a' c' h' col', Ow B D (upB pd b (some (⟨a', (D b).ls[i].l + 1, c'⟩, (D b).ws[i] ++ new))) h' col' → K a' ((D b).ls[i].l + 1) c' h') : AppendP elem e (D b).ls[i].a (D b).ls[i].l (D b).ls[i].c 1 new h K := by
  have it := (s.fam b).lists.at_ i hi hv
  rw [← hc] at it
  have l3 := (s.fam b).l3
  have z := cols b
  have z1 := z.a
  have z2 := z.b
  refine append_both it (by rw [hn, Nat.one_mul]) hz hb hb' fun a' c' h' f n o => ?_
  rw [hc] at n o
  have g : Ag h.size col (upd col h.size (kM b + i)) := ag_upd _ _ _
  have od : ∀ x, x < h.size → On col (kM b + i) x → Fam.Off (kA (!b)) (kG (!b)) (kM (!b)) (col x) := fun x _ y => off _ (by rw [Bool.not_not]; have y : col x = kM b + i := y; omega)
  have nb : ∀ x, x ≠ b → x = !b := fun x => by cases x <;> cases b <;> simp
  refine hK a' c' h' (upd col h.size (kM b + i)) ⟨kB _ _ _ _ _ s.base f g fun x _ y => (by have y : col x = kM b + i := y; have := z.k0; omega), fun x => ?_, fun x y v ex => ?_⟩
  · by_cases hx : x = b
    · subst hx; exact (s.fam x).app z hi hv (by omega) f o
    · rw [nb x hx]; exact (s.fam (!b)).keep f g od
  · by_cases hx : x = b
    · subst hx
      rw [upB_at] at ex
      cases ex
      refine ⟨by omega, n.mono fun y hy => ?_⟩
      rw [← ei]
      show upd col h.size (kM x + i) y = kM x + i
      rcases hy with hy | hy
      · have hy : col y = kM x + i := hy
        unfold upd
        split
        · exact hy
        · rfl
      · exact upd_ge hy
    · rw [upB_ne _ _ hx] at ex
      obtain ⟨p1, p2⟩ := s.pend x y v ex
      refine ⟨p1, Sl.keep' p2 f g fun t _ ht hF => ?_⟩
      have hF : col t = kM b + i := hF
      rw [nb x hx] at ht p1
      rw [ht] at hF
      cases b <;> simp only [kM, Bool.not_true, Bool.not_false] at hF ht p1 <;> omega
/-- what was appended to goes behind its row -/
theorem Ow.gpush (b : Bool) (kB : Kept B) (s : Ow B D pd h col) {x : Sc} {v : List Value} (ep : pd b = some (x, v)) {elem : TI} {e : Nat} {K : Option Addr → Nat → Nat → Heap → Prop} (hc : elem.cells = 1) (hz : elem.zero.length = 1) (hbt : elem.bytes ≤ 1000)
    (hK : ∀ a' c' h' col', Ow B (upB D b { D b with gA := a', gC := c', gs := (D b).gs ++ [x], gv := (D b).gv ++ [v] }) (upB pd b none) h' col' → K a' ((D b).gs.length + 1) c' h') : AppendP elem e (D b).gA (D b).gs.length (D b).gC 1 [x.v] h K := by
  obtain ⟨p1, p2⟩ := s.pend b x v ep
  have row := (s.fam b).longs.row
  have z := cols b
  have z1 := z.a
  have z2 := z.b
  have hm : ((D b).gs.length + 1) * elem.bytes ≤ 3 * 1000 := Nat.mul_le_mul (by omega) hbt
  refine append_col (elem := elem) (k := kG b) (by rw [hc]; exact row) (by rw [hc]; rfl) (by rw [hz, hc]) (by omega) (by omega) fun a' c' h' f n => ?_
  rw [hc] at n
  have g : Ag h.size col (upd col h.size (kG b)) := ag_upd _ _ _
  have nb : ∀ x, x ≠ b → x = !b := fun x => by cases x <;> cases b <;> simp
  have od : ∀ y, y < h.size → On col (kG b) y → Fam.Off (kA (!b)) (kG (!b)) (kM (!b)) (col y) := fun y _ hy => off _ (by rw [Bool.not_not]; exact .inr (.inr (.inl hy)))
  refine hK a' c' h' (upd col h.size (kG b)) ⟨kB _ _ _ _ _ s.base f g fun y _ hy => (by have hy : col y = kG b := hy; have := z.k20; omega), fun y => ?_, fun y u w eu => ?_⟩
  · by_cases hy : y = b
    · subst hy; rw [upB_at]; exact (s.fam y).gpush z p1 f n p2
    · rw [upB_ne _ _ hy, nb y hy]; exact (s.fam (!b)).keep f g od
  · by_cases hy : y = b
    · subst hy; rw [upB_at] at eu; cases eu
    · rw [upB_ne _ _ hy] at eu
      obtain ⟨q1, q2⟩ := s.pend y u w eu
      rw [upB_ne _ _ hy]
      refine ⟨q1, Sl.keep' q2 f g fun t _ ht hF => ?_⟩
      have hF : col t = kG b := hF
      rw [nb y hy] at ht q1
      rw [ht] at hF
      cases b <;> simp only [kM, kG, Bool.not_true, Bool.not_false] at hF q1 <;> omega
/-- a list goes behind its row -/
theorem Ow.lpush (b : Bool) (kB : Kept B) (s : Ow B D (fun _ => none) h col) (hg : (D b).gs = []) (hl : (D b).ls.length < 3) {x : Sc} {v : List Value} (it : Sl h (kW b) x.a x.l x.c v (On col (kM b + (D b).ls.length))) {elem : TI} {e : Nat} {K : Option Addr → Nat → Nat → Heap → Prop} (hc : elem.cells = 1) (hz : elem.zero.length = 1) (hbt : elem.bytes ≤ 1000)
    (hK : ∀ a' c' h' col', Ow B (upB D b { D b with A := a', C := c', ls := (D b).ls ++ [x], ws := (D b).ws ++ [v] }) (fun _ => none) h' col' → (Ag h.size col col' ∧ Fr (On col (kA b)) h h') → K a' ((D b).ls.length + 1) c' h') : AppendP elem e (D b).A (D b).ls.length (D b).C 1 [x.v] h K := by
  have row := (s.fam b).lists.row
  have z := cols b
  have z1 := z.a
  have hm : ((D b).ls.length + 1) * elem.bytes ≤ 3 * 1000 := Nat.mul_le_mul (by omega) hbt
  refine append_col (elem := elem) (k := kA b) (by rw [hc]; exact row) (by rw [hc]; rfl) (by rw [hz, hc]) (by omega) (by omega) fun a' c' h' f n => ?_
  rw [hc] at n
  have g : Ag h.size col (upd col h.size (kA b)) := ag_upd _ _ _
  have nb : ∀ x, x ≠ b → x = !b := fun x => by cases x <;> cases b <;> simp
  have od : ∀ y, y < h.size → On col (kA b) y → Fam.Off (kA (!b)) (kG (!b)) (kM (!b)) (col y) := fun y _ hy => off _ (by rw [Bool.not_not]; exact .inr (.inl hy))
  refine hK a' c' h' (upd col h.size (kA b)) ⟨kB _ _ _ _ _ s.base f g fun y _ hy => (by have hy : col y = kA b := hy; have := z.k0; omega), fun y => ?_, fun y u w eu => (by cases eu)⟩ ⟨g, f⟩
  by_cases hy : y = b
  · subst hy; rw [upB_at]; exact (s.fam y).lpush z hg hl f n it
  · rw [upB_ne _ _ hy, nb y hy]; exact (s.fam (!b)).keep f g od
/-- list i is written -/
theorem Ow.write (b : Bool) (kB : Kept B) (s : Ow B D (fun _ => none) h col) (hg : (D b).gs = []) {i : Nat} (hi : i < (D b).ls.length) {ys : List Value} (f : Fr (On col (kM b + i)) h h') (q : Sl h' (kW b) (D b).ls[i].a (D b).ls[i].l (D b).ls[i].c ys (On col (kM b + i))) :
    Ow B (upB D b { D b with ws := (D b).ws.set i ys }) (fun _ => none) h' col := by
  have z := cols b
  have z1 := z.a
  have l3 := (s.fam b).l3
  have nb : ∀ x, x ≠ b → x = !b := fun x => by cases x <;> cases b <;> simp
  have od : ∀ y, y < h.size → On col (kM b + i) y → Fam.Off (kA (!b)) (kG (!b)) (kM (!b)) (col y) := fun y _ hy => off _ (by rw [Bool.not_not]; have hy : col y = kM b + i := hy; omega)
  refine ⟨kB _ _ _ _ _ s.base f (Ag.refl _ _) fun y _ hy => (by have hy : col y = kM b + i := hy; have := z.k0; omega), fun y => ?_, fun y u w eu => (by cases eu)⟩
  by_cases hy : y = b
  · subst hy; rw [upB_at]; exact (s.fam y).write z hg hi f q
  · rw [upB_ne _ _ hy, nb y hy]; exact (s.fam (!b)).keep f (Ag.refl _ _) od
/-- a row, written up to j -/
def mixed {α : Type} (f : Nat → α) (xs : List α) (j : Nat) : List α := (List.range j).map f ++ xs.drop j
theorem mixed_zero {α : Type} (f : Nat → α) (xs : List α) : mixed f xs 0 = xs := rfl
theorem mixed_all {α : Type} (f : Nat → α) (xs : List α) : mixed f xs xs.length = (List.range xs.length).map f := by unfold mixed; rw [List.drop_length, List.append_nil]
theorem mixed_len {α : Type} (f : Nat → α) (xs : List α) {j : Nat} (h : j ≤ xs.length) : (mixed f xs j).length = xs.length := by unfold mixed; rw [List.length_append, List.length_map, List.length_range, List.length_drop]; omega
theorem mixed_set {α : Type} (f : Nat → α) (xs : List α) {j : Nat} (h : j < xs.length) : (mixed f xs j).set j (f j) = mixed f xs (j + 1) := by
  unfold mixed
  rw [List.set_append_right _ _ (by rw [List.length_map, List.length_range]; exact Nat.le_refl _), List.length_map, List.length_range, Nat.sub_self, List.drop_eq_getElem_cons h, List.set_cons_zero, List.range_succ, List.map_append, List.append_assoc]; rfl
end Go.Proofs.YtcdpakjhjmchhaaDoor.Rz
namespace Go.Proofs.YtcdpakjhjmchhaaDoor.Bm
open Go Go.Proofs Go.Proofs.YtcdpakjhjmchhaaDoor.Wx Go.Proofs.YtcdpakjhjmchhaaDoor.Hp Go.Proofs.YtcdpakjhjmchhaaDoor.W Go.Proofs.YtcdpakjhjmchhaaDoor.Ad Go.Proofs.YtcdpakjhjmchhaaDoor.Tm Go.Proofs.YtcdpakjhjmchhaaDoor.Bt Go.Proofs.YtcdpakjhjmchhaaDoor.Spc Go.Proofs.YtcdpakjhjmchhaaDoor.Re Go.Proofs.YtcdpakjhjmchhaaDoor.Av Go.Proofs.YtcdpakjhjmchhaaDoor.Rm
open Go.Proofs.YtcdpakjhjmchhaaDoor.Rz (Ow Fam Kept Fz mixed upB kM kA kG kW Sl.keep')
open Go.Proofs.YtcdpakjhjmchhaaDoor.Hd (ints)
open Go.Proofs.YtcdpakjhjmchhaaDoor.In (Glo ints_length ints_one)
structure Ob (n : Nat) (h1 : Heap) (gb xb : Nat) (t d : Option Addr) (F : Nat → Prop) (T : TM) (R0 R1 : List Int) (wa : Option Addr) (P0 : List (Int × Int)) (va : Option Addr) (M0 : List Int) (h : Heap) (col : Nat → Nat) : Prop where
  fr : Fr No h1 h
  low : ∀ b, b < h1.size → col b = 0
  gb0 : col gb = 0
  rg : rd h gb = (geoN n).v
  xb0 : col xb = 0
  rx : rd h xb = ints R0 ++ ints R1
  x : Tx h F t d T
  F0 : ∀ b, F b → col b = 0
  was : Fz h col wa (P0.flatMap pcellA)
  also : Fz h col va (ints M0)
variable {n gb xb : Nat} {h1 h hh h' : Heap} {t d : Option Addr} {F : Nat → Prop} {T : TM} {R0 R1 : List Int} {wa va : Option Addr} {P0 : List (Int × Int)} {M0 : List Int} {col col' : Nat → Nat}
theorem Ob.kept (hR : R0.length = 15) : Kept (Ob n h1 gb xb t d F T R0 R1 wa P0 va M0) := fun h h' col col' G s f g hG => by
  have l1 : gb < h.size := rd_lt (o := 0) (v := .int .i64 (geoN n).blocks) (by rw [s.rg]; rfl)
  have l2 : xb < h.size := rd_lt (o := 0) (v := .int .i64 (R0.getD 0 0)) (by
    rw [s.rx, List.getElem?_append_left (by rw [ints_length, hR]; decide)]
    unfold ints
    rw [List.getElem?_map, List.getElem?_eq_getElem (by omega), List.getD_eq_getElem?_getD, List.getElem?_eq_getElem (by omega)]; rfl)
  have z := s.fr.size
  exact ⟨s.fr.trans f fun b hb y => hG b (by omega) y (s.low b hb), fun b hb => (g b (by omega)).trans (s.low b hb), (g _ l1).trans s.gb0, (f.rd l1 fun y => hG _ l1 y s.gb0).trans s.rg, (g _ l2).trans s.xb0, (f.rd l2 fun y => hG _ l2 y s.xb0).trans s.rx,
    s.x.fr f fun b hb y => hG b (s.x.lt hb) y (s.F0 b hb), fun b hb => (g b (s.x.lt hb)).trans (s.F0 b hb), s.was.keep f g fun b hb e y => hG b hb y e, s.also.keep f g fun b hb e y => hG b hb y e⟩
def cT (v : Int) : List Value := [.int .i64 v]
theorem ints_flat (l : List Int) : l.flatMap cT = ints l := by
  induction l with
  | nil => rfl
  | cons v l ih => rw [List.flatMap_cons, ih]; rfl
def mkX (i l : Nat) : List (Int × Int) := (List.range l).map fun k : Nat => (-1 - (i : Int), (k : Int))
def mkY (i l : Nat) : List Int := (List.range l).map fun _ : Nat => -100 - (i : Int)
theorem mkX_len (i l : Nat) : (mkX i l).length = l := by unfold mkX; rw [List.length_map, List.length_range]
theorem mkY_len (i l : Nat) : (mkY i l).length = l := by unfold mkY; rw [List.length_map, List.length_range]
theorem mkX_succ (i l : Nat) : mkX i (l + 1) = mkX i l ++ [(-1 - (i : Int), (l : Int))] := by unfold mkX; rw [List.range_succ, List.map_append]; rfl
theorem mkY_succ (i l : Nat) : mkY i (l + 1) = mkY i l ++ [-100 - (i : Int)] := by unfold mkY; rw [List.range_succ, List.map_append]; rfl
theorem mkX_at {i l j : Nat} (h : j < l) : (mkX i l)[j]? = some (-1 - (i : Int), (j : Int)) := by unfold mkX; rw [List.getElem?_map, List.getElem?_range h]; rfl
theorem mkY_at {i l j : Nat} (h : j < l) : (mkY i l)[j]? = some (-100 - (i : Int)) := by unfold mkY; rw [List.getElem?_map, List.getElem?_range h]; rfl
def fX (X : List (List (Int × Int))) : List (List Value) := X.map fun l => l.flatMap pcellA
def fY (Y : List (List Int)) : List (List Value) := Y.map fun l => l.flatMap cT
theorem pcell_len : ∀ l : List (Int × Int), ∀ x ∈ l, (pcellA x).length = 2 := fun _ _ _ => rfl
theorem cT_len : ∀ l : List Int, ∀ x ∈ l, (cT x).length = 1 := fun _ _ _ => rfl
theorem fX_set (X : List (List (Int × Int))) (i : Nat) (l : List (Int × Int)) : (fX X).set i (l.flatMap pcellA) = fX (X.set i l) := by unfold fX; rw [List.map_set]
theorem fY_set (Y : List (List Int)) (i : Nat) (l : List Int) : (fY Y).set i (l.flatMap cT) = fY (Y.set i l) := by unfold fY; rw [List.map_set]
theorem fX_get (X : List (List (Int × Int))) {i : Nat} (h : i < (fX X).length) : (fX X)[i] = (X[i]'(by unfold fX at h; rw [List.length_map] at h; exact h)).flatMap pcellA := List.getElem_map ..
theorem fY_get (Y : List (List Int)) {i : Nat} (h : i < (fY Y).length) : (fY Y)[i] = (Y[i]'(by unfold fY at h; rw [List.length_map] at h; exact h)).flatMap cT := List.getElem_map ..
theorem fX_len (X : List (List (Int × Int))) : (fX X).length = X.length := by unfold fX; rw [List.length_map]
theorem fY_len (Y : List (List Int)) : (fY Y).length = Y.length := by unfold fY; rw [List.length_map]
def D2 (p q : Fam) : Bool → Fam | false => p | true => q
theorem D2_f (p q p' : Fam) : upB (D2 p q) false p' = D2 p' q := by funext b; cases b <;> rfl
theorem D2_t (p q q' : Fam) : upB (D2 p q) true q' = D2 p q' := by funext b; cases b <;> rfl
def fam (A : Option Addr) (C : Nat) (ls : List Rz.Sc) (ws : List (List Value)) : Fam := ⟨A, C, ls, ws, none, 0, [], []⟩
variable {B : Heap → (Nat → Nat) → Prop} {pA qA : Option Addr} {pC qC : Nat} {ls qs : List Rz.Sc} {X : List (List (Int × Int))} {Y : List (List Int)}
/-- one pair is written -/
theorem own_pair (kB : Kept B) (s : Ow B (D2 (fam pA pC ls (fX X)) (fam qA qC qs (fY Y))) (fun _ => none) h col) {i j : Nat} (hi : i < ls.length) (hx : i < X.length) (hj : j < ls[i].l) {xs : List (Int × Int)} (ex : X[i] = mixed (fun k : Nat => (-1 - (i : Int), (k : Int))) xs j) (hxl : xs.length = ls[i].l)
    {K : Heap → Prop} (hK : ∀ h', Ow B (D2 (fam pA pC ls (fX (X.set i (mixed (fun k : Nat => (-1 - (i : Int), (k : Int))) xs (j + 1))))) (fam qA qC qs (fY Y))) (fun _ => none) h' col → K h') :
    onSome ls[i].a fun p9 => PutRow (Addr.add p9 (j * 2)) [.int .i64 (-1 - (i : Int)), .int .i64 (j : Int)] 2 h K := by
  have it := (s.fam false).lists.at_ i hi (by show i < (fX X).length; rw [fX_len]; exact hx)
  have it : Sl h 2 ls[i].a ls[i].l ls[i].c ((fX X)[i]'(by rw [fX_len]; exact hx)) (On col (10 + i)) := it
  rw [fX_get, ex] at it
  obtain ⟨p, ep, _⟩ := it.get (by omega)
  rw [ep] at it
  obtain ⟨pb, po, ps⟩ := p
  have eps : ps = none := it.2.1
  subst eps
  have hF : On col (10 + i) pb := it.2.2.1
  obtain ⟨w, wl⟩ := it.wr
  refine Rz.oe ep (PutRow.add w rfl (one2 rfl rfl) (by omega) fun h' dd => hK h' ?_)
  have n1 := it.putPart (i := j) (y := (-1 - (i : Int), (j : Int))) (pcell_len _) (by rw [Rz.mixed_len _ _ (by omega)]; omega) rfl dd
  have := Rz.mixed_set (fun k : Nat => (-1 - (i : Int), (k : Int))) xs (j := j) (by omega)
  rw [this] at n1
  have f : Fr (On col (10 + i)) h h' := (Fr.refl _ h).did dd fun _ => hF
  have s' := s.write false kB rfl hi f (by show Sl h' 2 ls[i].a ls[i].l ls[i].c _ (On col (10 + i)); rw [ep]; exact n1)
  rw [D2_f] at s'
  have e : ({ (fam pA pC ls (fX X)) with ws := (fam pA pC ls (fX X)).ws.set i ((mixed (fun k : Nat => (-1 - (i : Int), (k : Int))) xs (j + 1)).flatMap pcellA) } : Fam) = fam pA pC ls (fX (X.set i (mixed (fun k : Nat => (-1 - (i : Int), (k : Int))) xs (j + 1)))) := by
    rw [← fX_set]; rfl
  rw [← e]; exact s'
theorem own_int (kB : Kept B) (s : Ow B (D2 (fam pA pC ls (fX X)) (fam qA qC qs (fY Y))) (fun _ => none) h col) {i j : Nat} (hi : i < qs.length) (hy : i < Y.length) (hj : j < qs[i].l) {ys : List Int} (ey : Y[i] = mixed (fun _ : Nat => -100 - (i : Int)) ys j) (hyl : ys.length = qs[i].l)
    {K : Heap → Prop} (hK : ∀ h', Ow B (D2 (fam pA pC ls (fX X)) (fam qA qC qs (fY (Y.set i (mixed (fun _ : Nat => -100 - (i : Int)) ys (j + 1)))))) (fun _ => none) h' col → K h') :
    onSome qs[i].a fun p9 => Put (Addr.add p9 j) (.int .i64 (-100 - (i : Int))) h K := by
  have it := (s.fam true).lists.at_ i hi (by show i < (fY Y).length; rw [fY_len]; exact hy)
  have it : Sl h 1 qs[i].a qs[i].l qs[i].c ((fY Y)[i]'(by rw [fY_len]; exact hy)) (On col (20 + i)) := it
  rw [fY_get, ey] at it
  obtain ⟨p, ep, _⟩ := it.get (by omega)
  rw [ep] at it
  obtain ⟨pb, po, ps⟩ := p
  have eps : ps = none := it.2.1
  subst eps
  have hF : On col (20 + i) pb := it.2.2.1
  obtain ⟨w, wl⟩ := it.wr
  refine Rz.oe ep (Put.add w (by omega) fun h' dd => hK h' ?_)
  have dd' : Did pb h h' (put (rd h pb) (po + j * 1) (cT (-100 - (i : Int)))) := by rw [Nat.mul_one]; exact dd
  have n1 := it.putPart (i := j) (y := -100 - (i : Int)) (cT_len _) (by rw [Rz.mixed_len _ _ (by omega)]; omega) rfl dd'
  have := Rz.mixed_set (fun _ : Nat => -100 - (i : Int)) ys (j := j) (by omega)
  rw [this] at n1
  have f : Fr (On col (20 + i)) h h' := (Fr.refl _ h).did dd fun _ => hF
  have s' := s.write true kB rfl hi f (by show Sl h' 1 qs[i].a qs[i].l qs[i].c _ (On col (20 + i)); rw [ep]; exact n1)
  rw [D2_t] at s'
  have e : ({ (fam qA qC qs (fY Y)) with ws := (fam qA qC qs (fY Y)).ws.set i ((mixed (fun _ : Nat => -100 - (i : Int)) ys (j + 1)).flatMap cT) } : Fam) = fam qA qC qs (fY (Y.set i (mixed (fun _ : Nat => -100 - (i : Int)) ys (j + 1)))) := by
    rw [← fY_set]; rfl
  rw [← e]; exact s'
theorem neg_wrap {a : Int} {i : Nat} (ha : -1000 ≤ a ∧ a ≤ 0) (hi : i ≤ 3) : IntKind.wrap .i64 (a - (i : Int)) = a - (i : Int) := wrap_i64 (by omega) (by omega)
theorem set_same {α : Type} {l : List α} {i : Nat} (h : i < l.length) {x : α} (e : l[i] = x) : l.set i x = l := by subst e; exact List.set_getElem_self h
end Go.Proofs.YtcdpakjhjmchhaaDoor.Bm
