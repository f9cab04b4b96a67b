import Derived.Test.YtcdpakjhjmchhaaGreatDoorBmY
/-
  PACKAGE bmap: give, leaf, numbers, cut.
-/
namespace Go.Proofs.YtcdpakjhjmchhaaGreatDoor.Bm
open Go Go.Proofs Go.Proofs.YtcdpakjhjmchhaaGreatDoor.Wx Go.Proofs.YtcdpakjhjmchhaaGreatDoor.Hp Go.Proofs.YtcdpakjhjmchhaaGreatDoor.W Go.Proofs.YtcdpakjhjmchhaaGreatDoor.Ad Go.Proofs.YtcdpakjhjmchhaaGreatDoor.Tm Go.Proofs.YtcdpakjhjmchhaaGreatDoor.Spc Go.Proofs.YtcdpakjhjmchhaaGreatDoor.Re Go.Proofs.YtcdpakjhjmchhaaGreatDoor.Av
open Go.Proofs.YtcdpakjhjmchhaaGreatDoor.Hd (ints wrap_u64)
open Go.Proofs.YtcdpakjhjmchhaaGreatDoor.In (Glo ints_length ints_one)

/-! what Cut does, call by call -/
def giveF (T : TM) (g : G) (v : Int) : TM × Int := if lookM g v ≠ 0 then (T, lookM g v) else Spc.give T g v
def numsL (b : Txt) : List Int := (List.range 128).map fun i => ((num4 b i : Nat) : Int)
theorem numsL_len (b : Txt) : (numsL b).length = 128 := by unfold numsL; rw [List.length_map, List.length_range]
theorem numsL_get {b : Txt} {j : Nat} (h : j < (numsL b).length) : (numsL b)[j] = ((num4 b j : Nat) : Int) := by
  simp only [numsL, List.getElem_map, List.getElem_range]
abbrev DropM := TM → Nat → Int → TM × Bool × Int
structure CutS where
  T : TM
  b : Txt
  left : Bool
  turned : Bool
def cutGo (dM : DropM) (from_ : Int) : List Int → Nat → CutS → CutS × Int
  | [], _, S => (S, 0)
  | v :: r, i, S => if v = 0 then cutGo dM from_ r (i + 1) S else if (i : Int) < from_ then cutGo dM from_ r (i + 1) { S with left := true } else
      if (dM S.T i v).2.2 ≠ 0 then ({ S with T := (dM S.T i v).1 }, (dM S.T i v).2.2) else
      cutGo dM from_ r (i + 1) ⟨(dM S.T i v).1, if (dM S.T i v).2.1 = true then set4 S.b i 0 else S.b, S.left || !(dM S.T i v).2.1, S.turned || (dM S.T i v).2.1⟩
def cutEnd (g : G) (tab : Int) (C : CutS × Int) : TM × Bool × Int :=
  if C.2 ≠ 0 then (C.1.T, false, C.2) else if C.1.left = false then ((Spc.give C.1.T g tab).1, false, (Spc.give C.1.T g tab).2) else
    if C.1.turned = true then ((C.1.T.write tab C.1.b).1, true, (C.1.T.write tab C.1.b).2) else (C.1.T, true, 0)
def cutT (dM : DropM) (T : TM) (g : G) (tab from_ : Int) : TM × Bool × Int :=
  if lookM g tab ≠ 0 then (T, false, lookM g tab) else if (T.read tab).2 ≠ 0 then (T, false, (T.read tab).2) else
    cutEnd g tab (cutGo dM from_ (numsL (T.read tab).1) 0 ⟨T, (T.read tab).1, false, false⟩)
def leafD (g : G) : DropM := fun T _ v => ((giveF T g v).1, true, (giveF T g v).2)
def tabD (g : G) (first : Int) : DropM := fun T i v => ((cutT (leafD g) T g v (first - 128 * i)).1, !(cutT (leafD g) T g v (first - 128 * i)).2.1, (cutT (leafD g) T g v (first - 128 * i)).2.2)
theorem give_un (T : TM) (g : G) (i : Int) : (Spc.give T g i).1.undo.length ≤ T.undo.length + 1 := by
  unfold Spc.give
  split
  · exact Nat.le_add_right _ _
  · split
    · exact Nat.le_add_right _ _
    · split
      · exact Nat.le_add_right _ _
      · exact setBit_un _ _ _ _
theorem giveF_un (T : TM) (g : G) (v : Int) : (giveF T g v).1.undo.length ≤ T.undo.length + 1 := by
  unfold giveF
  split
  · exact Nat.le_add_right _ _
  · exact give_un _ _ _
theorem cutGo_un {dM : DropM} {from_ : Int} {u : Nat} (hd : ∀ T i v, (dM T i v).1.undo.length ≤ T.undo.length + u) : ∀ (l : List Int) (i : Nat) (S : CutS), (cutGo dM from_ l i S).1.T.undo.length ≤ S.T.undo.length + u * l.length
  | [], _, S => Nat.le_add_right _ _
  | v :: r, i, S => by
    rw [List.length_cons, Nat.mul_succ]
    unfold cutGo
    split
    · have := cutGo_un (from_ := from_) hd r (i + 1) S; omega
    · split
      · have := cutGo_un (from_ := from_) hd r (i + 1) { S with left := true }
        have this : (cutGo dM from_ r (i + 1) { S with left := true }).1.T.undo.length ≤ S.T.undo.length + u * r.length := this
        omega
      · have h1 := hd S.T i v
        split
        · show (dM S.T i v).1.undo.length ≤ _; omega
        · have := cutGo_un (from_ := from_) hd r (i + 1) ⟨(dM S.T i v).1, if (dM S.T i v).2.1 = true then set4 S.b i 0 else S.b, S.left || !(dM S.T i v).2.1, S.turned || (dM S.T i v).2.1⟩
          have this : _ ≤ (dM S.T i v).1.undo.length + u * r.length := this
          omega
theorem cutT_un {dM : DropM} {T : TM} {g : G} {tab from_ : Int} {u : Nat} (hd : ∀ T i v, (dM T i v).1.undo.length ≤ T.undo.length + u) : (cutT dM T g tab from_).1.undo.length ≤ T.undo.length + (u * 128 + 1) := by
  unfold cutT
  split
  · exact Nat.le_add_right _ _
  · split
    · exact Nat.le_add_right _ _
    · have h := cutGo_un (from_ := from_) hd (numsL (T.read tab).1) 0 ⟨T, (T.read tab).1, false, false⟩
      rw [numsL_len] at h
      have h : _ ≤ T.undo.length + u * 128 := h
      generalize cutGo dM from_ (numsL (T.read tab).1) 0 ⟨T, (T.read tab).1, false, false⟩ = C at h
      unfold cutEnd
      split
      · show C.1.T.undo.length ≤ _; omega
      · split
        · have := give_un C.1.T g tab
          show (Spc.give C.1.T g tab).1.undo.length ≤ _; omega
        · split
          · have := write_un C.1.T tab C.1.b
            show (C.1.T.write tab C.1.b).1.undo.length ≤ _; omega
          · show C.1.T.undo.length ≤ _; omega
theorem leafD_un (g : G) (T : TM) (i : Nat) (v : Int) : (leafD g T i v).1.undo.length ≤ T.undo.length + 1 := giveF_un T g v
theorem tabD_un (g : G) (first : Int) (T : TM) (i : Nat) (v : Int) : (tabD g first T i v).1.undo.length ≤ T.undo.length + 129 := cutT_un (leafD_un g)
/-! the walks -/
theorem give_spec {h : Heap} {F : Nat → Prop} {t d : Option Addr} {T : TM} {g : G} {R : List Int} {fb : Nat} {v : Int} {K : Value → Heap → Prop} (x : Tx h F t d T) (ok : g.ok) (e : rd h fb = fileV t g R) (hu : T.undo.length < 1000000000)
    (hK : ∀ h' F', Fr F h h' → Gw h F h' F' → Tx h' F' t d (giveF T g v).1 → K (.int .i64 (giveF T g v).2) h') : C.bmap_file_give (some ⟨fb, 0, none⟩) v h K := by
  refine bmap_file_give.ok (look_spec e ⟨_, rfl, cn (fun y => ?_) fun y => os ⟨t, rda e rfl, os ⟨g.v, rfl, cellsa e rfl, Give_spec x ok hu fun h3 F3 f3 g3 x3 => ⟨_, rfl, ?_⟩⟩⟩⟩)
  · have e0 : giveF T g v = (T, lookM g v) := by unfold giveF; rw [if_pos y]
    rw [e0] at hK
    exact hK h F (Fr.refl _ _) (Gw.refl (Nat.le_refl _) fun b hb => x.lt hb) x
  · have e0 : giveF T g v = Spc.give T g v := by unfold giveF; rw [if_neg (fun z => z y)]
    rw [e0] at hK
    exact hK h3 F3 f3 g3 x3
theorem numbers_spec {h : Heap} {F : Nat → Prop} {t d : Option Addr} {T : TM} {g : G} {R : List Int} {fb : Nat} {tab : Int} {K : Value → Heap → Prop} (gl : Glo h) (x : Tx h F t d T) (e : rd h fb = fileV t g R)
    (hE : (lookM g tab ≠ 0 ∨ (T.read tab).2 ≠ 0) → ∀ h', Fr No h h' → K (.tuple #[.slice none 0 0, .slice none 0 0, .int .i64 (if lookM g tab ≠ 0 then lookM g tab else (T.read tab).2)]) h')
    (hK : lookM g tab = 0 → (T.read tab).2 = 0 → (T.read tab).1.length = 512 → ∀ sa sc lb h', Fr No h h' → h.size ≤ lb → Sl h' 1 sa 512 sc ((T.read tab).1.map bv) (fun y => h.size ≤ y ∧ y ≠ lb) → rd h' lb = ints (numsL (T.read tab).1) → Own h' lb →
      K (.tuple #[.slice sa 512 sc, .slice (some ⟨lb, 0, none⟩) 128 128, .int .i64 0]) h') : C.bmap_file_numbers (some ⟨fb, 0, none⟩) tab h K := by
  refine bmap_file_numbers.ok (look_spec e ⟨_, rfl, cn (fun y => ?_) fun y => os ⟨t, rda e rfl, Tm.Read_spec x fun sa sl sc h3 f3 el s3 => ⟨_, _, _, _, rfl, cn (fun y2 => ?_) fun y2 => ?_⟩⟩⟩)
  · have := hE (.inl y) h (Fr.refl _ _)
    rw [if_pos y] at this; exact this
  · have := hE (.inr y2) h3 f3
    rw [if_neg (fun z => z y)] at this; exact this
  have hlen : (T.read tab).1.length = 512 := Tx.readLen x y2
  have hK := hK y y2 hlen
  rw [hlen] at el
  subst el
  generalize (T.read tab).1 = b at hK hlen s3
  refine ⟨⟨by decide, by decide, by decide, by decide⟩, New.intro fun h4 n4 => ?_⟩
  have z3 := f3.size
  have z4 := n4.size
  have nl := numsL_len b
  have r4 : rd h4 h3.size = ints (List.replicate 128 0) := by
    rw [n4.rd, ints, List.map_replicate]; exact rep_one' 128
  have s4 := s3.fr n4.fr fun _ _ _ y => y
  have s4 : Sl h4 1 sa 512 sc (b.map bv) (fun y => h.size ≤ y ∧ y ≠ h3.size) := (sl_rngB s3).fr n4.fr (fun _ _ _ y => y) |>.mono fun y hy => ⟨hy.1, by have := hy.2; omega⟩
  refine ⟨fun i hh => ∃ j : Nat, i = j ∧ j ≤ 128 ∧ Fr (fun y => y = h3.size) h4 hh ∧ Own hh h3.size ∧ rd hh h3.size = ints ((numsL b).take j ++ List.replicate (128 - j) 0), fun i _ => ((128 : Int) - i).toNat, ⟨0, rfl, by decide, Fr.refl _ _, n4.own, r4⟩, ?_⟩
  intro i h5 hI
  obtain ⟨j, ei, hj, f5, o5, r5⟩ := hI
  have F5 : Fr No h h5 := ((f3.new n4).trans f5 fun c hc y => by have y : c = h3.size := y; omega)
  have s5 := s4.fr f5 fun c _ hc y => hc.2 y
  have c128 : ((Int.toNat 128 : Nat) : Int) = 128 := rfl
  rw [c128]
  refine cd (fun hl => ?_) fun hl => ?_
  · subst ei
    have hj' : j < (numsL b).length := by omega
    rw [wrap_i64 (n := 4 * (j : Int)) (by omega) (by omega)]
    refine In.Get_w (gl.no F5) s5.str (by decide) (.inr (.inr (.inl rfl))) (by omega) (by omega) ⟨_, _, rfl, ⟨by omega, hl⟩, ?_⟩
    have en : leN ((b.drop (4 * (j : Int)).toNat).take (Int.toNat 4)) = num4 b j := by
      unfold num4
      rw [show (4 * (j : Int)).toNat = 4 * j by omega]; rfl
    have lt := num4_lt b j
    rw [en, wrap_i64 (n := ((num4 b j : Nat) : Int)) (by omega) (by omega), wrap_i64 (n := (j : Int) + 1) (by omega) (by omega), Int.toNat_natCast]
    have ll : (ints ((numsL b).take j ++ List.replicate (128 - j) 0)).length = 128 := by rw [ints_length, List.length_append, List.length_take, List.length_replicate]; omega
    refine Put.add o5 (by rw [r5, ll]; omega) fun h6 d6 => ⟨⟨j + 1, by omega, by omega, f5.did d6 fun _ => rfl, d6.own, ?_⟩, by show ((128 : Int) - ((j : Int) + 1)).toNat < ((128 : Int) - (j : Int)).toNat; omega⟩
    rw [d6.rd, r5, Nat.zero_add, ints, ← List.map_set]
    show ints _ = ints _
    congr 1
    have lt' : ((numsL b).take j).length = j := by rw [List.length_take]; omega
    rw [List.set_append_right _ _ (by omega), lt', Nat.sub_self, take_snoc _ _ hj', numsL_get hj', show 128 - j = (128 - (j + 1)) + 1 by omega, List.replicate_succ, List.set_cons_zero, List.append_assoc]; rfl
  · have ej : j = 128 := by omega
    subst ej
    rw [Nat.sub_self, List.replicate_zero, List.append_nil, List.take_of_length_le (by omega)] at r5
    exact hK sa sc h3.size h5 F5 z3 s5 r5 o5
end Go.Proofs.YtcdpakjhjmchhaaGreatDoor.Bm
/-
  PACKAGE bmap: cut, leaf.
-/
namespace Go.Proofs.YtcdpakjhjmchhaaGreatDoor.Bm
open Go Go.Proofs Go.Proofs.YtcdpakjhjmchhaaGreatDoor.Wx Go.Proofs.YtcdpakjhjmchhaaGreatDoor.Hp Go.Proofs.YtcdpakjhjmchhaaGreatDoor.W Go.Proofs.YtcdpakjhjmchhaaGreatDoor.Ad Go.Proofs.YtcdpakjhjmchhaaGreatDoor.Tm Go.Proofs.YtcdpakjhjmchhaaGreatDoor.Spc Go.Proofs.YtcdpakjhjmchhaaGreatDoor.Re Go.Proofs.YtcdpakjhjmchhaaGreatDoor.Av
open Go.Proofs.YtcdpakjhjmchhaaGreatDoor.Hd (ints wrap_u64)
open Go.Proofs.YtcdpakjhjmchhaaGreatDoor.In (Glo ints_length ints_one)

/-- a closure that drops a number, as dM says -/
def DropS (dv : Value) (dM : DropM) (h0 : Heap) (F0 : Nat → Prop) (t d : Option Addr) (lim : Nat) : Prop :=
  ∀ (hh : Heap) (F : Nat → Prop) (T : TM) (i : Nat) (v : Int) (K : Value → Heap → Prop), Fr F0 h0 hh → Gw h0 F0 hh F → Tx hh F t d T → T.undo.length < lim → i < 128 → 0 < v → v < 4294967296 →
    (∀ h' F', Fr F hh h' → Gw hh F h' F' → Tx h' F' t d (dM T i v).1 → K (.tuple #[.bool (dM T i v).2.1, .int .i64 (dM T i v).2.2]) h') → HCallsV Tryz.prog dv [.int .i64 (i : Int), .int .i64 v] hh K
def leafV (fb : Nat) : Value := .func (.func 80) ⟨[.pointer (some ⟨fb, 0, none⟩)]⟩ ⟨[]⟩
theorem leaf_drop {h : Heap} {F : Nat → Prop} {t d : Option Addr} {g : G} {R : List Int} {fb : Nat} (ok : g.ok) (e : rd h fb = fileV t g R) (hf : ¬ F fb) : DropS (leafV fb) (leafD g) h F t d 1000000000 := by
  intro hh F' T i v K f gw x hu _ _ _ hK
  show C.bmap_file_leaf (some ⟨fb, 0, none⟩) (i : Int) v hh K
  have fl : fb < h.size := rd_lt (o := 0) (by rw [e]; rfl)
  exact bmap_file_leaf.ok (give_spec x ok ((f.rd fl hf).trans e) hu fun h' F2 f2 g2 x2 => ⟨_, rfl, hK h' F2 f2 g2 x2⟩)
theorem cutGo_cons (dM : DropM) (from_ v : Int) (r : List Int) (i : Nat) (S : CutS) : cutGo dM from_ (v :: r) i S = if v = 0 then cutGo dM from_ r (i + 1) S else if (i : Int) < from_ then cutGo dM from_ r (i + 1) { S with left := true } else
      if (dM S.T i v).2.2 ≠ 0 then ({ S with T := (dM S.T i v).1 }, (dM S.T i v).2.2) else
      cutGo dM from_ r (i + 1) ⟨(dM S.T i v).1, if (dM S.T i v).2.1 = true then set4 S.b i 0 else S.b, S.left || !(dM S.T i v).2.1, S.turned || (dM S.T i v).2.1⟩ := rfl
theorem cut_spec {h : Heap} {F : Nat → Prop} {t d : Option Addr} {T : TM} {g : G} {R : List Int} {fb : Nat} {tab from_ : Int} {dv : Value} {dM : DropM} {u lim : Nat} {K : Value → Heap → Prop} (gl : Glo h) (x : Tx h F t d T) (ok : g.ok) (e : rd h fb = fileV t g R) (hf : ¬ F fb) (g0 : ∀ b, b < 1 → ¬ F b)
    (D : DropS dv dM h F t d lim) (hun : ∀ T i v, (dM T i v).1.undo.length ≤ T.undo.length + u) (hu : T.undo.length + (u * 128 + 1) < lim) (hlim : lim ≤ 1000000000)
    (hK : ∀ h' F', Fr F h h' → Gw h F h' F' → Tx h' F' t d (cutT dM T g tab from_).1 → K (.tuple #[.bool (cutT dM T g tab from_).2.1, .int .i64 (cutT dM T g tab from_).2.2]) h') :
    C.bmap_file_cut (some ⟨fb, 0, none⟩) tab from_ dv h K := by
  have fl : fb < h.size := rd_lt (o := 0) (by rw [e]; rfl)
  have gl1 := gl.lt
  have Flt := fun y (hy : F y) => x.lt hy
  refine bmap_file_cut.ok (numbers_spec gl x e (fun he h2 f2 => ⟨_, _, _, _, _, _, _, rfl, cn (fun _ => ?_) fun y => ?_⟩) fun y1 y2 hlen sa sc lb h2 f2 hlb s2 r2 o2 => ⟨_, _, _, _, _, _, _, rfl, cn (fun y => absurd rfl y) fun _ => ?_⟩)
  · have hK := hK h2 F (f2.mono fun _ _ y => y.elim) (Gw.refl f2.size Flt)
    unfold cutT at hK
    by_cases h1 : lookM g tab ≠ 0
    · rw [if_pos h1] at hK ⊢; exact hK (x.no f2)
    · rw [if_neg h1] at hK ⊢
      have h3 : (T.read tab).2 ≠ 0 := he.resolve_left h1
      rw [if_pos h3] at hK; exact hK (x.no f2)
  · exfalso
    by_cases h1 : lookM g tab ≠ 0
    · rw [if_pos h1] at y; exact h1 y
    · rw [if_neg h1] at y; exact (he.resolve_left h1) y
  have e0 : cutT dM T g tab from_ = cutEnd g tab (cutGo dM from_ (numsL (T.read tab).1) 0 ⟨T, (T.read tab).1, false, false⟩) := by unfold cutT; rw [if_neg (fun z => z y1), if_neg (fun z => z y2)]
  rw [e0] at hK
  have nl := numsL_len (T.read tab).1
  have nlt : ∀ j (hj : j < (numsL (T.read tab).1).length), 0 ≤ (numsL (T.read tab).1)[j] ∧ (numsL (T.read tab).1)[j] < 4294967296 := fun j hj => by
    rw [numsL_get hj]
    have := num4_lt (T.read tab).1 j
    omega
  generalize (T.read tab).1 = b0 at hK hlen s2 r2 nl nlt
  generalize numsL b0 = ns at hK r2 nl nlt
  have z2 := f2.size
  have G2 : Gw h F h2 F := Gw.refl z2 Flt
  obtain ⟨N, hN⟩ : ∃ N : Int, N = 128 := ⟨_, rfl⟩
  refine ⟨fun left turned i hh => ∃ (j : Nat) (F' : Nat → Prop) (T' : TM) (b' : Txt), i = j ∧ j ≤ 128 ∧ Fr (fun y => F y ∨ h.size ≤ y) h hh ∧ h2.size ≤ hh.size ∧ Gw h2 F hh F' ∧ Tx hh F' t d T' ∧ b'.length = 512 ∧ Sl hh 1 sa 512 sc (b'.map bv) (fun y => h.size ≤ y ∧ y ≠ lb ∧ y < h2.size) ∧ rd hh lb = ints ns ∧ T'.undo.length ≤ T.undo.length + u * j ∧
      cutGo dM from_ (ns.drop j) j ⟨T', b', left, turned⟩ = cutGo dM from_ ns 0 ⟨T, b0, false, false⟩, fun _ _ i _ => ((128 : Int) - i).toNat,
    ⟨0, F, T, b0, rfl, by decide, f2.mono (fun _ _ y => y.elim), Nat.le_refl _, Gw.refl (Nat.le_refl _) (fun b hb => Nat.lt_of_lt_of_le (Flt b hb) z2), x.no f2, hlen, (sl_rngB s2).mono fun y hy => ⟨hy.1.1, hy.1.2, hy.2⟩, r2, Nat.le_refl _, by rw [List.drop_zero]⟩, ?_⟩
  intro left turned i h3 hI
  obtain ⟨j, F', T', b', ei, hj, f3, zz, g3, x3, lb', s3, r3, u3, ew⟩ := hI
  have old3 : ∀ y, y < h2.size → (F' y ↔ F y) := g3.old
  have F3 : Fr F h h3 := f3.mono fun c hc y => y.resolve_right (by omega)
  have G3 : Gw h F h3 F' := G2.trans g3 z2
  have lbl : lb < h2.size := o2.lt
  have hju : u * j ≤ u * 128 := Nat.mul_le_mul_left _ hj
  refine cd (fun hl => ?_) fun hl => ?_
  · subst ei
    have hj' : j < ns.length := by omega
    have hjn : j < 128 := by omega
    rw [drop_cons hj', cutGo_cons] at ew
    have nj := nlt j hj'
    rw [Int.toNat_natCast]
    have cv : cellOf h3 (Addr.add ⟨lb, 0, none⟩ j) = some (.int .i64 ns[j]) := rda r3 (by rw [Nat.zero_add, ints, List.getElem?_map, List.getElem?_eq_getElem hj']; rfl)
    have wr : IntKind.wrap .i64 ((j : Int) + 1) = ((j + 1 : Nat) : Int) := by rw [wrap_i64 (by omega) (by omega)]; omega
    have me : ((128 : Int) - ((j + 1 : Nat) : Int)).toNat < ((128 : Int) - (j : Int)).toNat := by omega
    have hu1 : u * j ≤ u * (j + 1) := Nat.mul_le_mul_left _ (Nat.le_succ j)
    refine ⟨⟨by omega, hl⟩, os ⟨_, cv, ce (fun y => ?_) fun y => cd (fun y2 => ?_) fun y2 => ?_⟩⟩
    · rw [if_pos y] at ew
      rw [wr]
      exact ⟨⟨j + 1, F', T', b', rfl, hjn, f3, zz, g3, x3, lb', s3, r3, by omega, ew⟩, me⟩
    · rw [if_neg y, if_pos y2] at ew
      rw [wr]
      exact ⟨⟨j + 1, F', T', b', rfl, hjn, f3, zz, g3, x3, lb', s3, r3, by omega, ew⟩, me⟩
    rw [if_neg y, if_neg y2] at ew
    refine D h3 F' T' j (ns[j]'hj') _ F3 G3 x3 (by omega) hjn (by omega) nj.2 fun h4 F4 f4 g4 x4 => ⟨_, _, rfl, ?_⟩
    have hd := hun T' j (ns[j]'hj')
    have hm : u * (j + 1) = u * j + u := Nat.mul_succ u j
    generalize dM T' j (ns[j]'hj') = W at ew x4 hd
    obtain ⟨T4, gone, e4⟩ := W
    simp only at ew x4 hd
    have z4 := f4.size
    have F4' : Fr F h h4 := F3.trans f4 fun c hc y => (old3 c (by omega)).mp y
    have nF : ∀ c, h.size ≤ c → c < h2.size → ¬ F' c := fun c h1 h2' y => by have := Flt c ((old3 c h2').mp y); omega
    refine cn (fun he => ?_) fun he => ?_
    · rw [if_pos he] at ew
      rw [← ew] at hK
      have hK := hK h4 F4 F4' (G3.trans g4 F3.size)
      unfold cutEnd at hK
      rw [if_pos he] at hK
      exact hK x4
    rw [if_neg (fun z => z he)] at ew
    have s4 := s3.fr f4 fun c _ hc y => nF c hc.1 hc.2.2 y
    have r4 : rd h4 lb = ints ns := (f4.rd (by omega) (nF lb hlb lbl)).trans r3
    have g24 : Gw h2 F h4 F4 := g3.trans g4 zz
    have fr4 : Fr (fun y => F y ∨ h.size ≤ y) h h4 := F4'.mono fun _ _ y => .inl y
    -- behind the drop, at h6
    have go : ∀ (h6 : Heap) (b6 : Txt), Fr (fun y => F y ∨ h.size ≤ y) h h6 → h2.size ≤ h6.size → Gw h2 F h6 F4 → Tx h6 F4 t d T4 → b6.length = 512 → Sl h6 1 sa 512 sc (b6.map bv) (fun y => h.size ≤ y ∧ y ≠ lb ∧ y < h2.size) → rd h6 lb = ints ns →
        cutGo dM from_ (ns.drop (j + 1)) (j + 1) ⟨T4, b6, left || !gone, turned || gone⟩ = cutGo dM from_ ns 0 ⟨T, b0, false, false⟩ →
        bmap_file_cut.k1 left turned (j : Int) h3 (fun left turned i hh => ∃ (j : Nat) (F' : Nat → Prop) (T' : TM) (b' : Txt), i = j ∧ j ≤ 128 ∧ Fr (fun y => F y ∨ h.size ≤ y) h hh ∧ h2.size ≤ hh.size ∧ Gw h2 F hh F' ∧ Tx hh F' t d T' ∧ b'.length = 512 ∧ Sl hh 1 sa 512 sc (b'.map bv) (fun y => h.size ≤ y ∧ y ≠ lb ∧ y < h2.size) ∧ rd hh lb = ints ns ∧ T'.undo.length ≤ T.undo.length + u * j ∧
          cutGo dM from_ (ns.drop j) j ⟨T', b', left, turned⟩ = cutGo dM from_ ns 0 ⟨T, b0, false, false⟩) (fun _ _ i _ => ((128 : Int) - i).toNat) gone h6 K := fun h6 b6 a1 a2 a3 a4 a5 a6 a7 a8 => by
      unfold bmap_file_cut.k1
      rw [wr]
      cases left <;> cases turned <;> exact ⟨⟨j + 1, F4, T4, b6, rfl, hjn, a1, a2, a3, a4, a5, a6, a7, by omega, a8⟩, me⟩
    cases gone with
    | false => exact go h4 b' fr4 (by omega) g24 x4 lb' s4 r4 ew
    | true =>
      obtain ⟨⟨pb, po, sp⟩, ep, _⟩ := s4.get (by decide)
      subst ep
      have esp : sp = none := s4.2.1
      subst esp
      have k4 := s4.2.2.1
      have k4 : h.size ≤ pb ∧ pb ≠ lb ∧ pb < h2.size := k4
      have gl4 : Glo h4 := gl.fr F4' g0
      rw [wrap_i64 (n := 4 * (j : Int)) (by omega) (by omega)]
      refine In.Put_w (v := 0) gl4 s4 (by decide) (.inr (.inr rfl)) (by omega) (by omega) (by decide) fun h5 f5 s5 => ⟨_, rfl, ?_⟩
      have e5 : putU b' (4 * (j : Int)).toNat (leB (Int.toNat 4) 0) = set4 b' j 0 := by
        unfold set4
        rw [show (4 * (j : Int)).toNat = 4 * j by omega]; rfl
      rw [e5] at s5
      have z5 := f5.size
      refine go h5 (set4 b' j 0) (fr4.trans f5 fun c hc y => ?_) (by omega) ⟨g24.old, fun b hb => Nat.lt_of_lt_of_le (g24.lt b hb) z5⟩ (x4.fr f5 fun c hc y => ?_) (set4_length lb' hjn) s5 ((f5.rd (by omega) fun y => k4.2.1 y.symm).trans r4) ew
      · have y : c = pb := y
        omega
      · have y : c = pb := y
        rw [y] at hc
        have := (g24.old pb k4.2.2).mp hc
        have := Flt _ this
        omega
  · have ej : j = 128 := by omega
    subst ej
    have ed : ns.drop 128 = [] := List.drop_eq_nil_of_le (by omega)
    rw [ed] at ew
    have ew : ((⟨T', b', left, turned⟩ : CutS), (0 : Int)) = cutGo dM from_ ns 0 ⟨T, b0, false, false⟩ := ew
    rw [← ew] at hK
    have rf : rd h3 fb = _ := (F3.rd fl hf).trans e
    unfold cutEnd at hK
    rw [if_neg (fun z => z rfl)] at hK
    cases left with
    | false =>
      rw [if_pos rfl] at hK
      refine ct rfl (os ⟨t, rda rf rfl, os ⟨g.v, rfl, cellsa rf rfl, Give_spec x3 ok (by omega) fun h7 F7 f7 g7 x7 => ⟨_, rfl, ?_⟩⟩⟩)
      exact hK h7 F7 (F3.trans f7 fun c hc y => (old3 c (by omega)).mp y) (G3.trans g7 F3.size) x7
    | true =>
      rw [if_neg (by simp)] at hK
      refine cf rfl ?_
      cases turned with
      | true =>
        rw [if_pos rfl] at hK
        refine ct rfl (os ⟨t, rda rf rfl, Tm.Write_spec x3 s3.str (by decide) (fun p ep y => ?_) (by omega) fun h8 F8 f8 g8 x8 => ⟨_, rfl, ?_⟩⟩)
        · have k3 : h.size ≤ p.block ∧ p.block ≠ lb ∧ p.block < h2.size := by
            rw [ep] at s3; exact s3.2.2.1
          have := Flt _ ((old3 _ k3.2.2).mp y)
          omega
        · exact hK h8 F8 (F3.trans f8 fun c hc y => (old3 c (by omega)).mp y) (G3.trans g8 F3.size) x8
      | false =>
        rw [if_neg (by simp)] at hK
        exact cf rfl (hK h3 F' F3 G3 x3)
end Go.Proofs.YtcdpakjhjmchhaaGreatDoor.Bm
/-
  PACKAGE bmap: Cut: its end; what it does, plainly.
-/
namespace Go.Proofs.YtcdpakjhjmchhaaGreatDoor.Bm
open Go Go.Proofs Go.Proofs.YtcdpakjhjmchhaaGreatDoor.Wx Go.Proofs.YtcdpakjhjmchhaaGreatDoor.Hp Go.Proofs.YtcdpakjhjmchhaaGreatDoor.W Go.Proofs.YtcdpakjhjmchhaaGreatDoor.Ad Go.Proofs.YtcdpakjhjmchhaaGreatDoor.Tm Go.Proofs.YtcdpakjhjmchhaaGreatDoor.Spc Go.Proofs.YtcdpakjhjmchhaaGreatDoor.Re Go.Proofs.YtcdpakjhjmchhaaGreatDoor.Av
open Go.Proofs.YtcdpakjhjmchhaaGreatDoor.Hd (ints wrap_u64)
open Go.Proofs.YtcdpakjhjmchhaaGreatDoor.In (Glo ints_length ints_one)

def dirGo (g : G) : List Nat → TM → List Int → (TM × List Int) × Int
  | [], T, R => ((T, R), 0)
  | i :: r, T, R => if R.getD (3 + i) 0 = 0 then dirGo g r T R else if (giveF T g (R.getD (3 + i) 0)).2 ≠ 0 then (((giveF T g (R.getD (3 + i) 0)).1, R), (giveF T g (R.getD (3 + i) 0)).2) else
      dirGo g r (giveF T g (R.getD (3 + i) 0)).1 (R.set (3 + i) 0)
def rootEnd (i : Nat) (R : List Int) (C : TM × Bool × Int) : (TM × List Int) × Int := if C.2.2 ≠ 0 then ((C.1, R), C.2.2) else ((C.1, if C.2.1 = true then R else R.set i 0), 0)
def oneM (g : G) (k : Int) (T : TM) (R : List Int) : (TM × List Int) × Int := if k < 138 ∧ R.getD 13 0 ≠ 0 then rootEnd 13 R (cutT (leafD g) T g (R.getD 13 0) (k - 10)) else ((T, R), 0)
def firstM (k : Int) : Int := if k - 138 > 0 then k - 138 else 0
def twoM (g : G) (k : Int) (T : TM) (R : List Int) : (TM × List Int) × Int := if k < 16522 ∧ R.getD 14 0 ≠ 0 then rootEnd 14 R (cutT (tabD g (firstM k)) T g (R.getD 14 0) (firstM k / 128)) else ((T, R), 0)
def dirsM (k : Int) : List Nat := List.range' k.toNat (10 - k.toNat)
def cutS (g : G) (k : Int) (T : TM) (R : List Int) : (TM × List Int) × Int :=
  if (dirGo g (dirsM k) T R).2 ≠ 0 then dirGo g (dirsM k) T R else
  if (oneM g k (dirGo g (dirsM k) T R).1.1 (dirGo g (dirsM k) T R).1.2).2 ≠ 0 then oneM g k (dirGo g (dirsM k) T R).1.1 (dirGo g (dirsM k) T R).1.2 else
    twoM g k (oneM g k (dirGo g (dirsM k) T R).1.1 (dirGo g (dirsM k) T R).1.2).1.1 (oneM g k (dirGo g (dirsM k) T R).1.1 (dirGo g (dirsM k) T R).1.2).1.2
def cutM (T : TM) (g : G) (R : List Int) (k : Int) : TM × List Int × Int :=
  if k < 0 ∨ k > 16522 then (T, z15, 101) else if (cutS g k T R).2 ≠ 0 then (((cutS g k T R).1.1.back T.undo.length).1, z15, (cutS g k T R).2) else ((cutS g k T R).1.1, (cutS g k T R).1.2, 0)
/-! the blocks that Cut makes -/
structure Ids where
  yb : Nat
  eb : Nat
  ob : Nat
  tb : Nat
  mb : Nat
  bk : Nat
  fb : Nat
  pb : Nat
structure Ids.Ok (I : Ids) : Prop where
  a1 : I.yb < I.eb
  a2 : I.eb < I.ob
  a3 : I.eb < I.tb
  a4 : I.eb < I.mb
  a5 : I.ob < I.bk
  a6 : I.tb < I.bk
  a7 : I.mb < I.bk
  a8 : I.bk < I.fb
  a9 : I.fb < I.pb
structure CX (h : Heap) (F : Nat → Prop) (t d : Option Addr) (T0 : TM) (g : G) (I : Ids) (hh : Heap) (F' : Nat → Prop) (T' : TM) (R' : List Int) (u : Nat) : Prop where
  ok : I.Ok
  lo : h.size ≤ I.yb
  hi : I.pb < hh.size
  fr : Fr F h hh
  gw : Gw h F hh F'
  x : Tx hh F' t d T'
  un : T'.undo.length ≤ u
  len : R'.length = 15
  ry : rd hh I.yb = ints z15
  oy : Own hh I.yb
  re : rd hh I.eb = [.int .i64 0]
  oe : Own hh I.eb
  rb : rd hh I.bk = [gdV I.ob I.tb I.mb]
  rp : rd hh I.pb = [.pointer (some ⟨I.fb, 0, none⟩)]
  rf : rd hh I.fb = fileV t g R'
  of_ : Own hh I.fb
  gd : Gd hh I.ob I.tb I.mb t T0.mark
  nF : ∀ b, I.yb ≤ b → b ≤ I.pb → ¬ F' b
theorem CX.call {h hh h' : Heap} {F F' F'' : Nat → Prop} {t d : Option Addr} {T0 T' T'' : TM} {g : G} {I : Ids} {R' : List Int} {u u' : Nat} (c : CX h F t d T0 g I hh F' T' R' u) (f : Fr F' hh h') (gw : Gw hh F' h' F'') (x : Tx h' F'' t d T'') (un : T''.undo.length ≤ u') : CX h F t d T0 g I h' F'' T'' R' u' := by
  obtain ⟨a1, a2, a3, a4, a5, a6, a7, a8, a9⟩ := c.ok
  have hi := c.hi
  have z := f.size
  have q : ∀ b, I.yb ≤ b → b ≤ I.pb → rd h' b = rd hh b := fun b h1 h2 => f.rd (by omega) (c.nF b h1 h2)
  have w : ∀ b, I.yb ≤ b → b ≤ I.pb → Own hh b → Own h' b := fun b h1 h2 o => f.own (by omega) (c.nF b h1 h2) o
  have lo := c.lo
  exact ⟨c.ok, c.lo, by omega, c.fr.trans f fun b hb y => (c.gw.old b hb).mp y, c.gw.trans gw c.fr.size, x, un, c.len, (q _ (by omega) (by omega)).trans c.ry, w _ (by omega) (by omega) c.oy, (q _ (by omega) (by omega)).trans c.re, w _ (by omega) (by omega) c.oe,
    (q _ (by omega) (by omega)).trans c.rb, (q _ (by omega) (by omega)).trans c.rp, (q _ (by omega) (by omega)).trans c.rf, w _ (by omega) (by omega) c.of_,
    ⟨(q _ (by omega) (by omega)).trans c.gd.o, (q _ (by omega) (by omega)).trans c.gd.t, (q _ (by omega) (by omega)).trans c.gd.m⟩, fun b h1 h2 y => c.nF b h1 h2 ((gw.old b (by omega)).mp y)⟩
theorem CX.no {h hh h' : Heap} {F F' : Nat → Prop} {t d : Option Addr} {T0 T' : TM} {g : G} {I : Ids} {R' : List Int} {u : Nat} (c : CX h F t d T0 g I hh F' T' R' u) (f : Fr No hh h') : CX h F t d T0 g I h' F' T' R' u :=
  c.call (f.mono fun _ _ y => y.elim) (Gw.refl f.size fun b hb => c.x.lt hb) (c.x.no f) c.un
/-- the record is written -/
theorem CX.setR {h hh h' : Heap} {F F' : Nat → Prop} {t d : Option Addr} {T0 T' : TM} {g : G} {I : Ids} {R' R'' : List Int} {u : Nat} (c : CX h F t d T0 g I hh F' T' R' u) (dd : Did I.fb hh h' (fileV t g R'')) (hl : R''.length = 15) : CX h F t d T0 g I h' F' T' R'' u := by
  obtain ⟨a1, a2, a3, a4, a5, a6, a7, a8, a9⟩ := c.ok
  have hi := c.hi
  have lo := c.lo
  have z := dd.size
  have q : ∀ b, I.yb ≤ b → b ≤ I.pb → b ≠ I.fb → rd h' b = rd hh b := fun b h1 h2 h3 => dd.at_ (by omega) h3
  exact ⟨c.ok, c.lo, by omega, c.fr.did dd fun hl => by omega, ⟨c.gw.old, fun b hb => Nat.lt_of_lt_of_le (c.gw.lt b hb) dd.fr.size⟩, c.x.fr dd.fr fun b hb y => c.nF I.fb (by omega) (by omega) (by have y : b = I.fb := y; rw [← y]; exact hb), c.un, hl, (q _ (by omega) (by omega) (by omega)).trans c.ry, dd.ow c.oy, (q _ (by omega) (by omega) (by omega)).trans c.re, dd.ow c.oe,
    (q _ (by omega) (by omega) (by omega)).trans c.rb, (q _ (by omega) (by omega) (by omega)).trans c.rp, dd.rd, dd.own,
    ⟨(q _ (by omega) (by omega) (by omega)).trans c.gd.o, (q _ (by omega) (by omega) (by omega)).trans c.gd.t, (q _ (by omega) (by omega) (by omega)).trans c.gd.m⟩, c.nF⟩
/-- Cut ends -/
theorem CX.fin {h hh : Heap} {F F' : Nat → Prop} {t d : Option Addr} {T0 T' : TM} {g : G} {I : Ids} {R' Y : List Int} {u : Nat} {e : Int} {K : Value → Heap → Prop} (c : CX h F t d T0 g I hh F' T' R' u) (hu : u < 1000000000) (hY : Y.length = 15) (em : T0.mark = ((T0.undo.length : Int), 0))
    (hK : ∀ h' F', Fr F h h' → Gw h F h' F' → Tx h' F' t d (if e ≠ 0 then (T'.back T0.undo.length).1 else T') → K (.tuple #[.agg ⟨ints (if e ≠ 0 then z15 else Y)⟩, .int .i64 e]) h') :
    PutRow ⟨I.yb, 0, none⟩ (ints Y) 15 hh fun h1 => Put ⟨I.eb, 0, none⟩ (.int .i64 e) h1 fun h2 => D.bmap_Cut_c1 (some ⟨I.bk, 0, none⟩) (some ⟨I.eb, 0, none⟩) (some ⟨I.yb, 0, none⟩) h2 fun h3 =>
      ∃ res1 : List Value, List.length res1 = 15 ∧ Cells h3 ⟨I.yb, 0, none⟩ res1 ∧ ∃ (res2 : Int), cellOf h3 ⟨I.eb, 0, none⟩ = some (.int .i64 res2) ∧ K (.tuple #[.agg ⟨res1⟩, .int .i64 res2]) h3 := by
  obtain ⟨a1, a2, a3, a4, a5, a6, a7, a8, a9⟩ := c.ok
  have hi := c.hi
  have lo := c.lo
  refine PutRow.intro c.oy (by rw [ints_length, hY]) (ints_one _) (by rw [c.ry]; exact Nat.le_refl _) fun h1 d1 => Put.intro (d1.ow c.oe) (by rw [d1.at_ (by omega) (by omega), c.re]; exact Nat.zero_lt_one) fun h2 d2 => ?_
  have z1 := d1.size
  have z2 := d2.size
  have f2 : Fr (fun b => b = I.yb ∨ b = I.eb) hh h2 := ((Fr.refl _ _).did d1 fun _ => .inl rfl).did d2 fun _ => .inr rfl
  have ry : rd h2 I.yb = ints Y := by rw [d2.at_ (by omega) (by omega), d1.rd, c.ry]; exact put_all _ _ (by rw [ints_length, hY]; rfl)
  have re : rd h2 I.eb = [.int .i64 e] := by rw [d2.rd, d1.at_ (by omega) (by omega), c.re]; rfl
  have oy : Own h2 I.yb := d2.ow d1.own
  have x2 : Tx h2 F' t d T' := c.x.fr f2 fun b hb y => by
    rcases y with rfl | rfl
    · exact c.nF _ (by omega) (by omega) hb
    · exact c.nF _ (by omega) (by omega) hb
  have gd2 : Gd h2 I.ob I.tb I.mb t T0.mark := c.gd.fr f2 (by rintro (y | y) <;> omega) (by rintro (y | y) <;> omega) (by rintro (y | y) <;> omega)
  have rb : rd h2 I.bk = [gdV I.ob I.tb I.mb] := (f2.rd (by omega) (by rintro (y | y) <;> omega)).trans c.rb
  have un := c.un
  refine bmap_Cut_c1.okD (os ⟨_, rdc rb rfl, os ⟨_, rdc re rfl, guard_c1_spec x2 gd2 (by omega) fun h3 f3 x3 => ⟨rfl, ?_⟩⟩⟩)
  have z3 := f3.size
  have F3 : Fr F h h3 := (c.fr.trans f2 fun b hb y => by rcases y with y | y <;> omega).trans f3 fun b hb y => (c.gw.old b hb).mp y
  have G3 : Gw h F h3 F' := ⟨c.gw.old, fun b hb => Nat.lt_of_lt_of_le (c.gw.lt b hb) (by omega)⟩
  have re3 : rd h3 I.eb = [.int .i64 e] := (f3.rd (by omega) (c.nF _ (by omega) (by omega))).trans re
  have ry3 : rd h3 I.yb = ints Y := (f3.rd (by omega) (c.nF _ (by omega) (by omega))).trans ry
  rw [em] at x3
  refine os ⟨_, rdc re3 rfl, cn (fun he => ?_) fun he => ?_⟩
  · rw [if_pos ⟨he, rfl⟩] at x3
    rw [if_pos he, if_pos he] at hK
    refine os (PutRow.intro (f3.own (by omega) (c.nF _ (by omega) (by omega)) oy) rfl z15_one (by rw [ry3, ints_length, hY]; exact Nat.le_refl _) fun h4 d4 => ?_)
    have z4 := d4.size
    refine ⟨ints z15, rfl, cellsAll ?_, e, rdc (xs := [.int .i64 e]) ((d4.at_ (by omega) (by omega)).trans re3) rfl, hK h4 F' (F3.did d4 fun hl => by omega) ⟨G3.old, fun b hb => Nat.lt_of_lt_of_le (G3.lt b hb) d4.fr.size⟩ (x3.fr d4.fr fun b hb y => c.nF I.yb (by omega) (by omega) (by have y : b = I.yb := y; rw [← y]; exact hb))⟩
    rw [d4.rd, ry3]; exact put_all _ _ (by rw [ints_length, hY]; rfl)
  · rw [if_neg (fun y => y.1 he)] at x3
    rw [if_neg (fun y => y he), if_neg (fun y => y he)] at hK
    exact ⟨ints Y, by rw [ints_length, hY], cellsAll ry3, e, rdc re3 rfl, hK h3 F' F3 G3 x3⟩
end Go.Proofs.YtcdpakjhjmchhaaGreatDoor.Bm
/-
  PACKAGE bmap: Cut.
-/
namespace Go.Proofs.YtcdpakjhjmchhaaGreatDoor.Bm
open Go Go.Proofs Go.Proofs.YtcdpakjhjmchhaaGreatDoor.Wx Go.Proofs.YtcdpakjhjmchhaaGreatDoor.Hp Go.Proofs.YtcdpakjhjmchhaaGreatDoor.W Go.Proofs.YtcdpakjhjmchhaaGreatDoor.Ad Go.Proofs.YtcdpakjhjmchhaaGreatDoor.Tm Go.Proofs.YtcdpakjhjmchhaaGreatDoor.Spc Go.Proofs.YtcdpakjhjmchhaaGreatDoor.Re Go.Proofs.YtcdpakjhjmchhaaGreatDoor.Av
open Go.Proofs.YtcdpakjhjmchhaaGreatDoor.Hd (ints wrap_u64)
open Go.Proofs.YtcdpakjhjmchhaaGreatDoor.In (Glo ints_length ints_one)

def tabV (pb xb : Nat) : Value := .func (.func 81) #[] ⟨[.pointer (some ⟨pb, 0, none⟩), .pointer (some ⟨xb, 0, none⟩)]⟩
theorem tab_drop {h : Heap} {F : Nat → Prop} {t d : Option Addr} {g : G} {R : List Int} {fb pb xb : Nat} {first : Int} (gl : Glo h) (ok : g.ok) (e : rd h fb = fileV t g R) (hf : ¬ F fb ∧ ¬ F pb ∧ ¬ F xb) (g0 : ∀ b, b < 1 → ¬ F b) (rp : rd h pb = [.pointer (some ⟨fb, 0, none⟩)]) (rx : rd h xb = [.int .i64 first])
    (h0 : 0 ≤ first) (h1 : first < 100000) (Flt : ∀ b, F b → b < h.size) : DropS (tabV pb xb) (tabD g first) h F t d 999999000 := by
  intro hh F' T i v K f gw x hu hi _ _ hK
  show C.bmap_Cut_c2 (i : Int) v (some ⟨pb, 0, none⟩) (some ⟨xb, 0, none⟩) hh K
  have fl : fb < h.size := rd_lt (o := 0) (by rw [e]; rfl)
  have pl : pb < h.size := rd_lt (o := 0) (by rw [rp]; rfl)
  have xl : xb < h.size := rd_lt (o := 0) (by rw [rx]; rfl)
  have gl1 := gl.lt
  have ef : rd hh fb = fileV t g R := (f.rd fl hf.1).trans e
  have hf' : ¬ F' fb := fun y => hf.1 ((gw.old _ fl).mp y)
  have g0' : ∀ b, b < 1 → ¬ F' b := fun b hb y => g0 b hb ((gw.old b (by omega)).mp y)
  have rp' := (f.rd pl hf.2.1).trans rp
  refine bmap_Cut_c2.ok (os ⟨_, rdc rp' rfl, os ⟨_, rdc ((f.rd xl hf.2.2).trans rx) rfl, os ⟨_, rdc rp' rfl, ?_⟩⟩⟩)
  rw [wrap_i64 (n := (i : Int) * 128) (by omega) (by omega), wrap_i64 (n := first - (i : Int) * 128) (by omega) (by omega), show first - (i : Int) * 128 = first - 128 * (i : Int) by omega]
  exact cut_spec (gl.fr f g0) x ok ef hf' g0' (leaf_drop ok ef hf') (leafD_un g) (by omega) (Nat.le_refl _) fun h' F2 f2 g2 x2 => ⟨_, _, rfl, hK h' F2 f2 g2 x2⟩
theorem cell3 {h : Heap} {b i j k : Nat} {xs : List Value} {v : Value} (e : rd h b = xs) (hv : xs[i + (j + k)]? = some v) : cellOf h (Addr.add (Addr.add (Addr.add ⟨b, 0, none⟩ i) j) k) = some v := by
  rw [add_mk, add_mk, add_mk, cellOf_rd, e, show 0 + i + j + k = i + (j + k) by omega]; exact hv
/-- what is left to be shown of a Cut that has come so far: E is what becomes of it -/
def Goal (h : Heap) (F : Nat → Prop) (t d : Option Addr) (T : TM) (K : Value → Heap → Prop) (E : (TM × List Int) × Int) : Prop :=
  ∀ h' F', Fr F h h' → Gw h F h' F' → Tx h' F' t d (if E.2 ≠ 0 then (E.1.1.back T.undo.length).1 else E.1.1) → K (.tuple #[.agg ⟨ints (if E.2 ≠ 0 then z15 else E.1.2)⟩, .int .i64 E.2]) h'
theorem cellsR {h : Heap} {fb : Nat} {t : Option Addr} {g : G} {R : List Int} (e : rd h fb = fileV t g R) : Cells h (Addr.add ⟨fb, 0, none⟩ 6) (ints R) := by
  refine cellsa e ?_
  show (ints R).take _ = _
  exact List.take_of_length_le (Nat.le_refl _)
section
variable {h : Heap} {F : Nat → Prop} {t d : Option Addr} {T : TM} {g : G} {I : Ids} {K : Value → Heap → Prop} {k : Int}
theorem tail2 (gl : Glo h) (ok : g.ok) (g0 : ∀ b, b < 1 → ¬ F b) (em : T.mark = ((T.undo.length : Int), 0)) (h0 : 0 ≤ k) (h1 : k ≤ 16522) {h3 h4 h11 h14 hh : Heap} {F' : Nat → Prop} {T' : TM} {R' : List Int} {u : Nat} (c : CX h F t d T g I hh F' T' R' u) (hu : u < 999900000)
    (e1 : h3.size = I.yb) (e2 : h4.size = I.eb) (e3 : h11.size = I.bk) (e4 : h14.size = I.pb) (hK : Goal h F t d T K (twoM g k T' R')) : bmap_Cut.k2 k h3 h4 h11 h14 hh K := by
  obtain ⟨a1, a2, a3, a4, a5, a6, a7, a8, a9⟩ := c.ok
  have lo := c.lo
  have hi := c.hi
  have gl1 := gl.lt
  have g0' : ∀ b, b < 1 → ¬ F' b := fun b hb y => g0 b hb ((c.gw.old b (by omega)).mp y)
  have glh : Glo hh := gl.fr c.fr g0
  unfold bmap_Cut.k2
  rw [e1, e2, e3, e4]
  -- nothing to cut
  have none_ : twoM g k T' R' = ((T', R'), 0) → ∃ cs, List.length cs = 15 ∧ Cells hh (Addr.add ⟨I.fb, 0, none⟩ 6) cs ∧ PutRow ⟨I.yb, 0, none⟩ cs 15 hh fun h1 => Put ⟨I.eb, 0, none⟩ (.int .i64 0) h1 fun h2 => D.bmap_Cut_c1 (some ⟨I.bk, 0, none⟩) (some ⟨I.eb, 0, none⟩) (some ⟨I.yb, 0, none⟩) h2 fun h3 =>
      ∃ res1 : List Value, List.length res1 = 15 ∧ Cells h3 ⟨I.yb, 0, none⟩ res1 ∧ ∃ (res2 : Int), cellOf h3 ⟨I.eb, 0, none⟩ = some (.int .i64 res2) ∧ K (.tuple #[.agg ⟨res1⟩, .int .i64 res2]) h3 := fun e => by
    rw [e] at hK
    exact ⟨ints R', by rw [ints_length, c.len], cellsR c.rf, c.fin (e := 0) (by omega) c.len em hK⟩
  refine cd (fun y => ⟨_, rdc c.rp rfl, os ⟨_, cell2 c.rf (fileV_get (i := 14) (by rw [c.len]; decide)), cn (fun y2 => ?_) fun y2 => ?_⟩⟩) fun y => ⟨_, rdc c.rp rfl, os (none_ ?_)⟩
  · have e0 : twoM g k T' R' = rootEnd 14 R' (cutT (tabD g (firstM k)) T' g (R'.getD 14 0) (firstM k / 128)) := by unfold twoM; rw [if_pos ⟨y, y2⟩]
    rw [e0] at hK
    rw [wrap_i64 (n := k - 138) (by omega) (by omega)]
    have ef : (if k - 138 > 0 then k - 138 else 0) = firstM k := rfl
    rw [ef]
    have fr0 : 0 ≤ firstM k ∧ firstM k < 100000 := by unfold firstM; split <;> omega
    refine New.intro fun h29 n29 => Put.intro n29.own (by rw [n29.rd]; decide) fun h30 d30 => ?_
    have z29 := n29.size
    have z30 := d30.size
    have F30 : Fr No hh h30 := n29.fr.did d30 fun hl => by omega
    have c30 := c.no F30
    have rx : rd h30 hh.size = [.int .i64 (firstM k)] := by rw [d30.rd, n29.rd]; rfl
    have nx : ¬ F' hh.size := fun y => by have := c.x.lt y; omega
    refine ⟨_, rdc c30.rp rfl, _, rdc c30.rp rfl, os ⟨_, cell2 c30.rf (fileV_get (i := 14) (by rw [c.len]; decide)), _, rdc rx rfl, ?_⟩⟩
    have ed : Int.tdiv (firstM k) 128 = firstM k / 128 := Int.tdiv_eq_ediv_of_nonneg fr0.1
    rw [ed, wrap_i64 (n := firstM k / 128) (by omega) (by omega)]
    have un := c.un
    have nfb := c.nF I.fb (by omega) (by omega)
    refine cut_spec (u := 129) (lim := 999999000) (glh.no F30) c30.x ok c30.rf nfb g0' (tab_drop (glh.no F30) ok c30.rf ⟨nfb, c.nF I.pb (by omega) (by omega), nx⟩ g0' c30.rp rx fr0.1 fr0.2 fun b hb => c30.x.lt hb) (tabD_un g (firstM k)) (by omega) (by decide) fun h31 F31 f31 g31 x31 => ⟨_, _, rfl, ?_⟩
    have hun := cutT_un (T := T') (g := g) (tab := R'.getD 14 0) (from_ := firstM k / 128) (tabD_un g (firstM k))
    generalize cutT (tabD g (firstM k)) T' g (R'.getD 14 0) (firstM k / 128) = C at hK x31 hun
    obtain ⟨T3, left, er⟩ := C
    simp only at x31 hun
    have c31 := c30.call f31 g31 x31 (u' := u + 20000) (by omega)
    unfold rootEnd at hK
    refine cn (fun he => ?_) fun he => cnot ?_
    · rw [if_pos he] at hK
      exact ⟨ints z15, rfl, cellsAll c31.ry, c31.fin (Y := z15) (e := er) (by omega) rfl em (by
        intro h' F2 f2 g2 x2
        have := hK h' F2 f2 g2
        simp only at this
        rw [if_pos he] at x2 this
        rw [if_pos he]
        rw [if_pos he] at this
        exact this x2)⟩
    · have he : er = 0 := he
      rw [if_neg (fun z => z he)] at hK
      cases left with
      | true =>
        exact ct rfl ⟨_, rdc c31.rp rfl, os ⟨ints R', by rw [ints_length, c.len], cellsR c31.rf, c31.fin (e := 0) (by omega) c.len em hK⟩⟩
      | false =>
        refine cf rfl ⟨_, rdc c31.rp rfl, os ?_⟩
        rw [add_mk, add_mk]
        refine Put.intro c31.of_ (by rw [c31.rf, fileV_len c.len]; decide) fun h35 d35 => ?_
        have d35 : Did I.fb h31 h35 (fileV t g (R'.set 14 0)) := by
          have := d35
          rw [c31.rf, show 0 + 6 + 14 = 6 + 14 by rfl, fileV_set] at this; exact this
        have c35 := c31.setR d35 (by rw [List.length_set]; exact c.len)
        exact ⟨_, rdc c35.rp rfl, os ⟨ints (R'.set 14 0), by rw [ints_length, c35.len], cellsR c35.rf, c35.fin (e := 0) (by omega) c35.len em hK⟩⟩
  · refine ⟨_, rdc c.rp rfl, os (none_ ?_)⟩
    unfold twoM; rw [if_neg (fun z => z.2 y2)]
  · unfold twoM; rw [if_neg (fun z => y z.1)]
end
theorem Cut_spec {h : Heap} {F : Nat → Prop} {t d : Option Addr} {T : TM} {g : G} {R : List Int} {k : Int} {K : Value → Heap → Prop} (gl : Glo h) (ok : g.ok) (x : Tx h F t d T) (live : T.over = false) (hR : R.length = 15) (g0 : ∀ b, b < 1 → ¬ F b) (hu : T.undo.length < 900000000)
    (hK : ∀ h' F', Fr F h h' → Gw h F h' F' → Tx h' F' t d (cutM T g R k).1 → K (.tuple #[.agg ⟨ints (cutM T g R k).2.1⟩, .int .i64 (cutM T g R k).2.2]) h') : C.bmap_Cut t g.v (ints R) k h K := by
  have Flt := fun y (hy : F y) => x.lt hy
  have gl1 := gl.lt
  refine bmap_Cut.ok (New.intro fun h2 n2 => New.intro fun h3 n3 => New.intro fun h4 n4 => New.intro fun h5 n5 => ?_)
  have z2 := n2.size
  have z3 := n3.size
  have z4 := n4.size
  have z5 := n5.size
  have F5 : Fr No h h5 := ((n2.fr.new n3).new n4).new n5
  have ry : rd h5 h3.size = ints z15 := (n5.at_ (by omega)).trans n4.rd
  have oy : Own h5 h3.size := n5.ow n4.own
  have re : rd h5 h4.size = [.int .i64 0] := n5.rd
  have oe' : Own h5 h4.size := n5.own
  by_cases hk : 0 ≤ k ∧ k ≤ 16522
  rotate_left
  · have e0 : cutM T g R k = (T, z15, 101) := by unfold cutM; rw [if_pos (by omega)]
    rw [e0] at hK
    have far : PutRow ⟨h3.size, 0, none⟩ (ints z15) 15 h5 fun h8 => Put ⟨h4.size, 0, none⟩ (.int .i64 101) h8 fun h10 =>
        ∃ res1 : List Value, List.length res1 = 15 ∧ Cells h10 ⟨h3.size, 0, none⟩ res1 ∧ ∃ (res2 : Int), cellOf h10 ⟨h4.size, 0, none⟩ = some (.int .i64 res2) ∧ K (.tuple #[.agg ⟨res1⟩, .int .i64 res2]) h10 := by
      refine PutRow.intro oy rfl z15_one (by rw [ry]; exact Nat.le_refl _) fun h8 d8 => Put.intro (d8.ow oe') (by rw [d8.at_ (by omega) (by omega), re]; decide) fun h10 d10 => ?_
      have z8 := d8.size
      have F10 : Fr No h h10 := (F5.did d8 fun hl => by omega).did d10 fun hl => by omega
      refine ⟨ints z15, rfl, cellsAll ?_, 101, rdc (xs := [.int .i64 101]) ?_ rfl, hK h10 F (F10.mono fun _ _ y => y.elim) (Gw.refl F10.size Flt) (x.no F10)⟩
      · rw [d10.at_ (by omega) (by omega), d8.rd, ry]; exact put_all _ _ rfl
      · rw [d10.rd, d8.at_ (by omega) (by omega), re]; rfl
    exact cd (fun _ => far) fun y => cd (fun _ => far) fun y2 => by exfalso; omega
  refine cd (fun y => by exfalso; omega) fun _ => cd (fun y => by exfalso; omega) fun _ => ?_
  have rg : rd h5 h.size = g.v := (n5.at_ (by omega)).trans ((n4.at_ (by omega)).trans ((n3.at_ (by omega)).trans n2.rd))
  have rx : rd h5 h2.size = ints R := (n5.at_ (by omega)).trans ((n4.at_ (by omega)).trans n3.rd)
  unfold bmap_Cut.k1
  refine guard_spec (x.no F5) fun ob tb mb h11 f11 b1 b2 b3 gd => ⟨_, _, _, rfl, New.intro fun h12 n12 => ?_⟩
  have z11 := f11.size
  have z12 := n12.size
  obtain ⟨gl1', gl2', gl3'⟩ := gd.lt
  refine Put.intro n12.own (by rw [n12.rd]; decide) fun h13 d13 => ?_
  have z13 := d13.size
  have q13 : ∀ b, b < h11.size → rd h13 b = rd h11 b := fun b hb => (d13.at_ (by omega) (by omega)).trans (n12.at_ hb)
  have q5 : ∀ b, b < h5.size → rd h11 b = rd h5 b := fun b hb => f11.rd hb fun y => y
  refine ⟨g.v, rfl, cellsAll ((q13 _ (by omega)).trans ((q5 _ (by omega)).trans rg)), ints R, by rw [ints_length, hR], cellsAll ((q13 _ (by omega)).trans ((q5 _ (by omega)).trans rx)), rfl, by rw [ints_length, hR], New.intro fun h14 n14 => New.intro fun h15 n15 => ?_⟩
  have z14 := n14.size
  have z15' := n15.size
  refine Put.intro n15.own (by rw [n15.rd]; decide) fun h16 d16 => ?_
  have z16 := d16.size
  have q16 : ∀ b, b < h13.size → rd h16 b = rd h13 b := fun b hb => (d16.at_ (by omega) (by omega)).trans ((n15.at_ (by omega)).trans (n14.at_ hb))
  have o16 : ∀ {b}, Own h5 b → Own h16 b := fun w => d16.ow (n15.ow (n14.ow (d13.ow (n12.ow (f11.own w.lt (fun y => y) w)))))
  have F13 : Fr No h h13 := ((F5.no f11).new n12).did d13 fun hl => by omega
  have F16 : Fr No h h16 := ((F13.new n14).new n15).did d16 fun hl => by omega
  have s5 := F5.size
  have em : T.mark = ((T.undo.length : Int), 0) := by unfold TM.mark; rw [live, if_neg (by simp)]
  have c16 : CX h F t d T g ⟨h3.size, h4.size, ob, tb, mb, h11.size, h13.size, h14.size⟩ h16 F T R T.undo.length := by
    refine ⟨⟨by show h3.size < h4.size; omega, by show h4.size < ob; omega, by show h4.size < tb; omega, by show h4.size < mb; omega, gl1', gl2', gl3', by show h11.size < h13.size; omega, by show h13.size < h14.size; omega⟩, by show h.size ≤ h3.size; omega, by show h14.size < h16.size; omega, F16.mono fun _ _ y => y.elim, Gw.refl F16.size Flt, x.no F16, Nat.le_refl _, hR,
      (q16 h3.size (by omega)).trans ((q13 _ (by omega)).trans ((q5 _ (by omega)).trans ry)), o16 oy, (q16 h4.size (by omega)).trans ((q13 _ (by omega)).trans ((q5 _ (by omega)).trans re)), o16 oe', (q16 h11.size (by omega)).trans (by rw [d13.rd, n12.rd]; rfl), (show rd h16 h14.size = _ by rw [d16.rd, n15.rd]; rfl),
      (d16.at_ (c := h13.size) (by omega) (by omega)).trans ((n15.at_ (by omega)).trans n14.rd), d16.ow (n15.ow n14.own), ⟨(q16 ob (by omega)).trans ((q13 _ gl1').trans gd.o), (q16 tb (by omega)).trans ((q13 _ gl2').trans gd.t), (q16 mb (by omega)).trans ((q13 _ gl3').trans gd.m)⟩, fun b hb _ y => ?_⟩
    have hb : h3.size ≤ b := hb
    have := Flt b y
    omega
  obtain ⟨I, j1, j2, j3, j4, j5, c16⟩ : ∃ I : Ids, h3.size = I.yb ∧ h4.size = I.eb ∧ h11.size = I.bk ∧ h14.size = I.pb ∧ h13.size = I.fb ∧ CX h F t d T g I h16 F T R T.undo.length := ⟨_, rfl, rfl, rfl, rfl, rfl, c16⟩
  have ec : cutM T g R k = if (cutS g k T R).2 ≠ 0 then (((cutS g k T R).1.1.back T.undo.length).1, z15, (cutS g k T R).2) else ((cutS g k T R).1.1, (cutS g k T R).1.2, 0) := by unfold cutM; rw [if_neg (by omega)]
  have hG : Goal h F t d T K (cutS g k T R) := by
    intro h' F2 f2 g2 x2
    have := hK h' F2 f2 g2
    rw [ec] at this
    by_cases he : (cutS g k T R).2 ≠ 0
    · rw [if_pos he] at x2 this ⊢
      exact this x2
    · have he' : (cutS g k T R).2 = 0 := Decidable.byContradiction he
      rw [if_neg he] at x2 this ⊢
      rw [he']
      exact this x2
  clear hK ec
  refine ⟨fun i hh => ∃ (F' : Nat → Prop) (T' : TM) (R' : List Int), CX h F t d T g I hh F' T' R' (T.undo.length + (i - k).toNat) ∧ k ≤ i ∧ (i ≤ 10 ∨ i = k) ∧ dirGo g (List.range' i.toNat (10 - i.toNat)) T' R' = dirGo g (dirsM k) T R, fun i _ => ((10 : Int) - i).toNat,
    ⟨F, T, R, by rw [Int.sub_self]; exact c16, Int.le_refl _, .inr rfl, rfl⟩, ?_⟩
  rintro i h17 ⟨F', T', R', c, i0, i1, ed⟩
  obtain ⟨a1, a2, a3, a4, a5, a6, a7, a8, a9⟩ := c.ok
  have lo := c.lo
  have hi := c.hi
  have un := c.un
  have g0' : ∀ b, b < 1 → ¬ F' b := fun b hb y => g0 b hb ((c.gw.old b (by omega)).mp y)
  have glh : Glo h17 := gl.fr c.fr g0
  rw [j1, j2, j3, j4]
  refine cd (fun hl => ?_) fun hl => ?_
  · have el : List.range' i.toNat (10 - i.toNat) = i.toNat :: List.range' (i + 1).toNat (10 - (i + 1).toNat) := by
      rw [show 10 - i.toNat = (10 - (i + 1).toNat) + 1 by omega, List.range'_succ, show (i + 1).toNat = i.toNat + 1 by omega]
    rw [el] at ed
    have ed : (if R'.getD (3 + i.toNat) 0 = 0 then dirGo g (List.range' (i + 1).toNat (10 - (i + 1).toNat)) T' R' else if (giveF T' g (R'.getD (3 + i.toNat) 0)).2 ≠ 0 then (((giveF T' g (R'.getD (3 + i.toNat) 0)).1, R'), (giveF T' g (R'.getD (3 + i.toNat) 0)).2) else
      dirGo g (List.range' (i + 1).toNat (10 - (i + 1).toNat)) (giveF T' g (R'.getD (3 + i.toNat) 0)).1 (R'.set (3 + i.toNat) 0)) = dirGo g (dirsM k) T R := ed
    have cell := fileV_get (t := t) (g := g) (R := R') (i := 3 + i.toNat) (by rw [c.len]; omega)
    have wr : IntKind.wrap .i64 (i + 1) = i + 1 := wrap_i64 (by omega) (by omega)
    rw [wr]
    refine ⟨_, rdc c.rp rfl, os ⟨⟨by omega, hl⟩, _, cell3 c.rf cell, cn (fun y => ?_) fun y => ?_⟩⟩
    · rw [if_neg y] at ed
      refine ⟨_, rdc c.rp rfl, _, rdc c.rp rfl, os ⟨⟨by omega, hl⟩, _, cell3 c.rf cell, give_spec c.x ok c.rf (by omega) fun h18 F8 f8 g8 x8 => ⟨_, rfl, ?_⟩⟩⟩
      have gu := giveF_un T' g (R'.getD (3 + i.toNat) 0)
      generalize giveF T' g (R'.getD (3 + i.toNat) 0) = W at ed x8 gu
      obtain ⟨T8, e8⟩ := W
      simp only at ed x8 gu
      have c8 := c.call f8 g8 x8 (u' := T.undo.length + (i + 1 - k).toNat) (by omega)
      refine cn (fun he => ?_) fun he => ?_
      · rw [if_pos he] at ed
        have es : cutS g k T R = ((T8, R'), e8) := by unfold cutS; rw [← ed, if_pos he]
        rw [es] at hG
        refine ⟨ints z15, rfl, cellsAll c8.ry, c8.fin (Y := z15) (e := e8) (by omega) rfl em ?_⟩
        intro h' F2 f2 g2 x2
        have := hG h' F2 f2 g2
        simp only at this
        rw [if_pos he] at x2
        rw [if_pos he, if_pos he] at this
        rw [if_pos he]
        exact this x2
      · rw [if_neg (fun z => z he)] at ed
        refine ⟨_, rdc c8.rp rfl, os ⟨⟨by omega, hl⟩, ?_⟩⟩
        rw [add_mk, add_mk, add_mk]
        refine Put.intro c8.of_ (by rw [c8.rf, fileV_len c8.len]; omega) fun h22 d22 => ?_
        have d22 : Did I.fb h18 h22 (fileV t g (R'.set (3 + i.toNat) 0)) := by
          have := d22
          rw [c8.rf, show 0 + 6 + 3 + i.toNat = 6 + (3 + i.toNat) by omega, fileV_set] at this; exact this
        exact ⟨⟨F8, T8, _, c8.setR d22 (by rw [List.length_set]; exact c8.len), by omega, by omega, ed⟩, by show ((10 : Int) - (i + 1)).toNat < ((10 : Int) - i).toNat; omega⟩
    · rw [if_pos y] at ed
      exact ⟨⟨F', T', R', ⟨c.ok, c.lo, c.hi, c.fr, c.gw, c.x, by omega, c.len, c.ry, c.oy, c.re, c.oe, c.rb, c.rp, c.rf, c.of_, c.gd, c.nF⟩, by omega, by omega, ed⟩, by show ((10 : Int) - (i + 1)).toNat < ((10 : Int) - i).toNat; omega⟩
  · have el : List.range' i.toNat (10 - i.toNat) = [] := by rw [show 10 - i.toNat = 0 by omega]; rfl
    rw [el] at ed
    have ed : ((T', R'), (0 : Int)) = dirGo g (dirsM k) T R := ed
    have ubd : (i - k).toNat ≤ 10 := by omega
    have es : cutS g k T R = if (oneM g k T' R').2 ≠ 0 then oneM g k T' R' else twoM g k (oneM g k T' R').1.1 (oneM g k T' R').1.2 := by unfold cutS; rw [← ed, if_neg (fun z => z rfl)]
    rw [es] at hG
    have skip : oneM g k T' R' = ((T', R'), 0) → bmap_Cut.k2 k h3 h4 h11 h14 h17 K := fun e => by
      rw [e, if_neg (fun z => z rfl)] at hG
      exact tail2 gl ok g0 em hk.1 hk.2 c (by omega) j1 j2 j3 j4 hG
    refine cd (fun y => ⟨_, rdc c.rp rfl, os ⟨_, cell2 c.rf (fileV_get (i := 13) (by rw [c.len]; decide)), cn (fun y2 => ?_) fun y2 => skip ?_⟩⟩) fun y => skip ?_
    · have e0 : oneM g k T' R' = rootEnd 13 R' (cutT (leafD g) T' g (R'.getD 13 0) (k - 10)) := by unfold oneM; rw [if_pos ⟨y, y2⟩]
      rw [e0] at hG
      have nfb := c.nF I.fb (by omega) (by omega)
      refine ⟨_, rdc c.rp rfl, _, rdc c.rp rfl, os ⟨_, cell2 c.rf (fileV_get (i := 13) (by rw [c.len]; decide)), _, rdc c.rp rfl, ?_⟩⟩
      rw [wrap_i64 (n := k - 10) (by omega) (by omega)]
      refine cut_spec (u := 1) (lim := 1000000000) glh c.x ok c.rf nfb g0' (leaf_drop ok c.rf nfb) (leafD_un g) (by omega) (Nat.le_refl _) fun h23 F3 f3 g3 x3 => ⟨_, _, rfl, ?_⟩
      have hun := cutT_un (T := T') (g := g) (tab := R'.getD 13 0) (from_ := k - 10) (leafD_un g)
      generalize cutT (leafD g) T' g (R'.getD 13 0) (k - 10) = C at hG x3 hun
      obtain ⟨T3, left, er⟩ := C
      simp only at x3 hun
      have c23 := c.call f3 g3 x3 (u' := T.undo.length + 1000) (by omega)
      unfold rootEnd at hG
      refine cn (fun he => ?_) fun he => cnot ?_
      · simp only at hG
        rw [if_pos he, if_pos he] at hG
        refine ⟨ints z15, rfl, cellsAll c23.ry, c23.fin (Y := z15) (e := er) (by omega) rfl em ?_⟩
        intro h' F2 f2 g2 x2
        have := hG h' F2 f2 g2
        simp only at this
        rw [if_pos he] at x2
        rw [if_pos he, if_pos he] at this
        rw [if_pos he]
        exact this x2
      · have he : er = 0 := he
        simp only at hG
        rw [if_neg (show ¬ (er ≠ 0) from fun z => z he), if_neg (fun z => z rfl)] at hG
        cases left with
        | true => exact ct rfl (tail2 gl ok g0 em hk.1 hk.2 c23 (by omega) j1 j2 j3 j4 hG)
        | false =>
          refine cf rfl ⟨_, rdc c23.rp rfl, os ?_⟩
          rw [add_mk, add_mk]
          refine Put.intro c23.of_ (by rw [c23.rf, fileV_len c23.len]; decide) fun h27 d27 => ?_
          have d27 : Did I.fb h23 h27 (fileV t g (R'.set 13 0)) := by
            have := d27
            rw [c23.rf, show 0 + 6 + 13 = 6 + 13 by rfl, fileV_set] at this; exact this
          exact tail2 gl ok g0 em hk.1 hk.2 (c23.setR d27 (by rw [List.length_set]; exact c23.len)) (by omega) j1 j2 j3 j4 hG
    · unfold oneM; rw [if_neg (fun z => z.2 y2)]
    · unfold oneM; rw [if_neg (fun z => y z.1)]
end Go.Proofs.YtcdpakjhjmchhaaGreatDoor.Bm
