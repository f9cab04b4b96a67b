/-
  SlotsRefused.
-/
import Derived.Test.YtgpkcakanieodaaDoorSlF
namespace Go.Proofs.YtgpkcakanieodaaDoor.Ss
open Go Go.Proofs Go.Proofs.YtgpkcakanieodaaDoor.Wx Go.Proofs.YtgpkcakanieodaaDoor.Hp Go.Proofs.YtgpkcakanieodaaDoor.W Go.Proofs.YtgpkcakanieodaaDoor.Re Go.Proofs.YtgpkcakanieodaaDoor.Sk Go.Proofs.YtgpkcakanieodaaDoor.Ch

theorem putU_get {xs ys : List UInt8} {o i : Nat} (h : o + ys.length ≤ xs.length) : (putU xs o ys)[i]? = if o ≤ i ∧ i < o + ys.length then ys[i - o]? else xs[i]? := by
  have lt : (xs.take o).length = o := by rw [List.length_take]; omega
  unfold putU
  by_cases h1 : i < o
  · rw [if_neg (by omega), List.append_assoc, List.getElem?_append_left (by omega), List.getElem?_take_of_lt h1]
  · by_cases h2 : i < o + ys.length
    · rw [if_pos ⟨by omega, h2⟩, List.getElem?_append_left (by rw [List.length_append]; omega), List.getElem?_append_right (by omega), lt]
    · rw [if_neg (by omega), List.getElem?_append_right (by rw [List.length_append]; omega), List.length_append, lt, List.getElem?_drop]
      congr 1; omega
theorem Sl.sub {h : Heap} {b o l c i j c' : Nat} {bs : List UInt8} {F : Nat → Prop} (s : Sl h 1 (some ⟨b, o, none⟩) l c (bs.map bv) F) (hij : i ≤ j) (hj : j ≤ l) (h1 : j - i ≤ c') (h2 : i + c' ≤ c) : Sl h 1 (some ⟨b, o + i, none⟩) (j - i) c' (((bs.drop i).take (j - i)).map bv) F := by
  obtain ⟨e1, a1, a2, a3, a4, a5, a6⟩ := s
  rw [List.length_map, Nat.mul_one] at e1
  simp only [List.length_map] at a2 a3 a5 a6
  have ll : ((bs.drop i).take (j - i)).length = j - i := by rw [List.length_take, List.length_drop]; omega
  refine ⟨by rw [List.length_map, ll, Nat.mul_one], rfl, a2, a3, h1, ?_, ?_⟩
  · simp only [List.length_map, ll]
    rw [List.map_take, List.map_drop, ← a5, ← List.drop_drop, List.drop_take, List.take_take, e1]
    congr 1
    omega
  · simp only; omega
theorem same_wrote {h h' : Heap} {b o l c : Nat} {xs : List Value} {F : Nat → Prop} (s : Sl h 1 (some ⟨b, o, none⟩) l c xs F) (d : Wrote b h h' (rd h b)) : Sl h' 1 (some ⟨b, o, none⟩) l c xs F := by
  have e := put_self s
  have h1 := s.1
  have := Sl.wrote (j := 0) (new := xs) s (by omega) ⟨d.fr, d.own, by rw [d.rd]; exact e.symm⟩
  rw [put_all _ _ rfl] at this
  exact this
/-- entries that Put refuses -/
theorem putA_bad {bs : List UInt8} {e : E} (hb : bs.length = 512) (h : putOk e = false) : putA bs e = (140, bs) := by
  rw [putA, if_neg (by omega), h]; rfl
theorem clrA_bad {bs : List UInt8} {k : Int} (hb : bs.length = 512) (h : ¬ (0 ≤ k ∧ k < 16)) : clrA bs k = (140, bs) := by
  rw [clrA, if_neg (by omega), if_neg h]
theorem refused_k3 {h4 h11 hh : Heap} {X : List UInt8} {e : E} {wa : Option Addr} {wl : Nat} {K : Value → Heap → Prop} {h : Heap} (g : Glo hh) (f : Fr No h hh) (h4h : h.size ≤ h4.size) (h411 : h4.size < h11.size) (h1 : 1 ≤ h4.size) (hX : X.length = 512) (ok : putOk e = true)
    (s : Sl hh 1 (some ⟨h4.size, 0, none⟩) 512 512 (X.map bv) (fun x => x = h4.size)) {wc : Nat} (W : Sl hh 1 wa wl wc (X.map bv) (fun x => h4.size < x)) (h11l : h11.size < hh.size) (re : rd hh h11.size = E.v e)
    (hK : ∀ h', Fr No h h' → K (.bool true) h') : bolelaw14_SlotsRefused.k3 h4 wa wl h11 hh K := by
  obtain ⟨p0, p1, _, _, _, gd⟩ := putOk_good ok
  have fl : (form e.inode.toNat e.name).length = 32 := form_length gd
  have ea : putA X e = (0, putU X (32 * e.place.toNat) (form e.inode.toNat e.name)) := by rw [putA, if_neg (by omega), if_pos ok]
  have hwl : wl = 512 := by have := W.1; rw [List.length_map] at this; omega
  refine ⟨_, rfl, cellsAll re, Put_spec g h1 s fun h27 d27 => ⟨_, rfl, ?_⟩⟩
  rw [ea] at d27 ⊢
  have yl : (putU X (32 * e.place.toNat) (form e.inode.toNat e.name)).length = X.length := putU_length (by omega)
  have s27 := Sl.all s yl d27
  have W27 := W.fr d27.fr fun b _ hb e => by omega
  have re27 : rd h27 h11.size = E.v e := (d27.fr.rd h11l (by omega)).trans re
  have hs27 := d27.fr.size
  have f27 := Wrote.no f h4h d27
  have gX : ∀ {hq : Heap}, Sl hq 1 wa wl wc (X.map bv) (fun x => h4.size < x) → ∀ {i : Int}, 0 ≤ i → ∀ hi : i < 512, ∃ p, wa = some p ∧ cellOf hq (p.add i.toNat) = some (bv (X[i.toNat]'(by omega))) := fun {hq} Wq {i} _ hi => byte_get (Sl.str Wq) (by omega)
  refine cf rfl ⟨fun i hq => 0 ≤ i ∧ i ≤ 512 ∧ h27 = hq, fun i _ => ((512 : Nat) - i).toNat, ⟨by omega, by omega, rfl⟩, ?_⟩
  rintro i _ ⟨i0, i1, rfl⟩
  refine cd (fun hi => ?_) fun hi => ?_
  · have hi : i < 512 := hi
    have e2 : Int.tdiv i 32 = i / 32 := Int.tdiv_eq_ediv_of_nonneg i0
    rw [e2, wrap_i64 (n := i / 32) (by omega) (by omega), wrap_i64 (n := i + 1) (by omega) (by omega)]
    have nx : (0 ≤ i + 1 ∧ i + 1 ≤ 512 ∧ h27 = h27) ∧ ((512 : Nat) - (i + 1)).toNat < ((512 : Nat) - i).toNat := ⟨⟨by omega, by omega, rfl⟩, falls (m := 512) hi⟩
    refine ⟨e.place, rda re27 rfl, cn (fun hne => ?_) fun _ => nx⟩
    obtain ⟨_, eq1, c1⟩ := byte_get s27.str (i := i.toNat) (by rw [yl]; omega)
    cases eq1
    obtain ⟨p, rfl, c2⟩ := gX W27 i0 hi
    refine ⟨⟨i0, by show i < 512; exact hi⟩, _, c1, ⟨i0, by omega⟩, os ⟨_, c2, cn (fun hd => ?_) fun _ => nx⟩⟩
    exfalso
    apply hd
    have hget := putU_get (xs := X) (ys := form e.inode.toNat e.name) (o := 32 * e.place.toNat) (i := i.toNat) (by omega)
    rw [if_neg (by omega), List.getElem?_eq_getElem (by rw [yl]; omega), List.getElem?_eq_getElem (by omega)] at hget
    rw [Option.some.inj hget]
  · have ec : clrA (putU X (32 * e.place.toNat) (form e.inode.toNat e.name)) e.place = (0, putU (putU X (32 * e.place.toNat) (form e.inode.toNat e.name)) (32 * e.place.toNat) (List.replicate 32 0)) := by
      rw [clrA, if_neg (by rw [yl]; omega), if_pos ⟨p0, p1⟩]
    generalize hY : putU X (32 * e.place.toNat) (form e.inode.toNat e.name) = Y at *
    refine ⟨e.place, rda re27 rfl, Clear_spec s27 fun h29 d29 => ⟨_, rfl, ?_⟩⟩
    rw [ec] at d29 ⊢
    have zl : (putU Y (32 * e.place.toNat) (List.replicate 32 0)).length = Y.length := putU_length (by rw [List.length_replicate]; omega)
    have s29 := Sl.all s27 zl d29
    have W29 := W27.fr d29.fr fun b _ hb e => by omega
    have re29 : rd h29 h11.size = E.v e := (d29.fr.rd (by omega) (by omega)).trans re27
    have f29 := Wrote.no f27 h4h d29
    refine cf rfl ⟨fun i hq => 0 ≤ i ∧ i ≤ 512 ∧ h29 = hq, fun i _ => ((512 : Nat) - i).toNat, ⟨by omega, by omega, rfl⟩, ?_⟩
    rintro i _ ⟨i0, i1, rfl⟩
    refine cd (fun hi => ?_) fun hi => hK h29 f29
    have hi : i < 512 := hi
    have e2 : Int.tdiv i 32 = i / 32 := Int.tdiv_eq_ediv_of_nonneg i0
    rw [e2, wrap_i64 (n := i / 32) (by omega) (by omega), wrap_i64 (n := i + 1) (by omega) (by omega)]
    have nx : (0 ≤ i + 1 ∧ i + 1 ≤ 512 ∧ h29 = h29) ∧ ((512 : Nat) - (i + 1)).toNat < ((512 : Nat) - i).toNat := ⟨⟨by omega, by omega, rfl⟩, falls (m := 512) hi⟩
    obtain ⟨_, eq1, c1⟩ := byte_get s29.str (i := i.toNat) (by rw [zl, yl]; omega)
    cases eq1
    obtain ⟨p, rfl, c2⟩ := gX W29 i0 hi
    have hget := putU_get (xs := Y) (ys := List.replicate 32 0) (o := 32 * e.place.toNat) (i := i.toNat) (by rw [List.length_replicate, yl]; omega)
    rw [List.length_replicate] at hget
    have hgetY := putU_get (xs := X) (ys := form e.inode.toNat e.name) (o := 32 * e.place.toNat) (i := i.toNat) (by omega)
    rw [hY] at hgetY
    refine ⟨e.place, rda re29 rfl, cn (fun hne => ?_) fun heq => ?_⟩
    · refine ⟨⟨i0, by show i < 512; exact hi⟩, _, c1, ⟨i0, by omega⟩, os ⟨_, c2, cn (fun hd => ?_) fun _ => ⟨e.place, rda re29 rfl, ce (fun hq => absurd hq hne) fun _ => nx⟩⟩⟩
      exfalso
      apply hd
      rw [if_neg (by omega)] at hget
      rw [if_neg (by omega)] at hgetY
      rw [hgetY, List.getElem?_eq_getElem (by rw [zl, yl]; omega), List.getElem?_eq_getElem (by omega)] at hget
      rw [Option.some.inj hget]
    · refine ⟨e.place, rda re29 rfl, ce (fun _ => ⟨⟨i0, by show i < 512; exact hi⟩, _, c1, cn (fun hd => ?_) fun _ => nx⟩) fun hq => absurd heq hq⟩
      exfalso
      apply hd
      rw [if_pos (by omega), List.getElem?_eq_getElem (by rw [zl, yl]; omega), List.getElem?_replicate, if_pos (by omega)] at hget
      rw [Option.some.inj hget]; rfl
/-- the entries that may not be -/
def noneL (e bad : E) : List E := [⟨-1 - bad.place % 1073741824, [97], 1⟩, ⟨16 + bad.place % 1073741824, [97], 1⟩, ⟨e.place, e.name, 0⟩, ⟨e.place, e.name, -1 - bad.inode % 1073741824⟩, ⟨e.place, e.name, 4294967296 + bad.inode % 1073741824⟩, ⟨e.place, [], 1⟩, ⟨e.place, [46], 1⟩, ⟨e.place, [46, 46], 1⟩,
  ⟨e.place, [97, 47] ++ bad.name, 1⟩, ⟨e.place, bad.name ++ [0], 1⟩, ⟨e.place, [49, 50, 51, 52, 53, 54, 55, 56, 57, 48, 49, 50, 51, 52, 53, 54, 55, 56, 57, 48, 49, 50, 51, 52, 53, 54, 55, 56], 1⟩]
theorem nameOk_bad {s : Txt} {b : UInt8} (hb : b ∈ s) (h : b = 47 ∨ b = 0) : nameOk s = false := by
  cases e : nameOk s with
  | false => rfl
  | true =>
    have := (nameOk_iff.mp e).all b hb
    rcases h with h | h
    · exact absurd h this.1
    · exact absurd h this.2
theorem none_bad (e bad : E) : ∀ x ∈ noneL e bad, putOk x = false := by
  have m1 := Int.emod_nonneg bad.place (show (1073741824 : Int) ≠ 0 by omega)
  have m2 := Int.emod_nonneg bad.inode (show (1073741824 : Int) ≠ 0 by omega)
  have nm : ∀ (p i : Int) (s : Txt), nameOk s = false → putOk ⟨p, s, i⟩ = false := fun p i s h => by rw [putOk, h, Bool.and_false]
  intro x hx
  simp only [noneL, List.mem_cons, List.not_mem_nil, or_false] at hx
  rcases hx with rfl | rfl | rfl | rfl | rfl | rfl | rfl | rfl | rfl | rfl | rfl
  · show (decide (0 ≤ -1 - bad.place % 1073741824) && _ && _ && _ && _) = false
    rw [decide_eq_false (by omega)]; rfl
  · show (_ && decide (16 + bad.place % 1073741824 < 16) && _ && _ && _) = false
    rw [decide_eq_false (show ¬ (16 + bad.place % 1073741824 < 16) by omega), Bool.and_false]; rfl
  · show (_ && decide ((1 : Int) ≤ 0) && _ && _) = false
    rw [decide_eq_false (show ¬ ((1 : Int) ≤ 0) by omega), Bool.and_false]; rfl
  · show (_ && decide (1 ≤ -1 - bad.inode % 1073741824) && _ && _) = false
    rw [decide_eq_false (show ¬ (1 ≤ -1 - bad.inode % 1073741824) by omega), Bool.and_false]; rfl
  · show (_ && decide (4294967296 + bad.inode % 1073741824 ≤ 4294967295) && _) = false
    rw [decide_eq_false (show ¬ (4294967296 + bad.inode % 1073741824 ≤ 4294967295) by omega), Bool.and_false]; rfl
  · exact nm _ _ _ (by decide)
  · exact nm _ _ _ (by decide)
  · exact nm _ _ _ (by decide)
  · exact nm _ _ _ (nameOk_bad (b := 47) (by simp) (Or.inl rfl))
  · exact nm _ _ _ (nameOk_bad (b := 0) (by simp) (Or.inr rfl))
  · exact nm _ _ _ (by decide)
theorem refused_k2 {h h2 h4 h8 : Heap} {X : List UInt8} {cl : Cl} {bad : E} {K : Value → Heap → Prop} (g : Glo h8) (f : Fr No h h8) (h1 : 1 ≤ h.size) (hh2 : h.size < h2.size) (h24 : h2.size < h4.size) (h48 : h4.size < h8.size) (hX : X.length = 512)
    (s : Sl h8 1 (some ⟨h4.size, 0, none⟩) 512 512 (X.map bv) (fun x => x = h4.size)) (rc : rd h8 h.size = Cl.v cl) (rb : rd h8 h2.size = E.v bad) (hbad : bad.name.length ≤ 140737488351232)
    (hK : ∀ h', Fr No h h' → K (.bool true) h') : bolelaw14_SlotsRefused.k2 h h2 h4 h8 K := by
  refine New.intro fun h9 n9 => ⟨X.map bv, by rw [List.length_map, hX]; rfl, (s.fr n9.fr fun _ _ _ x => x).cells, bv_one X, ?_⟩
  have hs9 := n9.size
  have sn : Sl h9 1 (some ⟨h8.size, 0, none⟩) 0 0 [] (fun x => x = h8.size) := Sl.made (zs := []) n9 rfl rfl rfl (Nat.le_refl _) rfl
  have hbytes : (ti5).bytes = 1 := rfl
  refine append_own (elem := ti5) sn (by rw [List.length_map, hX]; rfl) rfl (by rw [hbytes]; show (0 + 512) * 1 ≤ _; omega) (by show 0 + 512 ≤ _; omega) fun wa wc h10 f10 W10 => ?_
  have hs10 := f10.size
  have fA : Fr No h8 h10 := n9.fr.trans f10 fun b hb hF => by omega
  have W10 : Sl h10 1 wa 512 wc (X.map bv) (fun x => h4.size < x) := (show Sl h10 1 wa (0 + 512) wc ([] ++ X.map bv) _ from W10).mono fun b hb => by rcases hb with hb | hb <;> omega
  have rc10 := (fA.rd (by omega) fun x => x).trans rc
  have rb10 := (fA.rd (show h2.size < h8.size by omega) fun x => x).trans rb
  refine ⟨Cl.v cl, rfl, cellsAll rc10, entry_spec fun h11 e f11 ok => ⟨_, rfl, NewRow.intro rfl (E.one e) rfl fun h13 n13 => ?_⟩⟩
  have hs11 := f11.size
  have hs13 := n13.size
  have fB : Fr No h10 h13 := f11.new n13
  have rE : rd h13 h11.size = E.v e := n13.rd
  have rB : rd h13 h2.size = E.v bad := (fB.rd (by omega) fun x => x).trans rb10
  obtain ⟨p0, p1, i0, i1, hn, _⟩ := putOk_good ok
  have sz : ∀ s : List UInt8, (mkStr s).size = s.length := fun _ => rfl
  refine ⟨bad.place, rda rB rfl, bad.place, rda rB rfl, e.place, rda rE rfl, mkStr e.name, rda rE rfl, e.place, rda rE rfl, mkStr e.name, rda rE rfl, bad.inode, rda rB rfl, e.place, rda rE rfl, mkStr e.name, rda rE rfl, bad.inode, rda rB rfl, e.place, rda rE rfl, e.place, rda rE rfl, e.place, rda rE rfl, e.place, rda rE rfl, mkStr bad.name, rda rB rfl, ?_, e.place, rda rE rfl, mkStr bad.name, rda rB rfl, ?_, e.place, rda rE rfl, ?_⟩
  · rw [sz, sz]
    show ((2 + bad.name.length : Nat) : Int) ≤ _; omega
  · rw [sz, sz]
    show ((bad.name.length + 1 : Nat) : Int) ≤ _; omega
  have m1 := Int.emod_nonneg bad.place (show (1073741824 : Int) ≠ 0 by omega)
  have m2 := Int.emod_nonneg bad.inode (show (1073741824 : Int) ≠ 0 by omega)
  have m3 := Int.emod_lt_of_pos bad.place (show (0 : Int) < 1073741824 by omega)
  have m4 := Int.emod_lt_of_pos bad.inode (show (0 : Int) < 1073741824 by omega)
  refine mod_spec (by omega) (by omega) ⟨_, rfl, ?_⟩
  iterate 17 (refine ⟨by first | exact rda rE rfl | exact rda rB rfl, ?_⟩)
  refine mod_spec (by omega) (by omega) ⟨_, rfl, ?_⟩
  iterate 16 (refine ⟨by first | exact rda rE rfl | exact rda rB rfl, ?_⟩)
  refine mod_spec (by omega) (by omega) ⟨_, rfl, ?_⟩
  iterate 15 (refine ⟨by first | exact rda rE rfl | exact rda rB rfl, ?_⟩)
  refine mod_spec (by omega) (by omega) ⟨_, rfl, ?_⟩
  iterate 14 (refine ⟨by first | exact rda rE rfl | exact rda rB rfl, ?_⟩)
  iterate 11 (refine ⟨rfl, ?_⟩)
  rw [wrap_i64 (n := -1 - bad.place % 1073741824) (by omega) (by omega), wrap_i64 (n := 16 + bad.place % 1073741824) (by omega) (by omega), wrap_i64 (n := -1 - bad.inode % 1073741824) (by omega) (by omega), wrap_i64 (n := 4294967296 + bad.inode % 1073741824) (by omega) (by omega), mkStr_app, mkStr_app]
  refine New.intro fun h18 n18 => ?_
  have hs18 := n18.size
  have rN : rd h18 h13.size = (noneL e bad).flatMap E.v := n18.rd
  have nl : (noneL e bad).length = 11 := rfl
  have nb := none_bad e bad
  have q0 : (noneL e bad)[0]? = some ⟨-1 - bad.place % 1073741824, [97], 1⟩ := rfl
  have q1 : (noneL e bad)[1]? = some ⟨16 + bad.place % 1073741824, [97], 1⟩ := rfl
  generalize noneL e bad = no at rN nl nb q0 q1
  have fC : Fr No h8 h18 := (fA.no fB).new n18
  have FC := f.no fC
  have s18 := s.fr fC fun _ _ _ x => x
  have rE18 : rd h18 h11.size = E.v e := (n18.at_ (by omega)).trans rE
  have W18 := (W10.fr fB fun _ _ _ x => x).fr n18.fr fun _ _ _ x => x
  refine ⟨fun i hh => 0 ≤ i ∧ i ≤ 11 ∧ Fr (fun x => x = h4.size) h18 hh ∧ Sl hh 1 (some ⟨h4.size, 0, none⟩) 512 512 (X.map bv) (fun x => x = h4.size), fun i _ => ((11 : Nat) - i).toNat, ⟨by omega, by omega, Fr.refl _ _, s18⟩, ?_⟩
  rintro i h19 ⟨i0, i1, f19, s19⟩
  have hs19 := f19.size
  have F19 : Fr No h h19 := FC.trans f19 fun b hb e => by omega
  have g19 : Glo h19 := (g.no fC).fr f19 fun b hb e => by omega
  have rN19 : rd h19 h13.size = no.flatMap E.v := (f19.rd (by omega) (by omega)).trans rN
  refine cd (fun hi => ?_) fun hi => ?_
  · have hi : i < 11 := hi
    have hi' : i.toNat < no.length := by omega
    refine ⟨⟨i0, hi⟩, _, rfl, have_get rN19 hi', Put_spec g19 (by omega) s19 fun h20 d20 => ⟨_, rfl, ?_⟩⟩
    rw [putA_bad hX (nb _ (List.getElem_mem hi'))] at d20 ⊢
    rw [wrap_i64 (by omega) (by omega)]
    exact cf rfl ⟨⟨by omega, by omega, f19.trans d20.fr fun _ _ x => x, Sl.all s19 rfl d20⟩, falls (m := 11) hi⟩
  · have l0 : 0 < no.length := by omega
    have l1 : 1 < no.length := by omega
    have e0' : no[0] = ⟨-1 - bad.place % 1073741824, [97], 1⟩ := by rw [List.getElem?_eq_getElem l0] at q0; exact Option.some.inj q0
    have e1' : no[1] = ⟨16 + bad.place % 1073741824, [97], 1⟩ := by rw [List.getElem?_eq_getElem l1] at q1; exact Option.some.inj q1
    have c0 := have_get rN19 l0
    rw [e0'] at c0
    refine ⟨⟨by omega, by omega⟩, _, c0 0 _ rfl, Clear_spec s19 fun h21 d21 => ⟨_, rfl, ?_⟩⟩
    rw [clrA_bad hX (show ¬ (0 ≤ -1 - bad.place % 1073741824 ∧ -1 - bad.place % 1073741824 < 16) by omega)] at d21 ⊢
    have hs21 := d21.fr.size
    have s21 := Sl.all s19 rfl d21
    have f21 := f19.trans d21.fr fun _ _ x => x
    have rN21 : rd h21 h13.size = no.flatMap E.v := (f21.rd (by omega) (by omega)).trans rN
    have c1 := have_get rN21 l1
    rw [e1'] at c1
    refine cf rfl ⟨⟨by omega, by omega⟩, _, c1 0 _ rfl, Clear_spec s21 fun h22 d22 => ⟨_, rfl, ?_⟩⟩
    rw [clrA_bad hX (show ¬ (0 ≤ 16 + bad.place % 1073741824 ∧ 16 + bad.place % 1073741824 < 16) by omega)] at d22 ⊢
    have hs22 := d22.fr.size
    have s22 := Sl.all s21 rfl d22
    have f22 := f21.trans d22.fr fun _ _ x => x
    have g22 : Glo h22 := (g.no fC).fr f22 fun b hb e => by omega
    have rE22 : rd h22 h11.size = E.v e := (f22.rd (by omega) (by omega)).trans rE18
    refine cf rfl ⟨⟨by omega, by show (511 : Int) ≤ 512; omega⟩, _, rfl, cellsAll rE22, ?_⟩
    have t22 := Sl.sub s22 (i := 0) (j := 511) (c' := 512) (by omega) (by omega) (by omega) (by omega)
    refine Put_spec (bs := (X.drop 0).take (511 - 0)) g22 (by omega) t22 fun h23 d23 => ⟨_, rfl, ?_⟩
    have e23 : putA ((X.drop 0).take (511 - 0)) e = (32, (X.drop 0).take (511 - 0)) := by rw [putA, if_pos (by rw [List.length_take, List.length_drop]; omega)]
    rw [e23] at d23 ⊢
    rw [put_self t22] at d23
    have s23 := same_wrote s22 d23
    have hs23 := d23.fr.size
    have f23 := f22.trans d23.fr fun _ _ x => x
    refine cf rfl ⟨⟨by omega, by show (1 : Int) ≤ 512; omega⟩, ?_⟩
    have t23 := Sl.sub s23 (i := 1) (j := 512) (c' := 511) (by omega) (by omega) (by omega) (by omega)
    have ecl : (if (Int.toNat 512) = (Int.toNat 1) then (some ⟨h4.size, 0, none⟩ : Option Addr) else Option.map (Addr.add · (Int.toNat 1)) (some ⟨h4.size, 0, none⟩)) = some ⟨h4.size, 0 + 1, none⟩ := by
      rw [if_neg (by decide), Option.map_some, show Int.toNat 1 = 1 from rfl, add_mk]
    rw [ecl]
    refine Clear_spec (bs := (X.drop 1).take (512 - 1)) (l := 512 - 1) (c := 511) t23 fun h24 d24 => ⟨_, rfl, ?_⟩
    have e24 : clrA ((X.drop 1).take (512 - 1)) 0 = (32, (X.drop 1).take (512 - 1)) := by rw [clrA, if_pos (by rw [List.length_take, List.length_drop]; omega)]
    rw [e24] at d24 ⊢
    rw [put_self t23] at d24
    have s24 := same_wrote s23 d24
    have hs24 := d24.fr.size
    have f24 := f23.trans d24.fr fun _ _ x => x
    have W24 := W18.fr f24 fun b _ hb e => by omega
    have g24 : Glo h24 := (g.no fC).fr f24 fun b hb e => by omega
    have F24 : Fr No h h24 := FC.trans f24 fun b hb e => by omega
    have rE24 : rd h24 h11.size = E.v e := (f24.rd (by omega) (by omega)).trans rE18
    refine cf rfl (sameBytes_spec s24.str W24.str (by omega) ⟨_, rfl, ?_⟩)
    rw [decide_eq_true rfl]
    exact cf rfl (refused_k3 g24 F24 (by omega) (by omega) (by omega) hX ok s24 W24 (by omega) rE24 hK)
theorem SlotsRefused_spec {a : Option Addr} {l c : Nat} {bs : List UInt8} {cl : Cl} {bad : E} {h : Heap} {K : Value → Heap → Prop} (g : Glo h) (B : StrAt h a l bs) (hl47 : l ≤ 140737488355328) (hbad : bad.name.length ≤ 140737488351232)
    (hK : ∀ h', Fr No h h' → K (.bool true) h') : C.bolelaw14_SlotsRefused a l c (Cl.v cl) (E.v bad) h K := by
  have hg := g.lt
  have hbl := B.1
  refine bolelaw14_SlotsRefused.ok (New.intro fun h2 n2 => New.intro fun h3 n3 => fixed_spec ((g.no n2.fr).no n3.fr) fun h4 f4 => ⟨_, rfl, cf rfl ⟨⟨by omega, by omega, by omega, by omega⟩, New.intro fun h5 n5 => ?_⟩⟩)
  have hs2 := n2.size
  have hs3 := n3.size
  have hs4 := f4.size
  have hs5 := n5.size
  have F4 := ((n2.fr.new n3).no f4)
  have F5 := F4.new n5
  have z5 := zero_block n5
  refine ⟨fun i hh => 0 ≤ i ∧ i ≤ l ∧ i ≤ 512 ∧ Fr No h4 hh ∧ h4.size < hh.size ∧ ∃ X : List UInt8, X.length = 512 ∧ Sl hh 1 (some ⟨h4.size, 0, none⟩) 512 512 (X.map bv) (fun x => x = h4.size), fun i _ => ((l : Int) - i).toNat,
    ⟨by omega, by omega, by omega, n5.fr, by omega, Z, Z_length, z5⟩, ?_⟩
  rintro i h6 ⟨i0, i1, i2, f6, hs6, X, hX, s6⟩
  have F6 := F4.no f6
  have fin : bolelaw14_SlotsRefused.k2 h h2 h4 h6 K := by
    refine refused_k2 (cl := cl) (bad := bad) (g.no F6) F6 hg (by omega) (by omega) (by omega) hX s6 ?_ ?_ hbad hK
    · exact (f6.rd (by omega) fun x => x).trans ((f4.rd (by omega) fun x => x).trans ((n3.at_ n2.own.lt).trans n2.rd))
    · exact (f6.rd (by omega) fun x => x).trans ((f4.rd (by omega) fun x => x).trans n3.rd)
  refine cd (fun hi => cd (fun hi2 => ?_) fun _ => fin) fun _ => fin
  have hi2 : i < 512 := hi2
  obtain ⟨p, rfl, cb⟩ := byte_get (StrAt.fr F6 B fun _ _ x => x) (i := i.toNat) (by omega)
  obtain ⟨w, wl⟩ := s6.wr
  refine ⟨⟨i0, hi⟩, os ⟨_, cb, ⟨i0, by show i < 512; exact hi2⟩, Put.add w (by omega) fun h7 d7 => ?_⟩⟩
  have s7 := s6.putAt (j := i.toNat) (new := [bv (bs[i.toNat]'(by omega))]) (by rw [List.length_singleton]; omega) d7
  have ep : put (X.map bv) i.toNat [bv (bs[i.toNat]'(by omega))] = (X.set i.toNat (bs[i.toNat]'(by omega))).map bv := by rw [List.map_set]; rfl
  rw [ep] at s7
  rw [wrap_i64 (by omega) (by omega)]
  exact ⟨⟨by omega, by omega, by omega, f6.did d7 fun x => by omega, by have := d7.size; omega, _, by rw [List.length_set]; exact hX, s7⟩, falls hi⟩
end Go.Proofs.YtgpkcakanieodaaDoor.Ss
