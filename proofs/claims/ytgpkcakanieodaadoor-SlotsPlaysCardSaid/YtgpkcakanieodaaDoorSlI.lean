/-
  THE DOCUMENT'S ANSWER FOR slots: Put and Clear. SlotsReads.
-/
import Derived.Test.YtgpkcakanieodaaDoorSlH
namespace Go.Proofs.YtgpkcakanieodaaDoor.Ss
open Go Go.Proofs Go.Proofs.YtgpkcakanieodaaDoor.Wx Go.Proofs.YtgpkcakanieodaaDoor.Hp Go.Proofs.YtgpkcakanieodaaDoor.W Go.Proofs.YtgpkcakanieodaaDoor.Re Go.Proofs.YtgpkcakanieodaaDoor.Sk Go.Proofs.YtgpkcakanieodaaDoor.Ch

theorem laid_spec {b o l c lc : Nat} {la : Option Addr} {bs L : List UInt8} {k : Int} {F : Nat → Prop} {h : Heap} {K : Value → Heap → Prop} (s : Sl h 1 (some ⟨b, o, none⟩) l c (bs.map bv) F) (hl : l = 512) (k0 : 0 ≤ k) (k1 : k < 16)
    (S : Sl h 1 la 32 lc (L.map bv) (fun x => x ≠ b)) (hK : ∀ h', Wrote b h h' (put (rd h b) o ((putU bs (32 * k.toNat) L).map bv)) → K (.tuple #[]) h') : C.boleref14_laid (some ⟨b, o, none⟩) l c k la 32 lc h K := by
  have hbl := s.1
  have hL := S.1
  rw [List.length_map] at hbl hL
  obtain ⟨w, wl⟩ := s.wr
  refine boleref14_laid.ok ⟨fun i hh => 0 ≤ i ∧ i ≤ 32 ∧ Wrote b h hh (put (rd h b) (o + 32 * k.toNat) ((L.take i.toNat).map bv)), fun i _ => ((32 : Nat) - i).toNat, ⟨by omega, by omega, Fr.refl _ _, w, rfl⟩, ?_⟩
  rintro i h2 ⟨i0, i1, d2⟩
  refine cd (fun hi => ?_) fun hi => ?_
  · have hi : i < 32 := hi
    have hi' : i.toNat < L.length := by omega
    have S2 := S.fr d2.fr fun b _ hb e => hb e
    obtain ⟨p, rfl, cL⟩ := byte_get S2.str hi'
    rw [wrap_i64 (n := 32 * k) (by omega) (by omega), wrap_i64 (n := 32 * k + i) (by omega) (by omega), wrap_i64 (n := i + 1) (by omega) (by omega)]
    refine ⟨⟨i0, by omega⟩, os ⟨_, cL, ⟨by omega, by omega⟩, os (Put.add d2.own (by rw [d2.rd, put_length]; omega) fun h3 d3 => ⟨⟨by omega, by omega, d2.fr.did d3 (fun _ => rfl), d3.own, ?_⟩, falls (m := 32) hi⟩)⟩⟩
    have lt : (L.take i.toNat).length = i.toNat := by rw [List.length_take]; omega
    rw [d3.rd, d2.rd, show (i + 1).toNat = i.toNat + 1 by omega, List.take_succ_eq_append_getElem hi', List.map_append, List.map_singleton, put_snoc, List.length_map, lt, show o + (32 * k + i).toNat = o + 32 * k.toNat + i.toNat by omega]
    rfl
  · have hi : ¬ i < 32 := hi
    rw [List.take_of_length_le (by omega)] at d2
    rw [← put_sub s (by omega)] at hK
    exact hK h2 d2
theorem refPut_spec {b o l c : Nat} {bs : List UInt8} {e : E} {F : Nat → Prop} {h : Heap} {K : Value → Heap → Prop} (s : Sl h 1 (some ⟨b, o, none⟩) l c (bs.map bv) F)
    (hK : ∀ h', Wrote b h h' (put (rd h b) o ((putA bs e).2.map bv)) → K (.int .i64 (putA bs e).1) h') : C.boleref14_Put (some ⟨b, o, none⟩) l c (E.v e) h K := by
  have hbl := s.1
  rw [List.length_map, Nat.mul_one] at hbl
  obtain ⟨w, wl⟩ := s.wr
  have hbs := w.lt
  refine boleref14_Put.ok (New.intro fun h2 n2 => ?_)
  have r2 := n2.rd
  have o2 := n2.own
  have f2 := n2.fr
  have hs2 := n2.size
  have no : ∀ h' m, Fr No h h' → putA bs e = (m, bs) → K (.int .i64 m) h' := by
    intro h' m f ee
    have := hK h'
    rw [ee] at this
    exact this (wrote_id s f)
  refine cn (fun hl => no h2 32 f2 (by rw [putA, if_pos (by omega)])) fun hl => ?_
  have bad : ∀ h', Fr No h h' → putOk e = false → K (.int .i64 140) h' := fun h' f ee => no h' 140 f (by rw [putA, if_neg (by omega), ee]; rfl)
  refine ⟨e.place, rdc r2 rfl, cd (fun x => bad h2 f2 (by rw [putOk, decide_eq_false (by omega)]; rfl)) fun x1 => ⟨e.place, rdc r2 rfl, cd (fun x => bad h2 f2 (by rw [putOk, decide_eq_true (by omega), decide_eq_false (by omega)]; rfl)) fun x2 =>
    ⟨e.inode, rdc r2 rfl, cd (fun x => bad h2 f2 (by rw [putOk, decide_eq_true (by omega), decide_eq_true (by omega), decide_eq_false (by omega)]; rfl)) fun x3 => ⟨e.inode, rdc r2 rfl, cd (fun x => bad h2 f2 (by rw [putOk, decide_eq_true (by omega), decide_eq_true (by omega), decide_eq_true (by omega), decide_eq_false (by omega)]; rfl)) fun x4 =>
    ⟨mkStr e.name, rdc r2 rfl, refName_spec ⟨_, rfl, cnot ?_⟩⟩⟩⟩⟩⟩
  cases hn : nameOk e.name with
  | false => exact bad h2 f2 (by rw [putOk, hn, Bool.and_false])
  | true =>
    have ok : putOk e = true := by rw [putOk, decide_eq_true (by omega), decide_eq_true (by omega), decide_eq_true (by omega), decide_eq_true (by omega), hn]; rfl
    obtain ⟨p0, p1, i0, i1, _, gd⟩ := putOk_good ok
    have ea : putA bs e = (0, putU bs (32 * e.place.toNat) (form e.inode.toNat e.name)) := by rw [putA, if_neg (by omega), if_pos ok]
    rw [ea] at hK
    refine ct rfl ⟨e.inode, rdc r2 rfl, mkStr e.name, rdc r2 rfl, form_spec gd (by omega) fun h5 f5 s5 => ⟨_, _, _, rfl, ?_⟩⟩
    have f25 := f2.no f5
    have r5 : rd h5 h.size = E.v e := (f5.rd o2.lt fun x => x).trans r2
    refine ⟨e.place, rdc r5 rfl, laid_spec (s.fr f25 fun _ _ _ x => x) (by omega) p0 p1 (s5.mono fun x hx => by omega) fun h6 d6 => ⟨rfl, hK h6 ⟨?_, d6.own, ?_⟩⟩⟩
    · exact (f25.mono fun _ _ x => x.elim).trans d6.fr fun _ _ x => x
    · rw [d6.rd, f25.rd hbs fun x => x]
theorem refClear_spec {b o l c : Nat} {bs : List UInt8} {k : Int} {F : Nat → Prop} {h : Heap} {K : Value → Heap → Prop} (s : Sl h 1 (some ⟨b, o, none⟩) l c (bs.map bv) F)
    (hK : ∀ h', Wrote b h h' (put (rd h b) o ((clrA bs k).2.map bv)) → K (.int .i64 (clrA bs k).1) h') : C.boleref14_Clear (some ⟨b, o, none⟩) l c k h K := by
  have hbl := s.1
  rw [List.length_map, Nat.mul_one] at hbl
  obtain ⟨w, wl⟩ := s.wr
  have hbs := w.lt
  have no : ∀ m, clrA bs k = (m, bs) → K (.int .i64 m) h := by
    intro m ee
    have := hK h
    rw [ee] at this
    exact this (wrote_id s (Fr.refl _ _))
  refine boleref14_Clear.ok (cn (fun hl => no 32 (by rw [clrA, if_pos (by omega)])) fun hl => cd (fun x => no 140 (by rw [clrA, if_neg (by omega), if_neg (by omega)])) fun x1 => cd (fun x => no 140 (by rw [clrA, if_neg (by omega), if_neg (by omega)])) fun x2 => ⟨⟨by omega, by omega, by omega, by omega⟩, New.intro fun h2 n2 => ?_⟩)
  have ea : clrA bs k = (0, putU bs (32 * k.toNat) (List.replicate 32 0)) := by rw [clrA, if_neg (by omega), if_pos (by omega)]
  rw [ea] at hK
  have z2 : Sl h2 1 (some ⟨h.size, 0, none⟩) 32 32 ((List.replicate 32 (0 : UInt8)).map bv) (fun x => x ≠ b) := by
    refine Sl.made (zs := []) n2 ?_ (by omega) (by rw [List.length_map, List.length_replicate]) (Nat.le_refl _) rfl
    rw [List.append_nil]
    exact rep_bytes 32
  refine laid_spec (s.fr n2.fr fun _ _ _ x => x) (by omega) (by omega) (by omega) z2 fun h3 d3 => ⟨rfl, hK h3 ⟨?_, d3.own, ?_⟩⟩
  · exact (n2.fr.mono fun _ _ x => x.elim).trans d3.fr fun _ _ x => x
  · rw [d3.rd, n2.at_ hbs]
theorem Sl.below {h : Heap} {ec l c : Nat} {a : Option Addr} {xs : List Value} {F : Nat → Prop} (s : Sl h ec a l c xs F) : Sl h ec a l c xs (fun x => F x ∧ x < h.size) := by
  obtain ⟨h1, h2⟩ := s
  refine ⟨h1, ?_⟩
  cases a with
  | none => exact h2
  | some p => obtain ⟨a1, a2, a3, a4⟩ := h2; exact ⟨a1, ⟨a2, a3.lt⟩, a3, a4⟩
/-- a copy: an append to nothing -/
theorem copy_bytes {h : Heap} {a : Option Addr} {l : Nat} {bs : List UInt8} {k : Option Addr → Nat → Nat → Heap → Prop} (B : StrAt h a l bs) (hl : l ≤ 140737488351232)
    (hk : ∀ a' c' h', Fr No h h' → h.size < h'.size → Sl h' 1 a' l c' (bs.map bv) (fun x => h.size ≤ x ∧ x < h'.size) → k a' l c' h') :
    New [] 5 h fun h1 => ∃ new : List Value, List.length new = l * 1 ∧ SlCells h1 a new ∧ (∀ v ∈ new, v.oneCell' = true) ∧ AppendP ti5 5 (some ⟨h.size, 0, none⟩) 0 0 l new h1 k := by
  refine New.intro fun h1 n1 => ⟨bs.map bv, by rw [List.length_map, B.1, Nat.mul_one], (StrAt.fr n1.fr B fun _ _ x => x).2, bv_one bs, ?_⟩
  have hs1 := n1.size
  have sn : Sl h1 1 (some ⟨h.size, 0, none⟩) 0 0 [] (fun x => x = h.size) := Sl.made (zs := []) n1 rfl rfl rfl (Nat.le_refl _) rfl
  have hbytes : (ti5).bytes = 1 := rfl
  refine append_own (elem := ti5) sn (by rw [List.length_map, B.1]; exact (Nat.mul_one _).symm) rfl (by rw [hbytes]; omega) (by omega) fun a' c' h' f' s' => ?_
  have hs' := f'.size
  have s2 : Sl h' 1 a' (0 + l) c' (bs.map bv) _ := s'
  have F : Fr No h h' := n1.fr.trans f' fun b hb hF => by omega
  rw [Nat.zero_add] at s2 ⊢
  refine hk a' c' h' F (by omega) (Hp.Sl.mono (Sl.below s2) fun x hx => ⟨?_, hx.2⟩)
  rcases hx.1 with h | h <;> omega
theorem SlotsReads_spec {a : Option Addr} {l c : Nat} {bs : List UInt8} {at_ : Int} {by_ : UInt8} {h : Heap} {K : Value → Heap → Prop} (g : Glo h) (B : StrAt h a l bs) (hl47 : l ≤ 140737488351232)
    (hK : ∀ h', Fr No h h' → K (.bool true) h') : C.bolelaw14_SlotsReads a l c at_ (by_.toNat : Int) h K := by
  have hg := g.lt
  have hbl := B.1
  refine bolelaw14_SlotsReads.ok (fixed_spec g fun h2 f2 => ⟨_, rfl, cf rfl ⟨⟨by omega, by omega, by omega, by omega⟩, New.intro fun h3 n3 => ?_⟩⟩)
  have hs2 := f2.size
  have hs3 := n3.size
  have F3 := f2.new n3
  have z3 := zero_block n3
  refine ⟨fun i hh => 0 ≤ i ∧ i ≤ l ∧ i ≤ 512 ∧ Fr No h2 hh ∧ h2.size < hh.size ∧ ∃ X : List UInt8, X.length = 512 ∧ Sl hh 1 (some ⟨h2.size, 0, none⟩) 512 512 (X.map bv) (fun x => x = h2.size), fun i _ => ((l : Int) - i).toNat,
    ⟨by omega, by omega, by omega, n3.fr, by omega, Z, Z_length, z3⟩, ?_⟩
  rintro i h4 ⟨i0, i1, i2, f4, hs4, X, hX, s4⟩
  have F4 := f2.no f4
  have fin : bolelaw14_SlotsReads.k2 a l at_ (by_.toNat : Int) h2 h4 K := by
    refine copy_bytes (l := 512) s4.str (by omega) fun ta tc h8 f8 hs8 t8 => ?_
    have F8 := F4.no f8
    refine mod_spec (by omega) (by omega) ⟨_, rfl, ?_⟩
    have m0 := Int.emod_nonneg at_ (show (512 : Int) ≠ 0 by omega)
    have m1 := Int.emod_lt_of_pos at_ (show (0 : Int) < 512 by omega)
    generalize at_ % 512 = n at m0 m1
    have hn : n.toNat < X.length := by omega
    obtain ⟨p, rfl, cx⟩ := byte_get t8.str hn
    obtain ⟨pb, po, ps⟩ := p
    have ep : ps = none := t8.2.1
    subst ep
    obtain ⟨w8, wl8⟩ := t8.wr
    have tF : h4.size ≤ pb ∧ pb < h8.size := t8.2.2.1
    refine ⟨⟨m0, by show n < 512; exact m1⟩, os ⟨_, cx, ⟨m0, by show n < 512; exact m1⟩, os (Put.add w8 (by omega) fun h10 d10 => ?_)⟩⟩
    rw [xor_byte] at d10
    have t10 := t8.putAt (j := n.toNat) (new := [bv (X[n.toNat] ^^^ by_)]) (by rw [List.length_singleton]; omega) d10
    have ep : put (X.map bv) n.toNat [bv (X[n.toNat] ^^^ by_)] = (X.set n.toNat (X[n.toNat] ^^^ by_)).map bv := by rw [List.map_set]; rfl
    rw [ep] at t10
    have Yl : (X.set n.toNat (X[n.toNat] ^^^ by_)).length = 512 := by rw [List.length_set]; exact hX
    generalize X.set n.toNat (X[n.toNat] ^^^ by_) = Y at t10 Yl
    have f10 : Fr No h4 h10 := f8.did d10 fun x => by omega
    have s10 := s4.fr f10 fun _ _ _ x => x
    have F10 := F4.no f10
    refine copy_bytes (StrAt.fr F10 B fun _ _ x => x) hl47 fun ca cc h12 f12 hs12 c12 => New.intro fun h13 n13 => ?_
    have F13 : Fr No h h13 := (F10.no f12).new n13
    have f1013 : Fr No h10 h13 := f12.new n13
    have s13 := s10.fr f1013 fun _ _ _ x => x
    have t13 := t10.fr f1013 fun _ _ _ x => x
    have c13 := c12.fr n13.fr fun _ _ _ x => x
    -- the three rows
    obtain ⟨rows, hrows, hlen⟩ : ∃ rows : List (Option Addr × Nat × Nat × List UInt8), rd h13 h12.size = rows.map (fun r => Value.slice r.1 r.2.1 r.2.2.1) ∧ rows.length = 3 ∧ ∀ r ∈ rows, StrAt h13 r.1 r.2.1 r.2.2.2 ∧ r.2.1 ≤ r.2.2.1 ∧ r.2.1 ≤ 140737488351232 :=
      ⟨[(ca, l, cc, bs), (some ⟨h2.size, 0, none⟩, 512, 512, X), (some ⟨pb, po, none⟩, 512, tc, Y)], n13.rd, rfl, fun r hr => by
        simp only [List.mem_cons, List.not_mem_nil, or_false] at hr
        rcases hr with rfl | rfl | rfl
        · exact ⟨c13.str, c13.le, hl47⟩
        · exact ⟨s13.str, s13.le, by show 512 ≤ _; omega⟩
        · exact ⟨t13.str, t13.le, by show 512 ≤ _; omega⟩⟩
    obtain ⟨hl3, hall⟩ := hlen
    have hlt13 : h12.size < h13.size := by have := n13.size; omega
    refine ⟨fun j hh => 0 ≤ j ∧ j ≤ 3 ∧ Fr No h13 hh, fun j _ => ((3 : Nat) - j).toNat, ⟨by omega, by omega, Fr.refl _ _⟩, ?_⟩
    rintro j h14 ⟨j0, j1, f14⟩
    refine cd (fun hj => ?_) fun hj => hK h14 (F13.no f14)
    have hj : j < 3 := hj
    have hj' : j.toNat < rows.length := by omega
    obtain ⟨S, hlc, hle⟩ := hall _ (List.getElem_mem hj')
    generalize hr : rows[j.toNat] = r at S hlc hle
    obtain ⟨ra, rl, rc, Q⟩ := r
    have S : StrAt h13 ra rl Q := S
    have hlc : rl ≤ rc := hlc
    have hle : rl ≤ 140737488351232 := hle
    have cell : ∀ {hq : Heap}, Fr No h13 hq → cellOf hq (Addr.add ⟨h12.size, 0, none⟩ j.toNat) = some (.slice ra rl rc) := by
      intro hq fq
      refine rda ((fq.rd hlt13 fun x => x).trans hrows) ?_
      rw [Nat.zero_add, List.getElem?_map, List.getElem?_eq_getElem hj', hr]; rfl
    have bnd : 0 ≤ j ∧ j < (3 : Int) := ⟨j0, hj⟩
    have at14 := StrAt.fr f14 S fun _ _ x => x
    refine ⟨bnd, _, _, _, cell f14, refRead_spec at14 hlc fun h15 wa wl wc f15 w15 => ⟨_, _, _, _, rfl, bnd, _, _, _, cell (f14.no f15), ?_⟩⟩
    have f1315 := f14.no f15
    refine refLowest_spec (StrAt.fr f15 at14 fun _ _ x => x) hlc fun h16 f16 => ⟨_, _, rfl, ?_⟩
    have f1316 := f1315.no f16
    have at16 := StrAt.fr f1316 S fun _ _ x => x
    refine New.intro fun h17 n17 => ⟨bnd, _, _, _, cell (f1316.new n17), Q.map bv, by rw [List.length_map, S.1, Nat.mul_one], (StrAt.fr n17.fr at16 fun _ _ x => x).2, bv_one Q, ?_⟩
    have sn : Sl h17 1 (some ⟨h16.size, 0, none⟩) 0 0 [] (fun x => x = h16.size) := Sl.made (zs := []) n17 rfl rfl rfl (Nat.le_refl _) rfl
    have hbytes : (ti5).bytes = 1 := rfl
    refine append_own (elem := ti5) sn (by rw [List.length_map, S.1]; exact (Nat.mul_one _).symm) rfl (by rw [hbytes]; omega) (by omega) fun q7 c7 h18 f18 s18 => ?_
    have hs17 := n17.size
    have s18 : Sl h18 1 q7 (0 + rl) c7 (Q.map bv) _ := s18
    have f1618 : Fr No h16 h18 := n17.fr.trans f18 fun b hb hF => by omega
    have f1318 := f1316.no f1618
    have at18 := StrAt.fr f1318 S fun _ _ x => x
    have g18 : Glo h18 := g.no (F13.no f1318)
    refine ⟨bnd, _, _, _, cell f1318, Read_spec g18 at18 hlc fun h19 xa xl xc f19 x19 => ⟨_, _, _, _, rfl, bnd, _, _, _, cell (f1318.no f19), ?_⟩⟩
    refine Lowest_spec (g18.no f19) (StrAt.fr f19 at18 fun _ _ x => x) hlc fun h20 f20 => ⟨_, _, rfl, ?_⟩
    have f1820 := f19.no f20
    have f1320 := f1318.no f1820
    refine cn (fun x => absurd rfl x) fun _ => cn (fun x => absurd rfl x) fun _ => cn (fun x => absurd rfl x) fun _ => ?_
    have wl' : (ans Q).1.length = wl := by
      have := w15.1
      rw [flat_length E.v 3 _ (fun x _ => E.len x)] at this
      omega
    have xl' : (ans Q).1.length = xl := by
      have := x19.1
      rw [flat_length E.v 3 _ (fun x _ => E.len x)] at this
      omega
    have al : (ans Q).1.length ≤ 16 := by
      unfold ans
      split
      · exact Nat.zero_le _
      · split
        · exact Nat.zero_le _
        · rename_i _ _ hs hd
          have := ents_len hs 0
          have := (blk_dec (by omega) hd).1
          show (ents 0 hs).length ≤ 16; omega
    have w20 := ((w15.fr f16 fun _ _ _ x => x).fr f1618 fun _ _ _ x => x).fr f1820 fun _ _ _ x => x
    refine sameEntries_spec (x19.fr f20 fun _ _ _ x => x).cells xl' w20.cells wl' (by omega) ⟨_, rfl, ?_⟩
    rw [decide_eq_true rfl]
    refine cf rfl ⟨bnd, _, _, _, cell f1320, ?_⟩
    have q20 := s18.fr f1820 fun _ _ _ x => x
    rw [Nat.zero_add] at q20
    refine sameBytes_spec (StrAt.fr f1320 S fun _ _ x => x) (show StrAt h20 q7 (0 + rl) Q by rw [Nat.zero_add]; exact q20.str) (by omega) ⟨_, rfl, ?_⟩
    rw [decide_eq_true rfl, wrap_i64 (by omega) (by omega)]
    exact cf rfl ⟨⟨by omega, by omega, f1320⟩, falls (m := 3) hj⟩
  refine cd (fun hi => cd (fun hi2 => ?_) fun _ => fin) fun _ => fin
  have hi2 : i < 512 := hi2
  obtain ⟨p, rfl, cb⟩ := byte_get (StrAt.fr F4 B fun _ _ x => x) (i := i.toNat) (by omega)
  obtain ⟨w, wl⟩ := s4.wr
  refine ⟨⟨i0, hi⟩, os ⟨_, cb, ⟨i0, by show i < 512; exact hi2⟩, Put.add w (by omega) fun h7 d7 => ?_⟩⟩
  have s7 := s4.putAt (j := i.toNat) (new := [bv (bs[i.toNat]'(by omega))]) (by rw [List.length_singleton]; omega) d7
  have ep : put (X.map bv) i.toNat [bv (bs[i.toNat]'(by omega))] = (X.set i.toNat (bs[i.toNat]'(by omega))).map bv := by rw [List.map_set]; rfl
  rw [ep] at s7
  rw [wrap_i64 (by omega) (by omega)]
  exact ⟨⟨by omega, by omega, by omega, f4.did d7 fun x => by omega, by have := d7.size; omega, _, by rw [List.length_set]; exact hX, s7⟩, falls hi⟩
end Go.Proofs.YtgpkcakanieodaaDoor.Ss
