/-
  LAW AdiskChosen, the whole.
-/
import Derived.Test.YtnbfaokpaiiojaaL3F
import Derived.Test.YtnbfaokpaiiojaaL3C
namespace Go.Proofs.Ytnbfaokpaiiojaa.L3
open Go Go.Proofs Go.Proofs.Ytnbfaokpaiiojaa.Wx Go.Proofs.Ytnbfaokpaiiojaa.Hp Go.Proofs.Ytnbfaokpaiiojaa.W Go.Proofs.Ytnbfaokpaiiojaa.Ad

theorem doOrd_write {S : RD} {o : Ord} (ho : o.flush = false) (hd : S.down = false) (hl : S.left = 0) (h0 : 0 < S.lasts.length) : doOrd S o = (S.putW (o.at_ % S.lasts.length) (rep o.fill), 0) := by
  have h1 := Int.emod_nonneg o.at_ (show (S.lasts.length : Int) ≠ 0 by omega)
  have h2 := Int.emod_lt_of_pos o.at_ (show (0 : Int) < S.lasts.length by omega)
  rw [doOrd, if_neg (by rw [ho]; exact Bool.false_ne_true), RD.write, if_neg (by rw [hd]; exact Bool.false_ne_true), if_neg (fun y => y ⟨h1, h2⟩), if_neg (fun y => y (rep_length _)), RD.step, if_neg (by show ¬ 0 < S.left; omega)]
  rfl
/-- what stands before put i -/
structure ChI (h0 : Heap) (wb N : Nat) (keep : List Bool) (q : Option Addr) (i : Nat) (hh : Heap) (S : RD) (col : Nat → Nat) (ws : List UInt8) : Prop where
  D : DiskAt hh q S col 10
  down : S.down = false
  left : S.left = 0
  lasts : S.lasts = blocks0 N
  pend : S.pend.length = i
  tape : S.tape.length = i
  own : Own hh wb
  rd : rd hh wb = ws.map bv
  len : ws.length = N
  rel : ws.map rep = applyTo S.lasts (chosen S.pend keep)
  cw : col wb = 16
  fr : Fr No h0 hh
  free : Free h0 col 10
theorem blocks0_length (N : Nat) : (blocks0 N).length = N := by rw [blocks0, List.length_map, List.length_range]
theorem AdiskChosen_spec {n : Int} {pa : Option Addr} {pl pc : Nat} {os : List Ord} {ka : Option Addr} {kl kc : Nat} {keep : List Bool} {h : Heap} {K : Value → Heap → Prop}
    (P : SlCells h pa (os.flatMap Ord.cells)) (hos : os.length = pl) (hpl : pl ≤ 140737488355328) (Kp : SlCells h ka (keep.map .bool)) (hkl : keep.length = kl)
    (hK : ∀ h', Fr No h h' → K (.bool true) h') : C.bolelaw03_AdiskChosen n pa pl pc ka kl kc h K := by
  have hm0 := Int.emod_nonneg n (show (9 : Int) ≠ 0 by decide)
  have hm1 := Int.emod_lt_of_pos n (show (0 : Int) < 9 by decide)
  have hN1 : 1 ≤ many n ∧ many n ≤ 9 := by unfold many; omega
  refine bolelaw03_AdiskChosen.ok (fresh_spec (fun _ => 0) 10 1 (Or.inl (by omega)) (free0 h (by omega)) fun q a c h2 col2 f2 g2 D2 new2 s2 hp2 => ⟨_, _, _, _, rfl, cf rfl (Ad.Blocks_spec D2 ⟨_, rfl, ?_⟩)⟩)
  have hlen : (fresh (blocks0 (many n))).lasts.length = many n := blocks0_length _
  rw [hlen]
  refine ⟨by omega, New.intro fun h4 n4 => ?_⟩
  rw [Int.toNat_natCast]
  refine ⟨fun i hh => 0 ≤ i ∧ i ≤ many n ∧ Fr No h2 hh ∧ Own hh h2.size ∧ rd hh h2.size = (List.range i.toNat).map (fun j => bv (UInt8.ofNat j)) ++ List.replicate (many n - i.toNat) (bv 0), fun i _ => ((many n : Nat) - i).toNat,
    ⟨by omega, by omega, n4.fr, n4.own, by rw [n4.rd, Int.toNat_natCast]; rfl⟩, ?_⟩
  rintro i h5 ⟨i0, i1, f5, o5, r5⟩
  refine cd (fun hi => ?_) fun hi => ?_
  · refine ⟨⟨i0, hi⟩, Put.add o5 (by rw [r5, List.length_append, List.length_map, List.length_range, List.length_replicate]; omega) fun h6 d6 => ?_⟩
    have hb : IntKind.wrap .u8 i = ((UInt8.ofNat i.toNat).toNat : Int) := by
      rw [wrap_u8 (by omega) (by omega), UInt8.toNat_ofNat']; omega
    rw [hb, r5] at d6
    rw [wrap_i64 (by omega) (by omega)]
    refine ⟨⟨by omega, by omega, f5.did d6 (fun y => by omega), d6.own, ?_⟩, falls hi⟩
    have e : ((List.range i.toNat).map (fun j => bv (UInt8.ofNat j))).length = i.toNat := by rw [List.length_map, List.length_range]
    rw [d6.rd, Nat.zero_add, show (i + 1).toNat = i.toNat + 1 by omega, List.set_append_right _ _ (by omega), e, Nat.sub_self, show many n - i.toNat = (many n - (i.toNat + 1)) + 1 by omega, List.replicate_succ, List.set_cons_zero, List.range_succ, List.map_append, List.append_assoc]
    rfl
  have ei : i.toNat = many n := by omega
  rw [ei, Nat.sub_self, List.replicate_zero, List.append_nil] at r5
  have g5 : Ag h2.size col2 (upd col2 h2.size 16) := ag_upd _ _ _
  have lt5 : h2.size < h5.size := o5.lt
  have free5 : Free h (upd col2 h2.size 16) 10 := fun b hb c1 c2 => by
    rw [upd_lt (Nat.lt_of_lt_of_le hb f2.size), g2 b hb] at c1
    have c1 : (10 : Nat) ≤ 0 := c1
    omega
  refine ⟨fun k i hh => 0 ≤ i ∧ i ≤ 200 ∧ i ≤ pl ∧ k = i ∧ ∃ S col ws, ChI h h2.size (many n) keep q i.toNat hh S col ws, fun _ i _ => ((pl : Nat) - i).toNat,
    ⟨by omega, by omega, by omega, rfl, fresh (blocks0 (many n)), upd col2 h2.size 16, (List.range (many n)).map UInt8.ofNat, ⟨D2.keep f5 g5 (fun _ _ _ x => x), rfl, rfl, rfl, rfl, rfl, o5, ?_, ?_, ?_, upd_ge (Nat.le_refl _), f2.no f5, free5⟩⟩, ?_⟩
  · rw [r5, List.map_map]; rfl
  · rw [List.length_map, List.length_range]
  · rw [List.map_map]; simp only [fresh, chosen, List.zip_nil_left, List.filter_nil, List.map_nil, applyTo, List.foldl_nil]; rfl
  rintro k i h7 ⟨i0, i2, i1, rfl, S, col, ws, I⟩
  have hSl : S.lasts.length = many n := by rw [I.lasts, blocks0_length]
  have hkc : ∀ p, ka = some p → keep ≠ [] → p.block < h.size := by
    intro p hp hne; subst hp; exact SlCells.lt Kp (by intro x; exact hne (List.map_eq_nil_iff.mp x))
  have fin : ∀ h9, Fr No h7 h9 → bolelaw03_AdiskChosen.k1 ka kl kc q h2 (many n : Nat) k h9 K := by
    intro h9 f9
    exact chosen1 (I.D.keep f9 (Ag.refl _ _) (fun _ _ _ x => x)) I.down (by rw [I.pend]; omega) (by rw [I.pend]; omega) (by rw [hSl]) (by omega) ((f9.rd I.own.lt (fun x => x)).trans I.rd) (I.len.trans hSl.symm) I.rel I.cw
      (Nat.lt_of_lt_of_le I.own.lt f9.size) hkl (SlCells.fr (I.fr.no f9) Kp (fun _ _ x => x)) hkc (I.fr.no f9) I.free hK
  refine cd (fun hi => ?_) fun hi => fin h7 (Fr.refl _ _)
  have hi' : k.toNat < os.length := by omega
  cases pa with
  | none =>
    have P : os.flatMap Ord.cells = [] := P
    have := flat_length Ord.cells 3 os (fun _ _ => rfl)
    rw [P] at this; simp at this; omega
  | some p =>
  have hcell : Cells h7 (p.add (k.toNat * 3)) (Ord.cells os[k.toNat]) := by
    have := Cells.part (SlCells.fr I.fr P (fun _ _ x => x)) (k.toNat * 3) 3
    rw [flat_part Ord.cells 3 os (fun _ _ => rfl) _ hi'] at this
    exact this
  refine ⟨⟨i0, hi⟩, Hp.os ⟨_, rfl, hcell, NewRow.intro rfl ?_ rfl fun h9 n9 => ?_⟩⟩
  · intro v hv; simp only [Ord.cells, List.mem_cons, List.not_mem_nil, or_false] at hv; rcases hv with rfl | rfl | rfl <;> rfl
  refine cd (fun _ => fin h9 n9.fr) fun h200 => ?_
  refine Put.add n9.own (by rw [n9.rd]; exact (by decide : 0 + 2 < 3)) fun h16 d16 => ?_
  have r16 : rd h16 h7.size = Ord.cells { os[k.toNat] with flush := false } := by rw [d16.rd, n9.rd]; rfl
  have F16 : Fr No h7 h16 := n9.fr.did d16 (fun x => by omega)
  have g16 : Ag h7.size col (upd col h7.size 16) := ag_upd _ _ _
  have lt16 : h7.size < h16.size := d16.own.lt
  have wlt7 := I.own.lt
  have D16 := I.D.keep F16 g16 (fun _ _ _ x => x)
  have hs7 := I.fr.size
  have free16 : Free h (upd col h7.size 16) 10 := fun b hb c1 c2 => by
    rw [upd_lt (by omega)] at c1 c2
    exact I.free b hb c1 c2
  refine ⟨_, rfl, cellsAll r16, do_spec D16 (by omega) (by omega) (by rw [I.pend]; omega) (by rw [I.tape]; omega) fun h17 col17 f17 g17 D17 => ⟨_, rfl, ?_⟩⟩
  rw [doOrd_write rfl I.down I.left (by omega)] at D17 ⊢
  refine cn (fun x => absurd rfl x) fun _ => ?_
  have nl : ¬ Dk (upd col h7.size 16) 10 h7.size := fun x => by have := x.2; rw [upd_ge (Nat.le_refl _)] at this; omega
  have nw : ¬ Dk (upd col h7.size 16) 10 h2.size := fun x => by have := x.2; rw [upd_lt wlt7, I.cw] at this; omega
  have r17 := (f17.rd lt16 nl).trans r16
  have w16 : rd h16 h2.size = ws.map bv := (F16.rd wlt7 (fun x => x)).trans I.rd
  have o16 : Own h16 h2.size := F16.own wlt7 (fun x => x) I.own
  have w17 := (f17.rd o16.lt nw).trans w16
  have o17 := f17.own o16.lt nw o16
  have F17 : Fr No h h17 := (I.fr.no F16).trans f17 (fun b hb x => free16 b hb x.1 x.2)
  have hk1 : (k + 1).toNat = k.toNat + 1 := by omega
  have hwr : IntKind.wrap .i64 (k + 1) = k + 1 := wrap_i64 (by omega) (by omega)
  have cl : ∀ h' ws', Fr (fun x => x = h2.size) h17 h' → Own h' h2.size → rd h' h2.size = ws'.map bv → ws'.length = many n →
      ws'.map rep = applyTo S.lasts (chosen (S.pend ++ [(os[k.toNat].at_ % S.lasts.length, rep os[k.toNat].fill)]) keep) →
      ChI h h2.size (many n) keep q (k + 1).toNat h' (S.putW (os[k.toNat].at_ % S.lasts.length) (rep os[k.toNat].fill)) col17 ws' := by
    intro h' ws' f' o' r' l' e'
    have cw17 : col17 h2.size = 16 := by rw [g17 _ o16.lt, upd_lt wlt7, I.cw]
    refine ⟨D17.keep f' (Ag.refl _ _) (fun b c1 c2 e => by rw [e, cw17] at c2; omega), I.down, I.left, I.lasts, ?_, ?_, o', r', l', e', cw17, F17.trans f' (fun b hb e => by have := f2.size; omega), fun b hb c1 c2 => ?_⟩
    · show (S.pend ++ [_]).length = _
      rw [List.length_append, I.pend, List.length_singleton, hk1]
    · show (S.tape ++ [_]).length = _
      rw [List.length_append, I.tape, List.length_singleton, hk1]
    · rw [g17 b (by omega)] at c1 c2
      exact free16 b hb c1 c2
  rw [hwr]
  have hpk : S.pend.length = k.toNat := I.pend
  have same : keep[k.toNat]? ≠ some true → ChI h h2.size (many n) keep q (k + 1).toNat h17 (S.putW (os[k.toNat].at_ % S.lasts.length) (rep os[k.toNat].fill)) col17 ws := fun hne =>
    cl h17 ws (Fr.refl _ _) o17 w17 I.len (by rw [chosen_add, hpk, if_neg hne, List.append_nil]; exact I.rel)
  refine cd (fun hkk => ⟨⟨i0, hkk⟩, ?_⟩) fun hkk => ?_
  · have hkl' : k.toNat < keep.length := by omega
    have K17 := SlCells.fr F17 Kp (fun _ _ x => x)
    cases ka with
    | none => have Kp : keep.map Value.bool = [] := Kp; rw [List.map_eq_nil_iff.mp Kp] at hkl'; simp at hkl'
    | some kp =>
      refine Hp.os ⟨keep[k.toNat], K17 k.toNat _ (by rw [List.getElem?_map, List.getElem?_eq_getElem hkl']; rfl), cs (fun hb => ?_) fun hb => ?_⟩
      · refine ⟨_, rda r17 rfl, _, rda r17 rfl, mod_spec (by omega) (by omega) ⟨_, rfl, rda r17 rfl, ?_⟩⟩
        have e0 := Int.emod_nonneg os[k.toNat].at_ (show ((many n : Nat) : Int) ≠ 0 by omega)
        have e1 := Int.emod_lt_of_pos os[k.toNat].at_ (show (0 : Int) < (many n : Nat) by omega)
        refine ⟨⟨e0, e1⟩, Put.add o17 (by rw [w17, List.length_map, I.len]; show 0 + (os[k.toNat].at_ % (many n : Nat)).toNat < _; omega) fun h19 d19 => ⟨⟨by omega, by omega, by omega, rfl, _, _, ws.set (os[k.toNat].at_ % (many n : Nat)).toNat os[k.toNat].fill, cl h19 _ d19.fr d19.own ?_ ?_ ?_⟩, falls hi⟩⟩
        · rw [d19.rd, w17, Nat.zero_add, List.map_set]; rfl
        · rw [List.length_set]; exact I.len
        · rw [chosen_add, hpk, if_pos (by rw [List.getElem?_eq_getElem hkl', hb]), applyTo, List.foldl_append, List.map_set, I.rel, hSl]; rfl
      · exact ⟨⟨by omega, by omega, by omega, rfl, _, _, _, same (by rw [List.getElem?_eq_getElem hkl', hb]; simp)⟩, falls hi⟩
  · exact ⟨⟨by omega, by omega, by omega, rfl, _, _, _, same (by rw [List.getElem?_eq_none (by omega)]; simp)⟩, falls hi⟩
end Go.Proofs.Ytnbfaokpaiiojaa.L3
