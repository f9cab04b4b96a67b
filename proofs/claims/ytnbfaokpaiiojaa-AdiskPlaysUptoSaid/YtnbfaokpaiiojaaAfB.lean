/-
  PACKAGE boleref03: the walks of fault, lasts, left and After.
-/
import Derived.Test.YtnbfaokpaiiojaaAfA
namespace Go.Proofs.Ytnbfaokpaiiojaa.L3
open Go Go.Proofs Go.Proofs.Ytnbfaokpaiiojaa.Wx Go.Proofs.Ytnbfaokpaiiojaa.Hp Go.Proofs.Ytnbfaokpaiiojaa.W Go.Proofs.Ytnbfaokpaiiojaa.Ad

theorem fault_spec {e : Ent} {N : Int} {h : Heap} {K : Value → Heap → Prop} (hK : ∀ h', Fr No h h' → K (.int .i64 (refusedOf e N)) h') : C.boleref03_fault N e.cells h K := by
  refine boleref03_fault.ok (New.intro fun h2 n2 => ⟨_, rda n2.rd rfl, ?_⟩)
  have k := hK h2 n2.fr
  unfold refusedOf at k
  refine ce (fun a => by rw [if_pos a] at k; exact k) fun a => ce (fun b => ⟨_, rda n2.rd rfl, ?_⟩) fun b => by rw [if_neg a, if_pos b] at k; exact k
  rw [if_neg a, if_neg (fun x => x b)] at k
  refine cd (fun c => by rw [if_pos c] at k; exact k) fun c => ⟨_, rda n2.rd rfl, ?_⟩
  rw [if_neg c] at k
  refine cd (fun d => by rw [if_pos d] at k; exact k) fun d => ⟨_, _, _, rda n2.rd rfl, ?_⟩
  rw [if_neg d] at k
  refine cn (fun f => by rw [if_pos (by omega)] at k; exact k) fun f => by rw [if_neg (by omega)] at k; exact k
theorem Rot.cell {h : Heap} {a : Option Addr} {l : Nat} {es : List Ent} {ts : List Tt} (R : Rot h a l es ts) {i : Nat} (hi : i < l) :
    ∃ p e, a = some p ∧ Cells h (p.add (i * 3)) (Ent.cells e) ∧ e.kind = (ts.getD i (0, 0, [])).1 ∧ e.at_ = (ts.getD i (0, 0, [])).2.1 ∧ StrAt h e.a e.l (ts.getD i (0, 0, [])).2.2 ∧ i < ts.length ∧ es[i]? = some e := by
  have h1 := R.num
  have h2 := R.len
  have h3 : i < es.length := by omega
  have h4 : i < ts.length := by omega
  obtain ⟨p, e, c⟩ := row_part R.cells h3
  obtain ⟨x1, x2, x3⟩ := R.at_ i h3 h4
  rw [List.getD_eq_getElem?_getD, List.getElem?_eq_getElem h4]
  exact ⟨p, es[i], e, c, x1, x2, x3, h4, List.getElem?_eq_getElem h3⟩
theorem hasFlush_drop (ts : List Tt) (i : Nat) (h : i < ts.length) : hasFlush (ts.drop i) = (ts[i].1 == 2 || hasFlush (ts.drop (i + 1))) := by
  rw [List.drop_eq_getElem_cons h]; rfl
theorem lasts_spec {aa : Option Addr} {al ac : Nat} {es : List Ent} {ts : List Tt} {ka : Option Addr} {kl kc : Nat} {keep : List Bool} {i : Int} {h : Heap} {K : Value → Heap → Prop}
    (R : Rot h aa al es ts) (Kp : SlCells h ka (keep.map .bool)) (hkl : keep.length = kl) (h0 : 0 ≤ i) (hi : i < al) (hal : al ≤ 140737488355328)
    (hK : K (.bool (stays ts i.toNat keep)) h) : C.boleref03_lasts aa al ac i ka kl kc h K := by
  have hn := R.num
  refine boleref03_lasts.ok ?_
  unfold boleref03_lasts
  rw [wrap_i64 (n := i + 1) (by omega) (by omega), wrap_i64 (n := i - 1) (by omega) (by omega)]
  refine ⟨fun j hh => i + 1 ≤ j ∧ j ≤ al ∧ hh = h ∧ hasFlush (ts.drop (i + 1).toNat) = hasFlush (ts.drop j.toNat), fun j _ => ((al : Int) - j).toNat, ⟨by omega, by omega, rfl, rfl⟩, ?_⟩
  rintro j hq ⟨j0, j1, rfl, ej⟩
  have ei : (i + 1).toNat = i.toNat + 1 := by omega
  refine cd (fun hj => ?_) fun hj => ?_
  · obtain ⟨p, e, rfl, c, x1, _, _, hjl, _⟩ := R.cell (i := j.toNat) (by omega)
    have ek : (ts.getD j.toNat (0, 0, [])) = ts[j.toNat] := by rw [List.getD_eq_getElem?_getD, List.getElem?_eq_getElem hjl]; rfl
    rw [ek] at x1
    refine ⟨⟨by omega, hj⟩, os ⟨_, Cells.cell c (i := 0) rfl, ce (fun h2 => ?_) fun h2 => ?_⟩⟩
    · have : stays ts i.toNat keep = true := by
        rw [stays, ← ei, ej, hasFlush_drop ts _ hjl, ← x1, h2]; rfl
      rw [this] at hK; exact hK
    · rw [wrap_i64 (by omega) (by omega)]
      refine ⟨⟨by omega, by omega, rfl, ?_⟩, by have := falls (m := al) hj; exact this⟩
      rw [ej, hasFlush_drop ts _ hjl, show (j + 1).toNat = j.toNat + 1 by omega, ← x1]
      have : (e.kind == 2) = false := by rw [beq_eq_false_iff_ne]; exact h2
      rw [this]; rfl
  · have hfl : hasFlush (ts.drop (i.toNat + 1)) = false := by
      rw [← ei, ej, List.drop_of_length_le (by omega)]; rfl
    have last : ∀ n : Nat, n = trail (ts.take i.toNat) → boleref03_lasts.k1 ka kl n hq K := by
      intro n hn'
      have hs : stays ts i.toNat keep = keep.getD n false := by rw [stays, hfl, hn']; rfl
      rw [hs, List.getD_eq_getElem?_getD] at hK
      refine cd (fun hlt => ?_) fun hge => ?_
      · have hlt' : n < keep.length := by omega
        rw [List.getElem?_eq_getElem hlt'] at hK
        cases ka with
        | none => have Kp : keep.map Value.bool = [] := Kp; have := List.map_eq_nil_iff.mp Kp; rw [this] at hlt'; exact absurd hlt' (by simp)
        | some kp => exact ⟨⟨by omega, hlt⟩, os ⟨_, by rw [Int.toNat_natCast]; exact Kp n _ (by rw [List.getElem?_eq_getElem (by rw [List.length_map]; exact hlt'), List.getElem_map]; rfl), hK⟩⟩
      · rw [List.getElem?_eq_none (by omega)] at hK
        exact hK
    refine ⟨fun number j hh => -1 ≤ j ∧ j < i ∧ number = i - 1 - j ∧ hh = hq ∧ (number : Int) + trail (ts.take (j + 1).toNat) = trail (ts.take i.toNat), fun _ j _ => (j + 1).toNat, ⟨by omega, by omega, by omega, rfl, by rw [show (i - 1 + 1).toNat = i.toNat by omega]; omega⟩, ?_⟩
    rintro number j2 _ ⟨k0, k1, k2, rfl, k3⟩
    refine cd (fun hj2 => ?_) fun hj2 => ?_
    · obtain ⟨p, e, rfl, c, x1, _, _, hjl, _⟩ := R.cell (i := j2.toNat) (by omega)
      have ek : (ts.getD j2.toNat (0, 0, [])) = ts[j2.toNat] := by rw [List.getD_eq_getElem?_getD, List.getElem?_eq_getElem hjl]; rfl
      rw [ek] at x1
      have et : (j2 + 1).toNat = j2.toNat + 1 := by omega
      rw [et, take_snoc _ _ hjl, trail_snoc] at k3
      refine ⟨⟨by omega, by omega⟩, os ⟨_, Cells.cell c (i := 0) rfl, ce (fun h2 => ?_) fun h2 => ?_⟩⟩
      · rw [if_pos (by omega)] at k3
        rw [wrap_i64 (by omega) (by omega), wrap_i64 (by omega) (by omega)]
        exact ⟨⟨by omega, by omega, by omega, rfl, by rw [show j2 - 1 + 1 = j2 by omega]; omega⟩, by show (j2 - 1 + 1).toNat < (j2 + 1).toNat; omega⟩
      · rw [if_neg (by omega)] at k3
        have := last number.toNat (by omega)
        rw [show ((number.toNat : Nat) : Int) = number by omega] at this
        exact this
    · have ej2 : (j2 + 1).toNat = 0 := by omega
      rw [ej2, List.take_zero] at k3
      have k3 : number + 0 = trail (ts.take i.toNat) := k3
      have := last number.toNat (by omega)
      rw [show ((number.toNat : Nat) : Int) = number by omega] at this
      exact this
theorem put_snoc (ys : List Value) (y : Value) : ∀ (X : List Value) (o : Nat), put X o (ys ++ [y]) = (put X o ys).set (o + ys.length) y := by
  induction ys with
  | nil => intro X o; rfl
  | cons v r ih =>
    intro X o
    show put (X.set o v) (o + 1) (r ++ [y]) = _
    rw [ih, List.length_cons, show o + 1 + r.length = o + (r.length + 1) by omega]; rfl
theorem set_len {ls : List (List UInt8)} (h : ∀ x ∈ ls, x.length = 512) {y : List UInt8} (hy : y.length = 512) (i : Nat) : ∀ x ∈ ls.set i y, x.length = 512 := by
  intro x hx
  rcases List.mem_or_eq_of_mem_set hx with hx | rfl
  · exact h x hx
  · exact hy
theorem flat_set {ls : List (List UInt8)} (h : ∀ x ∈ ls, x.length = 512) {y : List UInt8} (hy : y.length = 512) {i : Nat} (hi : i < ls.length) : put (ls.flatten.map bv) (i * 512) (y.map bv) = (ls.set i y).flatten.map bv := by
  rw [flat_blk, flat_blk]
  exact put_part blk 512 ls (fun x hx => blk_len (h x hx)) i hi y (blk_len hy)
theorem left_spec {ia : Option Addr} {il ic N : Nat} {ibs : List UInt8} {aa : Option Addr} {al ac : Nat} {es : List Ent} {ts : List Tt} {ka : Option Addr} {kl kc : Nat} {keep : List Bool} {h : Heap} {K : Value → Heap → Prop}
    (B : StrAt h ia il ibs) (hN : N ≤ 16384) (hil : il = N * 512) (R : Rot h aa al es ts) (hal : al ≤ 140737488355328) (hm : ∀ t ∈ ts, May N t) (Kp : SlCells h ka (keep.map .bool)) (hkl : keep.length = kl)
    (hK : ∀ a c h', Fr No h h' → Sl h' 1 a il c ((leftR keep (chunks ibs) ts 0).flatten.map bv) (From h.size) → K (.slice a il c) h') : C.boleref03_left ia il ic aa al ac ka kl kc h K := by
  have hn := R.num
  have hbl := B.1
  refine boleref03_left.ok (Rf.copied_spec B (by omega) fun a c h2 f2 s2 => ⟨_, _, _, rfl, ?_⟩)
  have hs2 := f2.size
  have hcl : (chunks ibs).length = N := by rw [chunks_length, hbl]; omega
  refine ⟨fun i hh => 0 ≤ i ∧ i ≤ al ∧ Fr No h hh ∧ ∃ ls, Sl hh 1 a il c (ls.flatten.map bv) (From h.size) ∧ ls.length = N ∧ (∀ x ∈ ls, x.length = 512) ∧ leftR keep ls (ts.drop i.toNat) (trail (ts.take i.toNat)) = leftR keep (chunks ibs) ts 0, fun i _ => ((al : Int) - i).toNat,
    ⟨by omega, by omega, f2, chunks ibs, by rw [chunks_join (by omega)]; exact s2, hcl, chunks_len _, rfl⟩, ?_⟩
  rintro i h3 ⟨i0, i1, f3, ls, s3, hls, hlw, el⟩
  have hs3 := f3.size
  refine cd (fun hi => ?_) fun hi => ?_
  rotate_left
  · rw [List.drop_of_length_le (by omega), leftR] at el
    rw [el] at s3
    exact hK a c h3 f3 s3
  have R3 := R.fr f3
  obtain ⟨p, e, rfl, cc, x1, x2, x3, hit, hee⟩ := R3.cell (i := i.toNat) (by omega)
  have ek : (ts.getD i.toNat (0, 0, [])) = ts[i.toNat] := by rw [List.getD_eq_getElem?_getD, List.getElem?_eq_getElem hit]; rfl
  rw [ek] at x1 x2 x3
  rw [leftR_step keep ls ts i.toNat hit] at el
  have e1 : (i + 1).toNat = i.toNat + 1 := by omega
  refine ⟨⟨i0, hi⟩, Hp.os ⟨_, rfl, cc, NewRow.intro rfl (ent_one _) rfl fun h5 n5 => ⟨_, rda n5.rd rfl, ?_⟩⟩⟩
  have hs5 := n5.size
  have lt5 := n5.own.lt
  have f5 := f3.new n5
  have s5 := s3.fr n5.fr fun _ _ _ x => x
  rw [wrap_i64 (n := i + 1) (by omega) (by omega)]
  refine cn (fun hne => ?_) fun heq => ?_
  · rw [if_neg (fun x => hne (x1.trans x.1))] at el
    exact ⟨⟨by omega, by omega, f5, ls, s5, hls, hlw, by rw [e1]; exact el⟩, falls hi⟩
  have hk1 : ts[i.toNat].1 = 1 := x1.symm.trans heq
  have hmay : 0 ≤ ts[i.toNat].2.1 ∧ ts[i.toNat].2.1 < N ∧ ts[i.toNat].2.2.length = 512 := by
    rcases hm _ (List.getElem_mem hit) with h | h
    · omega
    · exact h.2
  refine lasts_spec (R.fr f5) (SlCells.fr f5 Kp fun _ _ x => x) hkl i0 hi hal ⟨_, rfl, ?_⟩
  cases hst : stays ts i.toNat keep with
  | false =>
    rw [if_neg (fun x => by rw [hst] at x; cases x.2)] at el
    refine ⟨fun k hh => k = 0 ∧ h5 = hh, fun _ _ => 0, ⟨rfl, rfl⟩, ?_⟩
    rintro k _ ⟨rfl, rfl⟩
    have fin : (0 ≤ i + 1 ∧ i + 1 ≤ al ∧ Fr No h h5 ∧ ∃ ls, Sl h5 1 a il c (ls.flatten.map bv) (From h.size) ∧ ls.length = N ∧ (∀ x ∈ ls, x.length = 512) ∧ leftR keep ls (ts.drop (i + 1).toNat) (trail (ts.take (i + 1).toNat)) = leftR keep (chunks ibs) ts 0) :=
      ⟨by omega, by omega, f5, ls, s5, hls, hlw, by rw [e1]; exact el⟩
    exact ct rfl ⟨fin, falls hi⟩
  | true =>
    rw [if_pos ⟨hk1, hst⟩] at el
    have hj : ts[i.toNat].2.1.toNat < ls.length := by omega
    obtain ⟨pp, rfl, _⟩ := s5.get (by omega)
    have hp := s5.mk
    obtain ⟨ob, oo, osp⟩ := pp
    have hp : osp = none := by simpa using hp
    subst hp
    have hnew : h.size ≤ ob := s3.2.2.1
    have hob3 : ob < h3.size := by
      have := s3.2.2.2.1
      exact this.lt
    refine ⟨fun k hh => 0 ≤ k ∧ k ≤ 512 ∧ Fr No h hh ∧ rd hh h3.size = e.cells ∧ h5.size ≤ hh.size ∧ Sl hh 1 (some ⟨ob, oo, none⟩) il c (put (ls.flatten.map bv) (ts[i.toNat].2.1.toNat * 512) ((ts[i.toNat].2.2.take k.toNat).map bv)) (From h.size), fun k _ => ((512 : Nat) - k).toNat,
      ⟨by omega, by omega, f5, n5.rd, Nat.le_refl _, s5⟩, ?_⟩
    rintro k h7 ⟨k0, k1, f7, r7, hs7, s7⟩
    refine cd (fun hk => ?_) fun hk => ?_
    · have hk : k < 512 := hk
      refine ct rfl ⟨_, rda r7 rfl, _, _, _, rda r7 rfl, ?_⟩
      have hkl : k.toNat < ts[i.toNat].2.2.length := by omega
      have el' := x3.1
      have x7 := StrAt.fr f7 ((R.at_ i.toNat (by have := R.len; omega) hit).2.2) fun _ _ x => x
      have hee' : es[i.toNat]'(by have := R.len; omega) = e := by
        rw [List.getElem?_eq_getElem (by have := R.len; omega)] at hee; exact Option.some.inj hee
      rw [hee'] at x7
      refine ⟨⟨k0, by omega⟩, ?_⟩
      have x72 := x7.2
      cases hea : e.a with
      | none =>
        rw [hea] at x72
        have x72 : ts[i.toNat].2.2.map bv = [] := x72
        have := List.map_eq_nil_iff.mp x72
        rw [this] at hkl; exact absurd hkl (by simp)
      | some ep =>
        rw [hea] at x72
        have x72 : Cells h7 ep (ts[i.toNat].2.2.map bv) := x72
        refine Hp.os ⟨_, Cells.cell x72 (i := k.toNat) (v := bv (ts[i.toNat].2.2[k.toNat]'hkl)) (by rw [List.getElem?_map, List.getElem?_eq_getElem hkl]; rfl), ?_⟩
        rw [x2, wrap_i64 (n := ts[i.toNat].2.1 * 512) (by omega) (by omega), wrap_i64 (n := ts[i.toNat].2.1 * 512 + k) (by omega) (by omega)]
        have hpos : (ts[i.toNat].2.1 * 512 + k).toNat = ts[i.toNat].2.1.toNat * 512 + k.toNat := by omega
        have hjN : ts[i.toNat].2.1.toNat * 512 + 512 ≤ N * 512 := by omega
        rw [hpos]
        obtain ⟨w1, w2⟩ := s7.wr
        refine ⟨⟨by omega, by omega⟩, Hp.os (Put.add w1 (by omega) fun h8 d8 => ?_)⟩
        have s8 := s7.putAt (j := ts[i.toNat].2.1.toNat * 512 + k.toNat) (new := [bv (ts[i.toNat].2.2[k.toNat]'hkl)]) (by rw [List.length_singleton]; omega) d8
        have ep : put (put (ls.flatten.map bv) (ts[i.toNat].2.1.toNat * 512) ((ts[i.toNat].2.2.take k.toNat).map bv)) (ts[i.toNat].2.1.toNat * 512 + k.toNat) [bv (ts[i.toNat].2.2[k.toNat]'hkl)] = put (ls.flatten.map bv) (ts[i.toNat].2.1.toNat * 512) ((ts[i.toNat].2.2.take (k + 1).toNat).map bv) := by
          rw [show (k + 1).toNat = k.toNat + 1 by omega, take_snoc _ _ hkl, List.map_append, List.map_singleton, put_snoc, List.length_map, List.length_take, Nat.min_eq_left (by omega)]
          rfl
        rw [ep] at s8
        rw [wrap_i64 (by omega) (by omega)]
        refine ⟨⟨by omega, by omega, f7.did d8 (fun x => by omega), ?_, ?_, s8⟩, falls (m := 512) hk⟩
        · rw [d8.at_ (by omega) (by omega)]; exact r7
        · have := d8.fr.size; omega
    · have hk512 : k.toNat = 512 := by have hk : ¬ k < 512 := hk; omega
      rw [hk512, List.take_of_length_le (by omega), flat_set hlw hmay.2.2 hj] at s7
      exact ⟨⟨by omega, by omega, f7, _, s7, by rw [List.length_set]; exact hls, set_len hlw hmay.2.2 _, by rw [e1]; exact el⟩, falls hi⟩
theorem RefAfter_all {ia : Option Addr} {il ic : Nat} {ibs : List UInt8} {aa : Option Addr} {al ac : Nat} {es : List Ent} {ts : List Tt} {ka : Option Addr} {kl kc : Nat} {keep : List Bool} {h : Heap} {K : Value → Heap → Prop}
    (B : StrAt h ia il ibs) (hil : il ≤ 140737488355328) (R : Rot h aa al es ts) (hmax : al ≤ 100000000) (Kp : SlCells h ka (keep.map .bool)) (hkl : keep.length = kl)
    (hK : ∀ a l c h', Fr No h h' → Sl h' 1 a l c ((aftOf ibs ts keep).1.map bv) (From h.size) → K (.tuple #[.slice a l c, .int .i64 (aftOf ibs ts keep).2]) h') : C.boleref03_After ia il ic aa al ac ka kl kc h K := by
  have hb := B.1
  have hn := R.num
  have hlen := R.len
  have ez : ∀ N : Int, faults N es = faultsT N ts := fun N => R.alike.faults
  unfold aftOf at hK
  rw [hb] at hK
  refine boleref03_After.ok (Rf.Of_spec (fun _ => 0) 10 B hil (fun bad => ⟨_, _, rfl, cn (fun _ => ?_) fun x => absurd x (by decide)⟩) fun g1 g2 g3 q h2 col2 f2 _ _ => ⟨_, _, rfl, cn (fun x => absurd rfl x) fun _ => ?_⟩)
  · rw [if_pos bad] at hK; exact hK none 0 0 h (Fr.refl _ _) (Sl.nil _ _ _)
  rw [if_neg (by omega)] at hK
  have hs2 := f2.size
  refine ⟨fun i hh => 0 ≤ i ∧ i ≤ al ∧ Fr No h hh ∧ faults (il / 512 : Nat) es = faults (il / 512 : Nat) (es.drop i.toNat), fun i _ => ((al : Int) - i).toNat, ⟨by omega, by omega, f2, rfl⟩, ?_⟩
  rintro i h3 ⟨i0, i1, f3, e3⟩
  refine cd (fun hi => ?_) fun hi => ?_
  · obtain ⟨p, e, rfl, cc, _, _, _, hit, hee⟩ := (R.fr f3).cell (i := i.toNat) (by omega)
    have hd : Int.tdiv (il : Int) 512 = ((il / 512 : Nat) : Int) := by rw [Int.tdiv_eq_ediv_of_nonneg (by omega)]; omega
    rw [hd, wrap_i64 (by omega) (by omega)]
    refine ⟨⟨i0, hi⟩, os ⟨_, rfl, cc, fault_spec fun h4 f4 => ⟨_, rfl, ?_⟩⟩⟩
    have hie : i.toNat < es.length := by omega
    have hee' : es[i.toNat] = e := by rw [List.getElem?_eq_getElem hie] at hee; exact Option.some.inj hee
    have ek := kind_keeps (il / 512 : Nat) es i.toNat hie
    rw [hee'] at ek
    refine cn (fun x => ?_) fun x => ?_
    · rw [if_pos x] at ek
      have : faultsT (il / 512 : Nat) ts = refusedOf e (il / 512 : Nat) := by rw [← ez, e3, ek]
      rw [this, if_pos x] at hK
      exact hK none 0 0 h4 (f3.no f4) (Sl.nil _ _ _)
    · rw [if_neg (fun y => y x)] at ek
      rw [wrap_i64 (by omega) (by omega)]
      exact ⟨⟨by omega, by omega, f3.no f4, by rw [e3, ek, show (i + 1).toNat = i.toNat + 1 by omega]⟩, falls hi⟩
  · rw [List.drop_of_length_le (by omega)] at e3
    have ef : faultsT (il / 512 : Nat) ts = 0 := by rw [← ez, e3]; rfl
    rw [ef, if_neg (fun x => x rfl)] at hK
    refine left_spec (N := il / 512) (StrAt.fr f3 B fun _ _ x => x) (by omega) (by omega) (R.fr f3) (by omega) (faultsT_may ef) (SlCells.fr f3 Kp fun _ _ x => x) hkl fun a c h4 f4 s4 => ⟨_, _, _, rfl, hK a _ c h4 (f3.no f4) (s4.mono fun b hb => Nat.le_trans f3.size hb)⟩
end Go.Proofs.Ytnbfaokpaiiojaa.L3
