/-
  SlotsForm.
-/
import Derived.Test.YtgpkcakanieodaaDoorSlD
namespace Go.Proofs.YtgpkcakanieodaaDoor.Ss
open Go Go.Proofs Go.Proofs.YtgpkcakanieodaaDoor.Wx Go.Proofs.YtgpkcakanieodaaDoor.Hp Go.Proofs.YtgpkcakanieodaaDoor.W Go.Proofs.YtgpkcakanieodaaDoor.Re Go.Proofs.YtgpkcakanieodaaDoor.Sk Go.Proofs.YtgpkcakanieodaaDoor.Ch

/-- a cell of the laws' arguments -/
structure Cl where
  P : Int
  I : Int
  N : Int
  s : List UInt8
def Cl.v (x : Cl) : List Value := cv x.P x.I x.N x.s
theorem Cl.len (x : Cl) : (Cl.v x).length = 4 := rfl
theorem part_at {h : Heap} {a : Option Addr} {α : Type} {f : α → List Value} {w : Nat} {zs : List α} (Zc : SlCells h a (zs.flatMap f)) (hw : ∀ x, (f x).length = w) (h0 : 0 < w) {i : Nat} (hz : i < zs.length) : ∃ p, a = some p ∧ Cells h (p.add (i * w)) (f zs[i]) := by
  cases a with
  | none =>
    have Zc : zs.flatMap f = [] := Zc
    have := flat_length f w zs (fun x _ => hw x)
    rw [Zc, List.length_nil] at this
    have : 0 < zs.length * w := Nat.mul_pos (by omega) h0
    omega
  | some p =>
    refine ⟨p, rfl, ?_⟩
    have := Cells.part (show Cells h p (zs.flatMap f) from Zc) (i * w) w
    rw [flat_part f w _ (fun x _ => hw x) i hz] at this
    exact this
/-- Put into a block of cells -/
theorem putA_blk {hs : List (Nat × Txt)} {e : E} (hl : hs.length = 16) (g : ∀ x ∈ hs, Sk.Good x) (ok : putOk e = true) :
    putA (blk hs) e = (0, blk (hs.set e.place.toNat (e.inode.toNat, e.name))) ∧ ∀ x ∈ hs.set e.place.toNat (e.inode.toNat, e.name), Sk.Good x := by
  obtain ⟨p0, p1, i0, i1, hn, gd⟩ := putOk_good ok
  have bl := blk_length g
  have e1 := blk_set g gd (k := e.place.toNat) (by omega)
  refine ⟨?_, set_good g gd⟩
  rw [putA, if_neg (by omega), if_pos ok]
  exact congrArg _ e1
theorem ans_blk {hs : List (Nat × Txt)} (hl : hs.length = 16) (g : ∀ x ∈ hs, Sk.Good x) : ans (blk hs) = (ents 0 hs, 0) ∧ lowA (blk hs) = (low 0 hs, 0) := by
  have bl := blk_length g
  have d := dec_blk g
  rw [hl] at d
  refine ⟨?_, ?_⟩
  · rw [ans, if_neg (by omega), d]
  · rw [lowA, if_neg (by omega), d]
theorem rep_good : ∀ x ∈ List.replicate 16 ((0 : Nat), ([] : Txt)), Sk.Good x := by
  intro x hx; rw [List.eq_of_mem_replicate hx]; exact zero_good
theorem ents_ok {hs : List (Nat × Txt)} (hl : hs.length = 16) (g : ∀ x ∈ hs, Sk.Good x) : ∀ e ∈ ents 0 hs, putOk e = true := by
  intro e he
  obtain ⟨h1, h2, x, hx, h0, h3, h4⟩ := ents_range hs 0 e he
  rcases g x hx with ⟨h5, _⟩ | ⟨h5, h6, h7⟩
  · exact absurd h5 h0
  · rw [putOk, decide_eq_true (by omega), decide_eq_true (by omega), decide_eq_true (by omega), decide_eq_true (by omega), h3, h7]; rfl
/-- a turned block tells something else, or nothing -/
theorem turn_other {hs : List (Nat × Txt)} {bs : List UInt8} (hl : hs.length = 16) (g : ∀ x ∈ hs, Sk.Good x) (hb : bs.length = 512) (hne : bs ≠ blk hs) : ans bs = ([], 140) ∨ ∃ es, ans bs = (es, 0) ∧ ents 0 hs ≠ es := by
  cases hd : dec 16 bs with
  | none => left; rw [ans, if_neg (by omega), hd]
  | some gs =>
    right
    obtain ⟨a1, a2, a3⟩ := blk_dec (by omega) hd
    refine ⟨ents 0 gs, by rw [ans, if_neg (by omega), hd], fun e => hne ?_⟩
    have := ents_inj hs gs 0 g a2 (by omega) e
    rw [a3, this]
theorem form_k2 {h1 h9 h14 : Heap} {at_ : Int} {by_ : UInt8} {hs : List (Nat × Txt)} {a2 : Option Addr} {l2 c2 : Nat} {n5 : Value} {K : Value → Heap → Prop} (g : Glo h14) (f14 : Fr No h1 h14) (hlt : h1.size < h9.size) (h9p : 1 ≤ h9.size) (hby : by_ ≠ 0)
    (rx : rd h14 h1.size = [.int .i64 at_, n5]) (hl : hs.length = 16) (gd : ∀ x ∈ hs, Sk.Good x) (s14 : Sl h14 1 (some ⟨h9.size, 0, none⟩) 512 512 ((blk hs).map bv) (fun x => x = h9.size))
    (sE : Sl h14 3 a2 l2 c2 ((ents 0 hs).flatMap E.v) (fun x => h9.size < x)) (hK : ∀ h', Fr No h1 h' → K (.bool true) h') : bolelaw14_SlotsForm.k2 h1 h9 h14 a2 l2 c2 (by_.toNat : Int) K := by
  have bl := blk_length gd
  rw [hl] at bl
  refine ⟨at_, rda rx rfl, mod_spec (by omega) (by omega) ⟨_, rfl, ?_⟩⟩
  have m0 := Int.emod_nonneg at_ (show (512 : Int) ≠ 0 by omega)
  have m1 := Int.emod_lt_of_pos at_ (show (0 : Int) < 512 by omega)
  generalize at_ % 512 = n7 at m0 m1
  have hi : n7.toNat < (blk hs).length := by omega
  obtain ⟨_, e, c⟩ := byte_get s14.str hi
  cases e
  obtain ⟨w, wl⟩ := s14.wr
  refine ⟨⟨m0, by show n7 < 512; exact m1⟩, _, c, ⟨m0, by show n7 < 512; exact m1⟩, Put.add w (by omega) fun h16 d16 => ?_⟩
  rw [xor_byte] at d16
  have s16 := s14.putAt (j := n7.toNat) (new := [_]) (by rw [List.length_singleton]; omega) d16
  have ep : put ((blk hs).map bv) n7.toNat [bv ((blk hs)[n7.toNat] ^^^ by_)] = ((blk hs).set n7.toNat ((blk hs)[n7.toNat] ^^^ by_)).map bv := by rw [List.map_set]; rfl
  rw [ep] at s16
  have f16 : Fr No h1 h16 := f14.did d16 fun x => by omega
  have g16 : Glo h16 := g.fr d16.fr fun b hb e => by omega
  have sE16 := sE.fr d16.fr fun b _ hb e => by omega
  have hne : (blk hs).set n7.toNat ((blk hs)[n7.toNat] ^^^ by_) ≠ blk hs := set_ne hi (xor_ne hby)
  refine Read_spec g16 s16.str s16.le fun h17 a3 l3 c3 f17 s17 => ⟨_, _, _, _, rfl, ?_⟩
  have hlen : ((blk hs).set n7.toNat ((blk hs)[n7.toNat] ^^^ by_)).length = 512 := by rw [List.length_set]; omega
  have fin := hK h17 (f16.no f17)
  have l2e : (ents 0 hs).length = l2 := by
    have := sE.1
    rw [flat_length E.v 3 _ (fun x _ => E.len x)] at this
    omega
  have le := ents_len hs 0
  rcases turn_other hl gd hlen hne with e | ⟨es, e, ne⟩
  · rw [e] at s17 ⊢
    have l30 : l3 = 0 := by
      have : (0 : Nat) = l3 * 3 := s17.1
      omega
    rw [l30]
    exact ct rfl (ct rfl fin)
  · rw [e] at s17 ⊢
    have l3e : es.length = l3 := by
      have : (es.flatMap E.v).length = l3 * 3 := s17.1
      rw [flat_length E.v 3 _ (fun x _ => E.len x)] at this
      omega
    refine cf rfl (ct rfl (sameEntries_spec (sE16.fr f17 fun _ _ _ x => x).cells l2e s17.cells l3e (by omega) ⟨_, rfl, ?_⟩))
    rw [decide_eq_false ne]
    exact fin
theorem form_k1 {h1 h9 : Heap} {at_ : Int} {by_ : UInt8} {cl : List Cl} {la : Option Addr} {ll : Nat} {K : Value → Heap → Prop} (g : Glo h1) (f9 : Fr No h1 h9) (hlt : h1.size < h9.size) (rx : rd h9 h1.size = [.int .i64 at_, bv by_])
    (L : SlCells h1 la (cl.flatMap Cl.v)) (hl : cl.length = ll) (hll : ll ≤ 140737488355328) (hK : ∀ h', Fr No h1 h' → K (.bool true) h') : bolelaw14_SlotsForm.k1 la ll h1 h9 K := by
  have hg := g.lt
  refine ⟨⟨by omega, by omega, by omega, by omega⟩, New.intro fun h10 n10 => ?_⟩
  have z10 := zero_block n10
  rw [Z_blk] at z10
  have hs10 := n10.size
  refine ⟨fun i hh => 0 ≤ i ∧ i ≤ ll ∧ Fr No h9 hh ∧ h9.size < hh.size ∧ ∃ hs : List (Nat × Txt), hs.length = 16 ∧ (∀ x ∈ hs, Sk.Good x) ∧ Sl hh 1 (some ⟨h9.size, 0, none⟩) 512 512 ((blk hs).map bv) (fun x => x = h9.size), fun i _ => ((ll : Int) - i).toNat,
    ⟨by omega, by omega, n10.fr, by omega, List.replicate 16 (0, []), List.length_replicate, rep_good, z10⟩, ?_⟩
  rintro i h11 ⟨i0, i1, f11, hs11, hs, hsl, gd, s11⟩
  have F11 := f9.no f11
  refine cd (fun hi => ?_) fun hi => ?_
  · have hi' : i.toNat < cl.length := by omega
    obtain ⟨p, rfl, cc⟩ := part_at (SlCells.fr F11 L fun _ _ x => x) Cl.len (by omega) hi'
    refine ⟨⟨i0, hi⟩, os ⟨_, rfl, cc, entry_spec fun h12 e f12 ok => ⟨_, rfl, ?_⟩⟩⟩
    have s12 := s11.fr f12 fun _ _ _ x => x
    refine Put_spec ((g.no F11).no f12) (by omega) s12 fun h13 d13 => ⟨_, rfl, ?_⟩
    obtain ⟨e1, g1⟩ := putA_blk hsl gd ok
    rw [e1] at d13 ⊢
    rw [wrap_i64 (by omega) (by omega)]
    have s13 := Sl.all s12 (by rw [blk_length g1, blk_length gd, List.length_set]) d13
    exact cf rfl ⟨⟨by omega, by omega, Wrote.no (f11.no f12) (Nat.le_refl _) d13, by have := f12.size; have := d13.fr.size; omega, _, by rw [List.length_set, hsl], g1, s13⟩, falls hi⟩
  · have rx11 : rd h11 h1.size = [.int .i64 at_, bv by_] := (f11.rd hlt fun x => x).trans rx
    refine Read_spec (g.no F11) s11.str s11.le fun h14 a2 l2 c2 f14 s14 => ⟨_, _, _, _, rfl, ?_⟩
    rw [(ans_blk hsl gd).1] at s14 ⊢
    have rx14 : rd h14 h1.size = [.int .i64 at_, bv by_] := (f14.rd (by omega) fun x => x).trans rx11
    have b14 := s11.fr f14 fun _ _ _ x => x
    have sE : Sl h14 3 a2 l2 c2 ((ents 0 hs).flatMap E.v) (fun x => h9.size < x) := s14.mono fun b hb => by have hb : h11.size ≤ b := hb; omega
    refine cf rfl ⟨by_.toNat, rda rx14 rfl, ce (fun h0 => ?_) fun h0 => ?_⟩
    · exact form_k2 (by_ := 1) ((g.no F11).no f14) (F11.no f14) hlt (by omega) (by decide) rx14 hsl gd b14 sE hK
    · exact form_k2 ((g.no F11).no f14) (F11.no f14) hlt (by omega) (fun e => h0 (by rw [e]; rfl)) rx14 hsl gd b14 sE hK
theorem SlotsForm_spec {a la : Option Addr} {l c ll lc : Nat} {bs : List UInt8} {cl : List Cl} {at_ : Int} {by_ : UInt8} {h : Heap} {K : Value → Heap → Prop} (g : Glo h) (B : StrAt h a l bs) (hlc : l ≤ c) (hl47 : l ≤ 140737488355328)
    (L : SlCells h la (cl.flatMap Cl.v)) (hl : cl.length = ll) (hll : ll ≤ 140737488355328) (hK : ∀ h', Fr No h h' → K (.bool true) h') : C.bolelaw14_SlotsForm a l c la ll lc [.int .i64 at_, bv by_] h K := by
  have hg := g.lt
  refine bolelaw14_SlotsForm.ok (New.intro fun h2 n2 => fixed_spec (g.no n2.fr) fun h3 f3 => ⟨_, rfl, cf rfl ?_⟩)
  have F3 := n2.fr.no f3
  have hs2 := n2.size
  have hs3 := f3.size
  have r3 : rd h3 h.size = [.int .i64 at_, bv by_] := (f3.rd n2.own.lt fun x => x).trans n2.rd
  have B3 := StrAt.fr F3 B fun _ _ x => x
  refine Read_spec (g.no F3) B3 hlc fun h4 a1 l1 c1 f4 s4 => ⟨_, _, _, _, rfl, ?_⟩
  have F4 := F3.no f4
  have hs4 := f4.size
  have r4 : rd h4 h.size = [.int .i64 at_, bv by_] := (f4.rd (by omega) fun x => x).trans r3
  refine ce (fun h0 => ?_) fun h0 => form_k1 g F4 (by omega) r4 L hl hll hK
  have hbl := B.1
  have hb512 : bs.length = 512 := by
    rcases Nat.decEq bs.length 512 with h | h
    · rw [ans, if_pos h] at h0; exact absurd h0 (by decide)
    · exact h
  cases hd : dec 16 bs with
  | none => rw [ans, if_neg (by omega), hd] at h0; exact absurd h0 (by decide)
  | some hs =>
    obtain ⟨hsl, gd, ebs⟩ := blk_dec (by omega) hd
    have ea : ans bs = (ents 0 hs, 0) := by rw [ans, if_neg (by omega), hd]
    rw [ea] at s4
    have ok := ents_ok hsl gd
    have hl1 : (ents 0 hs).length = l1 := by
      have : ((ents 0 hs).flatMap E.v).length = l1 * 3 := s4.1
      rw [flat_length E.v 3 _ (fun x _ => E.len x)] at this
      omega
    have le16 := ents_len hs 0
    refine ⟨⟨by omega, by omega, by omega, by omega⟩, New.intro fun h5 n5 => ?_⟩
    have z5 := zero_block n5
    rw [Z_blk] at z5
    have hs5 := n5.size
    let step : List (Nat × Txt) → E → List (Nat × Txt) := fun acc e => acc.set e.place.toNat (e.inode.toNat, e.name)
    refine ⟨fun i hh => 0 ≤ i ∧ i ≤ l1 ∧ Fr No h4 hh ∧ h4.size < hh.size ∧ (((ents 0 hs).take i.toNat).foldl step (List.replicate 16 (0, []))).length = 16 ∧ (∀ x ∈ ((ents 0 hs).take i.toNat).foldl step (List.replicate 16 (0, [])), Sk.Good x) ∧
      Sl hh 1 (some ⟨h4.size, 0, none⟩) 512 512 ((blk (((ents 0 hs).take i.toNat).foldl step (List.replicate 16 (0, [])))).map bv) (fun x => x = h4.size), fun i _ => ((l1 : Int) - i).toNat,
      ⟨by omega, by omega, n5.fr, by omega, List.length_replicate, rep_good, z5⟩, ?_⟩
    rintro i h6 ⟨i0, i1, f6, hs6, hsl6, gd6, s6⟩
    refine cd (fun hi => ?_) fun hi => ?_
    · have hi' : i.toNat < (ents 0 hs).length := by omega
      obtain ⟨p, rfl, cc⟩ := part_at (s4.fr f6 fun _ _ _ x => x).cells E.len (by omega) hi'
      refine ⟨⟨i0, hi⟩, os ⟨_, rfl, cc, ?_⟩⟩
      refine Put_spec ((g.no F4).no f6) (by omega) s6 fun h7 d7 => ⟨_, rfl, ?_⟩
      obtain ⟨e1, g1⟩ := putA_blk hsl6 gd6 (ok _ (List.getElem_mem hi'))
      rw [e1] at d7 ⊢
      rw [wrap_i64 (by omega) (by omega)]
      have s7 := Sl.all s6 (by rw [blk_length g1, blk_length gd6, List.length_set]) d7
      have et : ((ents 0 hs).take (i + 1).toNat).foldl step (List.replicate 16 (0, [])) = (((ents 0 hs).take i.toNat).foldl step (List.replicate 16 (0, []))).set ((ents 0 hs)[i.toNat]).place.toNat (((ents 0 hs)[i.toNat]).inode.toNat, ((ents 0 hs)[i.toNat]).name) := by
        rw [show (i + 1).toNat = i.toNat + 1 by omega, List.take_succ_eq_append_getElem hi', List.foldl_append]; rfl
      refine cf rfl ⟨⟨by omega, by omega, Wrote.no f6 (Nat.le_refl _) d7, by have := d7.fr.size; omega, ?_, ?_, ?_⟩, falls hi⟩
      · rw [et, List.length_set]; exact hsl6
      · rw [et]; exact g1
      · rw [et]; exact s7
    · rw [List.take_of_length_le (by omega)] at s6
      have ef : (ents 0 hs).foldl step (List.replicate 16 (0, [])) = hs := by
        have := readM_ents_all hs [] gd
        rw [hsl] at this
        exact this
      rw [ef, ← ebs] at s6
      refine sameBytes_spec s6.str (StrAt.fr (f4.no f6) B3 fun _ _ x => x) (by omega) ⟨_, rfl, ?_⟩
      rw [decide_eq_true rfl]
      exact cf rfl (form_k1 g (F4.no f6) (by omega) ((f6.rd (by omega) fun x => x).trans r4) L hl hll hK)
end Go.Proofs.YtgpkcakanieodaaDoor.Ss
