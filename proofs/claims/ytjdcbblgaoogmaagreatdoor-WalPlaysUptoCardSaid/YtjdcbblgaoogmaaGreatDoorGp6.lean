/-
  TEXTS FOR walPlays_card: WpC WpD WpE WpF WpG WpH Wplay.
-/
import Derived.Test.YtjdcbblgaoogmaaGreatDoorGp5
namespace Go.Proofs.YtjdcbblgaoogmaaGreatDoor.Wd
open Go Go.Proofs Go.Proofs.YtjdcbblgaoogmaaGreatDoor.Wx Go.Proofs.YtjdcbblgaoogmaaGreatDoor.Hp Go.Proofs.YtjdcbblgaoogmaaGreatDoor.W Go.Proofs.YtjdcbblgaoogmaaGreatDoor.Ad Go.Proofs.YtjdcbblgaoogmaaGreatDoor.Wc Go.Proofs.YtjdcbblgaoogmaaGreatDoor.Rf
open Go.Proofs.YtjdcbblgaoogmaaGreatDoor.L3 (Tt)
theorem dupG {hx : Heap} {k z : Nat} {da : Option Addr} {dl : Nat} {bs : List UInt8} {K : Option Addr → Nat → Nat → Heap → Prop} (ho : Own hx k) (hz : z ≤ k) (hzx : z ≤ hx.size) (B : StrAt hx da dl bs) (hdl : dl ≤ 1000000000) 
    (hK : ∀ a c h4, Fr (fun b => b = k) hx h4 → Sl h4 1 a dl c (bs.map bv) (fun b => z ≤ b ∧ b < h4.size) → K a dl c h4) :
    ∃ new1 : List Value, List.length new1 = dl * 1 ∧ SlCells hx da new1 ∧ (∀ v ∈ new1, v.oneCell' = true) ∧ AppendP ti5 5 (some ⟨k, 0, none⟩) 0 0 dl new1 hx K := by
  obtain ⟨q1, q2, q3⟩ := StrAt.src B
  have hb1 : (ti5).bytes = 1 := rfl
  refine ⟨_, q1, q2, q3, append_own (F := fun b => b = k) (show Sl hx (ti5).cells (some ⟨k, 0, none⟩) 0 0 [] (fun b => b = k) from ⟨rfl, rfl, rfl, ho, Nat.le_refl _, rfl, by show 0 + 0 * 1 ≤ _; omega⟩) (by rw [q1]; rfl) rfl (by rw [hb1]; omega) (by omega) fun a' c' h4 f4 s4 => ?_⟩
  have z4 := f4.size
  rw [Nat.zero_add, List.nil_append] at s4
  rw [Nat.zero_add]
  refine hK a' c' h4 f4 ?_
  obtain ⟨s1, s2⟩ := s4
  refine ⟨s1, ?_⟩
  cases a' with
  | none => exact s2
  | some p =>
    obtain ⟨a1, a2, a3, a4⟩ := s2
    exact ⟨a1, ⟨by rcases a2 with y | y <;> omega, a3.lt⟩, a3, a4⟩
theorem dup3G {hx : Heap} {a : Option Addr} {dl c k z : Nat} {bs : List UInt8} {K : Option Addr → Nat → Nat → Heap → Prop} (hzx : z ≤ hx.size) (T : SlCells hx (some ⟨k, 0, none⟩) three) (s : Sl hx 1 a dl c (bs.map bv) (fun b => z ≤ b ∧ b < hx.size)) (hdl : dl ≤ 1000000000)
    (hK : ∀ a' c' h6, Fr (fun b => z ≤ b) hx h6 → Sl h6 1 a' (dl + 3) c' (bs.map bv ++ three) (fun b => z ≤ b) → K a' (dl + 3) c' h6) :
    ∃ new2 : List Value, List.length new2 = 3 * 1 ∧ SlCells hx (some ⟨k, 0, none⟩) new2 ∧ (∀ v ∈ new2, v.oneCell' = true) ∧ AppendP ti5 5 a dl c 3 new2 hx K := by
  have hb1 : (ti5).bytes = 1 := rfl
  have one : ∀ v ∈ three, v.oneCell' = true := fun v hv => by
    unfold three at hv
    simp only [List.mem_cons, List.not_mem_nil, or_false] at hv
    rcases hv with rfl | rfl | rfl <;> rfl
  refine ⟨three, rfl, T, one, append_own (show Sl hx (ti5).cells a dl c (bs.map bv) (fun b => z ≤ b ∧ b < hx.size) from s) rfl rfl (by rw [hb1]; omega) (by omega) fun a' c' h6 f6 s6 => ?_⟩
  exact hK a' c' h6 (f6.mono fun b _ y => y.1) (s6.mono fun b hb => by rcases hb with y | y <;> omega)
theorem three_eq (bs : List UInt8) : bs.map bv ++ three = (bs ++ [77, 78, 79]).map bv := by rw [List.map_append]; rfl
theorem Lnt.cell {n0 n1 c : Nat} {h : Heap} {F : Nat → Prop} {a : Option Addr} {rs own : Rs} (x : Lnt n0 n1 h F a c rs own) {i : Nat} (hi : i < own.length) : ∃ p, a = some p ∧ Cells h (p.add (i * 2)) (cellsR own[i]) := by
  obtain ⟨p, e, cc⟩ := x.row.get (Nat.succ_pos _)
  refine ⟨p, e, ?_⟩
  have hl := flat_length cellsR 2 own fun _ _ => rfl
  have := Cells.take cc (own.length * 2)
  rw [← hl, List.take_left] at this
  have := Cells.part this (i * 2) 2
  rw [flat_part cellsR 2 own (fun _ _ => rfl) i hi] at this
  exact this
theorem Lnt.last {n0 n1 c : Nat} {h : Heap} {F : Nat → Prop} {a : Option Addr} {rs own : Rs} (x : Lnt n0 n1 h F a c rs own) : ∃ p, a = some p ∧ cellOf h (Addr.add (Addr.add p (rs.length * 2)) 0) = some (.int .i64 (-7)) := by
  obtain ⟨p, e, cc⟩ := x.row.get (Nat.succ_pos _)
  refine ⟨p, e, ?_⟩
  have hl := flat_length cellsR 2 own fun _ _ => rfl
  rw [Addr.add_zero]
  refine Cells.cell cc ?_
  rw [← x.len, List.getElem?_append_right (by omega), hl, Nat.sub_self]; rfl
theorem kept_spec {n0 n1 c lc : Nat} {h1 : Heap} {F : Nat → Prop} {a la : Option Addr} {rs own : Rs} {K : Value → Heap → Prop} (b : Bx h1 la rs) (x : Lnt n0 n1 h1 F a c rs own) (hn : n1 ≤ h1.size) (hl : rs.length < 900000) (hd : ∀ r ∈ rs, r.2.1.l ≤ 1000000000)
    (hK : ∀ h', Fr No h1 h' → K (.bool true) h') : C.bolelaw05_kept a rs.length c la rs.length lc h1 K := by
  have hc := x.row.le
  have xl := x.len
  have w1 : IntKind.wrap .i64 ((rs.length : Int) + 1) = (rs.length : Int) + 1 := wrap_i64 (by omega) (by omega)
  refine bolelaw05_kept.ok ?_
  unfold bolelaw05_kept
  rw [w1]
  refine ⟨⟨by omega, by omega⟩, fun m hh => ∃ i : Nat, m = i ∧ i ≤ rs.length ∧ Fr No h1 hh, fun m _ => ((rs.length : Int) - m).toNat, ⟨0, rfl, Nat.zero_le _, Fr.refl _ _⟩, ?_⟩
  rintro _ h2 ⟨i, rfl, hi, f⟩
  have z2 := f.size
  refine cd (fun hlt => ?_) fun hlt => ?_
  · have hi' : i < rs.length := by omega
    have ho : i < own.length := by omega
    have hdl := hd _ (List.getElem_mem hi')
    have B := b.ok _ (List.getElem_mem hi')
    obtain ⟨p1, e1, c1⟩ := (b.no f).get hi'
    have x2 := x.keep f fun _ _ _ y => y
    obtain ⟨p2, e2, c2⟩ := x2.cell ho
    obtain ⟨t1, t2, t3, t4, t5⟩ := x2.at_ i ho hi'
    have hc5 := t5.le
    have w3 : IntKind.wrap .i64 ((rs[i].2.1.l : Int) + 3) = (rs[i].2.1.l : Int) + 3 := wrap_i64 (by omega) (by omega)
    rw [Int.toNat_natCast, wrap_i64 (n := (i : Int) + 1) (by omega) (by omega)]
    refine ⟨⟨by omega, hlt⟩, Rz.oe e1 ⟨_, _, _, c1 1 _ rfl, ⟨by omega, hlt⟩, Rz.oe e2 ⟨_, _, _, c2 1 _ rfl, ?_⟩⟩⟩
    rw [w3, show ((rs[i].2.1.l : Int) + 3).toNat = own[i].2.1.l + 3 by omega]
    refine ⟨⟨by omega, by omega⟩, ⟨by omega, hlt⟩, Rz.oe e2 ⟨_, c2 0 _ rfl, ⟨by omega, hlt⟩, Rz.oe e1 ⟨_, c1 0 _ rfl, cn (fun y => absurd t1 y) fun _ => ⟨⟨by omega, hlt⟩, Rz.oe e2 ⟨_, _, _, c2 1 _ rfl, cn (fun y => absurd (by rw [t3]) y) fun _ => ⟨⟨by omega, hlt⟩, Rz.oe e1 ⟨_, _, _, c1 1 _ rfl, ?_⟩⟩⟩⟩⟩⟩⟩
    -- the end of a round
    have fin : ∀ {h6 : Heap} {a' : Option Addr} {c' : Nat}, Fr No h1 h6 → Sl h6 1 a' (rs[i].2.1.l + 3) c' (rs[i].2.2.map bv ++ three) (fun b => h2.size ≤ b) →
        C.bolelaw05_sameBytes own[i].2.1.a (own[i].2.1.l + 3) own[i].2.1.c a' (rs[i].2.1.l + 3) c' h6 fun r1 h7 => ∃ (b1 : Bool), r1 = .bool b1 ∧ bif (!b1) then (K (.bool false) h7) else ((∃ i' : Nat, (i : Int) + 1 = i' ∧ i' ≤ rs.length ∧ Fr No h1 h7) ∧ ((rs.length : Int) - ((i : Int) + 1)).toNat < ((rs.length : Int) - (i : Int)).toNat) := fun {h6 a' c'} F6 s6 => by
      have x6 := x.keep F6 fun _ _ _ y => y
      obtain ⟨_, _, _, u4, u5⟩ := x6.at_ i ho hi'
      rw [three_eq] at u5 s6
      rw [t2] at u5
      exact sameBytes_eq u5.str s6.str ⟨_, rfl, cf rfl ⟨⟨i + 1, rfl, by omega, F6⟩, falls hlt⟩⟩
    have cell : ∀ {hx : Heap}, Fr No h2 hx → cellOf hx (Addr.add (Addr.add p1 (i * 2)) 1) = some (.slice rs[i].2.1.a rs[i].2.1.l rs[i].2.1.c) := fun {hx} fx => by
      obtain ⟨p1', e1', c1'⟩ := (b.no (f.no fx)).get hi'
      rw [e1] at e1'; cases e1'
      exact c1' 1 _ rfl
    have str : ∀ {hx : Heap}, Fr No h2 hx → StrAt hx rs[i].2.1.a rs[i].2.1.l rs[i].2.2 := fun {hx} fx => StrAt.fr (f.no fx) B fun _ _ y => y
    have back : ∀ {hx h4 : Heap} {G : Nat → Prop}, Fr No h2 hx → Fr G hx h4 → (∀ b, G b → h2.size ≤ b) → Fr No h2 h4 := fun fx f4 hG => fx.trans f4 fun b hb y => by have := hG b y; omega
    refine ⟨New.intro fun h3 n3 => ⟨cell n3.fr, ?_, New.intro fun h8 n8 => ?_⟩, New.intro fun h12 n12 => ⟨cell n12.fr, New.intro fun h13 n13 => ?_⟩⟩
    · have z3 := n3.size
      refine dupG (z := h2.size) n3.own (Nat.le_refl _) (by omega) (str n3.fr) hdl fun a4 c4 h4 f4 s4 => New.intro fun h5 n5 => ?_
      have z4 := f4.size
      have z5 := n5.size
      have F4 := back n3.fr f4 fun b y => by omega
      have F5 : Fr No h2 h5 := F4.new n5
      refine ⟨cell F5, dup3G (z := h2.size) (by omega) (cellsAll n5.rd) ((s4.fr n5.fr fun _ _ _ y => y).mono fun b hb => ⟨hb.1, by omega⟩) hdl fun a6 c6 h6 f6 s6 => fin (f.no (back F5 f6 fun _ y => y)) s6⟩
    · have z3 := n3.size
      have z8 := n8.size
      have F8 : Fr No h2 h8 := n3.fr.new n8
      refine ⟨cell F8, dupG (z := h2.size) (n8.ow n3.own) (Nat.le_refl _) (by omega) (str F8) hdl fun a4 c4 h4 f4 s4 => ?_⟩
      have z4 := f4.size
      have F4 := back F8 f4 fun b y => by omega
      have T4 : SlCells h4 (some ⟨h3.size, 0, none⟩) three := cellsAll ((f4.rd (by omega) (by omega)).trans n8.rd)
      exact dup3G (z := h2.size) (by omega) T4 s4 hdl fun a6 c6 h6 f6 s6 => fin (f.no (back F4 f6 fun _ y => y)) s6
    · have z12 := n12.size
      have z13 := n13.size
      have F13 : Fr No h2 h13 := n12.fr.new n13
      refine ⟨cell F13, dupG (z := h2.size) n13.own (by omega) (by omega) (str F13) hdl fun a4 c4 h4 f4 s4 => ?_⟩
      have z4 := f4.size
      have F4 := back F13 f4 fun b y => by omega
      have T4 : SlCells h4 (some ⟨h2.size, 0, none⟩) three := cellsAll ((f4.rd (by omega) (by omega)).trans ((n13.at_ (by omega)).trans n12.rd))
      exact dup3G (z := h2.size) (by omega) T4 s4 hdl fun a6 c6 h6 f6 s6 => fin (f.no (back F4 f6 fun _ y => y)) s6
  · have ei : i = rs.length := by omega
    obtain ⟨p, e, cc⟩ := (x.keep f fun _ _ _ y => y).last
    refine ⟨⟨by omega, by omega⟩, Rz.oe e ⟨_, by rw [Int.toNat_natCast]; exact cc, ?_⟩⟩
    exact hK h2 f
/-- room for bytes -/
def Rm (h : Heap) (n0 n1 : Nat) (F : Nat → Prop) (a : Option Addr) (l : Nat) : Prop := l = 0 ∨ ∃ b o, a = some ⟨b, o, none⟩ ∧ n0 ≤ b ∧ b < n1 ∧ ¬ F b ∧ Own h b ∧ o + l ≤ (rd h b).length
theorem Rm.did {h h' : Heap} {n0 n1 : Nat} {F : Nat → Prop} {a : Option Addr} {l x j : Nat} {v : Value} (r : Rm h n0 n1 F a l) (d : Did x h h' ((rd h x).set j v)) : Rm h' n0 n1 F a l := by
  rcases r with r | ⟨b, o, r1, r2, r3, r4, r5, r6⟩
  · exact .inl r
  · refine .inr ⟨b, o, r1, r2, r3, r4, d.ow r5, ?_⟩
    by_cases e : b = x
    · subst e; rw [d.rd, List.length_set]; exact r6
    · rw [d.at_ r5.lt e]; exact r6
theorem wipe_spec {n0 n1 c : Nat} {h7 : Heap} {F : Nat → Prop} {a : Option Addr} {rs own : Rs} {ok : Bool} {K : Value → Heap → Prop} (x : Lnt n0 n1 h7 F a c rs own) (hl : rs.length < 900000) (hd : ∀ r ∈ rs, r.2.1.l ≤ 1000000000)
    (hK : ∀ h', Fr (fun b => n0 ≤ b ∧ b < n1) h7 h' → K (.bool ok) h') : bolelaw05_play_step.k1 a rs.length ok h7 K := by
  have xl := x.len
  have hfl := flat_length cellsR 2 own fun _ _ => rfl
  unfold bolelaw05_play_step.k1
  refine ⟨fun m hh => ∃ i : Nat, m = i ∧ i ≤ rs.length ∧ Fr (fun b => n0 ≤ b ∧ b < n1) h7 hh ∧ ∃ cs : List Value, cs.length = (rs.length + 1) * 2 ∧ (∀ k (hk : k < own.length), cs[k * 2 + 1]? = some own[k].2.1.v) ∧ Sl hh 2 a (rs.length + 1) c cs F ∧ ∀ k (hk : k < own.length), Rm hh n0 n1 F own[k].2.1.a own[k].2.1.l, fun m _ => ((rs.length : Int) - m).toNat,
    ⟨0, rfl, Nat.zero_le _, Fr.refl _ _, _, x.row.1, fun k hk => ?_, x.row, fun k hk => ?_⟩, ?_⟩
  · rw [List.getElem?_append_left (by rw [hfl]; omega)]
    have h2 : k * 2 + 1 < (own.flatMap cellsR).length := by rw [hfl]; omega
    have e := flat_part cellsR 2 own (fun _ _ => rfl) k hk
    have := congrArg (fun l => l[1]?) e
    simp only [List.getElem?_take_of_lt (show 1 < 2 by decide), List.getElem?_drop] at this
    exact this
  · obtain ⟨t1, t2, t3, t4, t5⟩ := x.at_ k hk (by omega)
    by_cases h0 : own[k].2.1.l = 0
    · exact .inl h0
    · obtain ⟨p, ep, _⟩ := t5.get (Nat.succ_pos _)
      rw [ep] at t5
      obtain ⟨b, o, sp⟩ := p
      have esp : sp = none := t5.2.1
      subst esp
      obtain ⟨w1, w2⟩ := t5.wr
      exact .inr ⟨b, o, ep, t5.2.2.1.1, t5.2.2.1.2.1, t5.2.2.1.2.2, w1, by omega⟩
  rintro _ h8 ⟨i, rfl, hi, f8, cs, cl, co, s8, rm⟩
  refine cd (fun hlt => ?_) fun _ => hK h8 f8
  have ho : i < own.length := by omega
  obtain ⟨p, ep, _⟩ := s8.get (Nat.succ_pos _)
  obtain ⟨pb, po, ps⟩ := p
  have eps : ps = none := by rw [ep] at s8; exact s8.2.1
  subst eps
  have hF : F pb := by rw [ep] at s8; exact s8.2.2.1
  have hbl : own[i].2.1.l ≤ 1000000000 := by
    obtain ⟨_, _, t3, _⟩ := x.at_ i ho (by omega)
    rw [t3]; exact hd _ (List.getElem_mem _)
  have cell : ∀ {hh : Heap} {cs : List Value}, (∀ k (hk : k < own.length), cs[k * 2 + 1]? = some own[k].2.1.v) → Sl hh 2 a (rs.length + 1) c cs F → cellOf hh (Addr.add (Addr.add ⟨pb, po, none⟩ (i * 2)) 1) = some (.slice own[i].2.1.a own[i].2.1.l own[i].2.1.c) := fun {hh cs} hc s => by
    have := s.cells
    rw [ep] at this
    have := Cells.cell (show Cells hh ⟨pb, po, none⟩ cs from this) (hc i ho)
    rw [add_mk] at this
    rw [add_mk, add_mk, Nat.add_assoc]; exact this
  rw [Int.toNat_natCast, wrap_i64 (n := (i : Int) + 1) (by omega) (by omega)]
  refine ⟨fun m hh => ∃ k : Nat, m = k ∧ k ≤ own[i].2.1.l ∧ Fr (fun b => n0 ≤ b ∧ b < n1) h7 hh ∧ Sl hh 2 a (rs.length + 1) c cs F ∧ ∀ k (hk : k < own.length), Rm hh n0 n1 F own[k].2.1.a own[k].2.1.l, fun m _ => ((own[i].2.1.l : Int) - m).toNat, ⟨0, rfl, Nat.zero_le _, f8, s8, rm⟩, ?_⟩
  clear s8 rm f8
  rintro _ h9 ⟨k, rfl, hk, f9, s9, rm⟩
  refine ⟨⟨by omega, hlt⟩, Rz.oe ep ⟨_, _, _, cell co s9, cd (fun hlt2 => ?_) fun hlt2 => ?_⟩⟩
  · rw [Int.toNat_natCast, wrap_i64 (n := (k : Int) + 1) (by omega) (by omega)]
    rcases rm i ho with r | ⟨b, o, r1, r2, r3, r4, r5, r6⟩
    · omega
    refine ⟨⟨by omega, hlt⟩, Rz.oe ep ⟨_, _, _, cell co s9, ⟨by omega, hlt2⟩, Rz.oe r1 (Put.add r5 (by omega) fun h10 d10 => ⟨⟨k + 1, rfl, by omega, f9.did d10 fun _ => ⟨r2, r3⟩, s9.fr d10.fr fun x _ hx y => r4 (by have y : x = b := y; rw [← y]; exact hx), fun k' hk' => (rm k' hk').did d10⟩, falls hlt2⟩)⟩⟩
  · have r := s9
    rw [ep] at r
    obtain ⟨w1, w2⟩ := r.wr
    have rg := x.rng pb hF
    refine ⟨⟨by omega, hlt⟩, Rz.oe ep ?_⟩
    rw [add_mk]
    refine Put.add w1 (by omega) fun h11 d11 => ⟨⟨i + 1, rfl, by omega, f9.did d11 fun _ => rg, cs.set (i * 2) (.int .i64 0), by rw [List.length_set]; exact cl, fun k' hk' => ?_, ?_, fun k' hk' => (rm k' hk').did d11⟩, falls hlt⟩
    · rw [List.getElem?_set_ne (by omega)]; exact co k' hk'
    · rw [ep]
      exact r.putAt (j := i * 2) (new := [.int .i64 0]) (by rw [List.length_singleton]; omega) (by rw [Nat.add_zero] at d11; exact d11)
end Go.Proofs.YtjdcbblgaoogmaaGreatDoor.Wd
namespace Go.Proofs.YtjdcbblgaoogmaaGreatDoor.Wd
open Go Go.Proofs Go.Proofs.YtjdcbblgaoogmaaGreatDoor.Wx Go.Proofs.YtjdcbblgaoogmaaGreatDoor.Hp Go.Proofs.YtjdcbblgaoogmaaGreatDoor.W Go.Proofs.YtjdcbblgaoogmaaGreatDoor.Ad Go.Proofs.YtjdcbblgaoogmaaGreatDoor.Wc Go.Proofs.YtjdcbblgaoogmaaGreatDoor.Rf
open Go.Proofs.YtjdcbblgaoogmaaGreatDoor.L3 (Tt)
open Go.Proofs.YtjdcbblgaoogmaaGreatDoor.Rz (Sl.keep')
abbrev Sc := Hd.Sc
/-- what a play remembers: its own block (colour 3), the row of lists (4), of texts (5), the lists (6); zs: blocks that are read again -/
structure PlR (h1 hh : Heap) (c : Nat → Nat) (pb : Nat) (q1 q2 : Option Addr) (ta wa : Option Addr) (tc wc : Nat) (is : List Sc) (cs bs : List (List UInt8)) (zs : List (Nat × List Value)) : Prop where
  fr : Fr No h1 hh
  low : ∀ b, b < h1.size → c b = 0
  pc : c pb = 3
  po : Own hh pb
  pr : rd hh pb = [.pointer q1, .pointer q2, .slice ta is.length tc, .slice wa bs.length wc]
  t : Sl hh 1 ta is.length tc (is.map Hd.Sc.v) (On c 4)
  w : Sl hh 1 wa bs.length wc (bs.map fun b => .string (mkStr b)) (On c 5)
  len : is.length = cs.length
  it : ∀ i (h1 : i < is.length) (h2 : i < cs.length), StrAt hh is[i].a is[i].l cs[i] ∧ ∀ p, is[i].a = some p → p.block < hh.size ∧ c p.block = 6
  ax : ∀ z ∈ zs, rd hh z.1 = z.2 ∧ c z.1 = 0 ∧ z.1 < hh.size
variable {h1 hh h' : Heap} {c c' : Nat → Nat} {pb : Nat} {q1 q2 ta wa : Option Addr} {tc wc : Nat} {is : List Sc} {cs bs : List (List UInt8)} {zs : List (Nat × List Value)}
theorem PlR.keep {G : Nat → Prop} (P : PlR h1 hh c pb q1 q2 ta wa tc wc is cs bs zs) (f : Fr G hh h') (g : Ag hh.size c c') (hG : ∀ b, b < hh.size → G b → (c b = 0 ∧ h1.size ≤ b ∧ ∀ z ∈ zs, b ≠ z.1) ∨ c b = 1 ∨ c b = 2) : PlR h1 h' c' pb q1 q2 ta wa tc wc is cs bs zs := by
  have z := P.fr.size
  have zf := f.size
  have lp := P.po.lt
  have nG : ∀ {k b}, b < hh.size → c b = k → 3 ≤ k → ¬ G b := fun {k b} hb hk h3 y => by rcases hG b hb y with q | q | q <;> omega
  refine ⟨P.fr.trans f fun b hb y => ?_, fun b hb => (g b (by omega)).trans (P.low b hb), (g _ lp).trans P.pc, f.own lp (nG lp P.pc (by decide)) P.po, (f.rd lp (nG lp P.pc (by decide))).trans P.pr, Sl.keep' P.t f g fun b hb hk => nG hb hk (by decide), Sl.keep' P.w f g fun b hb hk => nG hb hk (by decide), P.len, fun i h1 h2 => ?_, fun x hx => ?_⟩
  · have := P.low b hb
    rcases hG b (by omega) y with q | q | q
    · have := q.2.1; omega
    · omega
    · omega
  · obtain ⟨B, O⟩ := P.it i h1 h2
    exact ⟨StrAt.fr f B fun p e => nG (O p e).1 (O p e).2 (by decide), fun p e => ⟨by have := (O p e).1; omega, (g _ (O p e).1).trans (O p e).2⟩⟩
  · obtain ⟨r1, r2, r3⟩ := P.ax x hx
    have n : ¬ G x.1 := fun y => by
      rcases hG _ r3 y with q | q | q
      · exact q.2.2 x hx rfl
      · omega
      · omega
    exact ⟨(f.rd r3 n).trans r1, (g _ r3).trans r2, by omega⟩
theorem PlR.drop (P : PlR h1 hh c pb q1 q2 ta wa tc wc is cs bs zs) : PlR h1 hh c pb q1 q2 ta wa tc wc is cs bs [] := { P with ax := fun z hz => by cases hz }
/-- two disks beside it, that do what D1 and D2 do -/
structure Pl (h1 hh : Heap) (c : Nat → Nat) (pb : Nat) (q1 q2 : Option Addr) (D1 D2 : RD) (E1 E2 : Nat → Prop) (ta wa : Option Addr) (tc wc : Nat) (is : List Sc) (cs bs : List (List UInt8)) (zs : List (Nat × List Value)) : Prop where
  p : PlR h1 hh c pb q1 q2 ta wa tc wc is cs bs zs
  d : DiskF hh E1 q1 D1
  e1 : ∀ b, E1 b → c b = 1
  r : RfS hh E2 q2 D2
  e2 : ∀ b, E2 b → c b = 2
variable {D1 D2 D1' D2' : RD} {E1 E2 E1' E2' : Nat → Prop}
theorem Pl.temp {G : Nat → Prop} (P : Pl h1 hh c pb q1 q2 D1 D2 E1 E2 ta wa tc wc is cs bs zs) (f : Fr G hh h') (hG : ∀ b, b < hh.size → G b → c b = 0 ∧ h1.size ≤ b ∧ ∀ z ∈ zs, b ≠ z.1) : Pl h1 h' (upd c hh.size 0) pb q1 q2 D1 D2 E1 E2 ta wa tc wc is cs bs zs :=
  ⟨P.p.keep f (ag_upd _ _ _) fun b hb y => .inl (hG b hb y), P.d.fr f fun b hb y => by have := (hG b (P.d.lt hb) y).1; have := P.e1 b hb; omega, fun b hb => (upd_lt (P.d.lt hb)).trans (P.e1 b hb),
    P.r.fr f fun b hb y => by have := (hG b (P.r.lt hb) y).1; have := P.e2 b hb; omega, fun b hb => (upd_lt (P.r.lt hb)).trans (P.e2 b hb)⟩
theorem Pl.quiet (P : Pl h1 hh c pb q1 q2 D1 D2 E1 E2 ta wa tc wc is cs bs zs) (f : Fr No hh h') : Pl h1 h' (upd c hh.size 0) pb q1 q2 D1 D2 E1 E2 ta wa tc wc is cs bs zs := P.temp f fun _ _ y => y.elim
theorem Pl.quietK (P : Pl h1 hh c pb q1 q2 D1 D2 E1 E2 ta wa tc wc is cs bs zs) (k : Nat) (f : Fr No hh h') : Pl h1 h' (upd c hh.size k) pb q1 q2 D1 D2 E1 E2 ta wa tc wc is cs bs zs :=
  ⟨P.p.keep f (ag_upd _ _ _) fun _ _ y => y.elim, P.d.no f, fun b hb => (upd_lt (P.d.lt hb)).trans (P.e1 b hb), P.r.no f, fun b hb => (upd_lt (P.r.lt hb)).trans (P.e2 b hb)⟩
theorem Pl.new (P : Pl h1 hh c pb q1 q2 D1 D2 E1 E2 ta wa tc wc is cs bs zs) {vs : List Value} (n : Newly hh h' vs) : Pl h1 h' (upd c hh.size 0) pb q1 q2 D1 D2 E1 E2 ta wa tc wc is cs bs ((hh.size, vs) :: zs) := by
  have Q := P.quiet n.fr
  refine { Q with p := { Q.p with ax := fun z hz => ?_ } }
  rcases List.mem_cons.mp hz with rfl | hz
  · exact ⟨n.rd, upd_ge (Nat.le_refl _), by have := n.size; show hh.size < _; omega⟩
  · exact Q.p.ax z hz
open Classical in
/-- a disk's new blocks get its colour -/
noncomputable def colE (c : Nat → Nat) (n : Nat) (E : Nat → Prop) (k : Nat) : Nat → Nat := fun b => if b < n then c b else if E b then k else 0
theorem colE_ag (c : Nat → Nat) (n : Nat) (E : Nat → Prop) (k : Nat) : Ag n c (colE c n E k) := fun b hb => if_pos hb
theorem colE_on {c : Nat → Nat} {n : Nat} {E E' : Nat → Prop} {k : Nat} (h : ∀ b, E b → c b = k) (g : ∀ b, b < n → (E' b ↔ E b)) : ∀ b, E' b → colE c n E' k b = k := fun b hb => by
  unfold colE
  split
  · rename_i hn; exact h b ((g b hn).mp hb)
  · rfl
theorem Pl.prog (P : Pl h1 hh c pb q1 q2 D1 D2 E1 E2 ta wa tc wc is cs bs zs) (f : Fr E1 hh h') (g : Gw hh E1 h' E1') (A : DiskF h' E1' q1 D1') : Pl h1 h' (colE c hh.size E1' 1) pb q1 q2 D1' D2 E1' E2 ta wa tc wc is cs bs zs :=
  ⟨P.p.keep f (colE_ag _ _ _ _) fun b _ y => .inr (.inl (P.e1 b y)), A, colE_on P.e1 g.old, P.r.fr f fun b hb y => by have := P.e1 b y; have := P.e2 b hb; omega, fun b hb => (colE_ag _ _ _ _ b (P.r.lt hb)).trans (P.e2 b hb)⟩
theorem Pl.doc (P : Pl h1 hh c pb q1 q2 D1 D2 E1 E2 ta wa tc wc is cs bs zs) (f : Fr E2 hh h') (g : Gw hh E2 h' E2') (A : RfS h' E2' q2 D2') : Pl h1 h' (colE c hh.size E2' 2) pb q1 q2 D1 D2' E1 E2' ta wa tc wc is cs bs zs :=
  ⟨P.p.keep f (colE_ag _ _ _ _) fun b _ y => .inr (.inr (P.e2 b y)), P.d.fr f fun b hb y => by have := P.e2 b y; have := P.e1 b hb; omega, fun b hb => (colE_ag _ _ _ _ b (P.d.lt hb)).trans (P.e1 b hb), A, colE_on P.e2 g.old⟩
/-- all is well -/
def Gd (h1 h' : Heap) (pb m n : Nat) : Prop := ∃ c q1 q2 D E1 E2 ta wa tc wc is bs, Pl h1 h' c pb q1 q2 D D E1 E2 ta wa tc wc is bs bs [] ∧ D.tape.length ≤ m ∧ D.pend.length ≤ m ∧ is.length ≤ n
/-- one operation, as it is handed in -/
structure OpI where
  kind : Int
  la : Option Addr
  lc : Nat
  rs : Rs
  at_ : Int
  by_ : UInt8
  oa : Option Addr
  ol : Nat
  oc : Nat
  os : List UInt8
  cat : Int
  ka : Option Addr
  kl : Nat
  kc : Nat
  keep : List Bool
def OpI.cells (o : OpI) : List Value := [.int .i64 o.kind, .slice o.la o.rs.length o.lc, .int .i64 o.at_, bv o.by_, .slice o.oa o.ol o.oc, .int .i64 o.cat, .slice o.ka o.kl o.kc]
structure OpI.Ok (h : Heap) (o : OpI) : Prop where
  b : Bx h o.la o.rs
  n : o.rs.length < 900000
  small : ∀ r ∈ o.rs, r.2.1.l ≤ 1000000000
  s : StrAt h o.oa o.ol o.os
  ol : o.ol ≤ 140737488355328
  cat : o.cat ≤ 9223372036854775807
  k : SlCells h o.ka (o.keep.map .bool)
  kl : o.keep.length = o.kl
  km : o.kl ≤ 140737488355328
theorem DiskF.armS {h : Heap} {D : Nat → Prop} {d : Option Addr} {S : RD} {n : Int} {ka : Option Addr} {kl kc : Nat} {keep : List Bool} {K : Value → Heap → Prop} (A : DiskF h D d S) (hn : n ≤ 9223372036854775807) (hkl : keep.length = kl) (hk : SlCells h ka (keep.map .bool)) (hl : kl ≤ 140737488355328)
    (hK : ∀ h' D', Fr D h h' → Gw h D h' D' → DiskF h' D' d (S.arm n keep).1 → K (.int .i64 (S.arm n keep).2) h') : C.adisk_Disk_Arm d [.int .i64 n, .slice ka kl kc] h K := by
  obtain ⟨col, A, hz, hD⟩ := A
  refine Ad.Arm_spec A hn hkl hk hl fun h' col' f g A' => ?_
  obtain ⟨D', g', a', _⟩ := DiskF.gw hD g f.size A'
  exact hK h' D' (f.mono fun b _ x => (hD b).mpr x) g' a'
theorem DiskF.crash {h : Heap} {D : Nat → Prop} {d : Option Addr} {S : RD} {ka : Option Addr} {kl kc : Nat} {keep : List Bool} {K : Value → Heap → Prop} (A : DiskF h D d S) (hkl : keep.length = kl) (hk : SlCells h ka (keep.map .bool)) (hac : ∀ p, ka = some p → keep ≠ [] → ¬ D p.block)
    (hK : ∀ h', Fr D h h' → DiskF h' D d (if S.down = true then S else S.cut keep) → K (.tuple #[]) h') : C.adisk_Disk_Crash d ka kl kc h K := by
  obtain ⟨col, A, hz, hD⟩ := A
  refine Ad.Crash_spec A hkl hk (fun p e hne y => hac p e hne ((hD _).mpr (by omega))) fun h' f A' => ?_
  exact hK h' (f.mono fun b _ x => (hD b).mpr ⟨x.1, x.2⟩) ⟨col, A', fun b hb => hz b (by have := f.size; omega), hD⟩
end Go.Proofs.YtjdcbblgaoogmaaGreatDoor.Wd
namespace Go.Proofs.YtjdcbblgaoogmaaGreatDoor.Wd
open Go Go.Proofs Go.Proofs.YtjdcbblgaoogmaaGreatDoor.Wx Go.Proofs.YtjdcbblgaoogmaaGreatDoor.Hp Go.Proofs.YtjdcbblgaoogmaaGreatDoor.W Go.Proofs.YtjdcbblgaoogmaaGreatDoor.Ad Go.Proofs.YtjdcbblgaoogmaaGreatDoor.Wc Go.Proofs.YtjdcbblgaoogmaaGreatDoor.Rf
open Go.Proofs.YtjdcbblgaoogmaaGreatDoor.L3 (Tt)
open Go.Proofs.YtjdcbblgaoogmaaGreatDoor.Rz (Sl.keep')
variable {h1 hh h' : Heap} {c c' : Nat → Nat} {pb : Nat} {q1 q2 ta wa : Option Addr} {tc wc : Nat} {is : List Sc} {cs bs : List (List UInt8)} {zs : List (Nat × List Value)}
variable {D1 D2 D1' D2' D : RD} {E1 E2 E1' E2' : Nat → Prop}
theorem RfS.pos {h : Heap} {E : Nat → Prop} {r : Option Addr} {D : RD} (x : RfS h E r D) : 0 < D.lasts.length := by
  obtain ⟨col, S, _, s, p, _, _, _⟩ := x
  rw [s.len]; exact p
theorem Pl.calm (P : Pl h1 hh c pb q1 q2 D1 D2 E1 E2 ta wa tc wc is cs bs zs) (f : Fr No hh h') (g : Ag hh.size c c') : Pl h1 h' c' pb q1 q2 D1 D2 E1 E2 ta wa tc wc is cs bs zs :=
  ⟨P.p.keep f g fun _ _ y => y.elim, P.d.no f, fun b hb => (g _ (P.d.lt hb)).trans (P.e1 b hb), P.r.no f, fun b hb => (g _ (P.r.lt hb)).trans (P.e2 b hb)⟩
/-- the play's own block is written -/
theorem PlR.re {q1' q2' ta' wa' : Option Addr} {tc' wc' : Nat} (P : PlR h1 hh c pb q1 q2 ta wa tc wc is cs bs zs) {vs : List Value} (d : Did pb hh h' vs) (hv : vs = [.pointer q1', .pointer q2', .slice ta is.length tc, .slice wa bs.length wc]) : PlR h1 h' c pb q1' q2' ta wa tc wc is cs bs zs := by
  have z := P.fr.size
  have lp := P.po.lt
  have ne : ∀ {b k}, c b = k → k ≠ 3 → b ≠ pb := fun {b k} hb hk e => by rw [e, P.pc] at hb; omega
  have ge : h1.size ≤ pb := by
    rcases Nat.lt_or_ge pb h1.size with q | q
    · have := P.low pb q; rw [P.pc] at this; omega
    · exact q
  refine ⟨P.fr.did d fun hb => by omega, P.low, P.pc, d.own, d.rd.trans hv, Sl.keep' P.t d.fr (Ag.refl _ _) fun b _ hk => ne hk (by decide), Sl.keep' P.w d.fr (Ag.refl _ _) fun b _ hk => ne hk (by decide), P.len, fun i g1 g2 => ?_, fun x hx => ?_⟩
  · obtain ⟨B, O⟩ := P.it i g1 g2
    exact ⟨StrAt.fr d.fr B fun p e => ne (O p e).2 (by decide), fun p e => ⟨by have := (O p e).1; have := d.size; omega, (O p e).2⟩⟩
  · obtain ⟨r1, r2, r3⟩ := P.ax x hx
    exact ⟨(d.at_ r3 (ne r2 (by decide))).trans r1, r2, by have := d.size; omega⟩
/-- a list more is told -/
theorem PlR.told {h13 : Heap} {ta' : Option Addr} {tc' : Nat} {x : Sc} {b : List UInt8} (P : PlR h1 hh c pb q1 q2 ta wa tc wc is cs bs zs) (f : Fr (On c 4) hh h13) (s : Sl h13 1 ta' (is.length + 1) tc' (is.map Hd.Sc.v ++ [x.v]) (On (upd c hh.size 4) 4))
    (d : Did pb h13 h' ((rd h13 pb).set (0 + 2) (.slice ta' (is.length + 1) tc'))) (B : StrAt hh x.a x.l b) (O : ∀ p, x.a = some p → p.block < hh.size ∧ c p.block = 6) : PlR h1 h' (upd c hh.size 4) pb q1 q2 ta' wa tc' wc (is ++ [x]) (cs ++ [b]) bs zs := by
  have z := P.fr.size
  have lp := P.po.lt
  have z13 := f.size
  have zd := d.size
  have g : Ag hh.size c (upd c hh.size 4) := ag_upd _ _ _
  have n4 : ∀ {b k}, c b = k → k ≠ 4 → ¬ On c 4 b := fun {b k} hb hk e => by have e : c b = 4 := e; omega
  have ne : ∀ {b k}, b < hh.size → c b = k → k ≠ 3 → b ≠ pb := fun {b k} _ hb hk e => by rw [e, P.pc] at hb; omega
  have ge : h1.size ≤ pb := by
    rcases Nat.lt_or_ge pb h1.size with q | q
    · have := P.low pb q; rw [P.pc] at this; omega
    · exact q
  have fr13 : Fr No h1 h13 := P.fr.trans f fun b hb y => by have y : c b = 4 := y; rw [P.low b hb] at y; omega
  have keep : ∀ {a : Option Addr} {l : Nat} {bb : List UInt8}, StrAt hh a l bb → (∀ p, a = some p → p.block < hh.size ∧ c p.block = 6) → StrAt h' a l bb ∧ ∀ p, a = some p → p.block < h'.size ∧ upd c hh.size 4 p.block = 6 := fun {a l bb} B O =>
    ⟨StrAt.fr d.fr (StrAt.fr f B fun p e => n4 (O p e).2 (by decide)) fun p e => ne (O p e).1 (O p e).2 (by decide), fun p e => ⟨by have := (O p e).1; omega, (g _ (O p e).1).trans (O p e).2⟩⟩
  refine ⟨fr13.did d fun hb => by omega, fun b hb => (g b (by omega)).trans (P.low b hb), (g _ lp).trans P.pc, d.own, ?_, ?_, ?_, by rw [List.length_append, List.length_append, P.len]; rfl, fun i g1 g2 => ?_, fun y hy => ?_⟩
  · rw [d.rd, f.rd lp (n4 P.pc (by decide)), P.pr, List.length_append]; rfl
  · have e : (is ++ [x]).length = is.length + 1 := by rw [List.length_append]; rfl
    rw [e, List.map_append]
    refine s.fr d.fr fun b hb hk y => ?_
    have hk : upd c hh.size 4 b = 4 := hk
    have y : b = pb := y
    rw [y, upd_lt lp, P.pc] at hk
    omega
  · exact (Sl.keep' P.w f g fun b _ hk => n4 hk (by decide)).fr d.fr fun b hb hk y => by
      have hk : upd c hh.size 4 b = 5 := hk
      have y : b = pb := y
      rw [y, upd_lt lp, P.pc] at hk
      omega
  · have hl := P.len
    rw [List.length_append, List.length_singleton] at g1 g2
    by_cases hi : i < is.length
    · have hi2 : i < cs.length := by omega
      simp only [List.getElem_append_left hi, List.getElem_append_left hi2]
      obtain ⟨B', O'⟩ := P.it i hi hi2
      exact keep B' O'
    · have : i = is.length := by omega
      subst this
      simp only [List.getElem_append_right (Nat.le_refl _), List.getElem_append_right (show cs.length ≤ is.length by omega), Nat.sub_self, List.getElem_singleton]
      exact keep B O
  · obtain ⟨r1, r2, r3⟩ := P.ax y hy
    exact ⟨(d.at_ (by omega) (ne r3 r2 (by decide))).trans ((f.rd r3 (n4 r2 (by decide))).trans r1), (g _ r3).trans r2, by omega⟩
theorem PlR.wased {h13 : Heap} {wa' : Option Addr} {wc' : Nat} {b : List UInt8} (P : PlR h1 hh c pb q1 q2 ta wa tc wc is cs bs zs) (f : Fr (On c 5) hh h13) (s : Sl h13 1 wa' (bs.length + 1) wc' (bs.map (fun b => Value.string (mkStr b)) ++ [.string (mkStr b)]) (On (upd c hh.size 5) 5))
    (d : Did pb h13 h' ((rd h13 pb).set (0 + 3) (.slice wa' (bs.length + 1) wc'))) : PlR h1 h' (upd c hh.size 5) pb q1 q2 ta wa' tc wc' is cs (bs ++ [b]) zs := by
  have z := P.fr.size
  have lp := P.po.lt
  have z13 := f.size
  have zd := d.size
  have g : Ag hh.size c (upd c hh.size 5) := ag_upd _ _ _
  have n4 : ∀ {b k}, c b = k → k ≠ 5 → ¬ On c 5 b := fun {b k} hb hk e => by have e : c b = 5 := e; omega
  have ne : ∀ {b k}, b < hh.size → c b = k → k ≠ 3 → b ≠ pb := fun {b k} _ hb hk e => by rw [e, P.pc] at hb; omega
  have ge : h1.size ≤ pb := by
    rcases Nat.lt_or_ge pb h1.size with q | q
    · have := P.low pb q; rw [P.pc] at this; omega
    · exact q
  have fr13 : Fr No h1 h13 := P.fr.trans f fun b hb y => by have y : c b = 5 := y; rw [P.low b hb] at y; omega
  have e : (bs ++ [b]).length = bs.length + 1 := by rw [List.length_append]; rfl
  refine ⟨fr13.did d fun hb => by omega, fun b hb => (g b (by omega)).trans (P.low b hb), (g _ lp).trans P.pc, d.own, ?_, ?_, ?_, P.len, fun i g1 g2 => ?_, fun y hy => ?_⟩
  · rw [d.rd, f.rd lp (n4 P.pc (by decide)), P.pr, e]; rfl
  · exact (Sl.keep' P.t f g fun b _ hk => n4 hk (by decide)).fr d.fr fun b hb hk y => by
      have hk : upd c hh.size 5 b = 4 := hk
      have y : b = pb := y
      rw [y, upd_lt lp, P.pc] at hk
      omega
  · rw [e, List.map_append]
    refine s.fr d.fr fun b hb hk y => ?_
    have hk : upd c hh.size 5 b = 5 := hk
    have y : b = pb := y
    rw [y, upd_lt lp, P.pc] at hk
    omega
  · obtain ⟨B, O⟩ := P.it i g1 g2
    exact ⟨StrAt.fr d.fr (StrAt.fr f B fun p e => n4 (O p e).2 (by decide)) fun p e => ne (O p e).1 (O p e).2 (by decide), fun p e => ⟨by have := (O p e).1; omega, (g _ (O p e).1).trans (O p e).2⟩⟩
  · obtain ⟨r1, r2, r3⟩ := P.ax y hy
    exact ⟨(d.at_ (by omega) (ne r3 r2 (by decide))).trans ((f.rd r3 (n4 r2 (by decide))).trans r1), (g _ r3).trans r2, by omega⟩
theorem Pl.rest {G : Nat → Prop} (P : Pl h1 hh c pb q1 q2 D1 D2 E1 E2 ta wa tc wc is cs bs zs) {q1 q2 ta' wa' : Option Addr} {tc' wc' : Nat} {is' : List Sc} {cs' bs' : List (List UInt8)} (f : Fr G hh h') (g : Ag hh.size c c') (hG : ∀ b, b < hh.size → G b → c b ≠ 1 ∧ c b ≠ 2) (R : PlR h1 h' c' pb q1 q2 ta' wa' tc' wc' is' cs' bs' zs) (A : DiskF hh E1 q1 D1) (X : RfS hh E2 q2 D2) : Pl h1 h' c' pb q1 q2 D1 D2 E1 E2 ta' wa' tc' wc' is' cs' bs' zs :=
  ⟨R, A.fr f fun b hb y => (hG b (A.lt hb) y).1 (P.e1 b hb), fun b hb => (g _ (A.lt hb)).trans (P.e1 b hb), X.fr f fun b hb y => (hG b (X.lt hb) y).2 (P.e2 b hb), fun b hb => (g _ (X.lt hb)).trans (P.e2 b hb)⟩
/-- every Behind is as it was answered -/
theorem whole_spec {K : Value → Heap → Prop} (P : PlR h1 hh c pb q1 q2 ta wa tc wc is bs bs zs) (hn : is.length ≤ 100000) (hK : K (.bool true) hh) : C.bolelaw05_play_whole (some ⟨pb, 0, none⟩) hh K := by
  have hl := P.len
  refine bolelaw05_play_whole.ok ⟨fun n h => ∃ i : Nat, n = i ∧ i ≤ is.length ∧ hh = h, fun n _ => ((is.length : Int) - n).toNat, ⟨0, rfl, Nat.zero_le _, rfl⟩, ?_⟩
  rintro _ _ ⟨i, rfl, hi, rfl⟩
  refine os ⟨_, _, _, rda P.pr rfl, cd (fun hlt => ?_) fun _ => hK⟩
  have hi' : i < is.length := by omega
  obtain ⟨p, e, cc⟩ := P.t.get (by omega)
  obtain ⟨q, e2, cc2⟩ := P.w.get (by omega)
  obtain ⟨B, _⟩ := P.it i hi' (by omega)
  have t1 := Cells.cell cc (i := i) (v := Hd.Sc.v is[i]) (by rw [List.getElem?_map, List.getElem?_eq_getElem hi']; rfl)
  have t2 := Cells.cell cc2 (i := i) (v := .string (mkStr (bs[i]'(by omega)))) (by rw [List.getElem?_map, List.getElem?_eq_getElem (by omega)]; rfl)
  rw [Int.toNat_natCast, wrap_i64 (n := (i : Int) + 1) (by omega) (by omega)]
  refine os ⟨_, _, _, rda P.pr rfl, ⟨by omega, hlt⟩, Rz.oe e ⟨_, _, _, t1, _, B, os ⟨_, _, _, rda P.pr rfl, ⟨by omega, by omega⟩, Rz.oe e2 ⟨_, t2, cf (by rw [beq_self_eq_true]; rfl) ⟨⟨i + 1, rfl, by omega, rfl⟩, falls hlt⟩⟩⟩⟩⟩
end Go.Proofs.YtjdcbblgaoogmaaGreatDoor.Wd
namespace Go.Proofs.YtjdcbblgaoogmaaGreatDoor.Wd
open Go Go.Proofs Go.Proofs.YtjdcbblgaoogmaaGreatDoor.Wx Go.Proofs.YtjdcbblgaoogmaaGreatDoor.Hp Go.Proofs.YtjdcbblgaoogmaaGreatDoor.W Go.Proofs.YtjdcbblgaoogmaaGreatDoor.Ad Go.Proofs.YtjdcbblgaoogmaaGreatDoor.Wc Go.Proofs.YtjdcbblgaoogmaaGreatDoor.Rf
open Go.Proofs.YtjdcbblgaoogmaaGreatDoor.L3 (Tt)
open Go.Proofs.YtjdcbblgaoogmaaGreatDoor.Rz (Sl.keep')
variable {h1 hh h' : Heap} {c c' : Nat → Nat} {pb : Nat} {q1 q2 ta wa : Option Addr} {tc wc : Nat} {is : List Sc} {cs bs : List (List UInt8)} {zs : List (Nat × List Value)}
variable {D1 D2 D1' D2' D : RD} {E1 E2 E1' E2' : Nat → Prop}
theorem asks_spec {K : Value → Heap → Prop} (G : Re.Glo h1) (P : Pl h1 hh c pb q1 q2 D D E1 E2 ta wa tc wc is bs bs zs) (hn : is.length ≤ 1000)
    (hK : ∀ h' c' ta' wa' tc' wc' is' bs', Pl h1 h' c' pb q1 q2 D D E1 E2 ta' wa' tc' wc' is' bs' bs' zs → is'.length ≤ is.length + 1 → K (.bool true) h') : C.bolelaw05_play_behind (some ⟨pb, 0, none⟩) hh K := by
  have hlen := P.p.len
  refine bolelaw05_play_behind.ok (os ⟨_, rda P.p.pr rfl, Behind_spec P.r fun a1 l1 c1 h2 f2 B1 O1 b1 => ⟨_, _, _, _, rfl, ?_⟩⟩)
  have P2 := P.quietK 0 f2
  have z2 := f2.size
  refine os ⟨_, rda P2.p.pr rfl, Wc.Behind_spec (G.no P2.p.fr) P2.d (fun i hi => Spc.DiskF.readLen P2.d hi) fun a2 l2 c2 h3 f3 s2 => ⟨_, _, _, _, rfl, ?_⟩⟩
  have P3 := P2.quietK 6 f3
  have z3 := f3.size
  refine os ⟨_, rda P3.p.pr rfl, Wc.Behind_spec (G.no P3.p.fr) P3.d (fun i hi => Spc.DiskF.readLen P3.d hi) fun a3 l3 c3 h4 f4 s3 => ⟨_, _, _, _, rfl, ?_⟩⟩
  have P4 := P3.quietK 0 f4
  have z4 := f4.size
  refine cn (fun y => absurd rfl y) fun _ => cn (fun y => absurd rfl y) fun _ => ?_
  have B1' : StrAt h4 a1 l1 (behM D).1 := StrAt.fr (f3.no f4) B1 fun _ _ y => y
  have s2' := s2.fr f4 fun _ _ _ y => y
  refine sameBytes_eq s2'.str B1' ⟨_, rfl, cf rfl (sameBytes_eq s3.str B1' ⟨_, rfl, cf rfl ?_⟩)⟩
  have el3 : l3 = l1 := by rw [← s3.str.1, B1'.1]
  have hmax : l3 ≤ 8388608 := by omega
  have s3' : Sl h4 1 a3 l3 c3 ((behM D).1.map bv) (fun b => h3.size ≤ b ∧ b < h4.size) := by
    obtain ⟨x1, x2⟩ := s3
    refine ⟨x1, ?_⟩
    cases a3 with
    | none => exact x2
    | some p => obtain ⟨y1, y2, y3, y4⟩ := x2; exact ⟨y1, ⟨y2, y3.lt⟩, y3, y4⟩
  unfold bolelaw05_play_behind.k1
  refine ⟨fun n h => ∃ i : Nat, n = i ∧ i ≤ l3 ∧ Fr (fun b => h3.size ≤ b ∧ b < h4.size) h4 h ∧ ∃ xs, Sl h 1 a3 l3 c3 xs (fun b => h3.size ≤ b ∧ b < h4.size), fun n _ => ((l3 : Int) - n).toNat, ⟨0, rfl, Nat.zero_le _, Fr.refl _ _, _, s3'⟩, ?_⟩
  rintro _ h8 ⟨i, rfl, hi, f8, xs, s8⟩
  refine cd (fun hlt => ?_) fun hlt => ?_
  · obtain ⟨p, ep, _⟩ := s8.get (by omega)
    rw [ep] at s8
    obtain ⟨b, o, sp⟩ := p
    have esp : sp = none := s8.2.1
    subst esp
    have hF := s8.2.2.1
    obtain ⟨w1, w2⟩ := s8.wr
    rw [Int.toNat_natCast, wrap_i64 (n := (i : Int) + 1) (by omega) (by omega)]
    refine ⟨⟨by omega, hlt⟩, Rz.oe ep (Put.add w1 (by omega) fun h9 d9 => ⟨⟨i + 1, rfl, by omega, f8.did d9 fun _ => hF, _, by rw [ep]; exact s8.putAt (j := i) (new := [.int .u8 99]) (by rw [List.length_singleton]; omega) d9⟩, falls hlt⟩)⟩
  have z8 := f8.size
  have c4 : ∀ b, h3.size ≤ b → b < h4.size → upd (upd (upd c hh.size 0) h2.size 6) h3.size 0 b = 0 := fun b y _ => upd_ge y
  have P8 := P4.temp f8 fun b hb y => ⟨c4 b y.1 y.2, by have := P3.p.fr.size; omega, fun z hz e => by have := (P3.p.ax z hz).2.2; omega⟩
  refine New.intro fun h10 n10 => ⟨[.int .u8 99], rfl, cellsAll n10.rd, fun v hv => by rw [List.mem_singleton.mp hv]; rfl, ?_⟩
  have P10 := P8.quietK 0 n10.fr
  have z10 := n10.size
  have hb1 : (ti5).bytes = 1 := rfl
  refine append_own (elem := ti5) (show Sl h10 (ti5).cells a3 l3 c3 xs _ from s8.fr n10.fr fun _ _ _ y => y) rfl rfl (by rw [hb1]; omega) (by omega) fun a4 c4' h11 f11 _ => ?_
  have z11 := f11.size
  have P11 := P10.temp f11 fun b hb y => ⟨by rw [upd_lt (by omega), upd_lt (by omega), c4 b y.1 y.2], by have := P3.p.fr.size; omega, fun z hz e => by have := (P3.p.ax z hz).2.2; omega⟩
  -- the list that is told
  have F311 : Fr (From h3.size) h3 h11 := (((f4.mono fun _ _ y => y.elim).trans f8 fun b _ y => y.1).trans (n10.fr.mono fun _ _ y => y.elim) fun b _ y => y).trans f11 fun b _ y => y.1
  have X11 : StrAt h11 a2 l2 (behM D).1 ∧ ∀ p, a2 = some p → p.block < h11.size ∧ upd (upd (upd (upd (upd (upd c hh.size 0) h2.size 6) h3.size 0) h4.size 0) h8.size 0) h10.size 0 p.block = 6 := by
    have inn : ∀ p, a2 = some p → h2.size ≤ p.block ∧ p.block < h3.size := fun p e => by subst e; exact ⟨s2.2.2.1, s2.lt⟩
    refine ⟨StrAt.fr F311 s2.str fun p e y => by have := (inn p e).2; have y : h3.size ≤ p.block := y; omega, fun p e => ?_⟩
    obtain ⟨i1, i2⟩ := inn p e
    refine ⟨by omega, ?_⟩
    rw [upd_lt (by omega), upd_lt (by omega), upd_lt (by omega), upd_lt (by omega), upd_ge (by omega)]
  have Y11 : ∀ b, hh.size ≤ b → b < h2.size → upd (upd (upd (upd (upd (upd c hh.size 0) h2.size 6) h3.size 0) h4.size 0) h8.size 0) h10.size 0 b = 0 := fun b y1 y2 => by
    rw [upd_lt (by omega), upd_lt (by omega), upd_lt (by omega), upd_lt (by omega), upd_lt (by omega), upd_ge (by omega)]
  generalize upd (upd (upd (upd (upd (upd c hh.size 0) h2.size 6) h3.size 0) h4.size 0) h8.size 0) h10.size 0 = c11 at P11 X11 Y11
  refine os ⟨_, _, _, rda P11.p.pr rfl, New.intro fun h12 n12 => ⟨[.slice a2 l2 c2], rfl, cellsAll n12.rd, fun v hv => by rw [List.mem_singleton.mp hv]; rfl, ?_⟩⟩
  have P12 := P11.quietK 0 n12.fr
  have z12 := n12.size
  have X12 : StrAt h12 a2 l2 (behM D).1 ∧ ∀ p, a2 = some p → p.block < h12.size ∧ upd c11 h11.size 0 p.block = 6 := ⟨StrAt.fr n12.fr X11.1 fun _ _ y => y, fun p e => ⟨by have := (X11.2 p e).1; omega, (upd_lt (X11.2 p e).1).trans (X11.2 p e).2⟩⟩
  have Y12 : ∀ b, hh.size ≤ b → b < h2.size → upd c11 h11.size 0 b = 0 := fun b y1 y2 => (upd_lt (by omega)).trans (Y11 b y1 y2)
  generalize upd c11 h11.size 0 = c12 at P12 X12 Y12
  have hb2 : (ti37).bytes = 24 := rfl
  refine append_col (elem := ti37) (show Sl h12 (ti37).cells ta is.length tc (is.map Hd.Sc.v) (On c12 4) from P12.p.t) rfl rfl (by rw [hb2]; omega) (by omega) fun ta' tc' h13 f13 s13 => ?_
  have lp := P12.p.po.lt
  have pb13 : Own h13 pb ∧ rd h13 pb = rd h12 pb := by
    have n : ¬ On c12 4 pb := fun e => by have e : c12 pb = 4 := e; rw [P12.p.pc] at e; omega
    exact ⟨f13.own lp n P12.p.po, f13.rd lp n⟩
  refine os (Put.add pb13.1 (by rw [pb13.2, P12.p.pr]; exact (by decide : 0 + 2 < 4)) fun h14 d14 => ?_)
  have R14 := P12.p.told (x := ⟨a2, l2, c2⟩) f13 s13 d14 X12.1 X12.2
  have z13 := f13.size
  have z14 := d14.size
  have F1214 : Fr (fun b => c12 b = 4 ∨ b = pb) h12 h14 := (f13.mono fun b _ y => .inl y).did d14 fun _ => .inr rfl
  have P14 := P12.rest F1214 (ag_upd c12 h12.size 4) (fun b hb y => y.elim (fun y => by omega) fun y => by rw [y, P12.p.pc]; omega) R14 P12.d P12.r
  -- the text
  have B14 : StrAt h14 a1 l1 (behM D).1 := by
    have inn : ∀ p, a1 = some p → l1 ≠ 0 → p.block < h2.size := fun p e hl => by rw [e] at B1; exact str_lt B1 hl
    have S12 : StrAt h12 a1 l1 (behM D).1 := by
      refine str_keep (str_keep B1 ((f3.mono (G := From h3.size) fun _ _ y => y.elim).trans F311 fun b _ y => y) fun p e hl hb y => ?_) n12.fr fun _ _ _ _ y => y
      have := inn p e hl
      have y : h3.size ≤ p.block := y
      omega
    refine str_keep S12 F1214 fun p e hl hb y => ?_
    have i1 := O1 p e
    have i2 := inn p e hl
    rcases y with y | y
    · have := Y12 _ i1 i2
      omega
    · have := P.p.po.lt
      omega
  refine os ⟨_, _, _, rda P14.p.pr rfl, _, B14, New.intro fun h15 n15 => ?_⟩
  have P15 := P14.quietK 0 n15.fr
  have z15 := n15.size
  generalize upd (upd c12 h12.size 4) h14.size 0 = c15 at P15
  refine ⟨rda P15.p.pr rfl, [.string (mkStr (behM D).1)], rfl, cellsAll n15.rd, fun v hv => by rw [List.mem_singleton.mp hv]; rfl, ?_⟩
  have hb3 : (ti9).bytes = 16 := rfl
  refine append_col (elem := ti9) (show Sl h15 (ti9).cells wa bs.length wc (bs.map fun b => Value.string (mkStr b)) (On c15 5) from P15.p.w) rfl rfl (by rw [hb3]; omega) (by omega) fun wa' wc' h16 f16 s16 => ?_
  have lp15 := P15.p.po.lt
  have pb16 : Own h16 pb ∧ rd h16 pb = rd h15 pb := by
    have n : ¬ On c15 5 pb := fun e => by have e : c15 pb = 5 := e; rw [P15.p.pc] at e; omega
    exact ⟨f16.own lp15 n P15.p.po, f16.rd lp15 n⟩
  refine os (Put.add pb16.1 (by rw [pb16.2, P15.p.pr]; exact (by decide : 0 + 3 < 4)) fun h17 d17 => ?_)
  have R17 := P15.p.wased (b := (behM D).1) f16 s16 d17
  have F1517 : Fr (fun b => c15 b = 5 ∨ b = pb) h15 h17 := (f16.mono fun b _ y => .inl y).did d17 fun _ => .inr rfl
  have P17 := P15.rest F1517 (ag_upd c15 h15.size 5) (fun b hb y => y.elim (fun y => by omega) fun y => by rw [y, P15.p.pc]; omega) R17 P15.d P15.r
  rw [wrap_i64 (n := (l1 : Int) + 1) (by omega) (by omega), show ((l3 + 1 : Nat) : Int) = (l1 : Int) + 1 by omega, beq_self_eq_true]
  exact hK h17 _ ta' wa' tc' wc' _ _ P17 (by rw [List.length_append]; exact Nat.le_refl _)
theorem again_spec {K : Value → Heap → Prop} (P : Pl h1 hh c pb q1 q2 D D E1 E2 ta wa tc wc is bs bs zs)
    (hK : ∀ h' c' q1' q2' D' E1' E2', Pl h1 h' c' pb q1' q2' D' D' E1' E2' ta wa tc wc is bs bs zs → D'.tape = [] → D'.pend = [] → K (.bool true) h') : C.bolelaw05_play_again (some ⟨pb, 0, none⟩) hh K := by
  have hpos := RfS.pos P.r
  have hmax := RfS.max P.r
  refine bolelaw05_play_again.ok (os ⟨_, rda P.p.pr rfl, diskImage P.d fun a1 c1 h2 f2 s2 => ⟨_, _, _, rfl, ?_⟩⟩)
  have P2 := P.quietK 0 f2
  have e1 : D.lasts.length * 512 / 512 = D.lasts.length := by omega
  have bad : ¬ (D.lasts.length * 512 % 512 ≠ 0 ∨ D.lasts.length * 512 = 0 ∨ 16384 < D.lasts.length * 512 / 512) := by omega
  refine openF_spec s2.str s2.le (by omega) (fun y => absurd y bad) fun _ _ _ q h3 Eo f3 ho A3 => ⟨_, _, rfl, ?_⟩
  have P3 := P2.calm f3 (colE_ag (upd c hh.size 0) h2.size Eo 1)
  have Eo1 : ∀ b, Eo b → colE (upd c hh.size 0) h2.size Eo 1 b = 1 := fun b hb => by
    have := ho b hb
    unfold colE
    rw [if_neg (by omega), if_pos hb]
  generalize colE (upd c hh.size 0) h2.size Eo 1 = c3 at P3 Eo1
  refine os ⟨_, rda P3.p.pr rfl, P3.r.image fun a4 l4 c4 h4 f4 s4 => ⟨_, _, _, rfl, ?_⟩⟩
  have P4 := P3.quietK 0 f4
  have z4 := f4.size
  have hfl : D.lasts.flatten.length = D.lasts.length * 512 := by have := s2.1; rw [List.length_map] at this; omega
  have l4e : l4 = D.lasts.length * 512 := by rw [← s4.str.1, hfl]
  refine RfS.of s4.str (by omega) (fun y => absurd (by rw [l4e] at y; exact y) bad) fun _ _ _ q' h5 Ef f5 hf A5 => ⟨_, _, rfl, ?_⟩
  have P5 := P4.calm f5 (colE_ag (upd c3 h3.size 0) h4.size Ef 2)
  have Ef2 : ∀ b, Ef b → colE (upd c3 h3.size 0) h4.size Ef 2 b = 2 := fun b hb => by
    have := hf b hb
    unfold colE
    rw [if_neg (by omega), if_pos hb]
  have Eo5 : ∀ b, Eo b → colE (upd c3 h3.size 0) h4.size Ef 2 b = 1 := fun b hb => by
    have hlt := A3.lt hb
    rw [colE_ag _ _ _ _ b (by omega), upd_lt hlt]
    exact Eo1 b hb
  have A5' := (A3.no f4).no f5
  generalize colE (upd c3 h3.size 0) h4.size Ef 2 = c5 at P5 Ef2 Eo5
  refine cn (fun y => absurd rfl y) fun _ => cn (fun y => absurd rfl y) fun _ => cf rfl ?_
  unfold bolelaw05_play_again.k1
  have p5 := P5.p.pr
  refine os (Put.add P5.p.po (by rw [p5]; exact (by decide : 0 + 0 < 4)) fun h6 d6 => ?_)
  have R6 := P5.p.re (q1' := some q) (q2' := q2) (ta' := ta) (wa' := wa) (tc' := tc) (wc' := wc) d6 (by rw [p5]; rfl)
  refine os (Put.add R6.po (by rw [R6.pr]; exact (by decide : 0 + 1 < 4)) fun h7 d7 => ?_)
  have R7 := R6.re (q1' := some q) (q2' := some q') (ta' := ta) (wa' := wa) (tc' := tc) (wc' := wc) d7 (by rw [R6.pr]; rfl)
  have F7 : Fr (fun b => b = pb) h5 h7 := d6.fr.trans d7.fr fun b _ y => y
  exact hK h7 c5 (some q) (some q') (fresh (chunks D.lasts.flatten)) Eo Ef ⟨R7, A5'.fr F7 fun b hb y => by have := Eo5 b hb; have y : b = pb := y; rw [y, P5.p.pc] at this; omega, Eo5, A5.fr F7 fun b hb y => by have := Ef2 b hb; have y : b = pb := y; rw [y, P5.p.pc] at this; omega, Ef2⟩ rfl rfl
end Go.Proofs.YtjdcbblgaoogmaaGreatDoor.Wd
namespace Go.Proofs.YtjdcbblgaoogmaaGreatDoor.Wd
open Go Go.Proofs Go.Proofs.YtjdcbblgaoogmaaGreatDoor.Wx Go.Proofs.YtjdcbblgaoogmaaGreatDoor.Hp Go.Proofs.YtjdcbblgaoogmaaGreatDoor.W Go.Proofs.YtjdcbblgaoogmaaGreatDoor.Ad Go.Proofs.YtjdcbblgaoogmaaGreatDoor.Wc Go.Proofs.YtjdcbblgaoogmaaGreatDoor.Rf
open Go.Proofs.YtjdcbblgaoogmaaGreatDoor.L3 (Tt)
open Go.Proofs.YtjdcbblgaoogmaaGreatDoor.Rz (Sl.keep')
variable {h1 hh h' : Heap} {c c' : Nat → Nat} {pb : Nat} {q1 q2 ta wa : Option Addr} {tc wc : Nat} {is : List Sc} {cs bs : List (List UInt8)} {zs : List (Nat × List Value)}
variable {D1 D2 D1' D2' D : RD} {E1 E2 E1' E2' : Nat → Prop}
theorem CommitL {D : Nat → Prop} {d : Option Addr} {hh : Heap} {S : RD} {a : Option Addr} {c l : Nat} {rs rs0 : Rs} {K : Value → Heap → Prop} (hlen : rs.length = l) (hnb : nb rs = nb rs0) (G : Re.Glo hh) (A : DiskF hh D d S) (B : Bl hh D a rs) (hl : rs.length < 1000000) (hp : S.pend.length < 100000000) (ht : S.tape.length < 100000000)
    (hK : ∀ h' D', Fr D hh h' → Gw hh D h' D' → DiskF h' D' d (wal S (nb rs0)).1 → K (.int .i64 (wal S (nb rs0)).2) h') : C.wal_Commit d a l c hh K := by
  subst hlen
  refine Wc.Commit_spec G A B hl hp ht ?_
  rw [hnb]; exact hK
theorem Lnt.nb_eq {n0 n1 c : Nat} {h : Heap} {F : Nat → Prop} {a : Option Addr} {rs own : Rs} (x : Lnt n0 n1 h F a c rs own) : nb own = nb rs := by
  have xl := x.len
  unfold nb
  refine List.ext_getElem (by rw [List.length_map, List.length_map, x.len]) fun i g1 g2 => ?_
  rw [List.length_map] at g1 g2
  rw [List.getElem_map, List.getElem_map]
  obtain ⟨t1, t2, _⟩ := x.at_ i g1 g2
  rw [t1, t2]
theorem Lnt.bl {n0 n1 c : Nat} {h : Heap} {F E : Nat → Prop} {a : Option Addr} {rs own : Rs} (x : Lnt n0 n1 h F a c rs own) (hn : n1 ≤ h.size) (hE : ∀ b, n0 ≤ b → b < n1 → ¬ E b) : Bl h E a own := by
  have xl := x.len
  refine ⟨?_, fun p e => ?_, fun r hr => ?_⟩
  · have cc := SlCells.take x.row.cells (own.flatMap cellsR).length
    rw [List.take_left] at cc
    exact cc
  · have s := x.row
    subst e
    exact ⟨s.lt, hE _ (x.rng _ s.2.2.1).1 (x.rng _ s.2.2.1).2⟩
  · obtain ⟨k, hk, rfl⟩ := List.mem_iff_getElem.mp hr
    obtain ⟨t1, t2, t3, t4, t5⟩ := x.at_ k hk (by omega)
    refine ⟨⟨t4, ?_⟩, fun p e => ?_⟩
    · have cc := SlCells.take t5.cells (own[k].2.2.map bv).length
      rw [List.take_left] at cc
      exact cc
    · rw [e] at t5
      exact ⟨t5.lt, hE _ t5.2.2.1.1 t5.2.2.1.2.1⟩
theorem step_spec {K : Value → Heap → Prop} {m n : Nat} (G : Re.Glo h1) (P : Pl h1 hh c pb q1 q2 D D E1 E2 ta wa tc wc is bs bs []) (o : OpI) (ok : o.Ok h1) (ht : D.tape.length ≤ m) (hp : D.pend.length ≤ m) (hm : m ≤ 1000000) (hn : is.length ≤ n) (hnn : n ≤ 1000)
    (hK : ∀ h', Gd h1 h' pb (m + 198) (n + 1) → K (.bool true) h') : C.bolelaw05_play_step (some ⟨pb, 0, none⟩) o.cells hh K := by
  refine bolelaw05_play_step.ok (New.intro fun h2 n2 => ?_)
  have P2 := P.new n2
  have hmax := RfS.max P.r
  generalize upd c hh.size 0 = c2 at P2
  have cell : ∀ {hx cx q1 q2 D1 D2 E1 E2 ta wa tc wc is cs bs} (_ : Pl h1 hx cx pb q1 q2 D1 D2 E1 E2 ta wa tc wc is cs bs [(hh.size, o.cells)]) {k : Nat} {v : Value}, o.cells[k]? = some v → cellOf hx (Addr.add ⟨hh.size, 0, none⟩ k) = some v := by
    intro _ _ _ _ _ _ _ _ _ _ _ _ _ _ _ Px k v e
    exact rda (Px.p.ax _ (List.mem_singleton.mpr rfl)).1 (by rw [Nat.zero_add]; exact e)
  have good : ∀ {hx cx q1 q2 D' E1 E2 ta wa tc wc is' bs' zs}, Pl h1 hx cx pb q1 q2 D' D' E1 E2 ta wa tc wc is' bs' bs' zs → D'.tape.length ≤ m + 198 → D'.pend.length ≤ m + 198 → is'.length ≤ n + 1 → K (.bool true) hx := by
    intro _ _ _ _ _ _ _ _ _ _ _ _ _ _ Px t1 t2 t3
    exact hK _ ⟨_, _, _, _, _, _, _, _, _, _, _, _, ⟨Px.p.drop, Px.d, Px.e1, Px.r, Px.e2⟩, t1, t2, t3⟩
  have offK : ∀ {hx cx q1 q2 D1 D2 E1 E2 ta wa tc wc is cs bs zs} (_ : Pl h1 hx cx pb q1 q2 D1 D2 E1 E2 ta wa tc wc is cs bs zs), (∀ p, o.ka = some p → o.keep ≠ [] → ¬ E2 p.block) ∧ (∀ p, o.ka = some p → o.keep ≠ [] → ¬ E1 p.block) := by
    intro _ _ _ _ _ _ _ _ _ _ _ _ _ _ _ _ Px
    have lt : ∀ p, o.ka = some p → o.keep ≠ [] → p.block < h1.size := fun p e hne => by
      have k := ok.k
      rw [e] at k
      exact L3.SlCells.lt k fun y => hne (List.map_eq_nil_iff.mp y)
    exact ⟨fun p e hne y => by have := Px.e2 _ y; have := Px.p.low _ (lt p e hne); omega, fun p e hne y => by have := Px.e1 _ y; have := Px.p.low _ (lt p e hne); omega⟩
  have keepK : ∀ {hx}, Fr No h1 hx → SlCells hx o.ka (o.keep.map .bool) := fun f => SlCells.fr f ok.k fun _ _ y => y
  refine ⟨o.kind, cell P2 rfl, ce (fun _ => ?_) fun _ => ce (fun _ => ?_) fun _ => ce (fun _ => ?_) fun _ => ce (fun _ => ?_) fun _ => ce (fun _ => ?_) fun _ => ce (fun _ => ?_) fun _ => ce (fun _ => ?_) fun _ => ce (fun _ => ?_) fun _ => good P2 (by omega) (by omega) (by omega)⟩
  -- Commit
  · refine ⟨_, _, _, cell P2 rfl, lent_spec (ok.b.no P2.p.fr) ok.n ok.small fun a c' own F h3 f3 L => ⟨_, _, _, rfl, ?_⟩⟩
    have P3 := P2.quietK 0 f3
    have z3 := f3.size
    have c30 : ∀ b, h2.size ≤ b → b < h3.size → upd c2 h2.size 0 b = 0 := fun b y _ => upd_ge y
    generalize upd c2 h2.size 0 = c3 at P3 c30
    have off : ∀ r ∈ o.rs, ∀ p, r.2.1.a = some p → r.2.1.l ≠ 0 → ¬ E2 p.block := fun r hr p e hl y => by
      have B := ok.b.ok r hr
      rw [e] at B
      have := P3.p.low _ (str_lt B hl)
      have := P3.e2 _ y
      omega
    refine os ⟨_, rda P3.p.pr rfl, _, _, _, cell P3 rfl, Commit_spec P3.r (ok.b.no P3.p.fr) off (by have := ok.n; omega) hmax (by omega) fun h4 E4 f4 g4 x4 => ⟨_, rfl, ?_⟩⟩
    have P4 := P3.doc f4 g4 x4
    have z4 := f4.size
    have L4 := L.keep f4 fun b y1 y2 y => by have := P3.e2 b y; have := c30 b y1 y2; omega
    have c40 : ∀ b, h2.size ≤ b → b < h3.size → colE c3 h3.size E4 2 b = 0 := fun b y1 y2 => (colE_ag _ _ _ _ b y2).trans (c30 b y1 y2)
    generalize colE c3 h3.size E4 2 = c4 at P4 c40
    have nE : ∀ b, h2.size ≤ b → b < h3.size → ¬ E1 b := fun b y1 y2 y => by have := P4.e1 b y; have := c40 b y1 y2; omega
    refine os ⟨_, rda P4.p.pr rfl, CommitL L.len L.nb_eq (G.no P4.p.fr) P4.d (L4.bl z4 nE) (by have := L.len; have := ok.n; omega) (by omega) (by omega) fun h5 D5 f5 g5 A5 => ⟨_, rfl, ce (fun _ => ?_) fun y => absurd rfl y⟩⟩
    have P5 := P4.prog f5 g5 A5
    have z5 := f5.size
    have L5 := L4.keep f5 nE
    have c50 : ∀ b, h2.size ≤ b → b < h3.size → colE c4 h4.size D5 1 b = 0 := fun b y1 y2 => (colE_ag _ _ _ _ b (by omega)).trans (c40 b y1 y2)
    generalize colE c4 h4.size D5 1 = c5 at P5 c50
    refine ⟨_, _, _, cell P5 rfl, kept_spec (ok.b.no P5.p.fr) L5 (by omega) ok.n ok.small fun h6 f6 => ⟨_, rfl, ?_⟩⟩
    have P6 := P5.quietK 0 f6
    have L6 := L5.keep f6 fun _ _ _ y => y
    refine wipe_spec L6 ok.n ok.small fun h7 f7 => ?_
    have P6' : Pl h1 h6 (upd c5 h5.size 0) pb q1 q2 _ _ D5 E4 ta wa tc wc is bs bs [] := ⟨P6.p.drop, P6.d, P6.e1, P6.r, P6.e2⟩
    have z2 := P2.p.fr.size
    have P7 := P6'.temp f7 fun b hb y => ⟨(upd_lt (by omega)).trans (c50 b y.1 y.2), by omega, fun z hz => by cases hz⟩
    have := wal_len D (nb o.rs)
    exact good P7 (by omega) (by omega) (by omega)
  -- Recover
  · refine os ⟨_, rda P2.p.pr rfl, Recover_spec P2.r (by omega) fun h3 E3 f3 g3 x3 => ⟨_, _, rfl, ?_⟩⟩
    have P3 := P2.doc f3 g3 x3
    refine os ⟨_, rda P3.p.pr rfl, Wc.Recover_spec (G.no P3.p.fr) P3.d (by omega) (by omega) fun h4 D4 f4 g4 A4 => ⟨_, _, rfl, ce (fun _ => ?_) fun y => absurd rfl y⟩⟩
    have P4 := P3.prog f4 g4 A4
    have := rec_len D
    rw [beq_self_eq_true]
    exact good P4 (by omega) (by omega) (by omega)
  -- Behind
  · exact asks_spec G P2 (by omega) fun h3 c3 ta' wa' tc' wc' is' bs' P3 hl => ⟨_, rfl, good P3 (by omega) (by omega) (by omega)⟩
  -- Write
  · refine ⟨_, _, _, cell P2 rfl, _, cell P2 rfl, blockW_spec (StrAt.fr P2.p.fr ok.s fun _ _ y => y) ok.ol fun a c' h3 f3 s3 => ⟨_, _, _, rfl, ?_⟩⟩
    have P3 := P2.quietK 0 f3
    have in3 : ∀ p, a = some p → h2.size ≤ p.block ∧ p.block < h3.size := fun p e => by subst e; exact ⟨s3.2.2.1, s3.lt⟩
    have c30 : ∀ b, h2.size ≤ b → b < h3.size → upd c2 h2.size 0 b = 0 := fun b y _ => upd_ge y
    generalize upd c2 h2.size 0 = c3 at P3 c30
    refine os ⟨_, rda P3.p.pr rfl, _, cell P3 rfl, P3.r.write s3.str (by decide) (by omega) fun h4 E4 f4 g4 x4 => ⟨_, rfl, ?_⟩⟩
    have P4 := P3.doc f4 g4 x4
    have nE2 : ∀ p, a = some p → ¬ E2 p.block := fun p e y => by have := P3.e2 _ y; have := c30 _ (in3 p e).1 (in3 p e).2; omega
    have c40 : ∀ b, h2.size ≤ b → b < h3.size → colE c3 h3.size E4 2 b = 0 := fun b y1 y2 => (colE_ag _ _ _ _ b y2).trans (c30 b y1 y2)
    have s4 : StrAt h4 a 512 (blkW o.os o.by_) := StrAt.fr f4 s3.str nE2
    have nE1 : ∀ p, a = some p → ¬ E1 p.block := fun p e y => by have := P4.e1 _ y; have := c40 _ (in3 p e).1 (in3 p e).2; omega
    refine os ⟨_, rda P4.p.pr rfl, _, cell P4 rfl, DiskF.write P4.d s4 nE1 (by omega) (by omega) fun h5 D5 f5 g5 A5 => ⟨_, rfl, ?_⟩⟩
    have P5 := P4.prog f5 g5 A5
    rw [beq_self_eq_true]
    have := write_len D (.w o.at_ (blkW o.os o.by_))
    have this : (D.write o.at_ (blkW o.os o.by_)).1.tape.length ≤ D.tape.length + 1 ∧ (D.write o.at_ (blkW o.os o.by_)).1.pend.length ≤ D.pend.length + 1 := this
    exact good P5 (by omega) (by omega) (by omega)
  -- Flush
  · refine os ⟨_, rda P2.p.pr rfl, P2.r.flush (by omega) fun h3 E3 f3 g3 x3 => ⟨_, rfl, ?_⟩⟩
    have P3 := P2.doc f3 g3 x3
    refine os ⟨_, rda P3.p.pr rfl, DiskF.flush P3.d (by omega) fun h4 D4 f4 g4 A4 => ⟨_, rfl, ?_⟩⟩
    have P4 := P3.prog f4 g4 A4
    rw [beq_self_eq_true]
    have := write_len D .f
    have this : D.flush.1.tape.length ≤ D.tape.length + 1 ∧ D.flush.1.pend.length ≤ D.pend.length + 1 := this
    exact good P4 (by omega) (by omega) (by omega)
  -- Arm
  · have oc : (o.cells.drop 5).take 2 = [.int .i64 o.cat, .slice o.ka o.kl o.kc] := rfl
    have cl : ∀ {hx cx q1 q2 D1 D2 E1 E2 ta wa tc wc is cs bs} (_ : Pl h1 hx cx pb q1 q2 D1 D2 E1 E2 ta wa tc wc is cs bs [(hh.size, o.cells)]), Cells hx (Addr.add ⟨hh.size, 0, none⟩ 5) [.int .i64 o.cat, .slice o.ka o.kl o.kc] := by
      intro _ _ _ _ _ _ _ _ _ _ _ _ _ _ _ Px
      exact cellsa (Px.p.ax _ (List.mem_singleton.mpr rfl)).1 (by rw [Nat.zero_add]; exact oc)
    refine os ⟨_, rda P2.p.pr rfl, _, rfl, cl P2, P2.r.arm ok.cat (keepK P2.p.fr) ok.kl ok.km (offK P2).1 fun h3 E3 f3 g3 x3 => ⟨_, rfl, ?_⟩⟩
    have P3 := P2.doc f3 g3 x3
    refine os ⟨_, rda P3.p.pr rfl, _, rfl, cl P3, DiskF.armS P3.d ok.cat ok.kl (keepK P3.p.fr) ok.km fun h4 D4 f4 g4 A4 => ⟨_, rfl, ?_⟩⟩
    have P4 := P3.prog f4 g4 A4
    rw [beq_self_eq_true]
    have ea : (D.arm o.cat o.keep).1.tape = D.tape ∧ (D.arm o.cat o.keep).1.pend = D.pend := by unfold RD.arm; split <;> exact ⟨rfl, rfl⟩
    exact good P4 (by rw [ea.1]; omega) (by rw [ea.2]; omega) (by omega)
  -- Crash
  · have c6 : ∀ {hx cx q1 q2 D1 D2 E1 E2 ta wa tc wc is cs bs} (_ : Pl h1 hx cx pb q1 q2 D1 D2 E1 E2 ta wa tc wc is cs bs [(hh.size, o.cells)]), cellOf hx (Addr.add (Addr.add ⟨hh.size, 0, none⟩ 5) 1) = some (.slice o.ka o.kl o.kc) := by
      intro _ _ _ _ _ _ _ _ _ _ _ _ _ _ _ Px
      have := cell Px (k := 6) (v := .slice o.ka o.kl o.kc) rfl
      rw [add_mk] at this
      rw [add_mk, add_mk]; exact this
    refine os ⟨_, rda P2.p.pr rfl, _, _, _, c6 P2, P2.r.crash (keepK P2.p.fr) ok.kl ok.km (offK P2).1 fun h3 E3 f3 g3 x3 => ⟨rfl, ?_⟩⟩
    have P3 := P2.doc f3 g3 x3
    refine os ⟨_, rda P3.p.pr rfl, _, _, _, c6 P3, DiskF.crash P3.d ok.kl (keepK P3.p.fr) (offK P3).2 fun h4 f4 A4 => ⟨rfl, ?_⟩⟩
    have P4 := P3.prog f4 (Gw.refl f4.size fun b hb => P3.d.lt hb) A4
    have ec : (if D.down = true then D else D.cut o.keep).tape = D.tape ∧ (if D.down = true then D else D.cut o.keep).pend.length ≤ D.pend.length := by
      split
      · exact ⟨rfl, Nat.le_refl _⟩
      · exact ⟨rfl, Nat.zero_le _⟩
    exact good P4 (by rw [ec.1]; omega) (by have := ec.2; omega) (by omega)
  -- again
  · exact again_spec P2 fun h3 c3 q1' q2' D' E1' E2' P3 t1 t2 => ⟨_, rfl, good P3 (by rw [t1]; exact Nat.zero_le _) (by rw [t2]; exact Nat.zero_le _) (by omega)⟩
end Go.Proofs.YtjdcbblgaoogmaaGreatDoor.Wd
namespace Go.Proofs.YtjdcbblgaoogmaaGreatDoor.Wd
open Go Go.Proofs Go.Proofs.YtjdcbblgaoogmaaGreatDoor.Wx Go.Proofs.YtjdcbblgaoogmaaGreatDoor.Hp Go.Proofs.YtjdcbblgaoogmaaGreatDoor.W Go.Proofs.YtjdcbblgaoogmaaGreatDoor.Ad Go.Proofs.YtjdcbblgaoogmaaGreatDoor.Wc Go.Proofs.YtjdcbblgaoogmaaGreatDoor.Rf
open Go.Proofs.YtjdcbblgaoogmaaGreatDoor.L3 (Tt)
open Go.Proofs.YtjdcbblgaoogmaaGreatDoor.Rz (Sl.keep')
variable {h1 hh h' : Heap} {pb : Nat}
theorem RfS.small {h : Heap} {E : Nat → Prop} {r : Option Addr} {D : RD} (x : RfS h E r D) : ∀ t ∈ D.tape, t.2.2.length ≤ 512 := by
  obtain ⟨col, S, _, s, _, w, _, _⟩ := x
  rw [s.tape]; exact w
theorem tp_est {h : Heap} {b l c : Nat} {col : Nat → Nat} {a : Option Addr} {xs : List Ent} {ts : List Tt} (t : Tp h b col a l c xs ts) : SlCells h a (xs.flatMap Ent.cells) ∧ EsT h No xs ts ∧ ts.length = l :=
  ⟨t.sl.cells, ⟨Ents.length t.es, fun i g1 g2 => by
    obtain ⟨x, y, z, _⟩ := Ents.at_ t.es i g1 g2
    exact ⟨x, y, z, fun _ _ _ w => w⟩⟩, t.num⟩
theorem DiskF.tapes {h : Heap} {D : Nat → Prop} {d : Option Addr} {n : Int} {S : RD} {K : Value → Heap → Prop} (A : DiskF h D d S) (ht : S.tape.length < 1000000000) (hw : ∀ x ∈ S.tape, x.2.2.length ≤ 140737488355328)
    (hK : ∀ a l c h' (xs : List Ent), Fr No h h' → SlCells h' a (xs.flatMap Ent.cells) → EsT h' No xs (S.tape.drop n.toNat) → (S.tape.drop n.toNat).length = l → K (.slice a l c) h') : C.adisk_Disk_Tape d n h K := by
  obtain ⟨col, A, _⟩ := A
  refine Ad.Tape_spec A ht hw fun a l c h' col' xs f t => ?_
  obtain ⟨x, y, z⟩ := tp_est t
  exact hK a l c h' xs f x y z
theorem Gd.no {m n : Nat} (g : Gd h1 hh pb m n) (f : Fr No hh h') : Gd h1 h' pb m n := by
  obtain ⟨c, q1, q2, D, E1, E2, ta, wa, tc, wc, is, bs, P, t1, t2, t3⟩ := g
  exact ⟨_, _, _, _, _, _, _, _, _, _, _, _, P.quietK 0 f, t1, t2, t3⟩
theorem Gd.mono {m n m' n' : Nat} (g : Gd h1 hh pb m n) (hm : m ≤ m') (hn : n ≤ n') : Gd h1 hh pb m' n' := by
  obtain ⟨c, q1, q2, D, E1, E2, ta, wa, tc, wc, is, bs, P, t1, t2, t3⟩ := g
  exact ⟨_, _, _, _, _, _, _, _, _, _, _, _, P, by omega, by omega, by omega⟩
theorem op_at {h : Heap} {a : Option Addr} {ops : List OpI} (R : SlCells h a (ops.flatMap OpI.cells)) {i : Nat} (hi : i < ops.length) : ∃ p, a = some p ∧ Cells h (p.add (i * 7)) ops[i].cells := by
  cases a with
  | none =>
    exfalso
    have R : ops.flatMap OpI.cells = [] := R
    have := flat_length OpI.cells 7 ops fun _ _ => rfl
    rw [R, List.length_nil] at this
    omega
  | some p =>
    refine ⟨p, rfl, ?_⟩
    have := Cells.part (show Cells h p (ops.flatMap OpI.cells) from R) (i * 7) 7
    rw [flat_part OpI.cells 7 ops (fun _ _ => rfl) i hi] at this
    exact this
theorem OpI.one (o : OpI) : ∀ v ∈ o.cells, v.oneCell' = true := fun v hv => by
  unfold OpI.cells at hv
  simp only [List.mem_cons, List.not_mem_nil, or_false] at hv
  rcases hv with rfl | rfl | rfl | rfl | rfl | rfl | rfl <;> rfl
/-- the steps and the tapes are looked at -/
theorem looks_k4 {h5 h7 h12 : Heap} {i m n : Nat} {was : Int} {I1 : Int → Heap → Prop} {M1 : Int → Heap → Nat} {K : Value → Heap → Prop} (g : Gd h1 h12 h5.size m n) (hm : m ≤ 1000000) (hi : i < 1000) (hI : ∀ h', Gd h1 h' h5.size m n → I1 ((i : Int) + 1) h' ∧ M1 ((i : Int) + 1) h' < M1 (i : Int) h7) : bolelaw05_WalPlays.k4 h5 (i : Int) h7 I1 M1 was h12 K := by
  have g0 := g
  obtain ⟨c, q1, q2, D, E1, E2, ta, wa, tc, wc, is, bs, P, t1, t2, t3⟩ := g
  have sm := RfS.small P.r
  obtain ⟨rb, aa, ac, e, _, _, _, c5, c6⟩ := P.r.fields
  unfold bolelaw05_WalPlays.k4
  rw [wrap_i64 (n := (i : Int) + 1) (by omega) (by omega)]
  refine ⟨_, rda P.p.pr rfl, diskSteps P.d ⟨_, _, rfl, _, rda P.p.pr rfl, Rz.oe e ⟨_, c5, cn (fun y => absurd rfl y) fun _ => ⟨_, rda P.p.pr rfl, Rz.oe e ⟨_, c6, cn (fun y => absurd rfl y) fun _ => ⟨_, rda P.p.pr rfl, _, rda P.p.pr rfl, ?_⟩⟩⟩⟩⟩⟩
  refine DiskF.tapes P.d (by omega) (fun t ht => Nat.le_trans (sm t ht) (by decide)) fun a l c' h14 xs f14 R14 T14 hl => ⟨_, _, _, rfl, ?_⟩
  have P14 := P.quietK 0 f14
  refine ⟨rda P14.p.pr rfl, P14.r.tapes (by omega) fun a2 l2 c2 h15 col15 ys f15 t15 => ⟨_, _, _, rfl, ?_⟩⟩
  obtain ⟨R15, T15, hl2⟩ := tp_est t15
  have hd : (D.tape.drop was.toNat).length ≤ D.tape.length := by rw [List.length_drop]; omega
  exact sameActs_spec (SlCells.fr f15 R14 fun _ _ y => y) R15 hl hl2 (by omega) (T14.no f15) T15 ⟨_, rfl, cf rfl (hI h15 (g0.no (f14.no f15)))⟩
theorem end_k5 {h5 h17 : Heap} {m n : Nat} {K : Value → Heap → Prop} (g : Gd h1 h17 h5.size m n) (hn : n ≤ 1000) (hK : ∀ h', Fr No h1 h' → K (.bool true) h') : bolelaw05_WalPlays.k5 h5 h17 K := by
  obtain ⟨c, q1, q2, D, E1, E2, ta, wa, tc, wc, is, bs, P, t1, t2, t3⟩ := g
  unfold bolelaw05_WalPlays.k5
  refine ⟨_, rda P.p.pr rfl, _, rda P.p.pr rfl, diskImage P.d fun a c1 h18 f18 s18 => ⟨_, _, _, rfl, ?_⟩⟩
  have P18 := P.quietK 0 f18
  refine ⟨rda P18.p.pr rfl, P18.r.image fun a2 l2 c2 h19 f19 s19 => ⟨_, _, _, rfl, ?_⟩⟩
  have P19 := P18.quietK 0 f19
  refine sameBytes_eq (StrAt.fr f19 s18.str fun _ _ y => y) s19.str ⟨_, rfl, ct rfl (whole_spec P19.p (by omega) ⟨_, rfl, hK h19 P19.p.fr⟩)⟩
theorem WalPlays_spec {h : Heap} {n : Int} {sa : Option Addr} {sc : Nat} {ops : List OpI} {K : Value → Heap → Prop} (G : Re.Glo h) (S : SlCells h sa (ops.flatMap OpI.cells)) (ok : ∀ o ∈ ops, o.Ok h) (hK : ∀ h', Fr No h h' → K (.bool true) h') : C.bolelaw05_WalPlays n sa ops.length sc h K := by
  refine bolelaw05_WalPlays.ok (fixed_spec G fun h2 f2 => ⟨_, rfl, cf rfl (mod_spec (by decide) (by decide) ⟨_, rfl, ?_⟩)⟩)
  have hr := modI_range (v := n) (n := 50) (by decide)
  rw [wrap_i64 (n := 90 + modI n 50) (by omega) (by omega)]
  refine Rf.newF_spec (fun y => by omega) fun _ _ q h4 E1 f4 o1 A4 => ⟨_, _, rfl, RfS.new (fun y => by omega) fun _ _ r h5 E2 f5 o2 X5 => ⟨_, _, rfl, cn (fun y => absurd rfl y) fun _ => cn (fun y => absurd rfl y) fun _ => cf rfl ?_⟩⟩
  unfold bolelaw05_WalPlays.k1
  refine New.intro fun h6 n6 => ?_
  have z2 := f2.size
  have z4 := f4.size
  have z5 := f5.size
  have z6 := n6.size
  have F5 : Fr No h h5 := (f2.no f4).no f5
  have g0 : Gd h h6 h5.size 0 0 := by
    refine ⟨upd (colE (colE (fun _ => 0) h2.size E1 1) h4.size E2 2) h5.size 3, some q, some r, _, E1, E2, none, none, 0, 0, [], [], ⟨⟨F5.new n6, fun b hb => ?_, upd_ge (Nat.le_refl _), n6.own, n6.rd, Sl.nil _ _ _, Sl.nil _ _ _, rfl, fun i g1 => absurd g1 (Nat.not_lt_zero _), fun z hz => by cases hz⟩, (A4.no f5).no n6.fr, fun b hb => ?_, X5.no n6.fr, fun b hb => ?_⟩, Nat.le_refl _, Nat.le_refl _, Nat.le_refl _⟩
    · rw [upd_lt (by omega), colE_ag _ _ _ _ b (by omega), colE_ag _ _ _ _ b (by omega)]
    · have := A4.lt hb
      have := o1 b hb
      rw [upd_lt (by omega), colE_ag _ _ _ _ b (by omega)]
      unfold colE
      rw [if_neg (by omega), if_pos hb]
    · have := X5.lt hb
      have := o2 b hb
      rw [upd_lt (by omega)]
      unfold colE
      rw [if_neg (by omega), if_pos hb]
  clear A4 X5 o1 o2
  refine ⟨fun m hh => ∃ i : Nat, m = i ∧ i ≤ ops.length ∧ i ≤ 40 ∧ Gd h hh h5.size (200 * i) i, fun m _ => ((ops.length : Int) - m).toNat, ⟨0, rfl, Nat.zero_le _, Nat.zero_le _, g0⟩, ?_⟩
  rintro _ h7 ⟨i, rfl, hi, h40, g⟩
  refine cd (fun hlt => cd (fun hlt2 => ?_) fun _ => end_k5 g (by omega) hK) fun _ => end_k5 g (by omega) hK
  have hi' : i < ops.length := by omega
  obtain ⟨c, q1, q2, D, F1, F2, ta, wa, tc, wc, is, bs, P, t1, t2, t3⟩ := g
  obtain ⟨rb, aa, ac, e, _, cA, _⟩ := P.r.fields
  obtain ⟨p, ep, cp⟩ := op_at (SlCells.fr P.p.fr S fun _ _ y => y) hi'
  unfold bolelaw05_WalPlays.k2
  refine ⟨_, rda P.p.pr rfl, Rz.oe e ⟨_, _, _, cA, ⟨by omega, hlt⟩, Rz.oe ep ⟨_, rfl, cp, NewRow.intro rfl (OpI.one _) rfl fun h9 n9 => ?_⟩⟩⟩
  have P9 := P.quietK 0 n9.fr
  have k3 : ∀ was, bolelaw05_WalPlays.k3 h5 (i : Int) h7 (fun m hh => ∃ i : Nat, m = i ∧ i ≤ ops.length ∧ i ≤ 40 ∧ Gd h hh h5.size (200 * i) i) (fun m _ => ((ops.length : Int) - m).toNat) h9 was K := fun was => by
    unfold bolelaw05_WalPlays.k3
    refine ⟨_, rfl, cellsAll n9.rd, step_spec G P9 ops[i] (ok _ (List.getElem_mem hi')) t1 t2 (by omega) t3 (by omega) fun h10 g10 => ⟨_, rfl, cf rfl ?_⟩⟩
    have g10' := g10
    obtain ⟨c, q1, q2, D, F1, F2, ta, wa, tc, wc, is, bs, P, t1, t2, t3⟩ := g10
    obtain ⟨rb, aa, ac, e, _, _, c4, _⟩ := P.r.fields
    refine ⟨_, rda P.p.pr rfl, _, rda P.p.pr rfl, Rz.oe e ⟨_, c4, DiskF.down P.d ⟨_, rfl, rda P.p.pr rfl, c4, cf (by rw [beq_self_eq_true]; rfl) ?_⟩⟩⟩
    exact looks_k4 g10' (by omega) (by omega) fun h' g' => ⟨⟨i + 1, rfl, by omega, by omega, g'.mono (by omega) (by omega)⟩, falls hlt⟩
  exact ⟨_, rdc n9.rd rfl, ce (fun _ => k3 0) fun _ => k3 _⟩
end Go.Proofs.YtjdcbblgaoogmaaGreatDoor.Wd
namespace Go.Proofs.YtjdcbblgaoogmaaGreatDoor
open Go Go.ChangeShapes Go.WideShapes Go.ChangeAt Go.RowKit Go.Proofs.YtjdcbblgaoogmaaGreatDoor.Wx Go.Proofs.YtjdcbblgaoogmaaGreatDoor.Hp Go.Proofs.YtjdcbblgaoogmaaGreatDoor.Gl
theorem Tryz.cellsInt : Tryz.prog.cellsOf 3 = 1 := by kernel_rfl
theorem Tryz.cellsBools : Tryz.prog.cellsOf 39 = 1 := by kernel_rfl
theorem Tryz.cellsCrash : Tryz.prog.cellsOf 44 = 2 := by kernel_rfl
theorem Tryz.cellsRaws : Tryz.prog.cellsOf 42 = 1 := by kernel_rfl
theorem Tryz.cellsRaw : Tryz.prog.cellsOf 103 = 2 := by kernel_rfl
theorem Tryz.cellsOp5 : Tryz.prog.cellsOf 46 = 7 := by kernel_rfl
theorem one_bool {H : Type} {enc : TypeId × Value → H} {W : World} (n : Nat) (cs : List Value) (y : DataW H × List MemPlace) (h : DataW.trod enc Tryz.prog W 0 (fun _ => true) true n 4 cs = some y) : ∃ x : Bool, cs = [Value.bool x] ∧ True := by
  obtain ⟨b, e, _⟩ := DataW.trod_bool Tryz.underlying4 h
  exact ⟨b, e, trivial⟩
/-- a block of a list -/
def RawQ {H : Type} (W : World) (d : DataW H) (r : Int × Wc.Sc × Tm.Txt) : Prop := StrAt W.heap r.2.1.a r.2.1.l r.2.2 ∧ r.2.1.l ≤ Rows.uptoBulk d
set_option maxRecDepth 100000 in
theorem one_rawB {H : Type} {enc : TypeId × Value → H} {W : World} (n : Nat) (cs : List Value) (y : DataW H × List MemPlace) (h : DataW.trod enc Tryz.prog W 0 (fun _ => true) true n 103 cs = some y) : (∃ x : Int × Wc.Sc × Tm.Txt, cs = Wc.cellsR x ∧ RawQ W y.1 x) ∧ 3 ≤ Rows.uptoBulk y.1 := by
  obtain ⟨y0, y1, k, hy, hl, h0, h1⟩ := trod_struct2 Tryz.underlying103 h
  rw [Tryz.cellsRaw] at hl
  simp only [Tryz.cellsInt, Tryz.cellsBytes] at h0 h1
  match cs, hl with
  | [a, b], _ =>
    obtain ⟨n0, e0, _, _⟩ := DataW.trod_int Tryz.underlying3 h0
    obtain ⟨ba, bl, bc, bs, e1, B, hlc, room⟩ := inner_bytes Tryz.underlying37 Tryz.underlying5 Tryz.cellsByte h1
    have e0 : a = .int .i64 n0 := by simpa using e0
    have e1 : b = .slice ba bl bc := by simpa using e1
    have m1 := room_bulk room
    have b0 := bulk_one y0.1
    have b1 := bulk_one y1.1
    have eb : Rows.uptoBulk y.1 = Rows.uptoBulk y0.1 + (Rows.uptoBulk y1.1 + 0) + 1 := by rw [hy]; simp only [Rows.uptoBulk, Rows.uptoBulkAll]
    refine ⟨⟨(n0, ⟨ba, bl, bc⟩, bs), by rw [e0, e1]; rfl, B, ?_⟩, by omega⟩
    show bl ≤ _
    omega
/-- a crash: how many, and what is kept -/
theorem one_crash {H : Type} {enc : TypeId × Value → H} {W : World} (n : Nat) (cs : List Value) (y : DataW H × List MemPlace) (h : DataW.trod enc Tryz.prog W 0 (fun _ => true) true n 44 cs = some y) :
    ∃ n0 ka kl kc, ∃ ks : List Bool, cs = [.int .i64 n0, .slice ka kl kc] ∧ n0 ≤ 9223372036854775807 ∧ SlCells W.heap ka (ks.map .bool) ∧ ks.length = kl ∧ kl ≤ Rows.uptoBulk y.1 := by
  obtain ⟨y0, y1, k, e, hl, h0, h1⟩ := trod_struct2 Tryz.underlying44 h
  rw [Tryz.cellsCrash] at hl
  simp only [Tryz.cellsInt, Tryz.cellsBools] at h0 h1
  match cs, hl with
  | [a, b], _ =>
    obtain ⟨n0, e0, _, w0⟩ := DataW.trod_int Tryz.underlying3 h0
    obtain ⟨ka, kl, kc, ks, e1, B, hk, hkc, room, _⟩ := inner_rowW (α := Bool) (fun b => [Value.bool b]) (fun _ _ => True) (fun _ => rfl) Tryz.underlying39 Tryz.cellsBool h1 one_bool
    rw [flat_map1] at B
    have e0 : a = .int .i64 n0 := by simpa using e0
    have e1 : b = .slice ka kl kc := by simpa using e1
    have m1 := room_bulk room
    have eb : Rows.uptoBulk y.1 = Rows.uptoBulk y0.1 + (Rows.uptoBulk y1.1 + 0) + 1 := by rw [e]; simp only [Rows.uptoBulk, Rows.uptoBulkAll]
    exact ⟨n0, ka, kl, kc, ks, by rw [e0, e1], (int_range w0).2, B, hk, by omega⟩
/-- a call of the script: its lists, and how long -/
def OpQ {H : Type} (W : World) (d : DataW H) (o : Wd.OpI) : Prop :=
  Wd.Bx W.heap o.la o.rs ∧ o.rs.length * 3 ≤ Rows.uptoBulk d ∧ (∀ r ∈ o.rs, r.2.1.l ≤ Rows.uptoBulk d) ∧ StrAt W.heap o.oa o.ol o.os ∧ o.ol ≤ Rows.uptoBulk d ∧ o.cat ≤ 9223372036854775807 ∧ SlCells W.heap o.ka (o.keep.map .bool) ∧ o.keep.length = o.kl ∧ o.kl ≤ Rows.uptoBulk d
set_option maxRecDepth 100000 in
theorem one_op5 {H : Type} {enc : TypeId × Value → H} {W : World} (n : Nat) (cs : List Value) (y : DataW H × List MemPlace) (h : DataW.trod enc Tryz.prog W 0 (fun _ => true) true n 46 cs = some y) : (∃ x : Wd.OpI, cs = x.cells ∧ OpQ W y.1 x) ∧ 7 ≤ Rows.uptoBulk y.1 := by
  obtain ⟨y0, y1, y2, y3, y4, y5, k, hy, hl, h0, h1, h2, h3, h4, h5⟩ := trod_struct6 Tryz.underlying46 h
  rw [Tryz.cellsOp5] at hl
  simp only [Tryz.cellsInt, Tryz.cellsRaws, Tryz.cellsByte, Tryz.cellsBytes, Tryz.cellsCrash] at h0 h1 h2 h3 h4 h5
  match cs, hl with
  | [a, b, c, d, e, f, g], _ =>
    obtain ⟨n0, e0, _, _⟩ := DataW.trod_int Tryz.underlying3 h0
    obtain ⟨la, ll, lc, rs, e1, L, hll, hlc, m1, hq⟩ := inner_rowB (α := Int × Wc.Sc × Tm.Txt) (m := 3) Wc.cellsR (RawQ W) (fun _ => rfl) Tryz.underlying42 Tryz.cellsRaw h1 one_rawB
    obtain ⟨n2, e2, _, _⟩ := DataW.trod_int Tryz.underlying3 h2
    obtain ⟨n3, e3, _, w3⟩ := DataW.trod_int Tryz.underlying5 h3
    obtain ⟨oa, ol, oc, os, e4, B4, holc, room4⟩ := inner_bytes Tryz.underlying37 Tryz.underlying5 Tryz.cellsByte h4
    obtain ⟨cat, ka, kl, kc, ks, e5, hcat, K5, hkl, m5⟩ := one_crash _ _ _ h5
    have m4 := room_bulk room4
    have e0 : a = .int .i64 n0 := by simpa using e0
    have e1 : b = .slice la ll lc := by simpa using e1
    have e2 : c = .int .i64 n2 := by simpa using e2
    have e3 : d = .int .u8 n3 := by simpa using e3
    have e4 : e = .slice oa ol oc := by simpa using e4
    have e5 : [f, g] = [.int .i64 cat, .slice ka kl kc] := e5
    obtain ⟨e5, e6⟩ := List.cons.inj e5
    have e6 := (List.cons.inj e6).1
    have b0 := bulk_one y0.1
    have b1 := bulk_one y1.1
    have b2 := bulk_one y2.1
    have b3 := bulk_one y3.1
    have b4 := bulk_one y4.1
    have b5 := bulk_one y5.1
    have eb : Rows.uptoBulk y.1 = Rows.uptoBulk y0.1 + (Rows.uptoBulk y1.1 + (Rows.uptoBulk y2.1 + (Rows.uptoBulk y3.1 + (Rows.uptoBulk y4.1 + (Rows.uptoBulk y5.1 + 0))))) + 1 := by
      rw [hy]; simp only [Rows.uptoBulk, Rows.uptoBulkAll]
    subst hll
    refine ⟨⟨⟨n0, la, lc, rs, n2, UInt8.ofNat n3.toNat, oa, ol, oc, os, cat, ka, kl, kc, ks⟩, by rw [e0, e1, e2, e3, e4, e5, e6, Wd.OpI.cells, bv_of w3], ⟨L, fun r hr => ?_⟩, ?_, fun r hr => ?_, B4, ?_, hcat, K5, hkl, ?_⟩, by omega⟩
    · obtain ⟨i, hi, rfl⟩ := List.mem_iff_getElem.mp hr
      obtain ⟨z, _, B, _⟩ := hq i hi
      exact B
    · show rs.length * 3 ≤ _
      omega
    · obtain ⟨i, hi, rfl⟩ := List.mem_iff_getElem.mp hr
      obtain ⟨z, hz, _, B⟩ := hq i hi
      have B : rs[i].2.1.l ≤ _ := B
      show rs[i].2.1.l ≤ _
      omega
    · show ol ≤ _
      omega
    · show kl ≤ _
      omega
theorem laid_met (os : Os) : laidMet Tryz.prog Rows.walPlaysUptoRow.laid ((laidWorld os).forCall (fun _ _ => 0) ⟨#[], #[.int .i64 0, .slice none 0 0], []⟩).memory :=
  laidMet_of_run' 8 (by kernel_rfl) (by kernel_rfl)
theorem reads (os : Os) {H : Type} (enc : TypeId × Value → H) : ∃ places, DataW.whole enc Tryz.prog ((laidWorld os).forCall (fun _ _ => 0) ⟨#[], #[.int .i64 0, .slice none 0 0], []⟩).memory Tryz.f3.params.toList Rows.walPlaysSpec.vars false #[Value.int .i64 0, .slice none 0 0].toList 8 = some ([.lit (.int .i64 0), .nil], [], places) :=
  ⟨[], by kernel_rfl⟩
set_option maxRecDepth 100000 in
theorem wplay_lifted (os : Os) (started : os.Started) (H : Type) (enc : TypeId × Value → H) (F : Stop.Interp) :
    ReturnsInHanded {} Tryz.checked os 3 .any ((Rows.OpenSpec.upto Rows.walPlaysSpec).preRow enc Tryz.prog Tryz.f3 Rows.walPlaysUptoRow.domain false Rows.walPlaysUptoRow.laid) (((Rows.OpenSpec.upto Rows.walPlaysSpec).at F).post enc Tryz.prog Tryz.f3 false true false false) := by
  obtain ⟨places, hx⟩ := reads os enc
  refine lifted_rowU (C := Tryz.checked) (P := Tryz.prog) (s := Rows.walPlaysSpec) (tb := 4) rfl Tryz.own started (by kernel_rfl) Tryz.func3
    (witness_row_at (enc := enc) (C := Tryz.checked) false (laidWorld os) #[.int .i64 0, .slice none 0 0] rfl (by kernel_rfl) (by kernel_rfl) (by kernel_rfl)
      (OpenSpec.preRow_of_cond 8 hx (by kernel_rfl) (fun k hk => by cases hk; kernel_rfl) (by kernel_rfl) (laid_met os)))
    Tryz.laidOut (by kernel_rfl) (by kernel_rfl) Tryz.underlying4 rfl ?_ ?_
  · intro ds hl
    rw [Tryz.params3] at hl
    match ds, hl with
    | [_, _], _ => exact ⟨rfl, rfl, rfl⟩
  · intro W base args ds ps hval hA hsz hL hB
    rw [Tryz.params3] at hA hval
    obtain ⟨v0, v1, d0, d1, p0, p1, rfl, rfl, rfl, h0, h1⟩ := trodAll_two hA
    obtain ⟨n, rfl, rfl, rfl, _⟩ := open_int Tryz.underlying3 (hval 0 3 v0 rfl rfl) h0
    obtain ⟨a1, l1, c1, xs, rfl, B1, he, hlc1, most, hq⟩ := open_rowB (α := Wd.OpI) (m := 7) Wd.OpI.cells (OpQ W) (fun _ => rfl) Tryz.underlying22 Tryz.cellsOp5 (hval 1 22 v1 rfl rfl) h1 one_op5
    simp only [Rows.uptoBulkAll] at hB
    subst he
    refine Wd.WalPlays_spec (tables hL) B1 (fun o ho => ?_) true_mk
    obtain ⟨i, hi, rfl⟩ := List.mem_iff_getElem.mp ho
    obtain ⟨y, hby, x1, x2, x3, x4, x5, x6, x7, x8, x9⟩ := hq i hi
    exact ⟨x1, by omega, fun r hr => by have := x3 r hr; omega, x4, by omega, x6, x7, x8, by omega⟩
theorem wplay_said : Rows.WalPlaysUptoSaid :=
  OpenClaim.holds_of_cond 3 Tryz.f3 rfl rfl rfl rfl rfl rfl rfl ⟨rfl, rfl, rfl, rfl, rfl⟩ rfl rfl rfl rfl rfl (by kernel_rfl) Tryz.func3 (by kernel_rfl)
    (of_decide_eq_true (by kernel_rfl)) (by unfold Func.isWrapper; first | (rw [if_pos (by decide +kernel)]; kernel_rfl) | (rw [if_neg (by decide +kernel)]; exact ⟨rfl, rfl⟩))
    (fun os started H enc _ F => by rw [OpenClaim.pre_eq_preRow]; exact wplay_lifted os started H enc F)
theorem wplay_plain (f : FuncId) (fn : Func) (hf : Tryz.pinned.checked.prog.funcNamed "bole/bolelaw05.WalPlays" = some f) (hfn : Tryz.pinned.checked.prog.funcs[f]? = some fn) :
    true = Tryz.pinned.checked.prog.looks [] ∧ ∀ (j : Nat) t, fn.params[j]? = some t → Tryz.pinned.checked.prog.wantsStandIn t = false := by
  obtain rfl : f = 3 := Option.some.inj ((show Tryz.prog.funcNamed "bole/bolelaw05.WalPlays" = some 3 by kernel_rfl).symm.trans hf) |>.symm
  obtain rfl : fn = Tryz.f3 := (Option.some.inj (Tryz.func3.symm.trans hfn)).symm
  refine ⟨by kernel_rfl, fun j t ht => ?_⟩
  rw [Tryz.params3] at ht
  have := Array.mem_of_getElem? ht
  have : t = 3 ∨ t = 22 := by simpa using this
  rcases this with rfl | rfl
  · exact (show Tryz.prog.wantsStandIn 3 = false by kernel_rfl)
  · exact (show Tryz.prog.wantsStandIn 22 = false by kernel_rfl)
theorem walPlays_card : Rows.WalPlaysUptoCardSaid :=
  Claim7.holds_tied_plain_at .later [] _ _ _ _ wplay_said (fun _ h => by cases h) (by kernel_rfl) (fun _ h => by cases h) walPlaysUpto_row_tie rfl ⟨rfl, rfl⟩ (by kernel_rfl) rfl wplay_plain (by kernel_rfl)
end Go.Proofs.YtjdcbblgaoogmaaGreatDoor
