/-
  PATHS: the loops of PathOwn.
-/
import Derived.Test.YtgpkcakanieodaaPaK
namespace Go.Proofs.Ytgpkcakanieodaa.Pa
open Go Go.Proofs Go.Proofs.Ytgpkcakanieodaa.Wx Go.Proofs.Ytgpkcakanieodaa.Hp Go.Proofs.Ytgpkcakanieodaa.W Go.Proofs.Ytgpkcakanieodaa.Sk Go.Proofs.Ytgpkcakanieodaa.Ch Go.Proofs.Ytgpkcakanieodaa.Rg Go.Proofs.Ytgpkcakanieodaa.Rz

variable {h0 hh h' : Heap} {col col' : Nat → Nat} {d : Rs}
theorem upd_ge' {col : Nat → Nat} {n k b : Nat} (h : n ≤ b) : upd col n k b = k := by unfold upd; rw [if_neg (by omega)]
/-- the marks -/
theorem own_mark {K : Value → Heap → Prop} {NEXT : Heap → Prop} (s : St h0 hh col d) (hg : d.gs = []) (ll : ∀ i (hi : i < d.ls.length), d.ls[i].l ≤ 32)
    (hN : ∀ h' col' ws, St h0 h' col' { d with ws := ws } → (∀ i (h1 : i < d.ls.length) (h2 : i < ws.length), ws[i] = List.replicate d.ls[i].l (markV i)) → NEXT h') :
    ∃ (I4 : Int → Heap → Prop) (M4 : Int → Heap → Nat), I4 0 hh ∧
  ∀ (n6 : Int), ∀ h17 : Heap, I4 n6 h17 →
  bif (decide (n6 < (d.ls.length : Int))) then (
  (0 ≤ n6 ∧ n6 < (d.ls.length : Int)) ∧
  onSome d.lA fun p4 =>
  ∃ (sA10 : Option Addr) (sL10 : Nat) (sC10 : Nat), cellOf h17 (Addr.add p4 (Int.toNat n6)) = some (.slice sA10 sL10 sC10) ∧
  ∃ (I5 : Int → Heap → Prop) (M5 : Int → Heap → Nat), I5 0 h17 ∧
  ∀ (n7 : Int), ∀ h18 : Heap, I5 n7 h18 →
  bif (decide (n7 < (sL10 : Int))) then (
  C.bolelaw13_mark n6 h18 fun r6 h19 =>
  ∃ (s4 : ByteArray), r6 = .string s4 ∧
  (0 ≤ n7 ∧ n7 < (sL10 : Int)) ∧
  onSome sA10 fun p5 =>
  Put (Addr.add p5 (Int.toNat n7)) (.string s4) h19 fun h20 =>
  I5 (IntKind.wrap .i64 (n7 + 1)) h20 ∧ M5 (IntKind.wrap .i64 (n7 + 1)) h20 < M5 n7 h18) else (
  I4 (IntKind.wrap .i64 (n6 + 1)) h18 ∧ M4 (IntKind.wrap .i64 (n6 + 1)) h18 < M4 n6 h17)) else NEXT h17 := by
  have l9 := s.l9
  refine ⟨fun n h => 0 ≤ n ∧ n ≤ d.ls.length ∧ ∃ col ws, St h0 h col { d with ws := ws } ∧ ∀ i (h1 : i < d.ls.length) (h2 : i < ws.length), i < n.toNat → ws[i] = List.replicate d.ls[i].l (markV i), fun n _ => ((d.ls.length : Int) - n).toNat,
    ⟨by omega, by omega, col, d.ws, s, fun i _ _ h => absurd h (Nat.not_lt_zero _)⟩, ?_⟩
  rintro n h24 ⟨z0, z1, col1, vs, t, hv⟩
  refine cd (fun hn => ?_) fun hn => hN h24 col1 vs t fun i h1 h2 => hv i h1 h2 (by omega)
  have i2 : n.toNat < d.ls.length := by omega
  have tl : d.ls.length = vs.length := t.lists.len
  have i3 : n.toNat < vs.length := by omega
  obtain ⟨p, e, cc⟩ := t.lists.cell i2
  have e : d.lA = some p := e
  have cc : cellOf h24 (Addr.add p n.toNat) = some (.slice d.ls[n.toNat].a d.ls[n.toNat].l d.ls[n.toNat].c) := cc
  have hll := ll n.toNat i2
  have vl : vs[n.toNat].length = d.ls[n.toNat].l := t.lists.len_at i2 i3
  refine ⟨⟨z0, hn⟩, oe e ⟨_, _, _, cc, fun j h => 0 ≤ j ∧ j ≤ d.ls[n.toNat].l ∧ ∃ col, St h0 h col { d with ws := vs.set n.toNat (List.replicate j.toNat (markV n.toNat) ++ vs[n.toNat].drop j.toNat) }, fun j _ => ((d.ls[n.toNat].l : Int) - j).toNat,
    ⟨by omega, by omega, col1, ?_⟩, ?_⟩⟩
  · rw [show vs.set n.toNat (List.replicate (0 : Int).toNat (markV n.toNat) ++ vs[n.toNat].drop (0 : Int).toNat) = vs from List.set_getElem_self i3]
    exact t
  rintro j h25 ⟨j0, j1, col2, t25⟩
  refine cd (fun hj => ?_) fun hj => ?_
  · refine mark_spec z0 (by omega) fun h26 f26 => ⟨_, rfl, ⟨j0, hj⟩, ?_⟩
    have t26 := t25.quiet f26
    generalize upd col2 h25.size 0 = col3 at t26
    have it := t26.lists.at_ n.toNat i2 (show n.toNat < (vs.set n.toNat _).length by rw [List.length_set]; exact i3)
    have it : Sl h26 1 d.ls[n.toNat].a d.ls[n.toNat].l d.ls[n.toNat].c (List.replicate j.toNat (markV n.toNat) ++ vs[n.toNat].drop j.toNat) (On col3 (10 + n.toNat)) := by
      have : (vs.set n.toNat (List.replicate j.toNat (markV n.toNat) ++ vs[n.toNat].drop j.toNat))[n.toNat]'(by rw [List.length_set]; exact i3) = _ := List.getElem_set_self _
      rw [← this]; exact it
    obtain ⟨pp, ep, _⟩ := it.get (by omega)
    rw [ep] at it
    obtain ⟨pb, po, ps⟩ := pp
    have eps : ps = none := it.2.1
    subst eps
    have hF : On col3 (10 + n.toNat) pb := it.2.2.1
    obtain ⟨w, wl'⟩ := it.wr
    rw [ep, wrap_i64 (n := j + 1) (by omega) (by omega)]
    refine os (Put.add w (by omega) fun h27 d27 => ?_)
    have s27 := it.putAt (j := j.toNat) (new := [markV n.toNat]) (by rw [List.length_singleton]; omega) d27
    have ex : put (List.replicate j.toNat (markV n.toNat) ++ vs[n.toNat].drop j.toNat) j.toNat [markV n.toNat] = List.replicate (j + 1).toNat (markV n.toNat) ++ vs[n.toNat].drop (j + 1).toNat := by
      rw [show (j + 1).toNat = j.toNat + 1 by omega, ← set_here _ _ _ (by omega)]; rfl
    rw [ex, ← ep] at s27
    have f27 : Fr (On col3 (10 + n.toNat)) h26 h27 := (Fr.refl _ _).did d27 fun _ => hF
    have t27 := t26.write (i := n.toNat) hg i2 f27 s27
    simp only [List.set_set] at t27
    exact ⟨⟨by omega, by omega, col3, t27⟩, falls hj⟩
  · have ej : j.toNat = d.ls[n.toNat].l := by omega
    rw [ej, List.drop_of_length_le (by omega), List.append_nil] at t25
    rw [wrap_i64 (n := n + 1) (by omega) (by omega)]
    refine ⟨⟨by omega, by omega, col2, _, t25, fun i h1 h2 hi => ?_⟩, falls hn⟩
    have h2' : i < vs.length := by rw [List.length_set] at h2; exact h2
    by_cases ei : n.toNat = i
    · subst ei; rw [List.getElem_set_self]
    · rw [List.getElem_set_ne ei]; exact hv i h1 h2' (by omega)
/-- more behind each -/
theorem own_long {K : Value → Heap → Prop} {NEXT : Option Addr → Nat → Nat → Heap → Prop} (s : St h0 hh col d) (e1 : d.gA = none) (e2 : d.gC = 0) (e3 : d.gs = []) (e4 : d.gv = []) (ll : ∀ i (hi : i < d.ls.length), d.ls[i].l ≤ 32)
    (hw : ∀ i (h1 : i < d.ls.length) (h2 : i < d.ws.length), d.ws[i] = List.replicate d.ls[i].l (markV i))
    (hN : ∀ h' col' gA gC gs gv, St h0 h' col' { d with gA := gA, gC := gC, gs := gs, gv := gv } → gs.length = d.ls.length → (∀ i (h1 : i < d.ls.length) (h2 : i < gs.length), gs[i].l = d.ls[i].l + 2) → (∀ i (h1 : i < gs.length) (h2 : i < gv.length), gv[i] = List.replicate gs[i].l (markV i)) → NEXT gA gs.length gC h') :
  ∃ (I6 : Option Addr → Nat → Nat → Int → Heap → Prop) (M6 : Option Addr → Nat → Nat → Int → Heap → Nat), I6 none 0 0 0 hh ∧
  ∀ (longsA1 : Option Addr) (longsL1 : Nat) (longsC1 : Nat) (n8 : Int), ∀ h21 : Heap, I6 longsA1 longsL1 longsC1 n8 h21 →
  bif (decide (n8 < (d.ls.length : Int))) then (
  (0 ≤ n8 ∧ n8 < (d.ls.length : Int)) ∧
  onSome d.lA fun p6 =>
  ∃ (sA11 : Option Addr) (sL11 : Nat) (sC11 : Nat), cellOf h21 (Addr.add p6 (Int.toNat n8)) = some (.slice sA11 sL11 sC11) ∧
  C.bolelaw13_mark n8 h21 fun r7 h22 =>
  ∃ (s5 : ByteArray), r7 = .string s5 ∧
  C.bolelaw13_mark n8 h22 fun r8 h23 =>
  ∃ (s6 : ByteArray), r8 = .string s6 ∧
  New [.string s5, .string s6] 9 h23 fun h24 =>
  ∃ new4 : List Value, List.length new4 = 2 * 1 ∧ SlCells h24 (some ⟨h23.size, 0, none⟩) new4 ∧ (∀ v ∈ new4, v.oneCell' = true) ∧
  AppendP ti9 9 sA11 sL11 sC11 2 new4 h24 fun sA12 sL12 sC12 h25 =>
  New [.slice sA12 sL12 sC12] 42 h25 fun h26 =>
  ∃ new5 : List Value, List.length new5 = 1 * 1 ∧ SlCells h26 (some ⟨h25.size, 0, none⟩) new5 ∧ (∀ v ∈ new5, v.oneCell' = true) ∧
  AppendP ti42 42 longsA1 longsL1 longsC1 1 new5 h26 fun sA13 sL13 sC13 h27 =>
  I6 sA13 sL13 sC13 (IntKind.wrap .i64 (n8 + 1)) h27 ∧ M6 sA13 sL13 sC13 (IntKind.wrap .i64 (n8 + 1)) h27 < M6 longsA1 longsL1 longsC1 n8 h21) else NEXT longsA1 longsL1 longsC1 h21 := by
  have l9 := s.l9
  refine ⟨fun A L C n h => 0 ≤ n ∧ n ≤ d.ls.length ∧ ∃ col gs gv, St h0 h col { d with gA := A, gC := C, gs := gs, gv := gv } ∧ gs.length = n.toNat ∧ L = gs.length ∧ (∀ i (h1 : i < d.ls.length) (h2 : i < gs.length), gs[i].l = d.ls[i].l + 2) ∧ (∀ i (h1 : i < gs.length) (h2 : i < gv.length), gv[i] = List.replicate gs[i].l (markV i)), fun _ _ _ n _ => ((d.ls.length : Int) - n).toNat,
    ⟨by omega, by omega, col, [], [], by rw [← e1, ← e2, ← e3, ← e4]; exact s, rfl, rfl, fun i _ h => absurd h (Nat.not_lt_zero _), fun i h => absurd h (Nat.not_lt_zero _)⟩, ?_⟩
  rintro A L C n h21 ⟨z0, z1, col, gs, gv, t, hgl, rfl, hl, hv⟩
  refine cd (fun hn => ?_) fun hn => hN h21 col A C gs gv t (by omega) hl hv
  have i2 : n.toNat < d.ls.length := by omega
  have tl : d.ls.length = d.ws.length := t.lists.len
  have tg : gs.length = gv.length := t.longs.len
  obtain ⟨p, e, cc⟩ := t.lists.cell i2
  have e : d.lA = some p := e
  have cc : cellOf h21 (Addr.add p n.toNat) = some (.slice d.ls[n.toNat].a d.ls[n.toNat].l d.ls[n.toNat].c) := cc
  have hll := ll n.toNat i2
  rw [wrap_i64 (n := n + 1) (by omega) (by omega)]
  refine ⟨⟨z0, hn⟩, oe e ⟨_, _, _, cc, mark_spec z0 (by omega) fun h22 f22 => ⟨_, rfl, mark_spec z0 (by omega) fun h23 f23 => ⟨_, rfl, New.intro fun h31 n31 => ⟨[markV n.toNat, markV n.toNat], rfl, cellsAll n31.rd, one2 rfl rfl, ?_⟩⟩⟩⟩⟩
  have t31 := t.quiet ((f22.no f23).new n31)
  generalize upd col h21.size 0 = col31 at t31
  have it := t31.lists.at_ n.toNat i2 (show n.toNat < d.ws.length by omega)
  have it : Sl h31 1 d.ls[n.toNat].a d.ls[n.toNat].l d.ls[n.toNat].c (d.ws[n.toNat]'(by omega)) (On col31 (10 + n.toNat)) := it
  have hbytes : (ti9).bytes = 16 := rfl
  refine append_both (elem := ti9) it rfl rfl (by rw [hbytes]; omega) (by omega) fun a7 c7 h32 f32 s32 o32 => ?_
  have t32 := t31.app i2 (show n.toNat < d.ws.length by omega) (show gs.length ≤ n.toNat by omega) f32 o32
  have hs32 := f32.size
  have x32 : Sl h32 1 a7 (d.ls[n.toNat].l + 2) c7 (List.replicate (d.ls[n.toNat].l + 2) (markV n.toNat)) (On (upd col31 h31.size (10 + n.toNat)) (10 + n.toNat)) := by
    have e5 : d.ws[n.toNat]'(by omega) ++ [markV n.toNat, markV n.toNat] = List.replicate (d.ls[n.toNat].l + 2) (markV n.toNat) := by
      rw [hw n.toNat i2 (by omega), List.replicate_succ', List.replicate_succ', List.append_assoc]; rfl
    rw [← e5]
    refine (show Sl h32 1 a7 (d.ls[n.toNat].l + 2) c7 _ _ from s32).mono fun b hb => ?_
    show upd col31 h31.size (10 + n.toNat) b = _
    rcases hb with hb | hb
    · have hb : col31 b = 10 + n.toNat := hb
      unfold upd
      split
      · exact hb
      · rfl
    · exact upd_ge' hb
  generalize upd col31 h31.size (10 + n.toNat) = col32 at t32 x32
  refine New.intro fun h33 n33 => ⟨[.slice a7 (d.ls[n.toNat].l + 2) c7], rfl, cellsAll n33.rd, fun v hv => by rw [List.mem_singleton.mp hv]; rfl, ?_⟩
  have t33 := t32.quiet n33.fr
  have x33 := Rz.Sl.keep' x32 n33.fr (ag_upd col32 h32.size 0) fun _ _ _ x => x
  generalize upd col32 h32.size 0 = col33 at t33 x33
  have row := t33.longs.row
  have hbytes2 : (ti42).bytes = 24 := rfl
  refine append_col (elem := ti42) (show Sl h33 (ti42).cells A gs.length C (gs.map Sc.v) (On col33 4) from row) rfl rfl (by rw [hbytes2]; omega) (by omega) fun a8 c8 h34 f34 s34 => ?_
  have t34 := t33.gpush (x := ⟨a7, d.ls[n.toNat].l + 2, c7⟩) (xv := List.replicate (d.ls[n.toNat].l + 2) (markV n.toNat)) (a' := a8) (c' := c8) (show gs.length < 9 by omega) f34 s34 (by rw [show (10 + ({ d with gA := A, gC := C, gs := gs, gv := gv } : Rs).gs.length) = 10 + n.toNat from by show 10 + gs.length = _; omega]; exact x33)
  refine ⟨⟨by omega, by omega, _, gs ++ [⟨a7, d.ls[n.toNat].l + 2, c7⟩], gv ++ [List.replicate (d.ls[n.toNat].l + 2) (markV n.toNat)], t34, by rw [List.length_append, List.length_singleton]; omega, by rw [List.length_append, List.length_singleton], fun i h1 h2 => ?_, fun i h1 h2 => ?_⟩, falls hn⟩
  · rw [List.length_append, List.length_singleton] at h2
    by_cases hi : i < gs.length
    · rw [List.getElem_append_left hi]; exact hl i h1 hi
    · have : i = n.toNat := by omega
      subst this
      rw [List.getElem_append_right (by omega)]
      simp only [hgl, Nat.sub_self, List.getElem_singleton]
  · rw [List.length_append, List.length_singleton] at h1 h2
    by_cases hi : i < gs.length
    · have hi2 : i < gv.length := by omega
      simp only [List.getElem_append_left hi, List.getElem_append_left hi2]; exact hv i hi hi2
    · have : i = n.toNat := by omega
      subst this
      have hgv : gv.length = n.toNat := by omega
      rw [List.getElem_append_right (by omega)]
      simp only [List.getElem_append_right (show gs.length ≤ n.toNat by omega), hgl, hgv, Nat.sub_self, List.getElem_singleton]
/-- every mark is where it was put -/
theorem own_see {K : Value → Heap → Prop} {NEXT : Heap → Prop} (s : St h0 hh col d) (hg : d.gs.length = d.ls.length) (ll : ∀ i (hi : i < d.ls.length), d.ls[i].l ≤ 32) (gl : ∀ i (h1 : i < d.ls.length) (h2 : i < d.gs.length), d.gs[i].l = d.ls[i].l + 2)
    (hw : ∀ i (h1 : i < d.ls.length) (h2 : i < d.ws.length), d.ws[i] = List.replicate d.ls[i].l (markV i)) (hov : ∀ i (h1 : i < d.gs.length) (h2 : i < d.gv.length), d.gv[i] = List.replicate d.gs[i].l (markV i)) (hN : ∀ h', Fr No hh h' → NEXT h') :
  ∃ (I7 : Int → Heap → Prop) (M7 : Int → Heap → Nat), I7 0 hh ∧
  ∀ (n9 : Int), ∀ h28 : Heap, I7 n9 h28 →
  bif (decide (n9 < (d.gs.length : Int))) then (
  (0 ≤ n9 ∧ n9 < (d.gs.length : Int)) ∧
  onSome d.gA fun p7 =>
  ∃ (sA14 : Option Addr) (sL14 : Nat) (sC14 : Nat), cellOf h28 (Addr.add p7 (Int.toNat n9)) = some (.slice sA14 sL14 sC14) ∧
  ∃ (I8 : Int → Heap → Prop) (M8 : Int → Heap → Nat), I8 0 h28 ∧
  ∀ (n10 : Int), ∀ h29 : Heap, I8 n10 h29 →
  bif (decide (n10 < (sL14 : Int))) then (
  (0 ≤ n10 ∧ n10 < (sL14 : Int)) ∧
  onSome sA14 fun p8 =>
  ∃ (s7 : ByteArray), cellOf h29 (Addr.add p8 (Int.toNat n10)) = some (.string s7) ∧
  C.bolelaw13_mark n9 h29 fun r9 h30 =>
  ∃ (s8 : ByteArray), r9 = .string s8 ∧
  bif (!(s7.toList == s8.toList)) then (
  K (.bool false) h30) else (
  (0 ≤ n9 ∧ n9 < (d.ls.length : Int)) ∧
  onSome d.lA fun p9 =>
  ∃ (sA15 : Option Addr) (sL15 : Nat) (sC15 : Nat), cellOf h30 (Addr.add p9 (Int.toNat n9)) = some (.slice sA15 sL15 sC15) ∧
  bif (decide (n10 < (sL15 : Int))) then (
  (0 ≤ n9 ∧ n9 < (d.ls.length : Int)) ∧
  onSome d.lA fun p10 =>
  ∃ (sA16 : Option Addr) (sL16 : Nat) (sC16 : Nat), cellOf h30 (Addr.add p10 (Int.toNat n9)) = some (.slice sA16 sL16 sC16) ∧
  (0 ≤ n10 ∧ n10 < (sL16 : Int)) ∧
  onSome sA16 fun p11 =>
  ∃ (s9 : ByteArray), cellOf h30 (Addr.add p11 (Int.toNat n10)) = some (.string s9) ∧
  bif (!(s9.toList == s7.toList)) then (
  K (.bool false) h30) else (
  I8 (IntKind.wrap .i64 (n10 + 1)) h30 ∧ M8 (IntKind.wrap .i64 (n10 + 1)) h30 < M8 n10 h29)) else (
  I8 (IntKind.wrap .i64 (n10 + 1)) h30 ∧ M8 (IntKind.wrap .i64 (n10 + 1)) h30 < M8 n10 h29))) else (
  I7 (IntKind.wrap .i64 (n9 + 1)) h29 ∧ M7 (IntKind.wrap .i64 (n9 + 1)) h29 < M7 n9 h28)) else NEXT h28 := by
  have l9 := s.l9
  have lw := s.lists.len
  have lo := s.longs.len
  refine ⟨fun n h => 0 ≤ n ∧ n ≤ d.gs.length ∧ Fr No hh h, fun n _ => ((d.gs.length : Int) - n).toNat, ⟨by omega, by omega, Fr.refl _ _⟩, ?_⟩
  rintro n h28 ⟨z0, z1, f28⟩
  refine cd (fun hn => ?_) fun _ => hN h28 f28
  have i1 : n.toNat < d.gs.length := by omega
  have i2 : n.toNat < d.ls.length := by omega
  have s28 := s.quiet f28
  obtain ⟨p, e, cc⟩ := s28.longs.cell i1
  have hol := gl n.toNat i2 i1
  have hll := ll n.toNat i2
  refine ⟨⟨z0, hn⟩, oe e ⟨_, _, _, cc, fun j h => 0 ≤ j ∧ j ≤ d.gs[n.toNat].l ∧ Fr No hh h, fun j _ => ((d.gs[n.toNat].l : Int) - j).toNat, ⟨by omega, by omega, f28⟩, ?_⟩⟩
  rintro j h29 ⟨j0, j1, f29⟩
  refine cd (fun hj => ?_) fun hj => ?_
  · have s29 := s.quiet f29
    obtain ⟨pi, ei, ci⟩ := s29.longs.item i1 (by omega) (j := j.toNat) (by omega) (v := markV n.toNat) (by rw [hov _ i1 (by omega)]; exact rep_get (by omega))
    refine ⟨⟨j0, hj⟩, oe ei ⟨_, ci, mark_spec z0 (by omega) fun h30 f30 => ⟨_, rfl, ?_⟩⟩⟩
    have f30' := f29.no f30
    have s30 := s.quiet f30'
    obtain ⟨q, eq, cq⟩ := s30.lists.cell i2
    have nx : (0 ≤ IntKind.wrap .i64 (j + 1) ∧ IntKind.wrap .i64 (j + 1) ≤ d.gs[n.toNat].l ∧ Fr No hh h30) ∧ ((d.gs[n.toNat].l : Int) - IntKind.wrap .i64 (j + 1)).toNat < ((d.gs[n.toNat].l : Int) - j).toNat := by
      rw [wrap_i64 (n := j + 1) (by omega) (by omega)]
      exact ⟨⟨by omega, by omega, f30'⟩, falls hj⟩
    refine bne_txt (fun x => absurd rfl x) fun _ => ⟨⟨z0, by omega⟩, oe eq ⟨_, _, _, cq, cd (fun hj2 => ?_) fun _ => nx⟩⟩
    obtain ⟨pl, el, cl⟩ := s30.lists.item i2 (by omega) (j := j.toNat) (by omega) (v := markV n.toNat) (by rw [hw _ i2 (by omega)]; exact rep_get (by omega))
    exact ⟨⟨z0, by omega⟩, oe eq ⟨_, _, _, cq, ⟨j0, hj2⟩, oe el ⟨_, cl, bne_txt (fun x => absurd rfl x) fun _ => nx⟩⟩⟩
  · rw [wrap_i64 (n := n + 1) (by omega) (by omega)]
    exact ⟨⟨by omega, by omega, f29⟩, falls hn⟩
end Go.Proofs.Ytgpkcakanieodaa.Pa
