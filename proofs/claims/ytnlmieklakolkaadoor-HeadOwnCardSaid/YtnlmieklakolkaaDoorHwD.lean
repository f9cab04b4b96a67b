/-
  HeadOwn: the marks, and more behind each.
-/
import Derived.Test.YtnlmieklakolkaaDoorHwC
namespace Go.Proofs.YtnlmieklakolkaaDoor.Hd
open Go Go.Proofs Go.Proofs.YtnlmieklakolkaaDoor.Wx Go.Proofs.YtnlmieklakolkaaDoor.Hp Go.Proofs.YtnlmieklakolkaaDoor.W Go.Proofs.YtnlmieklakolkaaDoor.Su Go.Proofs.YtnlmieklakolkaaDoor.Re

variable {h0 hh h' : Heap} {col : Nat → Nat} {d : HD} {wA na ba : Option Addr} {wC bl nl nc bc : Nat} {wl : List Value} {ns : List Int} {ss : List Sc} {ds : List (List UInt8)}
theorem oe {α : Type} {a : Option α} {p : α} {k : α → Prop} (e : a = some p) (h : k p) : onSome a k := by rw [e]; exact h
theorem own_markH {NEXT : Heap → Prop} (s : Hs h0 hh col d wA wC wl na ns ba bl ss ds) (hg : d.gs = []) (ll : ∀ i (hi : i < d.hs.length), d.hs[i].l ≤ 512)
    (hN : ∀ h' vs, Hs h0 h' col { d with vs := vs } wA wC wl na ns ba bl ss ds → (∀ i (h1 : i < d.hs.length) (h2 : i < vs.length), vs[i] = List.replicate d.hs[i].l (mkH i)) → NEXT h') :
    ∃ (I3 : Int → Heap → Prop) (M3 : Int → Heap → Nat), I3 0 hh ∧ ∀ (n5 : Int), ∀ h24 : Heap, I3 n5 h24 →
      bif (decide (n5 < (d.hs.length : Int))) then ((0 ≤ n5 ∧ n5 < (d.hs.length : Int)) ∧ onSome d.hA fun p8 => ∃ (sA14 : Option Addr) (sL14 : Nat) (sC14 : Nat), cellOf h24 (Addr.add p8 (Int.toNat n5)) = some (.slice sA14 sL14 sC14) ∧
        ∃ (I4 : Int → Heap → Prop) (M4 : Int → Heap → Nat), I4 0 h24 ∧ ∀ (n6 : Int), ∀ h25 : Heap, I4 n6 h25 →
        bif (decide (n6 < (sL14 : Int))) then ((0 ≤ n6 ∧ n6 < (sL14 : Int)) ∧ onSome sA14 fun p9 => Put (Addr.add p9 (Int.toNat n6)) (.int .u8 (IntKind.wrap .u8 ((IntKind.wrap .i64 (10 + n5))))) h25 fun h26 =>
          I4 (IntKind.wrap .i64 (n6 + 1)) h26 ∧ M4 (IntKind.wrap .i64 (n6 + 1)) h26 < M4 n6 h25) else (I3 (IntKind.wrap .i64 (n5 + 1)) h25 ∧ M3 (IntKind.wrap .i64 (n5 + 1)) h25 < M3 n5 h24)) else NEXT h24 := by
  have n6 := s.n6
  refine ⟨fun n h => 0 ≤ n ∧ n ≤ 6 ∧ ∃ vs, Hs h0 h col { d with vs := vs } wA wC wl na ns ba bl ss ds ∧ ∀ i (h1 : i < d.hs.length) (h2 : i < vs.length), i < n.toNat → vs[i] = List.replicate d.hs[i].l (mkH i), fun n _ => ((6 : Nat) - n).toNat,
    ⟨by omega, by omega, d.vs, s, fun i _ _ h => absurd h (Nat.not_lt_zero _)⟩, ?_⟩
  rintro n h24 ⟨z0, z1, vs, t, hv⟩
  refine cd (fun hn => ?_) fun hn => ?_
  · have hn0 := hn
    have hn : n < 6 := by omega
    have i2 : n.toNat < d.hs.length := by omega
    have tl := t.heads.len
    have i3 : n.toNat < vs.length := by have tl : d.hs.length = vs.length := tl; omega
    obtain ⟨p, e, cc⟩ := t.heads.cell i2
    have e : d.hA = some p := e
    have cc : cellOf h24 (Addr.add p n.toNat) = some (.slice d.hs[n.toNat].a d.hs[n.toNat].l d.hs[n.toNat].c) := cc
    have hll := ll n.toNat i2
    have it : Sl h24 1 d.hs[n.toNat].a d.hs[n.toNat].l d.hs[n.toNat].c vs[n.toNat] (On col (10 + n.toNat)) := t.heads.at_ n.toNat i2 i3
    have vl : vs[n.toNat].length = d.hs[n.toNat].l := by have := it.1; omega
    have en : (10 : Int) + ((n.toNat : Nat) : Int) = 10 + n := by omega
    refine ⟨⟨z0, hn0⟩, oe e ⟨_, _, _, cc, fun j h => 0 ≤ j ∧ j ≤ d.hs[n.toNat].l ∧ Fr (On col (10 + n.toNat)) h24 h ∧ Sl h 1 d.hs[n.toNat].a d.hs[n.toNat].l d.hs[n.toNat].c (List.replicate j.toNat (mkH n.toNat) ++ vs[n.toNat].drop j.toNat) (On col (10 + n.toNat)), fun j _ => ((d.hs[n.toNat].l : Int) - j).toNat,
      ⟨by omega, by omega, Fr.refl _ _, it⟩, ?_⟩⟩
    rintro j h25 ⟨j0, j1, f25, w25⟩
    refine cd (fun hj => ?_) fun hj => ?_
    · obtain ⟨pp, ep, _⟩ := w25.get (by omega)
      rw [ep] at w25
      obtain ⟨pb, po, ps⟩ := pp
      have eps : ps = none := w25.2.1
      subst eps
      have hF : On col (10 + n.toNat) pb := w25.2.2.1
      have hj : j < (d.hs[n.toNat].l : Int) := hj
      obtain ⟨w, wl'⟩ := w25.wr
      rw [wrap_i64 (n := 10 + n) (by omega) (by omega), wrap_u8 (n := 10 + n) (by omega) (by omega), wrap_i64 (n := j + 1) (by omega) (by omega), ep]
      refine ⟨⟨j0, hj⟩, os (Put.add w (by omega) fun h26 d26 => ?_)⟩
      have s26 := w25.putAt (j := j.toNat) (new := [.int .u8 (10 + n)]) (by rw [List.length_singleton]; omega) d26
      have ex : put (List.replicate j.toNat (mkH n.toNat) ++ vs[n.toNat].drop j.toNat) j.toNat [.int .u8 (10 + n)] = List.replicate (j + 1).toNat (mkH n.toNat) ++ vs[n.toNat].drop (j + 1).toNat := by
        rw [show (j + 1).toNat = j.toNat + 1 by omega, ← set_here _ _ _ (by omega), mkH, en]; rfl
      rw [ex] at s26
      exact ⟨⟨by omega, by omega, f25.did d26 (fun _ => hF), s26⟩, falls hj⟩
    · have ej : j.toNat = d.hs[n.toNat].l := by have hj : ¬ j < (d.hs[n.toNat].l : Int) := hj; omega
      rw [ej, List.drop_of_length_le (by omega), List.append_nil] at w25
      rw [wrap_i64 (n := n + 1) (by omega) (by omega)]
      have t' : Hs h0 h25 col { d with vs := vs.set n.toNat (List.replicate d.hs[n.toNat].l (mkH n.toNat)) } wA wC wl na ns ba bl ss ds := t.head hg i2 f25 w25
      refine ⟨⟨by omega, by omega, vs.set n.toNat (List.replicate d.hs[n.toNat].l (mkH n.toNat)), t', fun i h1 h2 hi => ?_⟩, falls (m := 6) hn⟩
      have h2' : i < vs.length := by rw [List.length_set] at h2; exact h2
      by_cases ei : n.toNat = i
      · subst ei; rw [List.getElem_set_self]
      · rw [List.getElem_set_ne ei]; exact hv i h1 h2' (by omega)
  · have hn : ¬ n < 6 := by omega
    exact hN h24 vs t fun i h1 h2 => hv i h1 h2 (by omega)
theorem own_markL {NEXT : Heap → Prop} (s : Hs h0 hh col d wA wC wl na ns ba bl ss ds) (hg : d.os = []) (ll : ∀ i (hi : i < d.ls.length), d.ls[i].l ≤ 96)
    (hN : ∀ h' ws, Hs h0 h' col { d with ws := ws } wA wC wl na ns ba bl ss ds → (∀ i (h1 : i < d.ls.length) (h2 : i < ws.length), ws[i] = List.replicate d.ls[i].l (mkL i)) → NEXT h') :
    ∃ (I5 : Int → Heap → Prop) (M5 : Int → Heap → Nat), I5 0 hh ∧ ∀ (n7 : Int), ∀ h27 : Heap, I5 n7 h27 →
      bif (decide (n7 < (d.ls.length : Int))) then ((0 ≤ n7 ∧ n7 < (d.ls.length : Int)) ∧ onSome d.lA fun p10 => ∃ (sA15 : Option Addr) (sL15 : Nat) (sC15 : Nat), cellOf h27 (Addr.add p10 (Int.toNat n7)) = some (.slice sA15 sL15 sC15) ∧
        ∃ (I6 : Int → Heap → Prop) (M6 : Int → Heap → Nat), I6 0 h27 ∧ ∀ (n8 : Int), ∀ h28 : Heap, I6 n8 h28 →
        bif (decide (n8 < (sL15 : Int))) then ((0 ≤ n8 ∧ n8 < (sL15 : Int)) ∧ onSome sA15 fun p11 => Put (Addr.add p11 (Int.toNat n8)) (.int .i64 (IntKind.wrap .i64 ((-10) - n7))) h28 fun h29 =>
          I6 (IntKind.wrap .i64 (n8 + 1)) h29 ∧ M6 (IntKind.wrap .i64 (n8 + 1)) h29 < M6 n8 h28) else (I5 (IntKind.wrap .i64 (n7 + 1)) h28 ∧ M5 (IntKind.wrap .i64 (n7 + 1)) h28 < M5 n7 h27)) else NEXT h27 := by
  have n3 := s.n3
  refine ⟨fun n h => 0 ≤ n ∧ n ≤ 3 ∧ ∃ ws, Hs h0 h col { d with ws := ws } wA wC wl na ns ba bl ss ds ∧ ∀ i (h1 : i < d.ls.length) (h2 : i < ws.length), i < n.toNat → ws[i] = List.replicate d.ls[i].l (mkL i), fun n _ => ((3 : Nat) - n).toNat,
    ⟨by omega, by omega, d.ws, s, fun i _ _ h => absurd h (Nat.not_lt_zero _)⟩, ?_⟩
  rintro n h24 ⟨z0, z1, vs, t, hv⟩
  refine cd (fun hn => ?_) fun hn => ?_
  · have hn0 := hn
    have hn : n < 3 := by omega
    have i2 : n.toNat < d.ls.length := by omega
    have tl := t.lists.len
    have i3 : n.toNat < vs.length := by have tl : d.ls.length = vs.length := tl; omega
    obtain ⟨p, e, cc⟩ := t.lists.cell i2
    have e : d.lA = some p := e
    have cc : cellOf h24 (Addr.add p n.toNat) = some (.slice d.ls[n.toNat].a d.ls[n.toNat].l d.ls[n.toNat].c) := cc
    have hll := ll n.toNat i2
    have it : Sl h24 1 d.ls[n.toNat].a d.ls[n.toNat].l d.ls[n.toNat].c vs[n.toNat] (On col (20 + n.toNat)) := t.lists.at_ n.toNat i2 i3
    have vl : vs[n.toNat].length = d.ls[n.toNat].l := by have := it.1; omega
    have en : (-10 : Int) - ((n.toNat : Nat) : Int) = -10 - n := by omega
    refine ⟨⟨z0, hn0⟩, oe e ⟨_, _, _, cc, fun j h => 0 ≤ j ∧ j ≤ d.ls[n.toNat].l ∧ Fr (On col (20 + n.toNat)) h24 h ∧ Sl h 1 d.ls[n.toNat].a d.ls[n.toNat].l d.ls[n.toNat].c (List.replicate j.toNat (mkL n.toNat) ++ vs[n.toNat].drop j.toNat) (On col (20 + n.toNat)), fun j _ => ((d.ls[n.toNat].l : Int) - j).toNat,
      ⟨by omega, by omega, Fr.refl _ _, it⟩, ?_⟩⟩
    rintro j h25 ⟨j0, j1, f25, w25⟩
    refine cd (fun hj => ?_) fun hj => ?_
    · obtain ⟨pp, ep, _⟩ := w25.get (by omega)
      rw [ep] at w25
      obtain ⟨pb, po, ps⟩ := pp
      have eps : ps = none := w25.2.1
      subst eps
      have hF : On col (20 + n.toNat) pb := w25.2.2.1
      have hj : j < (d.ls[n.toNat].l : Int) := hj
      obtain ⟨w, wl'⟩ := w25.wr
      rw [wrap_i64 (n := -10 - n) (by omega) (by omega), wrap_i64 (n := j + 1) (by omega) (by omega), ep]
      refine ⟨⟨j0, hj⟩, os (Put.add w (by omega) fun h26 d26 => ?_)⟩
      have s26 := w25.putAt (j := j.toNat) (new := [.int .i64 (-10 - n)]) (by rw [List.length_singleton]; omega) d26
      have ex : put (List.replicate j.toNat (mkL n.toNat) ++ vs[n.toNat].drop j.toNat) j.toNat [.int .i64 (-10 - n)] = List.replicate (j + 1).toNat (mkL n.toNat) ++ vs[n.toNat].drop (j + 1).toNat := by
        rw [show (j + 1).toNat = j.toNat + 1 by omega, ← set_here _ _ _ (by omega), mkL, en]; rfl
      rw [ex] at s26
      exact ⟨⟨by omega, by omega, f25.did d26 (fun _ => hF), s26⟩, falls hj⟩
    · have ej : j.toNat = d.ls[n.toNat].l := by have hj : ¬ j < (d.ls[n.toNat].l : Int) := hj; omega
      rw [ej, List.drop_of_length_le (by omega), List.append_nil] at w25
      rw [wrap_i64 (n := n + 1) (by omega) (by omega)]
      have t' : Hs h0 h25 col { d with ws := vs.set n.toNat (List.replicate d.ls[n.toNat].l (mkL n.toNat)) } wA wC wl na ns ba bl ss ds := t.list hg i2 f25 w25
      refine ⟨⟨by omega, by omega, vs.set n.toNat (List.replicate d.ls[n.toNat].l (mkL n.toNat)), t', fun i h1 h2 hi => ?_⟩, falls (m := 3) hn⟩
      have h2' : i < vs.length := by rw [List.length_set] at h2; exact h2
      by_cases ei : n.toNat = i
      · subst ei; rw [List.getElem_set_self]
      · rw [List.getElem_set_ne ei]; exact hv i h1 h2' (by omega)
  · have hn : ¬ n < 3 := by omega
    exact hN h24 vs t fun i h1 h2 => hv i h1 h2 (by omega)
theorem own_longH {NEXT : Option Addr → Nat → Nat → Heap → Prop} (s : Hs h0 hh col d wA wC wl na ns ba bl ss ds) (e1 : d.gA = none) (e2 : d.gC = 0) (e3 : d.gs = []) (e4 : d.gv = []) (ll : ∀ i (hi : i < d.hs.length), d.hs[i].l ≤ 512)
    (hw : ∀ i (h1 : i < d.hs.length) (h2 : i < d.vs.length), d.vs[i] = List.replicate d.hs[i].l (mkH i))
    (hN : ∀ h' col' gA gC gs gv, Hs h0 h' col' { d with gA := gA, gC := gC, gs := gs, gv := gv } wA wC wl na ns ba bl ss ds → gs.length = 6 → (∀ i (h1 : i < d.hs.length) (h2 : i < gs.length), gs[i].l = d.hs[i].l + 2) → (∀ i (h1 : i < gs.length) (h2 : i < gv.length), gv[i] = List.replicate gs[i].l (mkH i)) → NEXT gA gs.length gC h') :
    ∃ (I7 : Option Addr → Nat → Nat → Int → Heap → Prop) (M7 : Option Addr → Nat → Nat → Int → Heap → Nat), I7 none 0 0 0 hh ∧ ∀ (longsA1 : Option Addr) (longsL1 : Nat) (longsC1 : Nat) (n9 : Int), ∀ h30 : Heap, I7 longsA1 longsL1 longsC1 n9 h30 →
      bif (decide (n9 < (d.hs.length : Int))) then ((0 ≤ n9 ∧ n9 < (d.hs.length : Int)) ∧ onSome d.hA fun p12 => ∃ (sA16 : Option Addr) (sL16 : Nat) (sC16 : Nat), cellOf h30 (Addr.add p12 (Int.toNat n9)) = some (.slice sA16 sL16 sC16) ∧
        New [.int .u8 (IntKind.wrap .u8 ((IntKind.wrap .i64 (10 + n9)))), .int .u8 (IntKind.wrap .u8 ((IntKind.wrap .i64 (10 + n9))))] 5 h30 fun h31 => ∃ new4 : List Value, List.length new4 = 2 * 1 ∧ SlCells h31 (some ⟨h30.size, 0, none⟩) new4 ∧ (∀ v ∈ new4, v.oneCell' = true) ∧
        AppendP ti5 5 sA16 sL16 sC16 2 new4 h31 fun sA17 sL17 sC17 h32 => New [.slice sA17 sL17 sC17] 26 h32 fun h33 => ∃ new5 : List Value, List.length new5 = 1 * 1 ∧ SlCells h33 (some ⟨h32.size, 0, none⟩) new5 ∧ (∀ v ∈ new5, v.oneCell' = true) ∧
        AppendP ti26 26 longsA1 longsL1 longsC1 1 new5 h33 fun sA18 sL18 sC18 h34 => I7 sA18 sL18 sC18 (IntKind.wrap .i64 (n9 + 1)) h34 ∧ M7 sA18 sL18 sC18 (IntKind.wrap .i64 (n9 + 1)) h34 < M7 longsA1 longsL1 longsC1 n9 h30) else NEXT longsA1 longsL1 longsC1 h30 := by
  have n6 := s.n6
  refine ⟨fun A L C n h => 0 ≤ n ∧ n ≤ 6 ∧ ∃ col gs gv, Hs h0 h col { d with gA := A, gC := C, gs := gs, gv := gv } wA wC wl na ns ba bl ss ds ∧ gs.length = n.toNat ∧ L = gs.length ∧ (∀ i (h1 : i < d.hs.length) (h2 : i < gs.length), gs[i].l = d.hs[i].l + 2) ∧ (∀ i (h1 : i < gs.length) (h2 : i < gv.length), gv[i] = List.replicate gs[i].l (mkH i)), fun _ _ _ n _ => ((6 : Nat) - n).toNat,
    ⟨by omega, by omega, col, [], [], by rw [← e1, ← e2, ← e3, ← e4]; exact s, rfl, rfl, fun i _ h => absurd h (Nat.not_lt_zero _), fun i h => absurd h (Nat.not_lt_zero _)⟩, ?_⟩
  rintro A L C n h30 ⟨z0, z1, col, gs, gv, t, hgl, rfl, hl, hv⟩
  refine cd (fun hn => ?_) fun hn => ?_
  rotate_left
  · have hn : ¬ n < 6 := by omega
    exact hN h30 col A C gs gv t (by omega) hl hv
  have hn0 := hn
  have hn : n < 6 := by omega
  have i2 : n.toNat < d.hs.length := by omega
  have tl : d.hs.length = d.vs.length := t.heads.len
  have tg : gs.length = gv.length := t.longs.len
  obtain ⟨p, e, cc⟩ := t.heads.cell i2
  have e : d.hA = some p := e
  have cc : cellOf h30 (Addr.add p n.toNat) = some (.slice d.hs[n.toNat].a d.hs[n.toNat].l d.hs[n.toNat].c) := cc
  have hll := ll n.toNat i2
  have en : (10 : Int) + ((n.toNat : Nat) : Int) = 10 + n := by omega
  rw [wrap_i64 (n := 10 + n) (by omega) (by omega), wrap_u8 (n := 10 + n) (by omega) (by omega), wrap_i64 (n := n + 1) (by omega) (by omega)]
  refine ⟨⟨z0, hn0⟩, oe e ⟨_, _, _, cc, New.intro fun h31 n31 => ⟨[mkH n.toNat, mkH n.toNat], rfl, by rw [mkH, en]; exact cellsAll n31.rd, one2 rfl rfl, ?_⟩⟩⟩
  have t31 := t.quiet n31.fr
  generalize upd col h30.size 0 = col31 at t31
  have it := t31.heads.at_ n.toNat i2 (show n.toNat < d.vs.length by omega)
  have it : Sl h31 1 d.hs[n.toNat].a d.hs[n.toNat].l d.hs[n.toNat].c (d.vs[n.toNat]'(by omega)) (On col31 (10 + n.toNat)) := it
  have hbytes : (ti5).bytes = 1 := rfl
  refine append_both (elem := ti5) it rfl rfl (by rw [hbytes]; omega) (by omega) fun a7 c7 h32 f32 s32 o32 => ?_
  have t32 := t31.happ i2 (show n.toNat < d.vs.length by omega) (show gs.length ≤ n.toNat by omega) f32 o32
  have hs32 := f32.size
  have x32 : Sl h32 1 a7 (d.hs[n.toNat].l + 2) c7 (List.replicate (d.hs[n.toNat].l + 2) (mkH n.toNat)) (On (upd col31 h31.size (10 + n.toNat)) (10 + n.toNat)) := by
    have e5 : d.vs[n.toNat]'(by omega) ++ [mkH n.toNat, mkH n.toNat] = List.replicate (d.hs[n.toNat].l + 2) (mkH n.toNat) := by
      rw [hw n.toNat i2 (by omega), List.replicate_succ', List.replicate_succ', List.append_assoc]; rfl
    rw [← e5]
    refine (show Sl h32 1 a7 (d.hs[n.toNat].l + 2) c7 _ _ from s32).mono fun b hb => ?_
    show upd col31 h31.size (10 + n.toNat) b = _
    rcases hb with hb | hb
    · have hb : col31 b = 10 + n.toNat := hb
      unfold upd
      split
      · exact hb
      · rfl
    · exact upd_ge hb
  generalize upd col31 h31.size (10 + n.toNat) = col32 at t32 x32
  refine New.intro fun h33 n33 => ⟨[.slice a7 (d.hs[n.toNat].l + 2) c7], rfl, cellsAll n33.rd, fun v hv => by rw [List.mem_singleton.mp hv]; rfl, ?_⟩
  have t33 := t32.quiet n33.fr
  have x33 := Sl.keep' x32 n33.fr (ag_upd col32 h32.size 0) fun _ _ _ x => x
  generalize upd col32 h32.size 0 = col33 at t33 x33
  have row := t33.longs.row
  have hbytes2 : (ti26).bytes = 24 := rfl
  refine append_col (elem := ti26) (show Sl h33 (ti26).cells A gs.length C (gs.map Sc.v) (On col33 4) from row) rfl rfl (by rw [hbytes2]; omega) (by omega) fun a8 c8 h34 f34 s34 => ?_
  have t34 := t33.gpush (x := ⟨a7, d.hs[n.toNat].l + 2, c7⟩) (xv := List.replicate (d.hs[n.toNat].l + 2) (mkH n.toNat)) (a' := a8) (c' := c8) (show gs.length < 6 by omega) f34 s34 (by rw [show (10 + ({ d with gA := A, gC := C, gs := gs, gv := gv } : HD).gs.length) = 10 + n.toNat from by show 10 + gs.length = _; omega]; exact x33)
  refine ⟨⟨by omega, by omega, _, gs ++ [⟨a7, d.hs[n.toNat].l + 2, c7⟩], gv ++ [List.replicate (d.hs[n.toNat].l + 2) (mkH n.toNat)], t34, by rw [List.length_append, List.length_singleton]; omega, by rw [List.length_append, List.length_singleton], fun i h1 h2 => ?_, fun i h1 h2 => ?_⟩, falls (m := 6) hn⟩
  · rw [List.length_append, List.length_singleton] at h2
    by_cases hi : i < gs.length
    · rw [List.getElem_append_left hi]; exact hl i h1 hi
    · have : i = n.toNat := by omega
      subst this
      rw [List.getElem_append_right (by omega)]
      simp only [hgl, Nat.sub_self, List.getElem_singleton]
  · rw [List.length_append, List.length_singleton] at h1 h2
    by_cases hi : i < gs.length
    · have hi2 : i < gv.length := by omega
      simp only [List.getElem_append_left hi, List.getElem_append_left hi2]; exact hv i hi hi2
    · have : i = n.toNat := by omega
      subst this
      have hgv : gv.length = n.toNat := by omega
      rw [List.getElem_append_right (by omega)]
      simp only [List.getElem_append_right (show gs.length ≤ n.toNat by omega), hgl, hgv, Nat.sub_self, List.getElem_singleton]
theorem own_longL {NEXT : Option Addr → Nat → Nat → Heap → Prop} (s : Hs h0 hh col d wA wC wl na ns ba bl ss ds) (e1 : d.oA = none) (e2 : d.oC = 0) (e3 : d.os = []) (e4 : d.ov = []) (ll : ∀ i (hi : i < d.ls.length), d.ls[i].l ≤ 96)
    (hw : ∀ i (h1 : i < d.ls.length) (h2 : i < d.ws.length), d.ws[i] = List.replicate d.ls[i].l (mkL i))
    (hN : ∀ h' col' oA oC os ov, Hs h0 h' col' { d with oA := oA, oC := oC, os := os, ov := ov } wA wC wl na ns ba bl ss ds → os.length = 3 → (∀ i (h1 : i < d.ls.length) (h2 : i < os.length), os[i].l = d.ls[i].l + 2) → (∀ i (h1 : i < os.length) (h2 : i < ov.length), ov[i] = List.replicate os[i].l (mkL i)) → NEXT oA os.length oC h') :
    ∃ (I8 : Option Addr → Nat → Nat → Int → Heap → Prop) (M8 : Option Addr → Nat → Nat → Int → Heap → Nat), I8 none 0 0 0 hh ∧ ∀ (longerA1 : Option Addr) (longerL1 : Nat) (longerC1 : Nat) (n10 : Int), ∀ h35 : Heap, I8 longerA1 longerL1 longerC1 n10 h35 →
      bif (decide (n10 < (d.ls.length : Int))) then ((0 ≤ n10 ∧ n10 < (d.ls.length : Int)) ∧ onSome d.lA fun p13 => ∃ (sA19 : Option Addr) (sL19 : Nat) (sC19 : Nat), cellOf h35 (Addr.add p13 (Int.toNat n10)) = some (.slice sA19 sL19 sC19) ∧
        New [.int .i64 (IntKind.wrap .i64 ((-10) - n10)), .int .i64 (IntKind.wrap .i64 ((-10) - n10))] 3 h35 fun h36 => ∃ new6 : List Value, List.length new6 = 2 * 1 ∧ SlCells h36 (some ⟨h35.size, 0, none⟩) new6 ∧ (∀ v ∈ new6, v.oneCell' = true) ∧
        AppendP ti3 3 sA19 sL19 sC19 2 new6 h36 fun sA20 sL20 sC20 h37 => New [.slice sA20 sL20 sC20] 22 h37 fun h38 => ∃ new7 : List Value, List.length new7 = 1 * 1 ∧ SlCells h38 (some ⟨h37.size, 0, none⟩) new7 ∧ (∀ v ∈ new7, v.oneCell' = true) ∧
        AppendP ti22 22 longerA1 longerL1 longerC1 1 new7 h38 fun sA21 sL21 sC21 h39 => I8 sA21 sL21 sC21 (IntKind.wrap .i64 (n10 + 1)) h39 ∧ M8 sA21 sL21 sC21 (IntKind.wrap .i64 (n10 + 1)) h39 < M8 longerA1 longerL1 longerC1 n10 h35) else NEXT longerA1 longerL1 longerC1 h35 := by
  have n3 := s.n3
  refine ⟨fun A L C n h => 0 ≤ n ∧ n ≤ 3 ∧ ∃ col gs gv, Hs h0 h col { d with oA := A, oC := C, os := gs, ov := gv } wA wC wl na ns ba bl ss ds ∧ gs.length = n.toNat ∧ L = gs.length ∧ (∀ i (h1 : i < d.ls.length) (h2 : i < gs.length), gs[i].l = d.ls[i].l + 2) ∧ (∀ i (h1 : i < gs.length) (h2 : i < gv.length), gv[i] = List.replicate gs[i].l (mkL i)), fun _ _ _ n _ => ((3 : Nat) - n).toNat,
    ⟨by omega, by omega, col, [], [], by rw [← e1, ← e2, ← e3, ← e4]; exact s, rfl, rfl, fun i _ h => absurd h (Nat.not_lt_zero _), fun i h => absurd h (Nat.not_lt_zero _)⟩, ?_⟩
  rintro A L C n h30 ⟨z0, z1, col, gs, gv, t, hgl, rfl, hl, hv⟩
  refine cd (fun hn => ?_) fun hn => ?_
  rotate_left
  · have hn : ¬ n < 3 := by omega
    exact hN h30 col A C gs gv t (by omega) hl hv
  have hn0 := hn
  have hn : n < 3 := by omega
  have i2 : n.toNat < d.ls.length := by omega
  have tl : d.ls.length = d.ws.length := t.lists.len
  have tg : gs.length = gv.length := t.longer.len
  obtain ⟨p, e, cc⟩ := t.lists.cell i2
  have e : d.lA = some p := e
  have cc : cellOf h30 (Addr.add p n.toNat) = some (.slice d.ls[n.toNat].a d.ls[n.toNat].l d.ls[n.toNat].c) := cc
  have hll := ll n.toNat i2
  have en : (-10 : Int) - ((n.toNat : Nat) : Int) = -10 - n := by omega
  rw [wrap_i64 (n := -10 - n) (by omega) (by omega), wrap_i64 (n := n + 1) (by omega) (by omega)]
  refine ⟨⟨z0, hn0⟩, oe e ⟨_, _, _, cc, New.intro fun h31 n31 => ⟨[mkL n.toNat, mkL n.toNat], rfl, by rw [mkL, en]; exact cellsAll n31.rd, one2 rfl rfl, ?_⟩⟩⟩
  have t31 := t.quiet n31.fr
  generalize upd col h30.size 0 = col31 at t31
  have it := t31.lists.at_ n.toNat i2 (show n.toNat < d.ws.length by omega)
  have it : Sl h31 1 d.ls[n.toNat].a d.ls[n.toNat].l d.ls[n.toNat].c (d.ws[n.toNat]'(by omega)) (On col31 (20 + n.toNat)) := it
  have hbytes : (ti3).bytes = 8 := rfl
  refine append_both (elem := ti3) it rfl rfl (by rw [hbytes]; omega) (by omega) fun a7 c7 h32 f32 s32 o32 => ?_
  have t32 := t31.lapp i2 (show n.toNat < d.ws.length by omega) (show gs.length ≤ n.toNat by omega) f32 o32
  have hs32 := f32.size
  have x32 : Sl h32 1 a7 (d.ls[n.toNat].l + 2) c7 (List.replicate (d.ls[n.toNat].l + 2) (mkL n.toNat)) (On (upd col31 h31.size (20 + n.toNat)) (20 + n.toNat)) := by
    have e5 : d.ws[n.toNat]'(by omega) ++ [mkL n.toNat, mkL n.toNat] = List.replicate (d.ls[n.toNat].l + 2) (mkL n.toNat) := by
      rw [hw n.toNat i2 (by omega), List.replicate_succ', List.replicate_succ', List.append_assoc]; rfl
    rw [← e5]
    refine (show Sl h32 1 a7 (d.ls[n.toNat].l + 2) c7 _ _ from s32).mono fun b hb => ?_
    show upd col31 h31.size (20 + n.toNat) b = _
    rcases hb with hb | hb
    · have hb : col31 b = 20 + n.toNat := hb
      unfold upd
      split
      · exact hb
      · rfl
    · exact upd_ge hb
  generalize upd col31 h31.size (20 + n.toNat) = col32 at t32 x32
  refine New.intro fun h33 n33 => ⟨[.slice a7 (d.ls[n.toNat].l + 2) c7], rfl, cellsAll n33.rd, fun v hv => by rw [List.mem_singleton.mp hv]; rfl, ?_⟩
  have t33 := t32.quiet n33.fr
  have x33 := Sl.keep' x32 n33.fr (ag_upd col32 h32.size 0) fun _ _ _ x => x
  generalize upd col32 h32.size 0 = col33 at t33 x33
  have row := t33.longer.row
  have hbytes2 : (ti22).bytes = 24 := rfl
  refine append_col (elem := ti22) (show Sl h33 (ti22).cells A gs.length C (gs.map Sc.v) (On col33 5) from row) rfl rfl (by rw [hbytes2]; omega) (by omega) fun a8 c8 h34 f34 s34 => ?_
  have t34 := t33.opush (x := ⟨a7, d.ls[n.toNat].l + 2, c7⟩) (xv := List.replicate (d.ls[n.toNat].l + 2) (mkL n.toNat)) (a' := a8) (c' := c8) (show gs.length < 3 by omega) f34 s34 (by rw [show (20 + ({ d with oA := A, oC := C, os := gs, ov := gv } : HD).os.length) = 20 + n.toNat from by show 20 + gs.length = _; omega]; exact x33)
  refine ⟨⟨by omega, by omega, _, gs ++ [⟨a7, d.ls[n.toNat].l + 2, c7⟩], gv ++ [List.replicate (d.ls[n.toNat].l + 2) (mkL n.toNat)], t34, by rw [List.length_append, List.length_singleton]; omega, by rw [List.length_append, List.length_singleton], fun i h1 h2 => ?_, fun i h1 h2 => ?_⟩, falls (m := 3) hn⟩
  · rw [List.length_append, List.length_singleton] at h2
    by_cases hi : i < gs.length
    · rw [List.getElem_append_left hi]; exact hl i h1 hi
    · have : i = n.toNat := by omega
      subst this
      rw [List.getElem_append_right (by omega)]
      simp only [hgl, Nat.sub_self, List.getElem_singleton]
  · rw [List.length_append, List.length_singleton] at h1 h2
    by_cases hi : i < gs.length
    · have hi2 : i < gv.length := by omega
      simp only [List.getElem_append_left hi, List.getElem_append_left hi2]; exact hv i hi hi2
    · have : i = n.toNat := by omega
      subst this
      have hgv : gv.length = n.toNat := by omega
      rw [List.getElem_append_right (by omega)]
      simp only [List.getElem_append_right (show gs.length ≤ n.toNat by omega), hgl, hgv, Nat.sub_self, List.getElem_singleton]
end Go.Proofs.YtnlmieklakolkaaDoor.Hd
