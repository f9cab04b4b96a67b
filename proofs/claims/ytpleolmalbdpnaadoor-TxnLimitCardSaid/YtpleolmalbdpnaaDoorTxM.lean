/-
  TxnLimit: the law's function answers true.
-/
import Derived.Test.YtpleolmalbdpnaaDoorTxR
namespace Go.Proofs.YtpleolmalbdpnaaDoor.Txl
open Go Go.Proofs Go.Proofs.YtpleolmalbdpnaaDoor.Wx Go.Proofs.YtpleolmalbdpnaaDoor.Hp Go.Proofs.YtpleolmalbdpnaaDoor.W Go.Proofs.YtpleolmalbdpnaaDoor.Ad Go.Proofs.YtpleolmalbdpnaaDoor.Tm Go.Proofs.YtpleolmalbdpnaaDoor.Spc

def limP (a : Int) (x : UInt8) (k : Nat) : List (Int × Txt) := (List.range k).map fun i : Nat => (a + (i : Int), blk1 x)
def lim (a : Int) (x : UInt8) (k : Nat) : TM := { begun 208 with put := limP a x k, undo := (List.range k).map fun i : Nat => (a + (i : Int), none) }
theorem limP_length (a : Int) (x : UInt8) (k : Nat) : (limP a x k).length = k := by unfold limP; rw [List.length_map, List.length_range]
theorem limP_mem {a : Int} {x : UInt8} {k : Nat} {p : Int × Txt} (h : p ∈ limP a x k) : a ≤ p.1 ∧ p.1 < a + k ∧ p.2 = blk1 x := by
  obtain ⟨i, hi, rfl⟩ := List.mem_map.mp h
  have := List.mem_range.mp hi
  exact ⟨by show a ≤ a + (i : Int); omega, by show a + (i : Int) < _; omega, rfl⟩
theorem limP_none {a j : Int} {x : UInt8} {k : Nat} (h : j < a ∨ a + k ≤ j) : aget (limP a x k) j = none := aget_none.mpr fun p hp e => by have := limP_mem hp; omega
theorem limP_some {a : Int} {x : UInt8} {k : Nat} (h : 0 < k) : aget (limP a x k) a = some (blk1 x) := by
  cases e : aget (limP a x k) a with
  | none =>
    have hm : ((a, blk1 x) : Int × Txt) ∈ limP a x k := List.mem_map.mpr ⟨0, List.mem_range.mpr h, by rw [show a + ((0 : Nat) : Int) = a by omega]⟩
    exact absurd rfl (aget_none.mp e _ hm)
  | some v =>
    have : v = blk1 x := (limP_mem (aget_mem e)).2.2
    rw [this]
theorem aput_new {α : Type} {i : Int} {v : α} : ∀ {m : List (Int × α)}, aget m i = none → aput m i v = m ++ [(i, v)]
  | [], _ => rfl
  | (k, u) :: r, h => by
    have h : (bif i == k then some u else aget r i) = none := h
    by_cases e : i = k
    · rw [e, beq_self_eq_true] at h; cases h
    · rw [beq_eq_false_iff_ne.mpr e] at h
      show (bif i == k then _ else (k, u) :: aput r i v) = _
      rw [beq_eq_false_iff_ne.mpr e]
      show (k, u) :: aput r i v = _
      rw [aput_new h]; rfl
theorem lim_N (a : Int) (x : UInt8) (k : Nat) : (lim a x k).N = 208 := freshL_length 208
theorem lim_undo (a : Int) (x : UInt8) (k : Nat) : (lim a x k).undo.length = k := (List.length_map ..).trans List.length_range
theorem lim_write {a : Int} {x : UInt8} {k : Nat} (h0 : 98 ≤ a) (h1 : a < 112) (hk : k < 96) : (lim a x k).write (a + (k : Int)) (blk1 x) = (lim a x (k + 1), 0) := by
  rw [TM.write_get rfl (by omega) (by rw [lim_N]; omega) (blk1_length _) (by rintro ⟨_, y⟩; have : (lim a x k).put.length = k := limP_length a x k; omega)]
  have e : aget (lim a x k).put (a + (k : Int)) = none := limP_none (.inr (by omega))
  rw [e, aput_new e]
  unfold lim limP
  rw [List.range_succ, List.map_append, List.map_append]; rfl
theorem back_two {T : TM} {i j : Int} {b c : Txt} (e1 : (T.write i b).2 = 0) (e2 : ((T.write i b).1.write j c).2 = 0) : ((T.write i b).1.write j c).1.back T.undo.length = (T, 0) := by
  obtain ⟨l1, _, _, _, _, w1⟩ := TM.write_ok e1
  obtain ⟨_, _, _, _, _, w2⟩ := TM.write_ok e2
  have X : ((T.write i b).1.write j c).1 = ⟨T.disk, aput (aput T.put i b) j c, T.undo ++ [(i, aget T.put i), (j, aget (aput T.put i b) j)], T.over⟩ := by
    rw [w2, w1]
    show (⟨T.disk, aput (aput T.put i b) j c, (T.undo ++ [_]) ++ [_], T.over⟩ : TM) = _
    rw [List.append_assoc]; rfl
  have u1 : ∀ (m : List (Int × Txt)) (i : Int) (b : Txt), undo1 (aput m i b) (i, aget m i) = m := fun m i b => by
    unfold undo1
    cases e : aget m i with
    | none => exact adel_aput e
    | some v => exact aput_aput e
  have this : undoAll (aput (aput T.put i b) j c) [(i, aget T.put i), (j, aget (aput T.put i b) j)] = T.put := by
    show undo1 (undo1 (aput (aput T.put i b) j c) (j, aget (aput T.put i b) j)) (i, aget T.put i) = T.put
    rw [u1, u1]
  rw [X]
  unfold TM.back
  dsimp only
  rw [l1, if_neg (by simp), if_neg (by rw [List.length_append]; omega), show ((T.undo.length : Int)).toNat = T.undo.length from rfl, List.drop_left, List.take_left, this]
  show ((⟨T.disk, T.put, T.undo, false⟩ : TM), (0 : Int)) = (T, 0)
  rw [← l1]
/-- the last state: 95 puts and one more -/
def limE (a : Int) (x : UInt8) : TM := { lim a x 95 with put := limP a x 95 ++ [(a + 96, blk1 x)], undo := (lim a x 95).undo ++ [(a + 96, none)] }
theorem limE_write {a : Int} {x : UInt8} (h0 : 98 ≤ a) (h1 : a < 112) : (lim a x 95).write (a + 96) (blk1 x) = (limE a x, 0) := by
  rw [TM.write_get rfl (by omega) (by rw [lim_N]; omega) (blk1_length _) (by rintro ⟨_, y⟩; have : (lim a x 95).put.length = 95 := limP_length a x 95; omega)]
  have e : aget (lim a x 95).put (a + 96) = none := limP_none (.inr (by omega))
  rw [e, aput_new e]; rfl
theorem limE_len (a : Int) (x : UInt8) : (limE a x).put.length = 96 := by
  show (limP a x 95 ++ [_]).length = 96
  rw [List.length_append, limP_length]; rfl
theorem limE_mem {a : Int} {x : UInt8} {p : Int × Txt} (h : p ∈ (limE a x).put) : a ≤ p.1 ∧ p.1 ≤ a + 96 ∧ p.2 = blk1 x ∧ p.1 ≠ a + 95 := by
  rcases List.mem_append.mp h with h | h
  · have := limP_mem h
    exact ⟨this.1, by omega, this.2.2, by omega⟩
  · rw [List.mem_singleton.mp h]
    exact ⟨by show a ≤ a + 96; omega, Int.le_refl _, rfl, by show a + 96 ≠ a + 95; omega⟩
theorem aget_app {α : Type} {i : Int} {n : List (Int × α)} : ∀ {m : List (Int × α)}, aget (m ++ n) i = (aget m i).orElse fun _ => aget n i
  | [] => rfl
  | (k, u) :: r => by
    show (bif i == k then some u else aget (r ++ n) i) = _
    rw [aget_app]
    show _ = (bif i == k then some u else aget r i).orElse _
    cases i == k <;> rfl
theorem limE_good {a : Int} {x : UInt8} (h0 : 98 ≤ a) (h1 : a < 112) : Tm.Good (limE a x) := by
  have hN : (limE a x).N = 208 := lim_N a x 95
  refine ⟨rfl, ?_, fun p hp => ?_, fun p hp => ?_, by rw [limE_len]; exact Nat.le_refl _, ⟨rfl, rfl⟩, rfl, by rw [hN]; decide, ⟨Int.le_refl 0, by show (0 : Int) ≤ 100000000; decide⟩, ⟨Int.le_refl 0, by show (0 : Int) ≤ 100000000; decide⟩⟩
  · show ((limP a x 95 ++ [(a + 96, blk1 x)]).map (·.1)).Nodup
    rw [List.map_append, List.nodup_append]
    refine ⟨?_, by simp, fun y hy z hz e => ?_⟩
    · unfold limP
      rw [List.map_map]
      show (List.map (fun i : Nat => a + (i : Int)) (List.range 95)).Pairwise (· ≠ ·)
      rw [List.pairwise_map]
      exact List.pairwise_lt_range.imp fun h e => by omega
    · obtain ⟨p, hp, rfl⟩ := List.mem_map.mp hy
      have hz : z = a + 96 := List.mem_singleton.mp hz
      have := limP_mem hp
      omega
  · have := limE_mem hp
    rw [hN]; omega
  · rw [(limE_mem hp).2.2.1]; exact blk1_length _
theorem u8_succ (x : UInt8) : IntKind.wrap .u8 ((x.toNat : Int) + 1) = ((x + 1).toNat : Int) := by
  have h1 : (x + 1).toNat = (x.toNat + 1) % 256 := by rw [UInt8.toNat_add]; rfl
  rw [h1]
  show ((x.toNat : Int) + 1) % 256 = _
  omega
theorem write_step {h0 hh : Heap} {F : Nat → Prop} {t d : Option Addr} {T T' : TM} {i e : Int} {y : UInt8} {K : Value → Heap → Prop} (Z : Tz h0 hh F t d T) (hu : T.undo.length < 1000000000) (ew : T.write i (blk1 y) = (T', e))
    {b : Nat} {h1 : Heap} (f : Fr No hh h1) (s : Sl h1 1 (some ⟨b, 0, none⟩) 512 512 ((blk1 y).map bv) (fun c => c = b)) (hb : hh.size ≤ b) (hK : ∀ h' F', Tz h0 h' F' t d T' → K (.int .i64 e) h') : C.txn_Txn_Write t i (some ⟨b, 0, none⟩) 512 512 h1 K := by
  have Z1 := Z.no f
  refine Tm.Write_spec Z1.x s.str (by omega) (fun p e y => by cases e; have y : F b := y; have := Z.x.lt y; omega) hu fun h' F' f' g' x' => ?_
  rw [ew] at x' ⊢
  exact hK h' F' (Z1.call f' g' x')
theorem TxnLimit_spec {h : Heap} {from_ : Int} {x : UInt8} {K : Value → Heap → Prop} (G : Re.Glo h) (hK : ∀ h', Fr No h h' → K (.bool true) h') : C.bolelaw06_TxnLimit from_ (x.toNat : Int) h K := by
  refine bolelaw06_TxnLimit.ok (fresh_spec (N := 208) (by decide) (by decide) fun q h2 D f2 hD A => ⟨_, rfl, cf rfl ?_⟩)
  refine known_spec (G.no f2) fun h3 f3 => ⟨_, rfl, cf rfl ?_⟩
  unfold bolelaw06_TxnLimit.k1
  refine begin_spec (f2.no f3) hD (A.no f3) fun tb h5 F Z5 => ⟨_, rfl, cf rfl ?_⟩
  have hm := modI_range (v := from_) (n := 14) (by decide)
  refine mod_spec (by decide) (by decide) ⟨_, rfl, ?_⟩
  generalize modI from_ 14 = m at hm
  rw [wrap_i64 (n := 98 + m) (by omega) (by omega)]
  obtain ⟨a, ea⟩ : ∃ a, a = 98 + m := ⟨_, rfl⟩
  rw [← ea]
  have a0 : 98 ≤ a := by omega
  have a1 : a < 112 := by omega
  rw [wrap_i64 (n := a + 96) (by omega) (by omega)]
  refine ⟨fun mk k hh => ∃ (j : Nat) (F' : Nat → Prop), k = j ∧ j ≤ 96 ∧ (j = 96 → mk = 95) ∧ Tz h hh F' (some ⟨tb, 0, none⟩) (some q) (lim a x j), fun _ k _ => (96 - k).toNat, ⟨0, F, rfl, by decide, fun y => absurd y (by decide), Z5⟩, ?_⟩
  rintro mk k h7 ⟨j, F7, ej, hj, hmk, Z7⟩
  refine cd (fun hlt => ?_) fun hlt => ?_
  · have hj' : j < 96 := by omega
    have k2 : ∀ mk2, (j = 95 → mk2 = 95) → bolelaw06_TxnLimit.k2 (x.toNat : Int) (some ⟨tb, 0, none⟩) m mk k h7 (fun mk k hh => ∃ (j : Nat) (F' : Nat → Prop), k = j ∧ j ≤ 96 ∧ (j = 96 → mk = 95) ∧ Tz h hh F' (some ⟨tb, 0, none⟩) (some q) (lim a x j)) (fun _ k _ => (96 - k).toNat) mk2 h7 K := by
      intro mk2 h2'
      unfold bolelaw06_TxnLimit.k2
      refine bl_spec (x := x) fun b h10 f10 hb s10 => ⟨_, _, _, rfl, ?_⟩
      rw [wrap_i64 (n := 98 + m) (by omega) (by omega), ← ea, ej, wrap_i64 (n := a + (j : Int)) (by omega) (by omega)]
      refine write_step Z7 (by rw [lim_undo]; omega) (lim_write a0 a1 hj') f10 s10 hb fun h11 F11 Z11 => ⟨_, rfl, cn (fun y => absurd rfl y) fun _ => ?_⟩
      rw [wrap_i64 (by omega) (by omega)]
      exact ⟨⟨j + 1, F11, by omega, by omega, fun y => h2' (by omega), Z11⟩, by show ((96 : Int) - ((j : Int) + 1)).toNat < ((96 : Int) - (j : Int)).toNat; omega⟩
    refine ce (fun h95 => ?_) fun h95 => k2 mk fun y => absurd (show k = 95 by omega) h95
    have em : (lim a x j).mark = ((95 : Int), 0) := by
      unfold TM.mark
      rw [show (lim a x j).over = false from rfl, if_neg (by simp), lim_undo, show j = 95 by omega]; rfl
    refine Mark_spec Z7.x ⟨_, _, rfl, ?_⟩
    rw [em]
    exact cn (fun y => absurd rfl y) fun _ => k2 95 fun _ => rfl
  have ej2 : j = 96 := by omega
  subst ej2
  have hmk := hmk rfl
  subst hmk
  have hu : (lim a x 96).undo.length < 1000000000 := by rw [lim_undo]; omega
  have hput : (lim a x 96).put.length = 96 := limP_length a x 96
  have hov : (lim a x 96).over = false := rfl
  have hN : (lim a x 96).N = 208 := lim_N a x 96
  have w1 : (lim a x 96).write (a + 96) (blk1 x) = (lim a x 96, 60) := by
    unfold TM.write
    rw [hov, if_neg (by simp), hN, if_neg (by omega), if_neg (fun y => y (blk1_length _)), if_pos ⟨limP_none (.inr (by omega)), by omega⟩]
  refine bl_spec (x := x) fun b12 h12 f12 hb12 s12 => ⟨_, _, _, rfl, write_step Z7 hu w1 f12 s12 hb12 fun h13 F13 Z13 => ⟨_, rfl, cn (fun y => absurd rfl y) fun _ => ?_⟩⟩
  have w2 : (lim a x 96).write 97 (blk1 x) = (lim a x 96, 31) := by
    unfold TM.write
    rw [hov, if_neg (by simp), if_pos (.inl (by omega))]
  refine bl_spec (x := x) fun b14 h14 f14 hb14 s14 => ⟨_, _, _, rfl, write_step Z13 hu w2 f14 s14 hb14 fun h15 F15 Z15 => ⟨_, rfl, cn (fun y => absurd rfl y) fun _ => ⟨by decide, New.intro fun h16 n16 => ?_⟩⟩⟩
  have z16 := n16.size
  have w3 : (lim a x 96).write (a + 96) (List.replicate 511 0) = (lim a x 96, 32) := by
    unfold TM.write
    rw [hov, if_neg (by simp), hN, if_neg (by omega), if_pos (by rw [List.length_replicate]; omega)]
  have s16 : StrAt h16 (some ⟨h15.size, 0, none⟩) 511 (List.replicate 511 0) := strAll (by rw [n16.rd, List.map_replicate]; rfl) List.length_replicate
  refine Tm.Write_spec (Z15.no n16.fr).x s16 (by omega) (fun p e y => by cases e; have y : F15 h15.size := y; have := Z15.x.lt y; omega) hu fun h17 F17 f17 g17 x17 => ?_
  rw [w3] at x17 ⊢
  have Z17 := (Z15.no n16.fr).call f17 g17 x17
  refine ⟨_, rfl, cn (fun y => absurd rfl y) fun _ => ?_⟩
  rw [u8_succ]
  have hsome : aget (lim a x 96).put a = some (blk1 x) := limP_some (by decide)
  have e4 : ((lim a x 96).write a (blk1 (x + 1))).2 = 0 := by
    rw [TM.write_get hov a0 (by rw [hN]; omega) (blk1_length _) (by rintro ⟨y, _⟩; rw [hsome] at y; cases y)]
  have l97 : ((lim a x 96).write a (blk1 (x + 1))).1.put.length = 96 := by
    rw [(TM.write_ok e4).2.2.2.2.2]
    show (aput (lim a x 96).put a _).length = 96
    rw [aput_length, hsome, if_neg (by intro y; cases y)]; exact hput
  have u97 : ((lim a x 96).write a (blk1 (x + 1))).1.undo.length = 97 := by
    rw [(TM.write_ok e4).2.2.2.2.2]
    show ((lim a x 96).undo ++ [_]).length = 97
    rw [List.length_append, lim_undo]; rfl
  have bk : ((lim a x 96).write a (blk1 (x + 1))).1.back 95 = (lim a x 95, 0) := by
    have w95 := lim_write (a := a) (x := x) (k := 95) a0 a1 (by decide)
    have b2 := back_two (T := lim a x 95) (i := a + ((95 : Nat) : Int)) (b := blk1 x) (j := a) (c := blk1 (x + 1)) (by rw [w95]) (by rw [w95]; exact e4)
    rw [w95, lim_undo] at b2
    exact b2
  have w4 : (lim a x 96).write a (blk1 (x + 1)) = (((lim a x 96).write a (blk1 (x + 1))).1, 0) := by rw [← e4]
  refine bl_spec (x := x + 1) fun b18 h18 f18 hb18 s18 => ⟨_, _, _, rfl, write_step Z17 hu w4 f18 s18 hb18 fun h19 F19 Z19 => ⟨_, rfl, cn (fun y => absurd rfl y) fun _ => ?_⟩⟩
  clear w4 e4
  generalize ((lim a x 96).write a (blk1 (x + 1))).1 = T97 at Z19 l97 u97 bk
  refine Written_spec Z19.x (by omega) fun wa wl wc h20 f20 ewl _ => ⟨_, _, _, rfl, cn (fun y => absurd (show (wl : Int) = 96 by omega) y) fun _ => ?_⟩
  unfold bolelaw06_TxnLimit.k3
  have Z20 := Z19.no f20
  refine Back_spec Z20.x (by omega) fun h22 f22 x22 => ?_
  rw [bk] at x22 ⊢
  have Z22 := Z20.stay f22 x22
  refine ⟨_, rfl, cn (fun y => absurd rfl y) fun _ => ?_⟩
  rw [wrap_i64 (n := 98 + m) (by omega) (by omega), ← ea, wrap_i64 (n := a + 96) (by omega) (by omega), wrap_i64 (n := a + 95) (by omega) (by omega)]
  refine bl_spec (x := x) fun b23 h23 f23 hb23 s23 => ⟨_, _, _, rfl, write_step Z22 (by rw [lim_undo]; omega) (limE_write a0 a1) f23 s23 hb23 fun h24 F24 Z24 => ⟨_, rfl, cn (fun y => absurd rfl y) fun _ => ?_⟩⟩
  have uE : (limE a x).undo.length = 96 := by
    show ((lim a x 95).undo ++ [_]).length = 96
    rw [List.length_append, lim_undo]; rfl
  have hNE : (limE a x).N = 208 := lim_N a x 95
  have w5 : (limE a x).write (a + 95) (blk1 x) = (limE a x, 60) := by
    unfold TM.write
    rw [show (limE a x).over = false from rfl, if_neg (by simp), hNE, if_neg (by omega), if_neg (fun y => y (blk1_length _)), if_pos ⟨aget_none.mpr fun p hp => (limE_mem hp).2.2.2, by rw [limE_len]; omega⟩]
  refine bl_spec (x := x) fun b25 h25 f25 hb25 s25 => ⟨_, _, _, rfl, write_step Z24 (by omega) w5 f25 s25 hb25 fun h26 F26 Z26 => ⟨_, rfl, cn (fun y => absurd rfl y) fun _ => ?_⟩⟩
  unfold bolelaw06_TxnLimit.k4
  rw [wrap_i64 (n := 98 + m) (by omega) (by omega), ← ea]
  have rd : ∀ j : Int, aget (limE a x).put j = some (blk1 x) → 0 ≤ j → j < 208 → (limE a x).read j = (blk1 x, 0) := fun j e j0 j1 => by
    rw [TM.read_live rfl, hNE, if_neg (by omega), TM.get_some e]
  have ra : (limE a x).read a = (blk1 x, 0) := rd a (by
    show aget (limP a x 95 ++ _) a = _
    rw [aget_app, limP_some (by decide)]; rfl) (by omega) (by omega)
  have r96 : (limE a x).read (a + 96) = (blk1 x, 0) := rd (a + 96) (by
    show aget (limP a x 95 ++ [(a + 96, blk1 x)]) (a + 96) = _
    rw [aget_app, limP_none (.inr (by omega))]
    show (bif (a + 96) == (a + 96) then some (blk1 x) else none) = _
    rw [beq_self_eq_true]; rfl) (by omega) (by omega)
  refine tread Z26.x (by rw [ra]) fun a28 l28 c28 h28 f28 s28 => ⟨_, _, _, _, rfl, cn (fun y => absurd rfl y) fun _ => ⟨_, s28, ?_⟩⟩
  have Z28 := Z26.no f28
  refine bl_spec (x := x) fun b29 h29 f29 hb29 s29 => ⟨_, _, _, rfl, blk_eq (StrAt.fr f29 s28 fun _ _ y => y) s29.str (by rw [ra]) ?_⟩
  have Z29 := Z28.no f29
  obtain ⟨S, ec, kp⟩ := commit_good (limE_good a0 a1) (fun e => by have := limE_len a x; rw [e] at this; cases this)
  refine Tm.Commit_spec (G.no Z29.f) Z29.x (by rw [limE_len]; omega) (by show 0 < 100000000; omega) (by show 0 < 100000000; omega) fun h30 F30 f30 g30 x30 => ?_
  rw [ec] at x30 ⊢
  have Z30 := Z29.call f30 g30 x30
  refine ⟨_, rfl, cn (fun y => absurd rfl y) fun _ => ?_⟩
  unfold bolelaw06_TxnLimit.k5
  rw [wrap_i64 (n := 98 + m) (by omega) (by omega), ← ea, wrap_i64 (n := a + 96) (by omega) (by omega)]
  have er : readAt S (a + 96).toNat = blk1 x := by
    rw [kp.read _ (by omega) (by rw [hNE]; omega), show (((a + 96).toNat : Nat) : Int) = a + 96 by omega, r96]
  refine dread Z30.x kp.q.down (by omega) (by show a + 96 < S.lasts.length; rw [kp.n, hNE]; omega) er fun a32 l32 c32 h32 f32 s32 => ⟨_, _, _, _, rfl, ?_⟩
  have Z32 := Z30.no f32
  refine dsteps Z32.x ⟨_, _, rfl, ce (fun _ => ⟨_, s32, ?_⟩) fun y => absurd rfl y⟩
  refine bl_spec (x := x) fun b34 h34 f34 hb34 s34 => ⟨_, _, _, rfl, blk_eq' (StrAt.fr f34 s32 fun _ _ y => y) s34.str rfl ?_⟩
  have ew : (TM.ended S).disk.writes = 194 := by show S.writes = 194; rw [kp.w, limE_len]; rfl
  have ef : (TM.ended S).disk.flushes = 4 := by show S.flushes = 4; rw [kp.f]; rfl
  rw [ew, ef]
  exact hK h34 (Z32.f.no f34)
end Go.Proofs.YtpleolmalbdpnaaDoor.Txl
