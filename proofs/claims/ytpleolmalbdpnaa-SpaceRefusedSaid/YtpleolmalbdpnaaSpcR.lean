/-
  SPACE: the law SpaceRefused.
-/
import Derived.Test.YtpleolmalbdpnaaSpcF
import Derived.Test.YtpleolmalbdpnaaWtA
namespace Go.Proofs.Ytpleolmalbdpnaa.Spc
open Go Go.Proofs Go.Proofs.Ytpleolmalbdpnaa.Wx Go.Proofs.Ytpleolmalbdpnaa.Hp Go.Proofs.Ytpleolmalbdpnaa.W Go.Proofs.Ytpleolmalbdpnaa.Ad Go.Proofs.Ytpleolmalbdpnaa.Tm Go.Proofs.Ytpleolmalbdpnaa.Bt Go.Proofs.Ytpleolmalbdpnaa.Rg

/-! one transaction come of another by writes -/
structure Ext (T T' : TM) : Prop where
  disk : T'.disk = T.disk
  over : T'.over = T.over
  undo : ∃ us, T'.undo = T.undo ++ us ∧ undoAll T'.put us = T.put
theorem Ext.refl (T : TM) : Ext T T := ⟨rfl, rfl, [], (List.append_nil _).symm, rfl⟩
theorem Ext.write {T T' : TM} (e : Ext T T') (i : Int) (bs : Txt) : Ext T (T'.write i bs).1 := by
  by_cases h : (T'.write i bs).2 = 0
  · obtain ⟨h1, h2, h3, h4, h5, ew⟩ := TM.write_ok h
    obtain ⟨us, e1, e2⟩ := e.undo
    rw [ew]
    refine ⟨e.disk, e.over, us ++ [(i, aget T'.put i)], ?_, ?_⟩
    · show T'.undo ++ [_] = _
      rw [e1, List.append_assoc]
    · show undoAll (aput T'.put i bs) (us ++ [(i, aget T'.put i)]) = T.put
      unfold undoAll
      rw [List.foldr_append]
      have : List.foldr (fun u m => undo1 m u) (aput T'.put i bs) [(i, aget T'.put i)] = T'.put := by
        show undo1 (aput T'.put i bs) (i, aget T'.put i) = _
        unfold undo1
        cases ea : aget T'.put i with
        | none => exact adel_aput ea
        | some b => exact aput_aput ea
      rw [this]; exact e2
  · rw [TM.write_bad h]; exact e
theorem Ext.back {T T' : TM} (e : Ext T T') (h : T.over = false) : T'.back T.undo.length = (T, 0) := by
  obtain ⟨us, e1, e2⟩ := e.undo
  have ho : T'.over = false := e.over.trans h
  unfold TM.back
  rw [if_neg (by rw [ho]; simp), if_neg (by rw [e1, List.length_append]; omega)]
  have et : ((T.undo.length : Nat) : Int).toNat = T.undo.length := rfl
  rw [et, e1, List.drop_left, List.take_left, e2]
  have hd := e.disk
  have hv := e.over
  cases T; cases T'; simp_all
theorem setBit_ext {T T' : TM} (e : Ext T T') (g : G) (i : Nat) (on : Bool) : Ext T (setBit T' g i on).1 := by
  unfold setBit
  split
  · exact e
  · exact e.write _ _
theorem takeAt_ext {T T' : TM} (e : Ext T T') (g : G) (m : Nat) : Ext T (takeAt T' g m).1 := by
  unfold takeAt
  split
  · exact e
  · split
    · exact e
    · exact (setBit_ext e g m true).write _ _
theorem aput_new {α : Type} {i : Int} {v : α} : ∀ {m : List (Int × α)}, aget m i = none → aput m i v = m ++ [(i, v)]
  | [], _ => rfl
  | (k, u) :: r, h => by
    have h : (bif i == k then some u else aget r i) = none := h
    by_cases e : i = k
    · rw [e, beq_self_eq_true] at h; cases h
    · rw [beq_eq_false_iff_ne.mpr e] at h
      show (bif i == k then _ else (k, u) :: aput r i v) = _
      rw [beq_eq_false_iff_ne.mpr e, cond_false, aput_new h]; rfl
/-- the law's writes -/
def wr (T : TM) (k : Nat) : TM := { T with put := (List.range k).map fun j => (((104 + j : Nat) : Int), List.replicate 512 (UInt8.ofNat j)), undo := (List.range k).map fun j => (((104 + j : Nat) : Int), none) }
theorem wr_none {T : TM} {k : Nat} {i : Int} (h : i < 104 ∨ 104 + k ≤ i) : aget (wr T k).put i = none := by
  rw [aget_none]
  intro p hp
  obtain ⟨j, hj, rfl⟩ := List.mem_map.mp hp
  have := List.mem_range.mp hj
  show ((104 + j : Nat) : Int) ≠ i
  omega
theorem wr_len (T : TM) (k : Nat) : (wr T k).put.length = k ∧ (wr T k).undo.length = k := ⟨by show ((List.range k).map _).length = k; rw [List.length_map, List.length_range], by show ((List.range k).map _).length = k; rw [List.length_map, List.length_range]⟩
theorem wr_zero {T : TM} (h1 : T.put = []) (h2 : T.undo = []) : wr T 0 = T := tm_eta h1.symm h2.symm
theorem wr_step {T : TM} {k : Nat} (h1 : T.over = false) (h2 : T.N = 298) (hk : k < 96) : (wr T k).write ((104 + k : Nat) : Int) (List.replicate 512 (UInt8.ofNat k)) = (wr T (k + 1), 0) := by
  have hn : aget (wr T k).put ((104 + k : Nat) : Int) = none := wr_none (.inr (by omega))
  have hN : (wr T k).N = 298 := h2
  rw [TM.write_get (T := wr T k) h1 (by omega) (by rw [hN]; omega) List.length_replicate (by rintro ⟨_, x⟩; rw [(wr_len T k).1] at x; omega), aput_new hn, hn]
  unfold wr
  rw [List.range_succ, List.map_append, List.map_append]; rfl
theorem wr_ext {T : TM} (h1 : T.over = false) (h2 : T.N = 298) (j : Nat) : ∀ d, j + d ≤ 96 → Ext (wr T j) (wr T (j + d))
  | 0, _ => Ext.refl _
  | d + 1, h => by
    have := (wr_ext h1 h2 j d (by omega)).write ((104 + (j + d) : Nat) : Int) (List.replicate 512 (UInt8.ofNat (j + d)))
    rw [wr_step h1 h2 (by omega)] at this
    exact this
theorem wr_read {T : TM} {k : Nat} {i : Int} (h1 : T.over = false) (h2 : T.put = []) (hi : i < 104) : (wr T k).read i = T.read i := by
  rw [TM.read_live (T := wr T k) h1, TM.read_live h1]
  have hN : (wr T k).N = T.N := rfl
  rw [hN]
  split
  · rfl
  · rw [TM.get_none (wr_none (.inl hi)), TM.get_none (T := T) (by rw [h2]; rfl)]; rfl
/-- what its own loop leaves alone -/
structure Gv (n0 a1 : Nat) (g : G) (F : Nat → Prop) (t d : Option Addr) (T : TM) (h0 hh : Heap) : Prop where
  x : Tx hh F t d T
  nF : ∀ b, F b → n0 ≤ b ∧ b ≠ a1
  r1 : rd hh a1 = g.v
  f : Fr (fun b => n0 ≤ b) h0 hh
  n1 : n0 ≤ a1 ∧ a1 < hh.size
theorem Gv.no {n0 a1 : Nat} {g : G} {F : Nat → Prop} {t d : Option Addr} {T : TM} {h0 hh hh' : Heap} (w : Gv n0 a1 g F t d T h0 hh) (f : Fr No hh hh') : Gv n0 a1 g F t d T h0 hh' := by
  have n1 := w.n1
  have z := f.size
  exact ⟨w.x.no f, w.nF, (f.rd (by omega) fun x => x).trans w.r1, w.f.no f, by omega⟩
theorem Gv.call {n0 a1 : Nat} {g : G} {F F' : Nat → Prop} {t d : Option Addr} {T T' : TM} {h0 hh hh' : Heap} (w : Gv n0 a1 g F t d T h0 hh) (f : Fr F hh hh') (gw : Gw hh F hh' F') (x : Tx hh' F' t d T') : Gv n0 a1 g F' t d T' h0 hh' := by
  have n1 := w.n1
  have z := f.size
  have k1 : ¬ F a1 := fun y => (w.nF _ y).2 rfl
  refine ⟨x, fun b hb => ?_, (f.rd (by omega) k1).trans w.r1, w.f.trans f fun b _ y => (w.nF b y).1, by omega⟩
  rcases gw.new hb with y | y
  · exact w.nF b y
  · omega
theorem Gv.back {n0 a1 : Nat} {g : G} {F : Nat → Prop} {t d : Option Addr} {T T' : TM} {h0 hh hh' : Heap} (w : Gv n0 a1 g F t d T h0 hh) (f : Fr F hh hh') (x : Tx hh' F t d T') : Gv n0 a1 g F t d T' h0 hh' :=
  w.call f (Gw.refl f.size fun b hb => w.x.lt hb) x
theorem blkN170 : blkN 170 = 298 := by decide +kernel
theorem on170 (j : Nat) : onC 298 [] 0 j = !(decide (103 ≤ j) && decide (j < 298)) := by
  have hd : (geoN 298).data = 103 := by decide +kernel
  by_cases h1 : j < 103
  · rw [onC_lo (by omega), decide_eq_false (by omega)]; rfl
  · by_cases h2 : 298 ≤ j
    · rw [onC_hi h2, decide_eq_false (p := j < 298) (by omega), Bool.and_false]; rfl
    · rw [onC_mid (by omega) h2, if_neg (by rw [List.length_nil]; omega), decide_eq_true (by omega), decide_eq_true (by omega)]
      exact Nat.zero_testBit _
theorem take_put {T : TM} {g : G} {m : Nat} (e : (takeAt T g m).2.2 = 0) : ∃ B, (takeAt T g m).1.put = aput (aput T.put (g.at_ m) B) m zeros512 := by
  unfold takeAt at e ⊢
  split
  · rename_i h; rw [if_pos h] at e; exact absurd e h
  · rename_i h
    rw [if_neg h] at e
    split
    · rename_i h2; rw [if_pos h2] at e; exact absurd e h2
    · rename_i h2
      have h1 : (setBit T g m true).2 = 0 := by omega
      obtain ⟨_, e1⟩ := setBit_good h1
      have h3 : ((setBit T g m true).1.write m zeros512).2 = 0 := by omega
      obtain ⟨_, _, _, _, _, e3⟩ := TM.write_ok h3
      obtain ⟨_, _, _, _, _, e4⟩ := TM.write_ok (e1 ▸ h1 : (T.write (g.at_ m) (putBit (T.read (g.at_ m)).1 (m % 4096) true)).2 = 0)
      refine ⟨putBit (T.read (g.at_ m)).1 (m % 4096) true, ?_⟩
      show ((setBit T g m true).1.write m zeros512).1.put = _
      rw [e3]
      show aput (setBit T g m true).1.put m zeros512 = _
      rw [e1, e4]
theorem write_undo (T : TM) (i : Int) (bs : Txt) : (T.write i bs).1.undo.length ≤ T.undo.length + 1 := by
  by_cases e : (T.write i bs).2 = 0
  · obtain ⟨_, _, _, _, _, ew⟩ := TM.write_ok e
    rw [ew]
    show (T.undo ++ [_]).length ≤ _
    rw [List.length_append]; exact Nat.le_refl _
  · rw [TM.write_bad e]; omega
theorem takeAt_undo (T : TM) (g : G) (m : Nat) : (takeAt T g m).1.undo.length ≤ T.undo.length + 2 := by
  have h1 := setBit_undo T g m true
  have h2 := write_undo (setBit T g m true).1 m zeros512
  unfold takeAt
  split
  · show T.undo.length ≤ _; omega
  · split
    · show T.undo.length ≤ _; omega
    · show ((setBit T g m true).1.write m zeros512).1.undo.length ≤ _; omega
/-- the law's transaction at its beginning -/
structure T170 (T : TM) : Prop where
  put : T.put = []
  undo : T.undo = []
  live : T.over = false
  N : T.N = 298
  r98 : (T.read ((98 : Nat) : Int)).2 = 0 ∧ (T.read ((98 : Nat) : Int)).1.length = 512
  bits : ∀ j, j < 4096 → bitAt (T.read ((98 : Nat) : Int)).1 j = !(decide (103 ≤ j) && decide (j < 298))
def g298 : G := geoN 298
theorem g298_f : g298.blocks = 298 ∧ g298.bitmap = 98 ∧ g298.inodes = 99 ∧ g298.data = 103 := by decide +kernel
theorem at298 {m : Nat} (h : m < 4096) : g298.at_ m = ((98 : Nat) : Int) := by
  unfold G.at_
  rw [g298_f.2.1]
  have : m / 4096 = 0 := by omega
  rw [this]
/-- of a transaction that reads the bitmap as at the beginning -/
theorem T170.free {T0 T : TM} (a : T170 T0) (hr : T.read ((98 : Nat) : Int) = T0.read ((98 : Nat) : Int)) {m : Nat} (hm : m < 4096) : FreeAt T g298 m ↔ 103 ≤ m ∧ m < 298 := by
  unfold FreeAt
  rw [at298 hm, hr, Nat.mod_eq_of_lt hm, a.bits m hm, g298_f.1, g298_f.2.2.2]
  constructor
  · exact fun x => x.2
  · intro x
    rw [decide_eq_true x.1, decide_eq_true x.2]; exact ⟨rfl, x⟩
theorem T170.cnt {T0 T : TM} (a : T170 T0) (hr : T.read ((98 : Nat) : Int) = T0.read ((98 : Nat) : Int)) : cntTo T g298 4096 = 195 := by
  have := cnt_run (T := T) (g := g298) (i := 0) (j := 4096) (a := 103) (b := 298) (by omega) (by omega) (by omega) fun t _ h => a.free hr h
  rw [this]; rfl
/-- Take, where there is room -/
theorem take_room {T0 T : TM} (a : T170 T0) (hr : T.read ((98 : Nat) : Int) = T0.read ((98 : Nat) : Int)) (hl : T.over = false) (hN : T.N = 298) (h1 : aget T.put ((98 : Nat) : Int) = none) (h2 : aget T.put ((103 : Nat) : Int) = none) (h3 : T.put.length ≤ 94) :
    (takeAt T g298 103).2 = (((103 : Nat) : Int), 0) ∧ (takeAt T g298 103).1.put.length = T.put.length + 2 := by
  have e98 := at298 (m := 103) (by omega)
  have hlen : (putBit (T.read ((98 : Nat) : Int)).1 (103 % 4096) true).length = 512 := by rw [putBit_length, hr]; exact a.r98.2
  have w1 := TM.write_get (T := T) (i := ((98 : Nat) : Int)) (bs := putBit (T.read ((98 : Nat) : Int)).1 (103 % 4096) true) hl (by omega) (by rw [hN]; omega) hlen (by omega)
  have es : setBit T g298 103 true = T.write ((98 : Nat) : Int) (putBit (T.read ((98 : Nat) : Int)).1 (103 % 4096) true) := by
    unfold setBit
    rw [e98, hr, if_neg (by rw [a.r98.1]; simp)]
  have l1 : (aput T.put ((98 : Nat) : Int) (putBit (T.read ((98 : Nat) : Int)).1 (103 % 4096) true)).length = T.put.length + 1 := by rw [aput_length, if_pos h1]
  have g1 : aget (aput T.put ((98 : Nat) : Int) (putBit (T.read ((98 : Nat) : Int)).1 (103 % 4096) true)) ((103 : Nat) : Int) = none := by rw [aget_aput, if_neg (by omega)]; exact h2
  have w2 := TM.write_get (T := { T with put := aput T.put ((98 : Nat) : Int) (putBit (T.read ((98 : Nat) : Int)).1 (103 % 4096) true), undo := T.undo ++ [(((98 : Nat) : Int), aget T.put ((98 : Nat) : Int))] }) (i := ((103 : Nat) : Int)) (bs := zeros512) hl (by omega) (by show ((103 : Nat) : Int) < (T.N : Int); rw [hN]; omega) List.length_replicate (by rintro ⟨_, x⟩; have x : (aput T.put ((98 : Nat) : Int) _).length ≥ 96 := x; rw [l1] at x; omega)
  have et : takeAt T g298 103 = ((({ T with put := aput T.put ((98 : Nat) : Int) (putBit (T.read ((98 : Nat) : Int)).1 (103 % 4096) true), undo := T.undo ++ [(((98 : Nat) : Int), aget T.put ((98 : Nat) : Int))] } : TM).write ((103 : Nat) : Int) zeros512).1, ((103 : Nat) : Int), 0) := by
    unfold takeAt
    rw [es, w1, if_neg (by simp), if_neg (by rw [w2]; simp)]
  rw [et]
  refine ⟨rfl, ?_⟩
  rw [w2]
  show (aput (aput T.put _ _) _ _).length = _
  rw [aput_length, if_pos g1, l1]
/-- and where there is none -/
theorem take_full {T0 T : TM} (a : T170 T0) (hr : T.read ((98 : Nat) : Int) = T0.read ((98 : Nat) : Int)) (hl : T.over = false) (hN : T.N = 298) (h1 : aget T.put ((98 : Nat) : Int) = none) (h2 : aget T.put ((103 : Nat) : Int) = none) (h3 : 95 ≤ T.put.length) :
    takeAt T g298 103 = (T, 0, 60) := by
  have e98 := at298 (m := 103) (by omega)
  have hlen : (putBit (T.read ((98 : Nat) : Int)).1 (103 % 4096) true).length = 512 := by rw [putBit_length, hr]; exact a.r98.2
  have es : setBit T g298 103 true = T.write ((98 : Nat) : Int) (putBit (T.read ((98 : Nat) : Int)).1 (103 % 4096) true) := by
    unfold setBit
    rw [e98, hr, if_neg (by rw [a.r98.1]; simp)]
  unfold takeAt
  rw [es]
  by_cases h96 : 96 ≤ T.put.length
  · have w1 : T.write ((98 : Nat) : Int) (putBit (T.read ((98 : Nat) : Int)).1 (103 % 4096) true) = (T, 60) := by
      unfold TM.write
      rw [if_neg (by rw [hl]; simp), if_neg (by rw [hN]; omega), if_neg (by rw [hlen]; simp), if_pos ⟨h1, h96⟩]
    rw [w1, if_pos (by simp)]
  · have w1 := TM.write_get (T := T) (i := ((98 : Nat) : Int)) (bs := putBit (T.read ((98 : Nat) : Int)).1 (103 % 4096) true) hl (by omega) (by rw [hN]; omega) hlen (by omega)
    have l1 : (aput T.put ((98 : Nat) : Int) (putBit (T.read ((98 : Nat) : Int)).1 (103 % 4096) true)).length = T.put.length + 1 := by rw [aput_length, if_pos h1]
    have g1 : aget (aput T.put ((98 : Nat) : Int) (putBit (T.read ((98 : Nat) : Int)).1 (103 % 4096) true)) ((103 : Nat) : Int) = none := by rw [aget_aput, if_neg (by omega)]; exact h2
    have w2 : (({ T with put := aput T.put ((98 : Nat) : Int) (putBit (T.read ((98 : Nat) : Int)).1 (103 % 4096) true), undo := T.undo ++ [(((98 : Nat) : Int), aget T.put ((98 : Nat) : Int))] } : TM).write ((103 : Nat) : Int) zeros512).2 = 60 := by
      unfold TM.write
      rw [if_neg (by show ¬ T.over = true; rw [hl]; simp), if_neg (by show ¬ (((103 : Nat) : Int) < 98 ∨ ((103 : Nat) : Int) ≥ (T.N : Int)); rw [hN]; omega), if_neg (by show ¬ (List.replicate 512 (0 : UInt8)).length ≠ 512; rw [List.length_replicate]; simp), if_pos ⟨g1, by show (aput T.put _ _).length ≥ 96; rw [l1]; omega⟩]
    rw [w1, if_neg (by simp), if_pos (by rw [w2]; decide)]
    rw [w2]
theorem give_free {T0 T : TM} (a : T170 T0) (hr : T.read ((98 : Nat) : Int) = T0.read ((98 : Nat) : Int)) {i : Int} (h : i < 103 ∨ 298 ≤ i ∨ i = 103) : give T g298 i = (T, 91) := by
  unfold give
  rw [g298_f.1, g298_f.2.2.2]
  by_cases h1 : i < ((103 : Nat) : Int) ∨ i ≥ ((298 : Nat) : Int)
  · rw [if_pos h1]
  · have ei : i = 103 := by omega
    subst ei
    have e98 := at298 (m := 103) (by omega)
    have et : (103 : Int).toNat = 103 := rfl
    rw [if_neg h1, et, e98, hr, if_neg (by rw [a.r98.1]; simp), if_pos]
    rw [a.bits _ (by omega)]; rfl
end Go.Proofs.Ytpleolmalbdpnaa.Spc
