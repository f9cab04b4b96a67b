/-
  SPACE: the law SpaceLowest.
-/
import Derived.Test.YtpleolmalbdpnaaSpcE
namespace Go.Proofs.Ytpleolmalbdpnaa.Spc
open Go Go.Proofs Go.Proofs.Ytpleolmalbdpnaa.Wx Go.Proofs.Ytpleolmalbdpnaa.Hp Go.Proofs.Ytpleolmalbdpnaa.W Go.Proofs.Ytpleolmalbdpnaa.Ad Go.Proofs.Ytpleolmalbdpnaa.Tm Go.Proofs.Ytpleolmalbdpnaa.Bt Go.Proofs.Ytpleolmalbdpnaa.Rg

def halfB (x : UInt8) (k : Nat) : Txt := List.replicate k x ++ List.replicate (512 - k) 0
theorem bl_spec {x : UInt8} {h : Heap} {K : Value → Heap → Prop} (hK : ∀ b h', Fr No h h' → h.size ≤ b → Sl h' 1 (some ⟨b, 0, none⟩) 512 512 ((List.replicate 512 x).map bv) (fun c => c = b) → K (.slice (some ⟨b, 0, none⟩) 512 512) h') : C.bolelaw09_block (x.toNat : Int) h K := by
  have e512 : Int.toNat 512 = 512 := rfl
  refine bolelaw09_block.ok ?_
  unfold bolelaw09_block
  rw [e512]
  refine ⟨by decide, New.intro fun h2 n2 => ?_⟩
  have z2 := n2.size
  refine ⟨fun i hh => ∃ k : Nat, i = k ∧ k ≤ 512 ∧ Fr No h hh ∧ h.size < hh.size ∧ Own hh h.size ∧ rd hh h.size = (halfB x k).map bv, fun i _ => (512 - i).toNat, ⟨0, rfl, Nat.zero_le _, n2.fr, by omega, n2.own, by rw [n2.rd, halfB, List.replicate_zero, List.nil_append]; exact rep_zeros⟩, ?_⟩
  rintro i h3 ⟨k, ei, hk, f3, s3, o3, r3⟩
  unfold halfB at r3
  refine cd (fun hlt => ?_) fun hlt => ?_
  · have hlt : k < 512 := by omega
    have et : Int.toNat i = k := by omega
    rw [et]
    refine ⟨⟨by omega, by omega⟩, Put.add o3 (by rw [r3, List.length_map, List.length_append, List.length_replicate, List.length_replicate]; show 0 + k < _; omega) fun h4 d4 => ?_⟩
    have z4 := d4.size
    rw [wrap_i64 (n := i + 1) (by omega) (by omega)]
    refine ⟨⟨k + 1, by omega, by omega, f3.did d4 fun hb => by omega, by omega, d4.own, ?_⟩, by show ((512 : Int) - (i + 1)).toNat < ((512 : Int) - i).toNat; omega⟩
    unfold halfB
    rw [d4.rd, r3, Nat.zero_add]
    have : (.int .u8 (x.toNat : Int) : Value) = bv x := rfl
    rw [this, ← List.map_set]
    congr 1
    apply List.ext_getElem?
    intro j
    rw [List.getElem?_set]
    by_cases hj : k = j
    · subst hj
      rw [if_pos rfl, if_pos (by rw [List.length_append, List.length_replicate, List.length_replicate]; omega), List.getElem?_append_left (by rw [List.length_replicate]; omega), List.getElem?_replicate, if_pos (by omega)]
    · rw [if_neg hj]
      rcases Nat.lt_or_ge j k with h1 | h1
      · rw [List.getElem?_append_left (by rw [List.length_replicate]; omega), List.getElem?_append_left (by rw [List.length_replicate]; omega), List.getElem?_replicate, List.getElem?_replicate, if_pos (by omega), if_pos (by omega)]
      · rw [List.getElem?_append_right (by rw [List.length_replicate]; omega), List.getElem?_append_right (by rw [List.length_replicate]; omega), List.length_replicate, List.length_replicate, List.getElem?_replicate, List.getElem?_replicate]
        by_cases h2 : j < 512
        · rw [if_pos (by omega), if_pos (by omega)]
        · rw [if_neg (by omega), if_neg (by omega)]
  · have ek : k = 512 := by omega
    subst ek
    rw [Nat.sub_self, List.replicate_zero, List.append_nil] at r3
    refine hK h.size h3 f3 (Nat.le_refl _) ⟨by rw [List.length_map, List.length_replicate], rfl, rfl, o3, Nat.le_refl _, ?_, ?_⟩
    · show ((rd h3 h.size).drop 0).take _ = _
      rw [r3, List.drop_zero, List.take_length]
    · show 0 + 512 * 1 ≤ (rd h3 h.size).length
      rw [r3, List.length_map, List.length_replicate]; decide
theorem on255 (n j : Nat) : onC n [] 255 j = true := by
  by_cases h1 : j < (geoN n).data
  · exact onC_lo h1
  · by_cases h2 : n ≤ j
    · exact onC_hi h2
    · rw [onC_mid h1 h2, if_neg (by rw [List.length_nil]; omega)]
      have : ∀ s : Fin 8, (255 : UInt8).toNat.testBit s.val = true := by decide
      exact this ⟨_, by omega⟩
/-- what the law's loops leave alone -/
structure Lw (n0 a1 a2 : Nat) (g : G) (fl : List Bool) (F : Nat → Prop) (t d : Option Addr) (T : TM) (h0 hh : Heap) : Prop where
  x : Tx hh F t d T
  nF : ∀ b, F b → n0 ≤ b ∧ b ≠ a1 ∧ b ≠ a2
  r1 : rd hh a1 = g.v
  r2 : rd hh a2 = fl.map .bool
  o2 : Own hh a2
  f : Fr (fun b => n0 ≤ b) h0 hh
  n1 : n0 ≤ a1 ∧ a1 < a2 ∧ a2 < hh.size
theorem Lw.no {n0 a1 a2 : Nat} {g : G} {fl : List Bool} {F : Nat → Prop} {t d : Option Addr} {T : TM} {h0 hh hh' : Heap} (w : Lw n0 a1 a2 g fl F t d T h0 hh) (f : Fr No hh hh') : Lw n0 a1 a2 g fl F t d T h0 hh' := by
  have n1 := w.n1
  have z := f.size
  exact ⟨w.x.no f, w.nF, (f.rd (by omega) fun x => x).trans w.r1, (f.rd (by omega) fun x => x).trans w.r2, f.own (by omega) (fun x => x) w.o2, w.f.no f, by omega⟩
theorem Lw.call {n0 a1 a2 : Nat} {g : G} {fl : List Bool} {F F' : Nat → Prop} {t d : Option Addr} {T T' : TM} {h0 hh hh' : Heap} (w : Lw n0 a1 a2 g fl F t d T h0 hh) (f : Fr F hh hh') (gw : Gw hh F hh' F') (x : Tx hh' F' t d T') : Lw n0 a1 a2 g fl F' t d T' h0 hh' := by
  have n1 := w.n1
  have z := f.size
  have k1 : ¬ F a1 := fun y => (w.nF _ y).2.1 rfl
  have k2 : ¬ F a2 := fun y => (w.nF _ y).2.2 rfl
  refine ⟨x, fun b hb => ?_, (f.rd (by omega) k1).trans w.r1, (f.rd (by omega) k2).trans w.r2, f.own (by omega) k2 w.o2, w.f.trans f fun b _ y => (w.nF b y).1, by omega⟩
  rcases gw.new hb with y | y
  · exact w.nF b y
  · omega
theorem Lw.put {n0 a1 a2 i : Nat} {g : G} {fl : List Bool} {F : Nat → Prop} {t d : Option Addr} {T : TM} {h0 hh hh' : Heap} {b : Bool} (w : Lw n0 a1 a2 g fl F t d T h0 hh) (D : Did a2 hh hh' ((rd hh a2).set i (.bool b))) : Lw n0 a1 a2 g (fl.set i b) F t d T h0 hh' := by
  have n1 := w.n1
  have z := D.size
  refine ⟨w.x.fr D.fr fun c hc e => (w.nF c hc).2.2 e, w.nF, (D.at_ (by omega) (by omega)).trans w.r1, ?_, D.own, w.f.did D fun _ => by omega, by omega⟩
  rw [D.rd, w.r2, List.map_set]
def cntB (fl : List Bool) : Nat := fl.count true
/-- how many of fl are on from i on -/
def cntF (fl : List Bool) (i : Nat) : Nat := (fl.drop i).count true
theorem cntF_zero (fl : List Bool) : cntF fl 0 = fl.count true := by unfold cntF; rw [List.drop_zero]
theorem cntF_at {fl : List Bool} {i : Nat} (h : i < fl.length) : cntF fl i = (if fl.getD i false = true then 1 else 0) + cntF fl (i + 1) := by
  unfold cntF
  rw [List.drop_eq_getElem_cons h, List.count_cons, List.getD_eq_getElem?_getD, List.getElem?_eq_getElem h]
  cases fl[i] <;> simp [Nat.add_comm]
theorem count_set {fl : List Bool} {i : Nat} (h : i < fl.length) (h0 : fl.getD i false = false) : (fl.set i true).count true = fl.count true + 1 := by
  have e : fl[i] = false := by
    rw [List.getD_eq_getElem?_getD, List.getElem?_eq_getElem h] at h0; exact h0
  rw [List.count_set h, e]
  simp
theorem cntF_none {fl : List Bool} {i : Nat} (h : cntF fl i = 0) (j : Nat) (hj : i ≤ j) : fl.getD j false = false := by
  unfold cntF at h
  rw [List.count_eq_zero] at h
  rw [List.getD_eq_getElem?_getD]
  rcases Nat.lt_or_ge j fl.length with h1 | h1
  · rw [List.getElem?_eq_getElem h1]
    cases e : fl[j] with
    | false => rfl
    | true =>
      refine absurd ?_ h
      rw [List.mem_iff_getElem]
      refine ⟨j - i, by rw [List.length_drop]; omega, ?_⟩
      rw [List.getElem_drop]
      have : i + (j - i) = j := by omega
      simp only [this]; exact e
  · rw [List.getElem?_eq_none h1]; rfl
theorem getD_set (fl : List Bool) (i j : Nat) (b : Bool) (h : i < fl.length) : (fl.set i b).getD j false = if j = i then b else fl.getD j false := by
  rw [List.getD_eq_getElem?_getD, List.getElem?_set]
  by_cases e : i = j
  · rw [if_pos e, if_pos (by omega), if_pos e.symm]; rfl
  · rw [if_neg e, if_neg fun x => e x.symm, List.getD_eq_getElem?_getD]
def bm (n : Nat) : List Int := (List.range ((geoN n).inodes - 98)).map fun k => ((98 + k : Nat) : Int)
theorem bm_mem {n i : Nat} (h : i < 4096 * ((geoN n).inodes - 98)) : (geoN n).at_ i ∈ bm n := List.mem_map.mpr ⟨i / 4096, List.mem_range.mpr (by omega), rfl⟩
theorem bm_len {n : Nat} (hn : 128 ≤ n ∧ n ≤ 8196) : (bm n).length ≤ 3 := by
  have hino : (geoN n).inodes = 98 + (n + 4095) / 4096 := rfl
  unfold bm
  rw [List.length_map, List.length_range]; omega
def sevens : Txt := List.replicate 512 7
theorem take_put {T : TM} {g : G} {m : Nat} (e : (takeAt T g m).2.2 = 0) : ∃ B, (takeAt T g m).1.put = aput (aput T.put (g.at_ m) B) m zeros512 := by
  unfold takeAt at e ⊢
  split
  · rename_i h; rw [if_pos h] at e; exact absurd e h
  · rename_i h
    rw [if_neg h] at e
    split
    · rename_i h2; rw [if_pos h2] at e; exact absurd e h2
    · rename_i h2
      have h1 : (setBit T g m true).2 = 0 := by omega
      obtain ⟨_, e1⟩ := setBit_good h1
      have h3 : ((setBit T g m true).1.write m zeros512).2 = 0 := by omega
      obtain ⟨_, _, _, _, _, e3⟩ := TM.write_ok h3
      obtain ⟨_, _, _, _, _, e4⟩ := TM.write_ok (e1 ▸ h1 : (T.write (g.at_ m) (putBit (T.read (g.at_ m)).1 (m % 4096) true)).2 = 0)
      refine ⟨putBit (T.read (g.at_ m)).1 (m % 4096) true, ?_⟩
      show ((setBit T g m true).1.write m zeros512).1.put = _
      rw [e3]
      show aput (setBit T g m true).1.put m zeros512 = _
      rw [e1, e4]
end Go.Proofs.Ytpleolmalbdpnaa.Spc
