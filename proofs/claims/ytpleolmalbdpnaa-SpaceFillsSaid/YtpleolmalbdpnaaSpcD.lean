/-
  SPACE: a case's disk.
-/
import Derived.Test.YtpleolmalbdpnaaSpcC
namespace Go.Proofs.Ytpleolmalbdpnaa.Spc
open Go Go.Proofs Go.Proofs.Ytpleolmalbdpnaa.Wx Go.Proofs.Ytpleolmalbdpnaa.Hp Go.Proofs.Ytpleolmalbdpnaa.W Go.Proofs.Ytpleolmalbdpnaa.Ad Go.Proofs.Ytpleolmalbdpnaa.Tm Go.Proofs.Ytpleolmalbdpnaa.Bt Go.Proofs.Ytpleolmalbdpnaa.Rg

def modI (v n : Int) : Int := if Int.tmod v n < 0 then Int.tmod v n + n else Int.tmod v n
theorem modI_range {v n : Int} (h : 0 < n) : 0 ≤ modI v n ∧ modI v n < n := by
  unfold modI
  have h1 := Int.tmod_lt_of_pos v h
  have h2 : -n < Int.tmod v n := by
    have h3 := Int.tmod_lt_of_pos (-v) h
    rw [Int.neg_tmod] at h3; omega
  split <;> omega
theorem mod_spec {v n : Int} {h : Heap} {K : Value → Heap → Prop} (h0 : 0 < n) (hn : n ≤ 4611686018427387904) (hK : K (.int .i64 (modI v n)) h) : C.bolelaw09_mod v n h K := by
  have h1 := Int.tmod_lt_of_pos v h0
  have h2 : -n < Int.tmod v n := by
    have h3 := Int.tmod_lt_of_pos (-v) h0
    rw [Int.neg_tmod] at h3; omega
  refine bolelaw09_mod.ok ?_
  unfold bolelaw09_mod
  rw [if_neg (by omega)]
  unfold modI at hK
  refine cd (fun hl => ?_) fun hl => ?_
  · rw [if_pos hl] at hK
    rw [wrap_i64 (by omega) (by omega)]; exact hK
  · rw [if_neg hl] at hK; exact hK
/-- how many blocks a case has -/
def blkN (v : Int) : Nat := if modI v 200 < 180 then 128 + (modI v 200).toNat else if modI v 200 < 190 then 3911 + (modI v 200).toNat else 7997 + (modI v 200).toNat
theorem blkN_range (v : Int) : 128 ≤ blkN v ∧ blkN v ≤ 8196 := by
  have := modI_range (v := v) (n := 200) (by decide)
  unfold blkN
  split
  · omega
  · split <;> omega
def caseV (v : Int) (bA : Option Addr) (bL bC : Nat) (rest : UInt8) (sA : Option Addr) (sL sC : Nat) : List Value := [.int .i64 v, .slice bA bL bC, bv rest, .slice sA sL sC]
theorem blocks_spec {v : Int} {bA sA : Option Addr} {bL bC sL sC : Nat} {rest : UInt8} {h : Heap} {K : Value → Heap → Prop} (hK : ∀ h', Fr No h h' → K (.int .i64 (blkN v)) h') : C.bolelaw09_Case_blocks (caseV v bA bL bC rest sA sL sC) h K := by
  have hr := modI_range (v := v) (n := 200) (by decide)
  refine bolelaw09_Case_blocks.ok (New.intro fun h2 n2 => ⟨_, rda n2.rd rfl, mod_spec (by decide) (by decide) ⟨_, rfl, ?_⟩⟩)
  have hK := hK h2 n2.fr
  unfold blkN at hK
  refine cd (fun h1 => ?_) fun h1 => cd (fun h2 => ?_) fun h2 => ?_
  · rw [if_pos h1] at hK
    rw [wrap_i64 (by omega) (by omega), show (128 : Int) + modI v 200 = ((128 + (modI v 200).toNat : Nat) : Int) by omega]; exact hK
  · rw [if_neg h1, if_pos h2] at hK
    rw [wrap_i64 (n := 4096 + modI v 200) (by omega) (by omega), wrap_i64 (by omega) (by omega), show (4096 : Int) + modI v 200 - 185 = ((3911 + (modI v 200).toNat : Nat) : Int) by omega]; exact hK
  · rw [if_neg h1, if_neg h2] at hK
    rw [wrap_i64 (n := 8192 + modI v 200) (by omega) (by omega), wrap_i64 (by omega) (by omega), show (8192 : Int) + modI v 200 - 195 = ((7997 + (modI v 200).toNat : Nat) : Int) by omega]; exact hK
/-- where the regions of n blocks lie -/
def geoN (n : Nat) : G := ⟨n, 98, 98 + (n + 4095) / 4096, 98 + (n + 4095) / 4096 + n / 64, 8 * (n / 64)⟩
theorem geoN_ok {n : Nat} (h : n ≤ 16384) : (geoN n).ok := by
  refine ⟨?_, ?_, ?_, ?_⟩
  · show n ≤ _; omega
  · show 98 ≤ _; omega
  · show 98 + (n + 4095) / 4096 ≤ _; omega
  · show 98 + (n + 4095) / 4096 + n / 64 ≤ _; omega
theorem G.one (g : G) : ∀ v ∈ g.v, v.oneCell' = true := by
  intro v hv
  simp only [G.v, List.mem_cons, List.not_mem_nil, or_false] at hv
  rcases hv with rfl | rfl | rfl | rfl | rfl <;> rfl
theorem Geo_spec {n : Nat} {h : Heap} {K : Value → Heap → Prop} (hn : n ≤ 1099511627776) (hK : ∀ h', Fr No h h' → K (.agg ⟨(geoN n).v⟩) h') : C.boleref09_Geo n h K := by
  refine boleref09_Geo.ok ?_
  unfold boleref09_Geo
  have e1 : Int.tdiv ((n : Int) + 4096 - 1) 4096 = (((n + 4095) / 4096 : Nat) : Int) := by
    rw [show (n : Int) + 4096 - 1 = ((n + 4095 : Nat) : Int) by omega]; rfl
  have e2 : Int.tdiv (n : Int) 64 = ((n / 64 : Nat) : Int) := rfl
  rw [wrap_i64 (n := (n : Int) + 4096) (by omega) (by omega), wrap_i64 (n := (n : Int) + 4096 - 1) (by omega) (by omega), e1, e2, wrap_i64 (n := (((n + 4095) / 4096 : Nat) : Int)) (by omega) (by omega),
    wrap_i64 (n := 98 + (((n + 4095) / 4096 : Nat) : Int)) (by omega) (by omega), wrap_i64 (n := ((n / 64 : Nat) : Int)) (by omega) (by omega), wrap_i64 (n := 98 + (((n + 4095) / 4096 : Nat) : Int) + ((n / 64 : Nat) : Int)) (by omega) (by omega), wrap_i64 (n := 8 * ((n / 64 : Nat) : Int)) (by omega) (by omega)]
  rw [show (98 : Int) + (((n + 4095) / 4096 : Nat) : Int) = ((98 + (n + 4095) / 4096 : Nat) : Int) by omega, show ((98 + (n + 4095) / 4096 : Nat) : Int) + ((n / 64 : Nat) : Int) = ((98 + (n + 4095) / 4096 + n / 64 : Nat) : Int) by omega, show 8 * ((n / 64 : Nat) : Int) = ((8 * (n / 64) : Nat) : Int) by omega]
  exact NewRow.intro (cs := (geoN n).v) rfl (G.one _) rfl fun h3 n3 => ⟨(geoN n).v, rfl, cellsAll n3.rd, hK h3 n3.fr⟩
/-- whether a case's block is taken -/
def onC (n : Nat) (bits : Txt) (rest : UInt8) (j : Nat) : Bool :=
  if j < (geoN n).data then true else if n ≤ j then true else (if (j - (geoN n).data) / 8 < bits.length then bits.getD ((j - (geoN n).data) / 8) 0 else rest).toNat.testBit ((j - (geoN n).data) % 8)
theorem onC_lo {n : Nat} {bits : Txt} {rest : UInt8} {j : Nat} (h : j < (geoN n).data) : onC n bits rest j = true := if_pos h
theorem onC_hi {n : Nat} {bits : Txt} {rest : UInt8} {j : Nat} (h : n ≤ j) : onC n bits rest j = true := by
  by_cases h1 : j < (geoN n).data
  · exact if_pos h1
  · exact (if_neg h1).trans (if_pos h)
theorem onC_mid {n : Nat} {bits : Txt} {rest : UInt8} {j : Nat} (h1 : ¬ j < (geoN n).data) (h2 : ¬ n ≤ j) :
    onC n bits rest j = (if (j - (geoN n).data) / 8 < bits.length then bits.getD ((j - (geoN n).data) / 8) 0 else rest).toNat.testBit ((j - (geoN n).data) % 8) := by
  unfold onC; rw [if_neg h1, if_neg h2]
/-- an image's bytes -/
structure Img (n : Nat) (on : Nat → Bool) (i : Nat) (L : Txt) : Prop where
  len : L.length = n * 512
  bits : ∀ j, j < 4096 * ((geoN n).inodes - 98) → bitAt L (98 * 4096 + j) = (decide (j < i) && on j)
  rest : ∀ j, j < 98 * 512 ∨ (geoN n).inodes * 512 ≤ j → L.getD j 0 = if (geoN n).data * 512 ≤ j ∧ j < n * 512 then 7 else 0
theorem Img.put {n i : Nat} {on : Nat → Bool} {L : Txt} (a : Img n on i L) (hn : 128 ≤ n ∧ n ≤ 8196) (hi : i < 4096 * ((geoN n).inodes - 98)) (ho : on i = true) : Img n on (i + 1) (putBit L (98 * 4096 + i) true) := by
  have hle : (geoN n).inodes * 512 ≤ n * 512 := by show (98 + (n + 4095) / 4096) * 512 ≤ _; omega
  have h98 : 98 ≤ (geoN n).inodes := by show 98 ≤ 98 + _; omega
  refine ⟨(putBit_length ..).trans a.len, fun j hj => ?_, fun j hj => ?_⟩
  · rw [bitAt_putBit _ _ _ _ (by rw [a.len]; omega)]
    by_cases h : j = i
    · subst h
      rw [if_pos rfl, ho, decide_eq_true (by omega)]; rfl
    · rw [if_neg (by omega), a.bits j hj]
      have : decide (j < i + 1) = decide (j < i) := decide_eq_decide.mpr (by omega)
      rw [this]
  · rw [← a.rest j hj]
    unfold putBit
    rw [List.getD_eq_getElem?_getD, List.getElem?_set_ne (by omega), ← List.getD_eq_getElem?_getD]
theorem Img.skip {n i : Nat} {on : Nat → Bool} {L : Txt} (a : Img n on i L) (ho : on i = false) : Img n on (i + 1) L := by
  refine ⟨a.len, fun j hj => ?_, a.rest⟩
  rw [a.bits j hj]
  by_cases h : j = i
  · subst h; rw [ho, Bool.and_false, Bool.and_false]
  · have : decide (j < i + 1) = decide (j < i) := decide_eq_decide.mpr (by omega)
    rw [this]
theorem set7 {h hh : Heap} {b i : Nat} {L : Txt} (hi : i < L.length) (r : rd h b = L.map bv) (d : Did b h hh ((rd h b).set (0 + i) (.int .u8 7))) : rd hh b = (L.set i 7).map bv := by
  rw [d.rd, r, List.map_set, Nat.zero_add]; rfl
theorem image_spec {v : Int} {bA sA : Option Addr} {bL bC sL sC : Nat} {rest : UInt8} {bits : Txt} {h : Heap} {K : Value → Heap → Prop} (B : StrAt h bA bL bits) (hbl : bL ≤ 140737488355328)
    (hK : ∀ b L h', Fr No h h' → Img (blkN v) (onC (blkN v) bits rest) (4096 * ((geoN (blkN v)).inodes - 98)) L → Sl h' 1 (some ⟨b, 0, none⟩) (blkN v * 512) (blkN v * 512) (L.map bv) (From h.size) → K (.slice (some ⟨b, 0, none⟩) (blkN v * 512) (blkN v * 512)) h') :
    C.bolelaw09_Case_image (caseV v bA bL bC rest sA sL sC) h K := by
  have hn := blkN_range v
  refine bolelaw09_Case_image.ok (New.intro fun h2 n2 => ⟨caseV v bA bL bC rest sA sL sC, rfl, cellsAll n2.rd, blocks_spec fun h3 f3 => ⟨_, rfl, ?_⟩⟩)
  generalize blkN v = n at hn hK ⊢
  refine Geo_spec (by omega) fun h4 f4 => ⟨_, rfl, NewRow.intro rfl (G.one _) rfl fun h6 n6 => ?_⟩
  rw [wrap_i64 (n := (n : Int) * 512) (by omega) (by omega)]
  have en : Int.toNat ((n : Int) * 512) = n * 512 := by omega
  rw [en]
  refine ⟨by omega, New.intro fun h7 n7 => ?_⟩
  have z2 := n2.size
  have z3 := f3.size
  have z4 := f4.size
  have z6 := n6.size
  have z7 := n7.size
  have F4 : Fr No h h4 := (n2.fr.no f3).no f4
  have F7 : Fr No h h7 := (F4.new n6).new n7
  have rc : rd h7 h.size = caseV v bA bL bC rest sA sL sC := by
    rw [n7.at_ (by omega), n6.at_ (by omega), f4.rd (by omega) fun x => x, f3.rd (by omega) fun x => x, n2.rd]
  have rg : rd h7 h4.size = (geoN n).v := (n7.at_ (by omega)).trans n6.rd
  have hdat : (geoN n).data = 98 + (n + 4095) / 4096 + n / 64 := rfl
  have hino : (geoN n).inodes = 98 + (n + 4095) / 4096 := rfl
  have hle : (geoN n).data ≤ n := by omega
  have hs : h4.size < h6.size := by omega
  refine ⟨_, rda rg rfl, ?_⟩
  rw [wrap_i64 (n := (((geoN n).data : Nat) : Int) * 512) (by omega) (by omega)]
  refine ⟨fun i hh => ∃ k : Nat, i = k ∧ (geoN n).data * 512 ≤ k ∧ k ≤ n * 512 ∧ ∃ L : Txt, L.length = n * 512 ∧ (∀ j, L.getD j 0 = if (geoN n).data * 512 ≤ j ∧ j < k then 7 else 0) ∧ rd hh h6.size = L.map bv ∧ Own hh h6.size ∧ Fr (fun b => b = h6.size) h7 hh,
    fun i _ => ((n * 512 : Int) - i).toNat, ⟨(geoN n).data * 512, by omega, Nat.le_refl _, by omega, List.replicate (n * 512) 0, List.length_replicate, fun j => ?_, ?_, n7.own, Fr.refl _ _⟩, ?_⟩
  · rw [if_neg (by omega), List.getD_eq_getElem?_getD, List.getElem?_replicate]
    split <;> rfl
  · rw [n7.rd, List.map_replicate]; exact rep_one _ _
  rintro _ h8 ⟨k, rfl, k0, k1, L, hL, hb, r8, o8, f8⟩
  have z8 := f8.size
  refine cd (fun hk => ?_) fun hk => ?_
  · refine ⟨⟨by omega, by omega⟩, Put.add o8 (by rw [r8, List.length_map]; show 0 + k < _; omega) fun h9 d9 => ?_⟩
    rw [wrap_i64 (n := (k : Int) + 1) (by omega) (by omega)]
    refine ⟨⟨k + 1, rfl, by omega, by omega, L.set k 7, by rw [List.length_set]; exact hL, fun j => ?_, set7 (by omega) r8 d9, d9.own, f8.trans d9.fr fun _ _ e => e⟩, by show ((n * 512 : Int) - ((k : Int) + 1)).toNat < ((n * 512 : Int) - (k : Int)).toNat; omega⟩
    rw [List.getD_eq_getElem?_getD]
    by_cases hj : j = k
    · subst hj
      rw [List.getElem?_set_self (by omega), if_pos (by omega)]; rfl
    · rw [List.getElem?_set_ne (by omega), ← List.getD_eq_getElem?_getD, hb j]
      by_cases h1 : (geoN n).data * 512 ≤ j ∧ j < k
      · rw [if_pos h1, if_pos (by omega)]
      · rw [if_neg h1, if_neg (by omega)]
  · have ek : k = n * 512 := by omega
    subst ek
    have I0 : Img n (onC n bits rest) 0 L := by
      refine ⟨hL, fun j hj => ?_, fun j hj => hb j⟩
      unfold bitAt
      rw [hb, if_neg (by omega), decide_eq_false (by omega)]
      exact Nat.zero_testBit _
    refine ⟨fun i hh => ∃ (k : Nat) (L : Txt), i = k ∧ k ≤ 4096 * ((geoN n).inodes - 98) ∧ Img n (onC n bits rest) k L ∧ rd hh h6.size = L.map bv ∧ Own hh h6.size ∧ Fr (fun b => b = h6.size) h7 hh,
      fun i _ => ((4096 * ((geoN n).inodes - 98) : Nat) - i).toNat, ⟨0, L, rfl, Nat.zero_le _, I0, r8, o8, f8⟩, ?_⟩
    rintro _ h10 ⟨i, L, rfl, i1, I, r10, o10, f10⟩
    have z10 := f10.size
    have rg10 : rd h10 h4.size = (geoN n).v := (f10.rd (by omega) (by omega)).trans rg
    have rc10 : rd h10 h.size = caseV v bA bL bC rest sA sL sC := (f10.rd (by omega) (by omega)).trans rc
    have B10 : StrAt h10 bA bL bits := str_from B (F7.mono (fun _ _ y => y.elim) |>.trans f10 fun b hb e => by have e : b = h6.size := e; show h.size ≤ b; omega)
    refine ⟨_, rda rg10 rfl, _, rda rg10 rfl, ?_⟩
    have eb : (geoN n).bitmap = 98 := rfl
    rw [eb, wrap_i64 (n := (((geoN n).inodes : Nat) : Int) - (98 : Nat)) (by omega) (by omega), wrap_i64 (n := ((((geoN n).inodes : Nat) : Int) - (98 : Nat)) * 4096) (by omega) (by omega)]
    have third : ∀ b : Bool, b = onC n bits rest i → i < 4096 * ((geoN n).inodes - 98) → bolelaw09_Case_image.k3 n h4 h6 i h10 (fun i hh => ∃ (k : Nat) (L : Txt), i = k ∧ k ≤ 4096 * ((geoN n).inodes - 98) ∧ Img n (onC n bits rest) k L ∧ rd hh h6.size = L.map bv ∧ Own hh h6.size ∧ Fr (fun b => b = h6.size) h7 hh)
        (fun i _ => ((4096 * ((geoN n).inodes - 98) : Nat) - i).toNat) b K := by
      intro b hb hi
      have fall : ((4096 * ((geoN n).inodes - 98) : Nat) - ((i : Int) + 1)).toNat < ((4096 * ((geoN n).inodes - 98) : Nat) - (i : Int)).toNat := by omega
      unfold bolelaw09_Case_image.k3
      rw [wrap_i64 (n := (i : Int) + 1) (by omega) (by omega)]
      cases b with
      | false => exact cf rfl ⟨⟨i + 1, L, rfl, by omega, I.skip hb.symm, r10, o10, f10⟩, fall⟩
      | true =>
        have hln := I.len
        have hi2 : i / 8 + 98 * 512 < n * 512 := by omega
        have c10 : cellOf h10 (Addr.add ⟨h6.size, 0, none⟩ (i / 8 + 98 * 512)) = some (bv (L.getD (i / 8 + 98 * 512) 0)) := by
          refine rda r10 ?_
          rw [Nat.zero_add, List.getElem?_map, List.getD_eq_getElem?_getD, List.getElem?_eq_getElem (by omega)]; rfl
        refine ct rfl ⟨_, rda rg10 rfl, ?_⟩
        rw [eb, tdiv8, tmod8, wrap_i64 (n := ((i / 8 : Nat) : Int)) (by omega) (by omega), wrap_i64 (n := ((98 : Nat) : Int) * 512) (by omega) (by omega), wrap_i64 (n := ((98 : Nat) : Int) * 512 + ((i / 8 : Nat) : Int)) (by omega) (by omega)]
        rw [wrap_i64 (n := (n : Int) * 512) (by omega) (by omega), en]
        have et : Int.toNat (((98 : Nat) : Int) * 512 + ((i / 8 : Nat) : Int)) = i / 8 + 98 * 512 := by omega
        rw [et]
        refine ⟨⟨by omega, by omega⟩, _, c10, ?_⟩
        rw [if_neg (by omega)]
        refine ⟨⟨by omega, by omega⟩, ?_⟩
        have hx : (L.getD (i / 8 + 98 * 512) 0).toNat < 256 := UInt8.toNat_lt _
        have ob := bit_or ⟨(L.getD (i / 8 + 98 * 512) 0).toNat, hx⟩ ⟨i % 8, by omega⟩
        have ob : bitsI .or .u8 ((L.getD (i / 8 + 98 * 512) 0).toNat : Int) (IntKind.wrap .u8 (1 * 2 ^ min (Int.toNat ((i % 8 : Nat) : Int)) 8)) = (setB (L.getD (i / 8 + 98 * 512) 0).toNat (i % 8) true : Nat) := ob
        rw [ob]
        have hl2 : 0 + (i / 8 + 98 * 512) < (rd h10 h6.size).length := by rw [r10, List.length_map, hln, Nat.zero_add]; exact hi2
        refine Put.add o10 hl2 fun h11 d11 => ⟨⟨i + 1, _, rfl, by omega, I.put hn hi hb.symm, ?_, d11.own, f10.trans d11.fr fun _ _ e => e⟩, fall⟩
        rw [d11.rd, r10, Nat.zero_add]
        unfold putBit
        rw [show (98 * 4096 + i) / 8 = i / 8 + 98 * 512 by omega, show (98 * 4096 + i) % 8 = i % 8 by omega, List.map_set]
        have ex : (.int .u8 ((setB (L.getD (i / 8 + 98 * 512) 0).toNat (i % 8) true : Nat) : Int) : Value) = bv (UInt8.ofNat (setB (L.getD (i / 8 + 98 * 512) 0).toNat (i % 8) true)) := by
          show _ = Value.int .u8 _
          rw [UInt8.toNat_ofNat_of_lt' (setB_lt' hx (by omega) true)]
        rw [ex]
    refine cd (fun hi => ⟨_, rda rg10 rfl, cd (fun hd => ?_) fun hd => ?_⟩) fun hi => ?_
    · refine cnot (ct rfl (third true ?_ (by omega)))
      exact (onC_lo (by omega)).symm
    · unfold bolelaw09_Case_image.k1
      refine cnot (cd (fun hge => ?_) fun hge => ?_)
      · rw [decide_eq_true hge]
        exact third true (onC_hi (by omega)).symm (by omega)
      · have on_ : onC n bits rest i = (if (i - (geoN n).data) / 8 < bits.length then bits.getD ((i - (geoN n).data) / 8) 0 else rest).toNat.testBit ((i - (geoN n).data) % 8) := onC_mid (by omega) (by omega)
        have B1 := B10.1
        have r2 : ∀ x : UInt8, onC n bits rest i = x.toNat.testBit ((i - (geoN n).data) % 8) → bolelaw09_Case_image.k2 n h4 h6 i h10 (fun i hh => ∃ (k : Nat) (L : Txt), i = k ∧ k ≤ 4096 * ((geoN n).inodes - 98) ∧ Img n (onC n bits rest) k L ∧ rd hh h6.size = L.map bv ∧ Own hh h6.size ∧ Fr (fun b => b = h6.size) h7 hh)
            (fun i _ => ((4096 * ((geoN n).inodes - 98) : Nat) - i).toNat) ((geoN n).data : Nat) (x.toNat : Int) K := by
          intro x hx
          unfold bolelaw09_Case_image.k2
          rw [wrap_i64 (n := (i : Int) - ((geoN n).data : Nat)) (by omega) (by omega), show (i : Int) - ((geoN n).data : Nat) = ((i - (geoN n).data : Nat) : Int) by omega, tmod8, if_neg (by omega)]
          have := bit_read ⟨x.toNat, UInt8.toNat_lt _⟩ ⟨(i - (geoN n).data) % 8, by omega⟩
          exact third _ (this.trans hx.symm) (by omega)
        refine ⟨_, rda rg10 rfl, _, rda rc10 rfl, _, _, _, rda rc10 rfl, ?_⟩
        rw [wrap_i64 (n := (i : Int) - ((geoN n).data : Nat)) (by omega) (by omega), show (i : Int) - ((geoN n).data : Nat) = ((i - (geoN n).data : Nat) : Int) by omega, tdiv8, wrap_i64 (n := (((i - (geoN n).data) / 8 : Nat) : Int)) (by omega) (by omega)]
        refine cd (fun hlt => ⟨_, _, _, rda rc10 rfl, ⟨by omega, by omega⟩, ?_⟩) fun hlt => ?_
        · obtain ⟨p, ep, hc⟩ := cell_at B10 (j := (i - (geoN n).data) / 8) (by omega)
          refine Bt.oe ep ⟨_, hc, r2 _ ?_⟩
          rw [on_, if_pos (by omega)]
        · refine r2 rest ?_
          rw [on_, if_neg (by omega)]
    · have ei : i = 4096 * ((geoN n).inodes - 98) := by omega
      subst ei
      refine hK h6.size L h10 (F7.trans f10 fun b hb e => by omega) I ⟨by rw [List.length_map, I.len]; omega, rfl, ?_, o10, Nat.le_refl _, ?_, ?_⟩
      · show h.size ≤ h6.size; omega
      · show ((rd h10 h6.size).drop 0).take _ = _
        rw [r10, List.drop_zero, List.take_length]
      · show 0 + n * 512 * 1 ≤ (rd h10 h6.size).length
        rw [r10, List.length_map, I.len]; omega
end Go.Proofs.Ytpleolmalbdpnaa.Spc
