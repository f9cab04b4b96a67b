/-
  TRANSACTIONS: what the laws' helpers compute.
-/
import Derived.Test.YtpleolmalbdpnaaDoorTcA
import Derived.Test.YtpleolmalbdpnaaDoorTxL
namespace Go.Proofs.YtpleolmalbdpnaaDoor.Txl
open Go Go.Proofs Go.Proofs.YtpleolmalbdpnaaDoor.Wx Go.Proofs.YtpleolmalbdpnaaDoor.Hp Go.Proofs.YtpleolmalbdpnaaDoor.W Go.Proofs.YtpleolmalbdpnaaDoor.Ad Go.Proofs.YtpleolmalbdpnaaDoor.Tm Go.Proofs.YtpleolmalbdpnaaDoor.Spc

theorem mod_spec {v n : Int} {h : Heap} {K : Value → Heap → Prop} (h0 : 0 < n) (hn : n ≤ 4611686018427387904) (hK : K (.int .i64 (modI v n)) h) : C.bolelaw06_mod v n h K := by
  have h1 := Int.tmod_lt_of_pos v h0
  have h2 : -n < Int.tmod v n := by
    have h3 := Int.tmod_lt_of_pos (-v) h0
    rw [Int.neg_tmod] at h3; omega
  refine bolelaw06_mod.ok ?_
  unfold bolelaw06_mod
  rw [if_neg (by omega)]
  unfold modI at hK
  refine cd (fun hl => ?_) fun hl => ?_
  · rw [if_pos hl] at hK
    rw [wrap_i64 (by omega) (by omega)]; exact hK
  · rw [if_neg hl] at hK; exact hK
def halfB (x : UInt8) (k : Nat) : Txt := List.replicate k x ++ List.replicate (512 - k) 0
theorem rep_zeros : repCells [.int .u8 0] (Int.toNat 512) = (List.replicate 512 (0 : UInt8)).map bv := by
  rw [List.map_replicate]; rfl
theorem bl_spec {x : UInt8} {h : Heap} {K : Value → Heap → Prop} (hK : ∀ b h', Fr No h h' → h.size ≤ b → Sl h' 1 (some ⟨b, 0, none⟩) 512 512 ((blk1 x).map bv) (fun c => c = b) → K (.slice (some ⟨b, 0, none⟩) 512 512) h') : C.bolelaw06_block (x.toNat : Int) h K := by
  have e512 : Int.toNat 512 = 512 := rfl
  refine bolelaw06_block.ok ?_
  unfold bolelaw06_block
  rw [e512]
  refine ⟨by decide, New.intro fun h2 n2 => ?_⟩
  have z2 := n2.size
  refine ⟨fun i hh => ∃ k : Nat, i = k ∧ k ≤ 512 ∧ Fr No h hh ∧ h.size < hh.size ∧ Own hh h.size ∧ rd hh h.size = (halfB x k).map bv, fun i _ => (512 - i).toNat, ⟨0, rfl, Nat.zero_le _, n2.fr, by omega, n2.own, by rw [n2.rd, halfB, List.replicate_zero, List.nil_append]; exact rep_zeros⟩, ?_⟩
  rintro i h3 ⟨k, ei, hk, f3, s3, o3, r3⟩
  unfold halfB at r3
  refine cd (fun hlt => ?_) fun hlt => ?_
  · have hlt : k < 512 := by omega
    have et : Int.toNat i = k := by omega
    rw [et]
    refine ⟨⟨by omega, by omega⟩, Put.add o3 (by rw [r3, List.length_map, List.length_append, List.length_replicate, List.length_replicate]; show 0 + k < _; omega) fun h4 d4 => ?_⟩
    have z4 := d4.size
    rw [wrap_i64 (n := i + 1) (by omega) (by omega)]
    refine ⟨⟨k + 1, by omega, by omega, f3.did d4 fun hb => by omega, by omega, d4.own, ?_⟩, by show ((512 : Int) - (i + 1)).toNat < ((512 : Int) - i).toNat; omega⟩
    unfold halfB
    rw [d4.rd, r3, Nat.zero_add]
    have : (.int .u8 (x.toNat : Int) : Value) = bv x := rfl
    rw [this, ← List.map_set]
    congr 1
    apply List.ext_getElem?
    intro j
    rw [List.getElem?_set]
    by_cases hj : k = j
    · subst hj
      rw [if_pos rfl, if_pos (by rw [List.length_append, List.length_replicate, List.length_replicate]; omega), List.getElem?_append_left (by rw [List.length_replicate]; omega), List.getElem?_replicate, if_pos (by omega)]
    · rw [if_neg hj]
      rcases Nat.lt_or_ge j k with h1 | h1
      · rw [List.getElem?_append_left (by rw [List.length_replicate]; omega), List.getElem?_append_left (by rw [List.length_replicate]; omega), List.getElem?_replicate, List.getElem?_replicate, if_pos (by omega), if_pos (by omega)]
      · rw [List.getElem?_append_right (by rw [List.length_replicate]; omega), List.getElem?_append_right (by rw [List.length_replicate]; omega), List.length_replicate, List.length_replicate, List.getElem?_replicate, List.getElem?_replicate]
        by_cases h2 : j < 512
        · rw [if_pos (by omega), if_pos (by omega)]
        · rw [if_neg (by omega), if_neg (by omega)]
  · have ek : k = 512 := by omega
    subst ek
    rw [Nat.sub_self, List.replicate_zero, List.append_nil] at r3
    refine hK h.size h3 f3 (Nat.le_refl _) ⟨by rw [List.length_map, blk1_length], rfl, rfl, o3, Nat.le_refl _, ?_, ?_⟩
    · show ((rd h3 h.size).drop 0).take _ = _
      rw [r3, List.drop_zero]; exact List.take_length
    · show 0 + 512 * 1 ≤ (rd h3 h.size).length
      rw [r3, List.length_map, List.length_replicate]; decide
theorem u8_of {k : Nat} (h : k < 256) : IntKind.wrap .u8 (k : Int) = ((UInt8.ofNat k).toNat : Int) := by
  rw [wrap_u8 (by omega) (by omega), UInt8.toNat_ofNat_of_lt' (by omega)]
/-- blocks of one byte are held against one another -/
theorem two_blk {hh : Heap} {a b : Option Addr} {l m : Nat} {x : Txt} {y : UInt8} (A : StrAt hh a l x) (B : StrAt hh b m (blk1 y)) {P Q : Prop} (h : x = blk1 y) (k : P) :
    ∃ bs2 : List UInt8, StrAt hh b m bs2 ∧ (bif (!((mkStr x).toList == (mkStr bs2).toList)) then Q else P) := by
  refine ⟨_, B, ?_⟩
  rw [toList_mkStr, toList_mkStr, h, beq_self_eq_true]; exact k
theorem fresh_spec {N : Nat} {h : Heap} {K : Value → Heap → Prop} (h0 : 98 ≤ N) (h1 : N ≤ 256) (hK : ∀ q h' D, Fr No h h' → (∀ b, D b → h.size ≤ b) → DiskF h' D (some q) (fresh (freshL N)) → K (.pointer (some q)) h') : C.bolelaw06_fresh (N : Int) h K := by
  refine bolelaw06_fresh.ok ⟨fun a l c i hh => ∃ k : Nat, i = k ∧ k ≤ N ∧ Fr No h hh ∧ Sl hh 1 a l c ((freshL k).flatten.map bv) (From h.size), fun _ _ _ i _ => ((N : Int) - i).toNat, ⟨0, rfl, Nat.zero_le _, Fr.refl _ _, Sl.nil _ _ _⟩, ?_⟩
  rintro a l c i h2 ⟨k, ei, hk, f2, s2⟩
  have el : l = k * 512 := by
    have := s2.1
    rw [List.length_map, flatten_len _ (freshL_len k), freshL_length] at this; omega
  have step : ∀ {a2 : Option Addr} {l2 c2 : Nat} {h3 h4 : Heap} {x : Txt} , x = blk1 (byteI k) → k < N → Fr No h2 h3 → Fr (From h.size) h3 h4 → Sl h4 1 a2 (l + 512) c2 ((freshL k).flatten.map bv ++ x.map bv) (fun b => From h.size b ∨ h3.size ≤ b) → l2 = l + 512 →
      (∃ k' : Nat, IntKind.wrap .i64 (i + 1) = k' ∧ k' ≤ N ∧ Fr No h h4 ∧ Sl h4 1 a2 l2 c2 ((freshL k').flatten.map bv) (From h.size)) ∧ ((N : Int) - IntKind.wrap .i64 (i + 1)).toNat < ((N : Int) - i).toNat := by
    intro a2 l2 c2 h3 h4 x ex hlt f3 f4 s4 e2
    subst e2
    have z2 := f2.size
    have z3 := f3.size
    rw [wrap_i64 (by omega) (by omega)]
    refine ⟨⟨k + 1, by omega, by omega, (f2.no f3).trans f4 fun b hb y => by have y : h.size ≤ b := y; omega, ?_⟩, by omega⟩
    have e : (freshL (k + 1)).flatten = (freshL k).flatten ++ x := by
      unfold freshL
      rw [List.range_succ, List.map_append, List.flatten_append, ex]; simp
    rw [e, List.map_append]
    exact s4.mono fun b y => y.elim id fun q => Nat.le_trans (by omega) q
  have app : ∀ {h3 : Heap} {b : Nat} {x : Txt} {KK : Option Addr → Nat → Nat → Heap → Prop}, x = blk1 (byteI k) → k < N → Fr No h2 h3 → Sl h3 1 (some ⟨b, 0, none⟩) 512 512 (x.map bv) (fun c => c = b) →
      (∀ a2 l2 c2 h4, ((∃ k' : Nat, IntKind.wrap .i64 (i + 1) = k' ∧ k' ≤ N ∧ Fr No h h4 ∧ Sl h4 1 a2 l2 c2 ((freshL k').flatten.map bv) (From h.size)) ∧ ((N : Int) - IntKind.wrap .i64 (i + 1)).toNat < ((N : Int) - i).toNat) → KK a2 l2 c2 h4) →
      ∃ new1 : List Value, List.length new1 = 512 * 1 ∧ SlCells h3 (some ⟨b, 0, none⟩) new1 ∧ (∀ v ∈ new1, v.oneCell' = true) ∧ AppendP ti5 5 a l c 512 new1 h3 KK := by
    intro h3 b x KK ex hlt f3 s3 hKK
    have lx : x.length = 512 := by rw [ex]; exact blk1_length _
    refine ⟨x.map bv, by rw [List.length_map, lx], s3.cells, bv_one _, ?_⟩
    have s2' : Sl h3 1 a l c ((freshL k).flatten.map bv) (From h.size) := s2.fr f3 fun _ _ _ y => y
    refine append_own (elem := ti5) s2' (by rw [List.length_map, lx]; rfl) rfl (by show (l + 512) * 1 ≤ _; omega) (by omega) fun a' c' h4 f4 s4 => ?_
    exact hKK _ _ _ _ (step ex hlt f3 f4 s4 rfl)
  have big : ∀ {x : Nat}, x < 256 → byteI x = UInt8.ofNat x ∨ (0 < x ∧ x < 98) := fun {x} _ => by
    unfold byteI
    by_cases e : 0 < x ∧ x < 98
    · exact .inr e
    · rw [if_neg e]; exact .inl rfl
  refine cd (fun hlt => ?_) fun hlt => ?_
  · have hlt' : k < N := by omega
    subst ei
    refine cd (fun hp => cd (fun h98 => ?_) fun h98 => ?_) fun hp => ?_
    · refine bl_spec (x := 0) fun b h3 f3 hb s3 => ⟨_, _, _, rfl, app (x := blk1 0) ?_ hlt' f3 s3 fun _ _ _ _ y => y⟩
      unfold byteI
      rw [if_pos ⟨by omega, by omega⟩]
    · rw [u8_of (show k < 256 by omega)]
      refine bl_spec (x := UInt8.ofNat k) fun b h3 f3 hb s3 => ⟨_, _, _, rfl, app (x := blk1 (UInt8.ofNat k)) ?_ hlt' f3 s3 fun _ _ _ _ y => y⟩
      rcases big (show k < 256 by omega) with e | e
      · rw [e]
      · omega
    · rw [u8_of (show k < 256 by omega)]
      refine bl_spec (x := UInt8.ofNat k) fun b h3 f3 hb s3 => ⟨_, _, _, rfl, app (x := blk1 (UInt8.ofNat k)) ?_ hlt' f3 s3 fun _ _ _ _ y => y⟩
      rcases big (show k < 256 by omega) with e | e
      · rw [e]
      · omega
  · have ek : k = N := by omega
    subst ek
    refine openF_spec s2.str s2.le (by omega) (fun hb => ?_) fun e1 e2 e3 q h9 D f9 hD A => ⟨_, _, rfl, ?_⟩
    · exfalso; omega
    rw [chunks_flatten (freshL_len k)] at A
    refine cn (fun x => absurd rfl x) fun _ => cf rfl (DiskF.blocks A ⟨_, rfl, cn (fun x => ?_) fun _ => ?_⟩)
    · exact absurd (by show ((freshL k).length : Int) = k; rw [freshL_length]) x
    · exact hK q h9 D (f2.no f9) (fun b hb => Nat.le_trans f2.size (hD b hb)) A
theorem DiskF.steps {h : Heap} {D : Nat → Prop} {d : Option Addr} {S : RD} {K : Value → Heap → Prop} (A : DiskF h D d S) (hK : K (.tuple #[.int .i64 S.writes, .int .i64 S.flushes]) h) : C.adisk_Disk_Steps d h K := by
  obtain ⟨col, A, _⟩ := A
  exact Steps_spec A hK
/-- reading a transaction's block -/
theorem tread {h : Heap} {F : Nat → Prop} {t d : Option Addr} {T : TM} {i : Int} {K : Value → Heap → Prop} (x : Tx h F t d T) (e : (T.read i).2 = 0)
    (hK : ∀ a l c h', Fr No h h' → StrAt h' a l (T.read i).1 → K (.tuple #[.slice a l c, .int .i64 0]) h') : C.txn_Txn_Read t i h K :=
  Read_spec x fun a l c h' f _ s => by rw [e]; exact hK a l c h' f s.str
end Go.Proofs.YtpleolmalbdpnaaDoor.Txl
