import Derived.Test.YtcdpakjhjmchhaaGreatDoorBmI
import Derived.Test.YtcdpakjhjmchhaaGreatDoorRxC
/-
  bolelaw10: a statement's disk.
-/
namespace Go.Proofs.YtcdpakjhjmchhaaGreatDoor.Bm
open Go Go.Proofs Go.Proofs.YtcdpakjhjmchhaaGreatDoor.Wx Go.Proofs.YtcdpakjhjmchhaaGreatDoor.Hp Go.Proofs.YtcdpakjhjmchhaaGreatDoor.W Go.Proofs.YtcdpakjhjmchhaaGreatDoor.Ad Go.Proofs.YtcdpakjhjmchhaaGreatDoor.Tm Go.Proofs.YtcdpakjhjmchhaaGreatDoor.Bt Go.Proofs.YtcdpakjhjmchhaaGreatDoor.Spc Go.Proofs.YtcdpakjhjmchhaaGreatDoor.Re Go.Proofs.YtcdpakjhjmchhaaGreatDoor.Av
open Go.Proofs.YtcdpakjhjmchhaaGreatDoor.Hd (ints wrap_u64)
open Go.Proofs.YtcdpakjhjmchhaaGreatDoor.In (Glo ints_length ints_one)

theorem u64_nat (k : Int) : 0 ≤ IntKind.wrap .u64 k ∧ IntKind.wrap .u64 k < 18446744073709551616 := by
  simp only [IntKind.wrap, IntKind.bits, IntKind.signed, Bool.false_and, Bool.false_eq_true, if_false, Int.reducePow]
  omega
/-- how many blocks -/
def nOf (more : Int) : Nat := 128 + (IntKind.wrap .u64 more % 4300).toNat
theorem nOf_rng (more : Int) : 128 ≤ nOf more ∧ nOf more < 4428 := by
  have := u64_nat more
  unfold nOf; omega
def setupV (more : Int) (ta : Option Addr) (tl tc : Nat) (ra : Option Addr) (rl rc : Nat) : List Value := [.int .i64 more, .slice ta tl tc, .slice ra rl rc]
theorem blocks_spec {more : Int} {ta ra : Option Addr} {tl tc rl rc : Nat} {h : Heap} {K : Value → Heap → Prop} (hK : ∀ h', Fr No h h' → K (.int .i64 (nOf more : Nat)) h') : C.bolelaw10_Setup_blocks (setupV more ta tl tc ra rl rc) h K := by
  refine bolelaw10_Setup_blocks.ok (New.intro fun h2 n2 => ⟨more, rda n2.rd rfl, ?_⟩)
  have u := u64_nat more
  have e1 : Int.tmod (IntKind.wrap .u64 more) 4300 = IntKind.wrap .u64 more % 4300 := Int.tmod_eq_emod_of_nonneg u.1
  rw [e1, wrap_i64 (n := IntKind.wrap .u64 more % 4300) (by omega) (by omega), wrap_i64 (n := 128 + IntKind.wrap .u64 more % 4300) (by omega) (by omega)]
  have e2 : 128 + IntKind.wrap .u64 more % 4300 = ((nOf more : Nat) : Int) := by unfold nOf; omega
  rw [e2]; exact hK h2 n2.fr
/-- an image whose bitmap says U -/
structure Im (n : Nat) (U : Nat → Bool) (L : Txt) : Prop where
  len : L.length = 512 * n
  bits : ∀ j, j < 4096 * ((geoN n).inodes - 98) → bitAt L (98 * 4096 + j) = U j
def updU (U : Nat → Bool) (i : Nat) : Nat → Bool := fun j => if j = i then true else U j
theorem Im.put {n i : Nat} {U : Nat → Bool} {L : Txt} (a : Im n U L) (hn : 128 ≤ n ∧ n < 4428) (hi : i < 4096 * ((geoN n).inodes - 98)) : Im n (updU U i) (putBit L (98 * 4096 + i) true) := by
  have hle : (geoN n).inodes * 512 ≤ n * 512 := by show (98 + (n + 4095) / 4096) * 512 ≤ _; omega
  have h98 : 98 ≤ (geoN n).inodes := by show 98 ≤ 98 + _; omega
  refine ⟨(putBit_length ..).trans a.len, fun j hj => ?_⟩
  rw [bitAt_putBit _ _ _ _ (by rw [a.len]; omega)]
  unfold updU
  by_cases h : j = i
  · rw [if_pos (by omega), if_pos h]
  · rw [if_neg (by omega), if_neg h, a.bits j hj]
/-- a bit is set -/
theorem orBit {n i ib : Nat} {U : Nat → Bool} {L : Txt} {hh : Heap} {X : Heap → Prop} (a : Im n U L) (hn : 128 ≤ n ∧ n < 4428) (hi : i < 4096 * ((geoN n).inodes - 98)) (r : rd hh ib = L.map bv) (o : Own hh ib)
    (hX : ∀ h' L', Did ib hh h' (L'.map bv) → Im n (updU U i) L' → X h') :
    (0 ≤ (IntKind.wrap .i64 (Int.tdiv (i : Int) 8)) ∧ (IntKind.wrap .i64 (Int.tdiv (i : Int) 8)) < ((512 * (geoN n).inodes - 512 * (geoN n).bitmap : Nat) : Int)) ∧
      onSome (Option.map (Addr.add · (512 * (geoN n).bitmap)) (some (⟨ib, 0, none⟩ : Addr))) fun p1 => ∃ (n5 : Int), cellOf hh (Addr.add p1 (Int.toNat (IntKind.wrap .i64 (Int.tdiv (i : Int) 8)))) = some (.int .u8 n5) ∧
      if (Int.tmod (i : Int) 8) < 0 then False else
      (0 ≤ (IntKind.wrap .i64 (Int.tdiv (i : Int) 8)) ∧ (IntKind.wrap .i64 (Int.tdiv (i : Int) 8)) < ((512 * (geoN n).inodes - 512 * (geoN n).bitmap : Nat) : Int)) ∧
      onSome (Option.map (Addr.add · (512 * (geoN n).bitmap)) (some (⟨ib, 0, none⟩ : Addr))) fun p2 =>
      Put (Addr.add p2 (Int.toNat (IntKind.wrap .i64 (Int.tdiv (i : Int) 8)))) (.int .u8 (bitsI .or .u8 n5 (IntKind.wrap .u8 ((1 * 2 ^ min (Int.toNat (Int.tmod (i : Int) 8)) 8))))) hh X := by
  have hle : (geoN n).inodes * 512 ≤ n * 512 := by show (98 + (n + 4095) / 4096) * 512 ≤ _; omega
  have h98 : 98 ≤ (geoN n).inodes := by show 98 ≤ 98 + _; omega
  have eb : (geoN n).bitmap = 98 := rfl
  have hln := a.len
  rw [tdiv8, tmod8, wrap_i64 (n := ((i / 8 : Nat) : Int)) (by omega) (by omega), Int.toNat_natCast, eb]
  have hi2 : 512 * 98 + i / 8 < L.length := by omega
  have c10 : cellOf hh (Addr.add (Addr.add ⟨ib, 0, none⟩ (512 * 98)) (i / 8)) = some (bv (L.getD (512 * 98 + i / 8) 0)) := by
    refine cell2 r ?_
    rw [List.getElem?_map, List.getD_eq_getElem?_getD, List.getElem?_eq_getElem hi2]; rfl
  refine ⟨⟨by omega, by omega⟩, os ⟨_, c10, ?_⟩⟩
  rw [if_neg (by omega)]
  refine ⟨⟨by omega, by omega⟩, os ?_⟩
  have hx : (L.getD (512 * 98 + i / 8) 0).toNat < 256 := UInt8.toNat_lt _
  have ob := bit_or ⟨(L.getD (512 * 98 + i / 8) 0).toNat, hx⟩ ⟨i % 8, by omega⟩
  have ob : bitsI .or .u8 ((L.getD (512 * 98 + i / 8) 0).toNat : Int) (IntKind.wrap .u8 (1 * 2 ^ min (Int.toNat ((i % 8 : Nat) : Int)) 8)) = (setB (L.getD (512 * 98 + i / 8) 0).toNat (i % 8) true : Nat) := ob
  rw [ob]
  show Put (Addr.add (Addr.add ⟨ib, 0, none⟩ (512 * 98)) (i / 8)) _ hh X
  rw [add_mk, add_mk]
  refine Put.intro o (by rw [r, List.length_map]; omega) fun h' d' => hX h' (putBit L (98 * 4096 + i) true) ?_ (a.put hn hi)
  have ex : (.int .u8 ((setB (L.getD (512 * 98 + i / 8) 0).toNat (i % 8) true : Nat) : Int) : Value) = bv (UInt8.ofNat (setB (L.getD (512 * 98 + i / 8) 0).toNat (i % 8) true)) := by
    show _ = Value.int .u8 _
    rw [UInt8.toNat_ofNat_of_lt' (setB_lt' hx (by omega) true)]
  have := d'
  rw [r, ex, ← List.map_set, show 0 + 512 * 98 + i / 8 = 512 * 98 + i / 8 by omega] at this
  unfold putBit
  rw [show (98 * 4096 + i) / 8 = 512 * 98 + i / 8 by omega, show (98 * 4096 + i) % 8 = i % 8 by omega]
  exact this
theorem Im.congr {n : Nat} {U U' : Nat → Bool} {L : Txt} (a : Im n U L) (h : ∀ j, U j = U' j) : Im n U' L := ⟨a.len, fun j hj => (a.bits j hj).trans (h j)⟩
def edge (n j : Nat) : Bool := decide (j < (geoN n).data) || decide (n ≤ j)
def lowU (n k : Nat) : Nat → Bool := fun j => decide (j < k) && edge n j
theorem lowU_hit {n k : Nat} (h : edge n k = true) (j : Nat) : updU (lowU n k) k j = lowU n (k + 1) j := by
  unfold updU lowU
  by_cases e : j = k
  · subst e; rw [if_pos rfl, h, decide_eq_true (by omega)]; rfl
  · have : decide (j < k + 1) = decide (j < k) := decide_eq_decide.mpr (by omega)
    rw [if_neg e, this]
theorem lowU_miss {n k : Nat} (h : edge n k = false) (j : Nat) : lowU n k j = lowU n (k + 1) j := by
  unfold lowU
  by_cases e : j = k
  · subst e; rw [h, Bool.and_false, Bool.and_false]
  · have : decide (j < k + 1) = decide (j < k) := decide_eq_decide.mpr (by omega)
    rw [this]
/-- which block a number says -/
def takI (n : Nat) (v : Int) : Nat := (geoN n).data + (IntKind.wrap .u64 v % ((n - (geoN n).data : Nat) : Int)).toNat
def tkU (n : Nat) (l : List Int) : Nat → Bool := fun j => edge n j || l.any fun v => takI n v == j
theorem tkU_snoc (n : Nat) (l : List Int) (v : Int) (j : Nat) : updU (tkU n l) (takI n v) j = tkU n (l ++ [v]) j := by
  unfold updU tkU
  rw [List.any_append, List.any_cons, List.any_nil, Bool.or_false]
  by_cases e : j = takI n v
  · subst e; rw [if_pos rfl, beq_self_eq_true, Bool.or_true, Bool.or_true]
  · have : (takI n v == j) = false := by rw [beq_eq_false_iff_ne]; exact fun y => e y.symm
    rw [if_neg e, this, Bool.or_false]
structure RawI where
  num : Int
  a : Option Addr
  l : Nat
  c : Nat
  bs : Txt
def RawI.v (r : RawI) : List Value := [.int .i64 r.num, .slice r.a r.l r.c]
theorem Im.copy {n o : Nat} {U : Nat → Bool} {L ys : Txt} (a : Im n U L) (h1 : 512 * (geoN n).inodes ≤ o) (h2 : o + ys.length ≤ 512 * n) : Im n U (putU L o ys) := by
  have hl := a.len
  refine ⟨(putU_length (by omega)).trans hl, fun j hj => ?_⟩
  have h98 : 98 ≤ (geoN n).inodes := by show 98 ≤ 98 + _; omega
  rw [← a.bits j hj]
  unfold bitAt putU
  have hi : (98 * 4096 + j) / 8 < o := by omega
  rw [List.getD_eq_getElem?_getD, List.getD_eq_getElem?_getD, List.append_assoc, List.getElem?_append_left (by rw [List.length_take]; omega), List.getElem?_take, if_pos hi]
theorem image_spec {more : Int} {ta ra : Option Addr} {tc rc : Nat} {ks : List Int} {rs : List RawI} {h : Heap} {K : Value → Heap → Prop} (X : SlCells h ta (ints ks)) (Y : SlCells h ra (rs.flatMap RawI.v)) (hY : ∀ r ∈ rs, StrAt h r.a r.l r.bs) (hkl : ks.length ≤ 140737488355328) (hrl : rs.length ≤ 140737488355328)
    (hK : ∀ ib L h', Fr No h h' → Im (nOf more) (tkU (nOf more) ks) L → Own h' ib → h.size ≤ ib → rd h' ib = L.map bv → K (.tuple #[.slice (some ⟨ib, 0, none⟩) (512 * nOf more) (512 * nOf more), .agg ⟨(geoN (nOf more)).v⟩]) h') :
    C.bolelaw10_Setup_image (setupV more ta ks.length tc ra rs.length rc) h K := by
  have hn := nOf_rng more
  refine bolelaw10_Setup_image.ok (New.intro fun h2 n2 => New.intro fun h3 n3 => ⟨_, rfl, cellsAll ((n3.at_ n2.own.lt).trans n2.rd), blocks_spec fun h4 f4 => ⟨_, rfl, ?_⟩⟩)
  generalize nOf more = n at hn hK ⊢
  refine Geo_spec (by omega) fun h5 f5 => ⟨_, rfl, NewRow.intro rfl (G.one _) rfl fun h7 n7 => ?_⟩
  have hdat : (geoN n).data = 98 + (n + 4095) / 4096 + n / 64 := rfl
  have hino : (geoN n).inodes = 98 + (n + 4095) / 4096 := rfl
  have hbit : (geoN n).bitmap = 98 := rfl
  have z2 := n2.size
  have z3 := n3.size
  have z4 := f4.size
  have z5 := f5.size
  have z7 := n7.size
  have e1 : IntKind.wrap .i64 (512 * (n : Int)) = ((512 * n : Nat) : Int) := by rw [wrap_i64 (by omega) (by omega)]; omega
  rw [e1, Int.toNat_natCast]
  refine ⟨⟨by omega, by omega, by omega, by omega⟩, New.intro fun h8 n8 => ?_⟩
  have z8 := n8.size
  have rg : rd h8 h5.size = (geoN n).v := (n8.at_ (by omega)).trans n7.rd
  have F8 : Fr No h h8 := ((((n2.fr.new n3).no f4).no f5).new n7).new n8
  have rs8 : rd h8 h.size = setupV more ta ks.length tc ra rs.length rc := (n8.at_ (by omega)).trans ((n7.at_ (by omega)).trans ((f5.rd (by omega) fun y => y).trans ((f4.rd (by omega) fun y => y).trans ((n3.at_ (by omega)).trans n2.rd))))
  have rr8 : rd h8 h2.size = z25 := (n8.at_ (by omega)).trans ((n7.at_ (by omega)).trans ((f5.rd (by omega) fun y => y).trans ((f4.rd (by omega) fun y => y).trans n3.rd)))
  have or8 : Own h8 h2.size := n8.ow (n7.ow (f5.own (by omega) (fun y => y) (f4.own n3.own.lt (fun y => y) n3.own)))
  refine ⟨((geoN n).bitmap : Int), rda rg rfl, ((geoN n).inodes : Int), rda rg rfl, ?_⟩
  have e2 : IntKind.wrap .i64 (512 * ((geoN n).bitmap : Int)) = ((512 * (geoN n).bitmap : Nat) : Int) := by rw [wrap_i64 (by omega) (by omega)]; omega
  have e3 : IntKind.wrap .i64 (512 * ((geoN n).inodes : Int)) = ((512 * (geoN n).inodes : Nat) : Int) := by rw [wrap_i64 (by omega) (by omega)]; omega
  rw [e2, e3, Int.toNat_natCast, Int.toNat_natCast, if_neg (by omega)]
  have e4 : IntKind.wrap .i64 (8 * ((512 * (geoN n).inodes - 512 * (geoN n).bitmap : Nat) : Int)) = ((4096 * ((geoN n).inodes - 98) : Nat) : Int) := by rw [wrap_i64 (by omega) (by omega)]; omega
  rw [e4]
  refine ⟨⟨by omega, by omega, by omega⟩, ?_⟩
  have I0 : Im n (lowU n 0) (List.replicate (512 * n) 0) := by
    refine ⟨List.length_replicate, fun j hj => ?_⟩
    have : lowU n 0 j = false := by unfold lowU; rw [decide_eq_false (by omega)]; rfl
    rw [this]
    unfold bitAt
    rw [List.getD_eq_getElem?_getD, List.getElem?_replicate]
    split <;> exact Nat.zero_testBit _
  refine ⟨fun i hh => ∃ (k : Nat) (L : Txt), i = k ∧ k ≤ 4096 * ((geoN n).inodes - 98) ∧ Im n (lowU n k) L ∧ rd hh h7.size = L.map bv ∧ Own hh h7.size ∧ Fr (fun b => b = h7.size) h8 hh, fun i _ => ((4096 * ((geoN n).inodes - 98) : Nat) - i).toNat,
    ⟨0, _, rfl, Nat.zero_le _, I0, by rw [n8.rd, List.map_replicate]; exact rep_one _ _, n8.own, Fr.refl _ _⟩, ?_⟩
  intro i h9 hI
  obtain ⟨k, L, ei, hk, I, r9, o9, f9⟩ := hI
  have z9 := f9.size
  have rg9 : rd h9 h5.size = (geoN n).v := (f9.rd (by omega) (by omega)).trans rg
  have fall : ((4096 * ((geoN n).inodes - 98) : Nat) - ((k + 1 : Nat) : Int)).toNat < ((4096 * ((geoN n).inodes - 98) : Nat) - (k : Int)).toNat ∨ 4096 * ((geoN n).inodes - 98) ≤ k := by omega
  have wr : IntKind.wrap .i64 ((k : Int) + 1) = ((k + 1 : Nat) : Int) := by rw [wrap_i64 (by omega) (by omega)]; omega
  refine cd (fun hl => ?_) fun hl => ?_
  · subst ei
    have hk' : k < 4096 * ((geoN n).inodes - 98) := by omega
    have fall := fall.resolve_right (by omega)
    rw [wr]
    have set : edge n k = true → _ := fun he => orBit (X := fun h' => (∃ (k' : Nat) (L : Txt), ((k + 1 : Nat) : Int) = k' ∧ k' ≤ 4096 * ((geoN n).inodes - 98) ∧ Im n (lowU n k') L ∧ rd h' h7.size = L.map bv ∧ Own h' h7.size ∧ Fr (fun b => b = h7.size) h8 h') ∧ ((4096 * ((geoN n).inodes - 98) : Nat) - ((k + 1 : Nat) : Int)).toNat < ((4096 * ((geoN n).inodes - 98) : Nat) - (k : Int)).toNat)
      I hn hk' r9 o9 fun h' L' d' I' => ⟨⟨k + 1, L', rfl, hk', I'.congr (lowU_hit he), d'.rd, d'.own, f9.trans d'.fr fun _ _ e => e⟩, fall⟩
    refine ⟨_, rda rg9 rfl, cd (fun hd => set ?_) fun hd => cd (fun hd2 => set ?_) fun hd2 => ⟨⟨k + 1, L, rfl, hk', I.congr (lowU_miss ?_), r9, o9, f9⟩, fall⟩⟩
    · unfold edge; rw [decide_eq_true (by omega)]; rfl
    · unfold edge; rw [decide_eq_true (show n ≤ k by omega), Bool.or_true]
    · unfold edge; rw [decide_eq_false (by omega), decide_eq_false (by omega)]; rfl
  have ek : k = 4096 * ((geoN n).inodes - 98) := by omega
  have I1 : Im n (tkU n []) L := ⟨I.len, fun j hj => by rw [I.bits j hj]; unfold lowU tkU; rw [decide_eq_true (by omega), List.any_nil, Bool.or_false, Bool.true_and]⟩
  clear I I0 fall wr hl hk ek ei k
  refine ⟨_, _, _, rda ((f9.rd (by omega) (by omega)).trans rs8) rfl, ?_⟩
  have hlt : (geoN n).data < n := by omega
  refine ⟨fun i hh => ∃ (k : Nat) (L : Txt), i = k ∧ k ≤ ks.length ∧ Im n (tkU n (ks.take k)) L ∧ rd hh h7.size = L.map bv ∧ Own hh h7.size ∧ Fr (fun b => b = h7.size) h8 hh, fun i _ => ((ks.length : Int) - i).toNat, ⟨0, L, rfl, Nat.zero_le _, I1, r9, o9, f9⟩, ?_⟩
  clear I1 r9 o9 rg9 z9 L
  intro i h12 hI
  obtain ⟨k, L, ei, hk, I, r12, o12, f12⟩ := hI
  have z12 := f12.size
  have rg12 : rd h12 h5.size = (geoN n).v := (f12.rd (by omega) (by omega)).trans rg
  have F12 : Fr No h h12 := F8.trans f12 fun b hb y => by have y : b = h7.size := y; omega
  refine cd (fun hl => ?_) fun hl => ?_
  · subst ei
    have hk' : k < ks.length := by omega
    have wr : IntKind.wrap .i64 ((k : Int) + 1) = ((k + 1 : Nat) : Int) := by rw [wrap_i64 (by omega) (by omega)]; omega
    have X12 := SlCells.fr F12 X fun _ _ y => y
    obtain ⟨p, ep, cv⟩ := Hd.ints_get (ns := ks) (i := (k : Int).toNat) X12 (by omega)
    have u := u64_nat (ks[(k : Int).toNat]'(by omega))
    rw [wr]
    refine ⟨⟨by omega, hl⟩, Tm.oe ep ⟨_, cv, ((geoN n).data : Int), rda rg12 rfl, ((geoN n).data : Int), rda rg12 rfl, ?_⟩⟩
    have ed : IntKind.wrap .u64 (IntKind.wrap .i64 ((n : Int) - ((geoN n).data : Int))) = ((n - (geoN n).data : Nat) : Int) := by
      rw [wrap_i64 (by omega) (by omega), wrap_u64 (by omega) (by omega)]; omega
    rw [ed, if_neg (by omega)]
    have et : Int.tmod (IntKind.wrap .u64 (ks[(k : Int).toNat]'(by omega))) ((n - (geoN n).data : Nat) : Int) = IntKind.wrap .u64 (ks[(k : Int).toNat]'(by omega)) % ((n - (geoN n).data : Nat) : Int) := Int.tmod_eq_emod_of_nonneg u.1
    rw [et]
    have m0 := Int.emod_nonneg (IntKind.wrap .u64 (ks[(k : Int).toNat]'(by omega))) (show ((n - (geoN n).data : Nat) : Int) ≠ 0 by omega)
    have m1 := Int.emod_lt_of_pos (IntKind.wrap .u64 (ks[(k : Int).toNat]'(by omega))) (show (0 : Int) < ((n - (geoN n).data : Nat) : Int) by omega)
    have ek : ks[(k : Int).toNat]'(by omega) = ks[k]'hk' := rfl
    have ei : IntKind.wrap .i64 (((geoN n).data : Int) + IntKind.wrap .i64 (IntKind.wrap .u64 (ks[(k : Int).toNat]'(by omega)) % ((n - (geoN n).data : Nat) : Int))) = ((takI n (ks[k]'hk') : Nat) : Int) := by
      rw [wrap_i64 (n := IntKind.wrap .u64 (ks[(k : Int).toNat]'(by omega)) % ((n - (geoN n).data : Nat) : Int)) (by omega) (by omega), wrap_i64 (by omega) (by omega)]
      rw [ek] at m0 m1 ⊢
      unfold takI; omega
    rw [ei]
    have tl : takI n (ks[k]'hk') < n := by
      rw [ek] at m0 m1
      unfold takI; omega
    refine orBit I hn (by omega) r12 o12 fun h' L' d' I' => ⟨⟨k + 1, L', rfl, hk', ?_, d'.rd, d'.own, f12.trans d'.fr fun _ _ e => e⟩, by show ((ks.length : Int) - ((k + 1 : Nat) : Int)).toNat < ((ks.length : Int) - (k : Int)).toNat; omega⟩
    rw [take_snoc _ _ hk']
    exact I'.congr (tkU_snoc n _ _)
  have ek : k = ks.length := by omega
  subst ek
  rw [List.take_length] at I
  clear hl hk ei i
  refine ⟨_, _, _, rda ((f12.rd (by omega) (by omega)).trans rs8) rfl, ?_⟩
  refine ⟨fun i hh => ∃ (k : Nat) (L : Txt), i = k ∧ k ≤ rs.length ∧ Im n (tkU n ks) L ∧ rd hh h7.size = L.map bv ∧ Own hh h7.size ∧ Fr (fun b => b = h7.size) h8 hh, fun i _ => ((rs.length : Int) - i).toNat, ⟨0, L, rfl, Nat.zero_le _, I, r12, o12, f12⟩, ?_⟩
  clear I r12 o12 rg12 z12 L F12 f12
  intro i h14 hI
  obtain ⟨k, L, ei, hk, I, r14, o14, f14⟩ := hI
  have z14 := f14.size
  have rg14 : rd h14 h5.size = (geoN n).v := (f14.rd (by omega) (by omega)).trans rg
  have F14 : Fr No h h14 := F8.trans f14 fun b hb y => by have y : b = h7.size := y; omega
  refine cd (fun hl => ?_) fun hl => ?_
  · subst ei
    have hk' : k < rs.length := by omega
    have wr : IntKind.wrap .i64 ((k : Int) + 1) = ((k + 1 : Nat) : Int) := by rw [wrap_i64 (by omega) (by omega)]; omega
    have me : ((rs.length : Int) - ((k + 1 : Nat) : Int)).toNat < ((rs.length : Int) - (k : Int)).toNat := by omega
    have Y14 := SlCells.fr F14 Y fun _ _ y => y
    obtain ⟨p, ep, cc⟩ : ∃ p, ra = some p ∧ Cells h14 (p.add (k * 2)) (RawI.v (rs[k]'hk')) := by
      have hw : ∀ r ∈ rs, (RawI.v r).length = 2 := fun _ _ => rfl
      cases ra with
      | none =>
        have c : rs.flatMap RawI.v = [] := Y14
        have := flat_length RawI.v 2 rs hw
        rw [c] at this
        exact absurd this (by simp; omega)
      | some p =>
        refine ⟨p, rfl, ?_⟩
        have := Cells.take (Cells.drop Y14 (k * 2)) 2
        rw [flat_part RawI.v 2 rs hw k hk'] at this
        exact this
    have By := hY _ (List.getElem_mem hk')
    rw [Int.toNat_natCast, wr]
    generalize rs[k]'hk' = rw_ at cc By
    refine ⟨⟨by omega, hl⟩, Tm.oe ep ⟨_, rfl, cc, NewRow.intro rfl (one2 rfl rfl) rfl fun h16 n16 => ⟨rw_.num, rda n16.rd rfl, ((geoN n).data : Int), rda ((n16.at_ (by omega)).trans rg14) rfl, ?_⟩⟩⟩
    have z16 := n16.size
    have f16 : Fr (fun b => b = h7.size) h8 h16 := f14.no n16.fr
    have r16 : rd h16 h7.size = L.map bv := (n16.at_ (by omega)).trans r14
    have o16 : Own h16 h7.size := n16.ow o14
    have skip : (∃ (k' : Nat) (L : Txt), ((k + 1 : Nat) : Int) = k' ∧ k' ≤ rs.length ∧ Im n (tkU n ks) L ∧ rd h16 h7.size = L.map bv ∧ Own h16 h7.size ∧ Fr (fun b => b = h7.size) h8 h16) ∧ ((rs.length : Int) - ((k + 1 : Nat) : Int)).toNat < ((rs.length : Int) - (k : Int)).toNat := ⟨⟨k + 1, L, rfl, hk', I, r16, o16, f16⟩, me⟩
    refine cd (fun hd => ⟨rw_.num, rda n16.rd rfl, cd (fun hd2 => ?_) fun _ => skip⟩) fun _ => skip
    have eq1 : IntKind.wrap .i64 (512 * rw_.num) = 512 * rw_.num := wrap_i64 (by omega) (by omega)
    have eq2 : IntKind.wrap .i64 (512 * rw_.num + 512) = 512 * rw_.num + 512 := wrap_i64 (by omega) (by omega)
    refine ⟨rw_.num, rda n16.rd rfl, rw_.num, rda n16.rd rfl, ?_⟩
    rw [eq1, eq2, if_neg (by omega)]
    refine ⟨⟨by omega, by omega, by omega⟩, _, _, _, rda n16.rd rfl, ?_⟩
    show CopyP _ (some (Addr.add ⟨h7.size, 0, none⟩ (512 * rw_.num).toNat)) _ _ _ _
    rw [add_mk, show (512 * rw_.num + 512).toNat - (512 * rw_.num).toNat = 512 by omega]
    have Bz := StrAt.take (StrAt.fr (F14.new n16) By fun _ _ y => y) (n := min rw_.l 512) (Nat.min_le_left _ _)
    have lz : (rw_.bs.take (min rw_.l 512)).length = min rw_.l 512 := by rw [List.length_take, By.1]; omega
    have hl := I.len
    refine CopyP.intro (new := (rw_.bs.take (min rw_.l 512)).map bv) (by rw [List.length_map, lz]; show _ = min rw_.l 512 * 1; omega) Bz.2 (bv_one _) o16 (by rw [r16, List.length_map, List.length_map, lz]; omega) fun h17 d17 => ?_
    refine ⟨⟨k + 1, putU L (512 * rw_.num).toNat (rw_.bs.take (min rw_.l 512)), rfl, hk', I.copy (by omega) (by rw [lz]; omega), ?_, d17.own, f16.trans d17.fr fun _ _ e => e⟩, me⟩
    rw [d17.rd, r16, Nat.zero_add]
    exact putU_put (by rw [lz]; omega)
  have z14' := z14
  refine ⟨(geoN n).v, rfl, cellsAll rg14, PutRow.intro (f14.own (by omega) (by omega) or8) rfl (G.one _) (by rw [f14.rd (by omega) (by omega), rr8]; exact Nat.le_refl _) fun h18 d18 => ⟨(geoN n).v, rfl, cellsAll ?_, ?_⟩⟩
  · rw [d18.rd, f14.rd (by omega) (by omega), rr8]; exact put_all _ _ rfl
  · have z18 := d18.size
    exact hK h7.size L h18 (F14.did d18 fun hl => by omega) I (d18.ow o14) (by omega) ((d18.at_ (by omega) (by omega)).trans r14)
end Go.Proofs.YtcdpakjhjmchhaaGreatDoor.Bm
/-
  bolelaw10: a case begins.
-/
namespace Go.Proofs.YtcdpakjhjmchhaaGreatDoor.Bm
open Go Go.Proofs Go.Proofs.YtcdpakjhjmchhaaGreatDoor.Wx Go.Proofs.YtcdpakjhjmchhaaGreatDoor.Hp Go.Proofs.YtcdpakjhjmchhaaGreatDoor.W Go.Proofs.YtcdpakjhjmchhaaGreatDoor.Ad Go.Proofs.YtcdpakjhjmchhaaGreatDoor.Tm Go.Proofs.YtcdpakjhjmchhaaGreatDoor.Bt Go.Proofs.YtcdpakjhjmchhaaGreatDoor.Spc Go.Proofs.YtcdpakjhjmchhaaGreatDoor.Re Go.Proofs.YtcdpakjhjmchhaaGreatDoor.Av
open Go.Proofs.YtcdpakjhjmchhaaGreatDoor.Hd (ints wrap_u64)
open Go.Proofs.YtcdpakjhjmchhaaGreatDoor.In (Glo ints_length ints_one)

theorem num_spec {e : Int} {h : Heap} {K : Value → Heap → Prop} (hK : K (.int .i64 e) h) : C.bolelaw10_num e h K := bolelaw10_num.ok hK
theorem begin_spec {more : Int} {ta ra : Option Addr} {tc rc : Nat} {ks : List Int} {rs : List RawI} {h : Heap} {K : Value → Heap → Prop} (X : SlCells h ta (ints ks)) (Y : SlCells h ra (rs.flatMap RawI.v)) (hY : ∀ r ∈ rs, StrAt h r.a r.l r.bs) (hkl : ks.length ≤ 140737488355328) (hrl : rs.length ≤ 140737488355328)
    (hK : ∀ t u q d F H L h', Fr No h h' → Tx h' F t d ⟨fresh (chunks L), [], [], false⟩ → Rx.RxS h' H u q ⟨fresh (chunks L), [], [], false⟩ → Im (nOf more) (tkU (nOf more) ks) L → (∀ b, F b → h.size ≤ b) → (∀ b, H b → h.size ≤ b ∧ ¬ F b) →
      K (.tuple #[.pointer t, .pointer u, .agg ⟨(geoN (nOf more)).v⟩, .bool true]) h') :
    C.bolelaw10_Setup_begin (setupV more ta ks.length tc ra rs.length rc) h K := by
  have hn := nOf_rng more
  refine bolelaw10_Setup_begin.ok (New.intro fun h2 n2 => New.intro fun h3 n3 => ⟨_, rfl, cellsAll ((n3.at_ n2.own.lt).trans n2.rd), ?_⟩)
  have z2 := n2.size
  have z3 := n3.size
  have F3 := n2.fr.new n3
  refine image_spec (SlCells.fr F3 X fun _ _ y => y) (SlCells.fr F3 Y fun _ _ y => y) (fun r hr => StrAt.fr F3 (hY r hr) fun _ _ y => y) hkl hrl fun ib L h4 f4 I o4 hib r4 => ⟨_, _, _, _, rfl, NewRow.intro rfl (G.one _) rfl fun h6 n6 => ?_⟩
  have z4 := f4.size
  have z6 := n6.size
  generalize nOf more = n at hn hK I n6 ⊢
  have hL := I.len
  have B6 : StrAt h6 (some ⟨ib, 0, none⟩) (512 * n) L := strAll ((n6.at_ o4.lt).trans r4) hL
  refine openF_spec B6 (Nat.le_refl _) (by omega) (fun y => by exfalso; omega) fun _ _ _ dq h7 D f7 hD A => ⟨_, _, rfl, ?_⟩
  refine Rx.Of_spec (StrAt.fr f7 B6 fun _ _ y => y) (by omega) (by omega) (by omega) fun rq h8 E f8 R8 hE => ⟨_, _, rfl, num_spec ⟨_, rfl, cn (fun y => absurd rfl y) fun _ => num_spec ⟨_, rfl, cn (fun y => absurd rfl y) fun _ => cf rfl ?_⟩⟩⟩
  have z7 := f7.size
  have z8 := f8.size
  have F6 : Fr No h h6 := (F3.no f4).new n6
  have s6 := F6.size
  have gz : ∀ {h' : Heap}, Fr No h8 h' → rd h' h4.size = (geoN n).v := fun f => (f.rd (by omega) fun y => y).trans ((f8.rd (by omega) fun y => y).trans ((f7.rd (by omega) fun y => y).trans n6.rd))
  have rz : ∀ {h' : Heap}, Fr No h8 h' → rd h' h2.size = z25 ∧ Own h' h2.size := fun f => by
    have ff : Fr No h3 _ := (((f4.new n6).no f7).no f8).no f
    exact ⟨(ff.rd n3.own.lt fun y => y).trans n3.rd, ff.own n3.own.lt (fun y => y) n3.own⟩
  unfold bolelaw10_Setup_begin.k1
  refine Tm.Begin_spec (A.no f8) fun tb h15 F f15 g15 x15 => ⟨_, rfl, (geoN n).v, rfl, cellsAll (gz f15), ?_⟩
  have z15 := f15.size
  refine Rx.Begin_spec (R8.no f15) fun H h16 f16 x16 eH => ⟨_, rfl, ⟨rfl, cellsAll (gz (f15.no f16))⟩, ?_⟩
  have z16 := f16.size
  obtain ⟨rr, oo⟩ := rz (f15.no f16)
  refine PutRow.intro oo rfl (G.one _) (by rw [rr]; exact Nat.le_refl _) fun h17 d17 => ⟨(geoN n).v, rfl, cellsAll (by rw [d17.rd, rr]; exact put_all _ _ rfl), ?_⟩
  have Elt : ∀ b, E b → b < h8.size := by obtain ⟨_, _, _, _, _, _, _, _, _, _, l⟩ := R8; exact l
  have Dlt : ∀ b, D b → b < h7.size := fun b => A.lt
  have sF : ∀ b, F b → h6.size ≤ b ∧ b < h7.size ∨ h8.size ≤ b ∧ b < h15.size := fun b y => by
    rcases g15.new y with w | w
    · exact .inl ⟨hD b w, Dlt b w⟩
    · exact .inr ⟨w, x15.lt y⟩
  have sH : ∀ b, H b → h7.size ≤ b ∧ b < h8.size ∨ b = h15.size := fun b y => by
    rcases (eH b).mp y with w | w
    · exact .inl ⟨hE b w, Elt b w⟩
    · exact .inr w
  refine hK _ _ (some rq) (some dq) F H L h17 (((((F6.no f7).no f8).no f15).no f16).did d17 fun hl => by omega) ((x15.no f16).fr d17.fr fun b hb y => ?_) (Rx.RxS.fr ⟨_, Rx.sim_fresh hL, x16⟩ d17.fr fun b hb y => ?_) I (fun b hb => ?_) fun b hb => ?_
  · have y : b = h2.size := y
    have := sF b hb; omega
  · have y : b = h2.size := y
    have := sH b hb; omega
  · have := sF b hb; omega
  · have h1 := sH b hb
    exact ⟨by omega, fun y => by have := sF b y; omega⟩
end Go.Proofs.YtcdpakjhjmchhaaGreatDoor.Bm
