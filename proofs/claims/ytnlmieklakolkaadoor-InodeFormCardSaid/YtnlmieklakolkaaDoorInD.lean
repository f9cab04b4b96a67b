/-
  THE TABLE inside a transaction over a disk of 128 blocks of zeros; what the laws look at first.
-/
import Derived.Test.YtnlmieklakolkaaDoorTxA
namespace Go.Proofs.YtnlmieklakolkaaDoor.In
open Go Go.Proofs Go.Proofs.YtnlmieklakolkaaDoor.Wx Go.Proofs.YtnlmieklakolkaaDoor.Hp Go.Proofs.YtnlmieklakolkaaDoor.W Go.Proofs.YtnlmieklakolkaaDoor.Su Go.Proofs.YtnlmieklakolkaaDoor.Re Go.Proofs.YtnlmieklakolkaaDoor.Hd Go.Proofs.YtnlmieklakolkaaDoor.Tx

def geoL : List Int := [128, 98, 99, 101, 16]
theorem Of_spec {h : Heap} {K : Value → Heap → Prop} (hK : ∀ h', Fr No h h' → K (.tuple #[.agg ⟨ints geoL⟩, .int .i64 0]) h') : C.boleref07_Of 128 h K := by
  refine boleref07_Of.ok (New.intro fun h2 n2 => cf rfl (cf rfl (NewRow.intro rfl (ints_one [128, 98, 98, 0, 0]) rfl fun h7 n7 => ?_)))
  have s2 := n2.size
  have s7 := n7.size
  refine ⟨fun told hh => Fr No h2 hh ∧ Own hh h2.size ∧ ((told = 0 ∧ rd hh h2.size = ints [128, 98, 98, 0, 0]) ∨ (told = 4096 ∧ rd hh h2.size = ints [128, 98, 99, 0, 0])), fun told _ => (4096 - told).toNat, ⟨n7.fr, n7.own, Or.inl ⟨rfl, n7.rd⟩⟩, ?_⟩
  rintro told h8 ⟨f8, w8, e8⟩
  rcases e8 with ⟨rfl, e8⟩ | ⟨rfl, e8⟩
  · refine ct rfl ⟨_, rda e8 rfl, Put.add w8 (by rw [e8]; show 0 + 2 < 5; omega) fun h9 d9 => ⟨⟨f8.did d9 fun hl => by omega, d9.own, Or.inr ⟨rfl, ?_⟩⟩, by show (4096 - IntKind.wrap .i64 (0 + 4096)).toNat < (4096 - (0 : Int)).toNat; decide⟩⟩
    rw [d9.rd, e8]; rfl
  · refine cf rfl ⟨_, rda e8 rfl, Put.add w8 (by rw [e8]; show 0 + 3 < 5; omega) fun h10 d10 => ?_⟩
    refine ⟨fun row hh => Fr No h2 hh ∧ Own hh h2.size ∧ ((row = 64 ∧ rd hh h2.size = ints [128, 98, 99, 99, 0]) ∨ (row = 128 ∧ rd hh h2.size = ints [128, 98, 99, 100, 8]) ∨ (row = 192 ∧ rd hh h2.size = ints geoL)), fun row _ => (192 - row).toNat,
      ⟨f8.did d10 fun hl => by omega, d10.own, Or.inl ⟨rfl, by rw [d10.rd, e8]; rfl⟩⟩, ?_⟩
    rintro row h11 ⟨f11, w11, e11⟩
    rcases e11 with ⟨rfl, e11⟩ | ⟨rfl, e11⟩ | ⟨rfl, e11⟩
    · refine ct rfl ⟨_, rda e11 rfl, Put.add w11 (by rw [e11]; show 0 + 3 < 5; omega) fun h12 d12 => ?_⟩
      have r12 : rd h12 h2.size = ints [128, 98, 99, 100, 0] := by rw [d12.rd, e11]; rfl
      exact ⟨_, rda r12 rfl, Put.add d12.own (by rw [r12]; show 0 + 4 < 5; omega) fun h13 d13 => ⟨⟨(f11.did d12 fun hl => by omega).did d13 fun hl => by omega, d13.own, Or.inr (Or.inl ⟨rfl, by rw [d13.rd, r12]; rfl⟩)⟩, by show (192 - IntKind.wrap .i64 (64 + 64)).toNat < (192 - (64 : Int)).toNat; decide⟩⟩
    · refine ct rfl ⟨_, rda e11 rfl, Put.add w11 (by rw [e11]; show 0 + 3 < 5; omega) fun h12 d12 => ?_⟩
      have r12 : rd h12 h2.size = ints [128, 98, 99, 101, 8] := by rw [d12.rd, e11]; rfl
      exact ⟨_, rda r12 rfl, Put.add d12.own (by rw [r12]; show 0 + 4 < 5; omega) fun h13 d13 => ⟨⟨(f11.did d12 fun hl => by omega).did d13 fun hl => by omega, d13.own, Or.inr (Or.inr ⟨rfl, by rw [d13.rd, r12]; rfl⟩)⟩, by show (192 - IntKind.wrap .i64 (128 + 64)).toNat < (192 - (128 : Int)).toNat; decide⟩⟩
    · refine cf rfl ⟨ints geoL, rfl, cellsAll e11, PutRow.intro (f11.own n2.own.lt (fun x => x) n2.own) rfl (ints_one geoL) (by rw [f11.rd n2.own.lt fun x => x, n2.rd]; exact Nat.le_refl _) fun h14 d14 => ⟨ints geoL, rfl, cellsAll ?_, hK h14 ((n2.fr.no f11).did d14 fun hl => by omega)⟩⟩
      rw [d14.rd, f11.rd n2.own.lt fun x => x, n2.rd]; rfl
def plainL : List Int := [1, 1, 5, 101, 0, 0, 0, 0, 0, 0, 0, 0, 0, 0, 0]
theorem plain_spec {h : Heap} {K : Value → Heap → Prop} (hK : ∀ h', Fr No h h' → K (.agg ⟨ints plainL⟩) h') : C.bolelaw11_plain h K := by
  refine bolelaw11_plain.ok (New.intro fun h2 n2 => NewRow.intro rfl (ints_one [1, 1, 5, 0, 0, 0, 0, 0, 0, 0, 0, 0, 0, 0, 0]) rfl fun h4 n4 => ⟨by decide, ?_⟩)
  have s2 := n2.size
  have s4 := n4.size
  rw [add_mk]
  refine Put.add n4.own (by rw [n4.rd]; show 0 + 3 + 0 < 15; omega) fun h5 d5 => ?_
  have r5 : rd h5 h2.size = ints plainL := by rw [d5.rd, n4.rd]; rfl
  refine ⟨ints plainL, rfl, cellsAll r5, PutRow.intro (d5.ow (n4.ow n2.own)) rfl (ints_one plainL) ?_ fun h6 d6 => ⟨ints plainL, rfl, cellsAll ?_, hK h6 (((n2.fr.new n4).did d5 fun hl => by omega).did d6 fun hl => by omega)⟩⟩
  · rw [d5.at_ (by omega) (by omega), n4.at_ (by omega), n2.rd]; exact Nat.le_refl _
  · rw [d6.rd, d5.at_ (by omega) (by omega), n4.at_ (by omega), n2.rd]; rfl
/-- where record n stands -/
def blkN (n : Int) : Int := 99 + n / 8
def atN (n : Int) : Nat := 64 * (n.toNat % 8)
theorem isInode_spec {n : Int} {h : Heap} {K : Value → Heap → Prop} (h1 : 1 ≤ n) (h2 : n < 16) (hK : ∀ h', Fr No h h' → K (.bool true) h') : C.inode_isInode (ints geoL) n h K := by
  refine inode_isInode.ok (New.intro fun h2 n2 => ⟨_, rda n2.rd rfl, within_spec ⟨_, rfl, ?_⟩⟩)
  rw [wrap_i64 (by omega) (by omega), decide_eq_true h1, decide_eq_true (show n ≤ 16 - 1 by omega)]
  exact hK h2 n2.fr
theorem Record_spec {n : Int} {h : Heap} {K : Value → Heap → Prop} (h1 : 1 ≤ n) (h2 : n < 16) (hK : ∀ h', Fr No h h' → K (.tuple #[.int .i64 (blkN n), .int .i64 (atN n), .int .i64 0]) h') : C.geo_Record (ints geoL) n h K := by
  refine geo_Record.ok (New.intro fun h2 n2 => cf (decide_eq_false (by omega)) ⟨_, rda n2.rd rfl, cf (decide_eq_false (by omega)) ⟨_, rda n2.rd rfl, ?_⟩⟩)
  have hK := hK h2 n2.fr
  have e1 : Int.tdiv n 8 = n / 8 := Int.tdiv_eq_ediv_of_nonneg (by omega)
  have e2 : Int.tmod n 8 = n % 8 := Int.tmod_eq_emod_of_nonneg (by omega)
  rw [e1, e2, wrap_i64 (n := n / 8) (by omega) (by omega), wrap_i64 (n := 99 + n / 8) (by omega) (by omega), wrap_i64 (n := n % 8 * 64) (by omega) (by omega)]
  have e3 : n % 8 * 64 = ((atN n : Nat) : Int) := by unfold atN; omega
  rw [e3]; exact hK
theorem blk_range {n : Int} (h1 : 1 ≤ n) (h2 : n < 16) : 99 ≤ blkN n ∧ blkN n ≤ 100 := by unfold blkN; omega
theorem at_range (n : Int) : atN n + 64 ≤ 512 := by unfold atN; omega
theorem place_spec {h : Heap} {n0 : Nat} {S : Nat → Prop} {t d s m : Nat} {L : Int → Option (List UInt8)} {k : Nat} {r : Tx.Raw} {n : Int} {K : Value → Heap → Prop} (T : Tx.Tx h n0 S t d s m L k r) (h1 : 1 ≤ n) (h2 : n < 16)
    (hK : ∀ b c h', Fr No h h' → h.size ≤ b → Sl h' 1 (some ⟨b, 0, none⟩) 512 c ((cont L (blkN n)).map bv) (fun x => x = b) → K (.tuple #[.int .i64 (blkN n), .slice (some ⟨b, 0, none⟩) 512 c, .int .i64 (atN n), .int .i64 0]) h') :
    C.inode_place (some ⟨t, 0, none⟩) (ints geoL) n h K := by
  have hb := blk_range h1 h2
  refine inode_place.ok (New.intro fun h2' n2 => ⟨ints geoL, rfl, cellsAll n2.rd, Record_spec h1 h2 fun h3 f3 => ⟨_, _, _, rfl, cn (fun x => absurd rfl x) fun _ => ?_⟩⟩)
  have F3 := n2.fr.no f3
  have z3 := F3.size
  exact Tx.Read_spec (T.no F3) (by omega) (by omega) fun b c h4 f4 hb4 s4 => ⟨_, _, _, _, rfl, hK b c h4 (F3.no f4) (by omega) s4⟩
/-- what Get answers -/
def recN (L : Int → Option (List UInt8)) (n : Int) : List Int × Int := decA (((cont L (blkN n)).drop (atN n)).take 64)
theorem Get_spec {h : Heap} {n0 : Nat} {S : Nat → Prop} {t d s m : Nat} {L : Int → Option (List UInt8)} {k : Nat} {r : Tx.Raw} {n : Int} {K : Value → Heap → Prop} (g : Glo h) (T : Tx.Tx h n0 S t d s m L k r) (h1 : 1 ≤ n) (h2 : n < 16)
    (hK : ∀ h', Fr No h h' → K (.tuple #[.agg ⟨ints (recN L n).1⟩, .int .i64 (recN L n).2]) h') : C.inode_Get (some ⟨t, 0, none⟩) (ints geoL) n h K := by
  have ha := at_range n
  refine inode_Get.ok (New.intro fun h2' n2 => New.intro fun h3 n3 => ⟨ints geoL, rfl, ?_, isInode_spec h1 h2 fun h4 f4 => ⟨_, rfl, cnot (ct rfl ?_)⟩⟩)
  · exact cellsAll ((n3.at_ n2.own.lt).trans n2.rd)
  have s2 := n2.size
  have s3 := n3.size
  have F4 := (n2.fr.new n3).no f4
  have z4 := f4.size
  refine ⟨ints geoL, rfl, cellsAll ((f4.rd (by omega) fun x => x).trans ((n3.at_ n2.own.lt).trans n2.rd)), place_spec (T.no F4) h1 h2 fun b c h6 f6 hb s6 => ⟨_, _, _, _, _, _, rfl, cn (fun x => absurd rfl x) fun _ => ?_⟩⟩
  have hc := s6.le
  rw [wrap_i64 (by omega) (by omega)]
  refine ⟨⟨by omega, by omega, by omega⟩, ?_⟩
  have B6 := StrAt.cut s6.str hc (i := (atN n : Int).toNat) (j := ((atN n : Int) + 64).toNat) (by omega) (by omega)
  rw [show ((atN n : Int) + 64).toNat - (atN n : Int).toNat = 64 by omega] at B6
  rw [show ((atN n : Int) + 64).toNat - (atN n : Int).toNat = 64 by omega]
  refine Decode_spec (g.no (F4.no f6)) B6 (by omega) fun h8 f8 => ⟨_, _, rfl, ?_⟩
  rw [show (atN n : Int).toNat = atN n by omega]
  have F8 : Fr No h3 h8 := (f4.no f6).no f8
  have z8 := F8.size
  have w8 : Own h8 h2'.size := F8.own n3.own.lt (fun x => x) n3.own
  have l8 : (rd h8 h2'.size).length = 15 := by rw [F8.rd n3.own.lt fun x => x, n3.rd]; rfl
  have ld : ∀ bs, (decA bs).1.length = 15 := fun bs => by
    unfold decA; split
    · exact List.length_replicate
    · split
      · exact getR_length bs
      · exact List.length_replicate
  refine PutRow.intro w8 (by rw [ints_length, ld]) (ints_one _) (by omega) fun h9 d9 => ⟨_, by rw [ints_length]; exact ld _, cellsAll ?_, hK h9 (((n2.fr.new n3).no F8).did d9 fun hl => by omega)⟩
  rw [d9.rd]; exact put_all _ _ (by rw [ints_length, ld, l8])
/-- the table with a record put -/
def putN (L : Int → Option (List UInt8)) (n : Int) (R : List Int) : Int → Option (List UInt8) := upL L (blkN n) (putU (cont L (blkN n)) (atN n) (encR R))
theorem Put_ispec {h : Heap} {n0 : Nat} {S : Nat → Prop} {t d s m : Nat} {L : Int → Option (List UInt8)} {k : Nat} {r : Tx.Raw} {n : Int} {R : List Int} {K : Value → Heap → Prop} (g : Glo h) (T : Tx.Tx h n0 S t d s m L k r) (hn : n0 ≤ h.size) (hk : k < 96) (h1 : 1 ≤ n) (h2 : n < 16)
    (hR : R.length = 15) (hm : mayR R = true) (hK : ∀ S' r' h', Fr S h h' → (∀ b, S' b → S b ∨ h.size ≤ b) → Tx.Tx h' n0 S' t d s m (putN L n R) (k + 1) r' → K (.int .i64 0) h') :
    C.inode_Put (some ⟨t, 0, none⟩) (ints geoL) n (ints R) h K := by
  have ha := at_range n
  have hbk := blk_range h1 h2
  refine inode_Put.ok (New.intro fun h2' n2 => New.intro fun h3 n3 => ⟨ints geoL, rfl, ?_, isInode_spec h1 h2 fun h4 f4 => ⟨_, rfl, cnot (ct rfl ?_)⟩⟩)
  · exact cellsAll ((n3.at_ n2.own.lt).trans n2.rd)
  have s2 := n2.size
  have s3 := n3.size
  have F4 := (n2.fr.new n3).no f4
  have z4 := f4.size
  refine ⟨ints R, by rw [ints_length, hR], cellsAll ((f4.rd (by omega) fun x => x).trans n3.rd), Encode_spec (g.no F4) hR (fun x => by rw [hm] at x; cases x) fun _ eb h5 f5 heb s5 => ⟨_, _, _, _, rfl, cn (fun x => absurd rfl x) fun _ => ?_⟩⟩
  have z5 := f5.size
  have leb : eb < h5.size := s5.lt
  have F5 := F4.no f5
  refine ⟨ints geoL, rfl, cellsAll ((f5.rd (by omega) fun x => x).trans ((f4.rd (by omega) fun x => x).trans ((n3.at_ n2.own.lt).trans n2.rd))), place_spec (T.no F5) h1 h2 fun b c h6 f6 hb s6 => ⟨_, _, _, _, _, _, rfl, cn (fun x => absurd rfl x) fun _ => ?_⟩⟩
  have z6 := f6.size
  have hc := s6.le
  have F6 := F5.no f6
  have le := encR_length hR
  have lc : (cont L (blkN n)).length = 512 := s6.str.1
  refine ⟨⟨by omega, by omega⟩, ?_⟩
  rw [if_neg (by omega)]
  show CopyP _ (some (Addr.add ⟨b, 0, none⟩ (atN n : Int).toNat)) _ _ _ _
  rw [add_mk]
  have e5 : SlCells h6 (some ⟨eb, 0, none⟩) ((encR R).map bv) := (s5.fr f6 fun _ _ _ x => x).cells
  obtain ⟨w6, l6⟩ := s6.wr
  refine CopyP.intro (new := (encR R).map bv) (by rw [List.length_map, le]; show 64 = min 64 (512 - _) * 1; omega) e5 (bv_one _) w6 (by rw [List.length_map, le]; omega) fun h7 d7 => ?_
  have s7 : Sl h7 1 (some ⟨b, 0, none⟩) 512 c ((putU (cont L (blkN n)) (atN n) (encR R)).map bv) (fun x => x = b) := by
    have := s6.putAt (new := (encR R).map bv) (j := atN n) (by rw [List.length_map, le]; omega) (by rw [show (0 : Nat) + atN n = 0 + (atN n : Int).toNat by omega]; exact d7)
    rw [putU_put (by rw [lc, le]; omega)] at this; exact this
  have F7 := F6.did d7 fun hl => by omega
  have z7 := F7.size
  have T7 := T.no F7
  have htl := T.own.lt
  have bs6 : b < h6.size := s6.lt
  have d7s := d7.size
  refine Tx.Write_spec T7 (by omega) hk (by omega) (by omega) s7.str (fun p e => by cases e; exact ⟨by show b ≠ t; omega, fun x => by have := T.lt b x; omega⟩) fun r' h8 f8 T8 => ⟨_, rfl, ?_⟩
  exact hK _ r' h8 ((F7.mono fun _ _ x => x.elim).trans f8 fun b _ x => x) (fun b hb => hb.imp id fun x => by have := x.1; omega) T8
theorem Take_spec {h : Heap} {n0 : Nat} {S : Nat → Prop} {t d s m : Nat} {L : Int → Option (List UInt8)} {k : Nat} {r : Tx.Raw} {R : List Int} {K : Value → Heap → Prop} (g : Glo h) (T : Tx.Tx h n0 S t d s m L k r) (hn : n0 ≤ h.size) (hk : k < 96)
    (hR : R.length = 15) (hm : mayR R = true) (hk0 : R.getD 0 0 ≠ 0) (hz : recN L 1 = (z15, 0)) (hK : ∀ S' r' h', Fr S h h' → (∀ b, S' b → S b ∨ h.size ≤ b) → Tx.Tx h' n0 S' t d s m (putN L 1 R) (k + 1) r' → K (.tuple #[.int .i64 1, .int .i64 0]) h') :
    C.inode_Take (some ⟨t, 0, none⟩) (ints geoL) (ints R) h K := by
  refine inode_Take.ok (New.intro fun h2' n2 => New.intro fun h3 n3 => ⟨ints R, by rw [ints_length, hR], cellsAll n3.rd, may_spec hR fun h4 f4 => ⟨_, rfl, cnot (ct hm ?_)⟩⟩)
  have s2 := n2.size
  have s3 := n3.size
  have z4 := f4.size
  have F4 := (n2.fr.new n3).no f4
  have rg : rd h4 h.size = ints geoL := (f4.rd (by omega) fun x => x).trans ((n3.at_ n2.own.lt).trans n2.rd)
  have rx : rd h4 h2'.size = ints R := (f4.rd (by omega) fun x => x).trans n3.rd
  refine ⟨_, cell15 rx (by omega), ce (fun e => absurd e hk0) fun _ => ?_⟩
  refine ⟨fun n hh => n = 1 ∧ h4 = hh, fun _ _ => 0, ⟨rfl, rfl⟩, ?_⟩
  rintro n _ ⟨rfl, rfl⟩
  refine ⟨_, rda rg rfl, ct rfl ⟨ints geoL, rfl, cellsAll rg, Get_spec (g.no F4) (T.no F4) (by decide) (by decide) fun h7 f7 => ?_⟩⟩
  rw [hz]
  refine ⟨_, _, rfl, NewRow.intro rfl (ints_one z15) rfl fun h9 n9 => cn (fun x => absurd rfl x) fun _ => ⟨ints z15, rfl, cellsAll n9.rd, rfl, ct rfl ?_⟩⟩
  have F9 := (F4.no f7).new n9
  have q : ∀ b, b < h4.size → rd h9 b = rd h4 b := fun b hb => (n9.at_ (by have := f7.size; omega)).trans (f7.rd hb fun x => x)
  refine ⟨ints geoL, rfl, cellsAll ((q _ (by omega)).trans rg), ints R, by rw [ints_length, hR], cellsAll ((q _ (by omega)).trans rx), Put_ispec (g.no F9) (T.no F9) (by have := F9.size; omega) hk (by decide) (by decide) hR hm fun S' r' h10 f10 hS' T10 => ⟨_, rfl, cn (fun x => absurd rfl x) fun _ => ?_⟩⟩
  exact hK S' r' h10 ((F9.mono fun _ _ x => x.elim).trans f10 fun b _ x => x) (fun b hb => (hS' b hb).imp id fun x => by have := F9.size; omega) T10
/-- how many of the first so many records are free -/
def freeN (L : Int → Option (List UInt8)) : Nat → Nat
  | 0 => 0
  | j + 1 => freeN L j + (if (recN L (j + 1 : Nat)).1 = z15 then 1 else 0)
theorem Free_spec {h : Heap} {n0 : Nat} {S : Nat → Prop} {t d s m : Nat} {L : Int → Option (List UInt8)} {k : Nat} {r : Tx.Raw} {K : Value → Heap → Prop} (g : Glo h) (T : Tx.Tx h n0 S t d s m L k r)
    (hz : ∀ j, j < 15 → (recN L (j + 1 : Nat)).2 = 0) (hK : ∀ h', Fr No h h' → K (.tuple #[.int .i64 (freeN L 15), .int .i64 0]) h') : C.inode_Free (some ⟨t, 0, none⟩) (ints geoL) h K := by
  have fl : ∀ j, freeN L j ≤ j := fun j => by
    induction j with
    | zero => exact Nat.le_refl _
    | succ j ih => unfold freeN; split <;> omega
  refine inode_Free.ok (New.intro fun h2' n2 => ?_)
  refine ⟨fun many n hh => 1 ≤ n ∧ n ≤ 16 ∧ many = (freeN L (n - 1).toNat : Nat) ∧ Fr No h2' hh, fun _ n _ => (16 - n).toNat, ⟨by decide, by decide, rfl, Fr.refl _ _⟩, ?_⟩
  rintro many n h3 ⟨n1, n2', rfl, f3⟩
  have rg : rd h3 h.size = ints geoL := (f3.rd n2.own.lt fun x => x).trans n2.rd
  refine ⟨_, rda rg rfl, cd (fun hn => ?_) fun hn => ?_⟩
  · have hn : n < 16 := hn
    have F3 := n2.fr.no f3
    refine ⟨ints geoL, rfl, cellsAll rg, Get_spec (g.no F3) (T.no F3) n1 hn fun h4 f4 => ?_⟩
    have en : n = (((n - 1).toNat + 1 : Nat) : Int) := by omega
    have e0 := hz (n - 1).toNat (by omega)
    rw [← en] at e0
    have ld : ∀ bs, (decA bs).1.length = 15 := fun bs => by
      unfold decA; split
      · exact List.length_replicate
      · split
        · exact getR_length bs
        · exact List.length_replicate
    have ld : (recN L n).1.length = 15 := ld _
    refine ⟨_, _, rfl, NewRow.intro (by rw [ints_length, ld]) (ints_one _) rfl fun h6 n6 => cn (fun x => absurd e0 x) fun _ => ⟨_, by rw [ints_length, ld], cellsAll n6.rd, pairs15 ld (S := z15) rfl, ?_⟩⟩
    have ez : cellsEq (ints (recN L n).1) [.int .i64 0, .int .i64 0, .int .i64 0, .int .i64 0, .int .i64 0, .int .i64 0, .int .i64 0, .int .i64 0, .int .i64 0, .int .i64 0, .int .i64 0, .int .i64 0, .int .i64 0, .int .i64 0, .int .i64 0] = decide ((recN L n).1 = z15) := ints_eq _ z15
    rw [ez]
    have es : freeN L (n + 1 - 1).toNat = freeN L (n - 1).toNat + (if (recN L n).1 = z15 then 1 else 0) := by
      rw [show (n + 1 - 1).toNat = (n - 1).toNat + 1 by omega]
      show freeN L (n - 1).toNat + (if (recN L (((n - 1).toNat + 1 : Nat) : Int)).1 = z15 then 1 else 0) = _
      rw [← en]
    have lf := fl (n - 1).toNat
    rw [wrap_i64 (n := n + 1) (by omega) (by omega), wrap_i64 (n := ((freeN L (n - 1).toNat : Nat) : Int) + 1) (by omega) (by omega)]
    refine cd (fun hq => ⟨⟨by omega, by omega, ?_, (f3.no f4).new n6⟩, by show (16 - (n + 1)).toNat < (16 - n).toNat; omega⟩) fun hq => ⟨⟨by omega, by omega, ?_, (f3.no f4).new n6⟩, by show (16 - (n + 1)).toNat < (16 - n).toNat; omega⟩
    · rw [es, if_pos hq]; rfl
    · rw [es, if_neg hq]; rfl
  · have hn : ¬ n < 16 := hn
    have : n = 16 := by omega
    subst this
    exact hK h3 (n2.fr.no f3)
end Go.Proofs.YtnlmieklakolkaaDoor.In
