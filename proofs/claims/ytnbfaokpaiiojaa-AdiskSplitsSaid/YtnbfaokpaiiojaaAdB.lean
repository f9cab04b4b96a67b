/-
  THE DISK of package adisk: reads, and the image.
-/
import Derived.Test.YtnbfaokpaiiojaaAdA
namespace Go.Proofs.Ytnbfaokpaiiojaa.Ad
open Go Go.Proofs Go.Proofs.Ytnbfaokpaiiojaa.Wx Go.Proofs.Ytnbfaokpaiiojaa.Hp Go.Proofs.Ytnbfaokpaiiojaa.W

theorem Disk.field {h : Heap} {b : Nat} {S : RD} {col : Nat → Nat} {m : Nat} {r : Raw} {es : List Ent} (d : Disk h b S col m r es) (k : Nat) : cellOf h (Addr.add ⟨b, 0, none⟩ k) = r.cells[k]? := by
  rw [add_mk, cellOf_rd, d.sr, Nat.zero_add]

theorem has_spec {d : Option Addr} {i : Int} {h : Heap} {K : Value → Heap → Prop} {S : RD} {col : Nat → Nat} {m : Nat} (D : DiskAt h d S col m)
    (hK : K (.bool (decide (0 ≤ i ∧ i < S.lasts.length))) h) : C.adisk_Disk_has d i h K := by
  obtain ⟨b, r, es, rfl, D⟩ := D
  refine adisk_Disk_has.ok (cd (fun a => ⟨_, _, _, D.field 0, ?_⟩) fun a => ?_)
  · rw [D.ln]
    have e : (0 ≤ i ∧ i < S.lasts.length) = (i < S.lasts.length) := by rw [eq_true (show 0 ≤ i from a), true_and]
    simpa only [e] using hK
  · have : ¬ (0 ≤ i ∧ i < S.lasts.length) := by omega
    simpa only [this, decide_false] using hK
theorem Blocks_spec {d : Option Addr} {h : Heap} {K : Value → Heap → Prop} {S : RD} {col : Nat → Nat} {m : Nat} (D : DiskAt h d S col m)
    (hK : K (.int .i64 S.lasts.length) h) : C.adisk_Disk_Blocks d h K := by
  obtain ⟨b, r, es, rfl, D⟩ := D
  refine adisk_Disk_Blocks.ok ⟨_, _, _, D.field 0, ?_⟩
  rw [D.ln]; exact hK
theorem Steps_spec {d : Option Addr} {h : Heap} {K : Value → Heap → Prop} {S : RD} {col : Nat → Nat} {m : Nat} (D : DiskAt h d S col m)
    (hK : K (.tuple #[.int .i64 S.writes, .int .i64 S.flushes]) h) : C.adisk_Disk_Steps d h K := by
  obtain ⟨b, r, es, rfl, D⟩ := D
  refine adisk_Disk_Steps.ok ⟨_, D.field 5, _, D.field 6, ?_⟩
  rw [D.writes, D.flushes]; exact hK
theorem Down_spec {d : Option Addr} {h : Heap} {K : Value → Heap → Prop} {S : RD} {col : Nat → Nat} {m : Nat} (D : DiskAt h d S col m)
    (hK : K (.bool S.down) h) : C.adisk_Disk_Down d h K := by
  obtain ⟨b, r, es, rfl, D⟩ := D
  refine adisk_Disk_Down.ok ⟨_, D.field 4, ?_⟩
  rw [D.down]; exact hK

/-- what a read of block i finds -/
def readFrom (b : List UInt8) (i : Int) (ps : List (Int × List UInt8)) : List UInt8 := ps.foldl (fun b p => if p.1 = i then p.2 else b) b
def readAt (S : RD) (i : Nat) : List UInt8 := readFrom (S.lasts.getD i []) i S.pend
theorem pcell_len {p : Int × List UInt8} (h : p.2.length = 512) : (pcell p).length = 513 := by simp only [pcell, List.length_cons, List.length_map, h]
theorem blk_len {b : List UInt8} (h : b.length = 512) : (blk b).length = 512 := by simp only [blk, List.length_map, h]
theorem pcell_data (p : Int × List UInt8) : ((pcell p).drop (0 + 1)).take (blk p.2).length = blk p.2 := by
  simp only [pcell, blk, Nat.zero_add, List.drop_succ_cons, List.drop_zero]; exact List.take_length
theorem pcell_one (p : Int × List UInt8) : ∀ v ∈ pcell p, v.oneCell' = true := by
  intro v hv
  rcases List.mem_cons.mp hv with rfl | hv
  · rfl
  · exact bv_one _ v hv
theorem Disk.pendCells {h : Heap} {b : Nat} {S : RD} {col : Nat → Nat} {m : Nat} {r : Raw} {es : List Ent} (d : Disk h b S col m r es) {h' : Heap} {col' : Nat → Nat} {i : Nat} (hi : i < S.pend.length)
    (s : Sl h' 513 r.pa r.pn r.pc (S.pend.flatMap pcell) (On col' (m + 2))) : ∃ p, r.pa = some p ∧ Cells h' (p.add (i * 513)) (pcell S.pend[i]) := by
  obtain ⟨p, e, c⟩ := s.get (by rw [d.pn]; omega)
  refine ⟨p, e, ?_⟩
  have := Cells.part c (i * 513) 513
  rw [flat_part pcell 513 S.pend (fun x hx => pcell_len (d.pw x hx)) i hi] at this
  exact this
theorem Disk.lastCells {h : Heap} {b : Nat} {S : RD} {col : Nat → Nat} {m : Nat} {r : Raw} {es : List Ent} (d : Disk h b S col m r es) {h' : Heap} {col' : Nat → Nat} {i : Nat} (hi : i < S.lasts.length)
    (s : Sl h' 512 r.la r.ln r.lc (S.lasts.flatMap blk) (On col' (m + 1))) : ∃ p, r.la = some p ∧ Cells h' (p.add (i * 512)) (blk S.lasts[i]) := by
  obtain ⟨p, e, c⟩ := s.get (by rw [d.ln]; omega)
  refine ⟨p, e, ?_⟩
  have := Cells.part c (i * 512) 512
  rw [flat_part blk 512 S.lasts (fun x hx => blk_len (d.lw x hx)) i hi] at this
  exact this
theorem readFrom_take {b : List UInt8} {i : Int} {ps : List (Int × List UInt8)} {n : Nat} (hn : n < ps.length) : readFrom b i (ps.take (n + 1)) = if ps[n].1 = i then ps[n].2 else readFrom b i (ps.take n) := by
  rw [readFrom, List.take_add_one, List.foldl_append, List.getElem?_eq_getElem hn]; rfl

theorem Read_spec {d : Option Addr} {i : Int} {h : Heap} {K : Value → Heap → Prop} {S : RD} {col : Nat → Nat} {m : Nat} (D : DiskAt h d S col m)
    (h1 : S.down = true → K (.tuple #[.slice none 0 0, .int .i64 30]) h)
    (h2 : S.down = false → ¬ (0 ≤ i ∧ i < S.lasts.length) → K (.tuple #[.slice none 0 0, .int .i64 31]) h)
    (h3 : S.down = false → 0 ≤ i → i < S.lasts.length → ∀ b h', Fr No h h' → h.size ≤ b → Own h' b → rd h' b = (readAt S i.toNat).map bv → (readAt S i.toNat).length = 512 →
      K (.tuple #[.slice (some ⟨b, 0, none⟩) 512 512, .int .i64 0]) h') :
    C.adisk_Disk_Read d i h K := by
  have D0 := D
  obtain ⟨b, r, es, rfl, D⟩ := D
  refine adisk_Disk_Read.ok ⟨_, D.field 4, ?_⟩
  rw [D.down]
  refine cs h1 fun hd => has_spec D0 ⟨_, rfl, cnot (cd (fun a => ?_) (h2 hd))⟩
  have hi : i.toNat < S.lasts.length := by omega
  obtain ⟨p, e, c⟩ := D.lastCells hi D.l
  refine ⟨_, _, _, D.field 0, ⟨a.1, by rw [D.ln]; exact a.2⟩, ?_⟩
  rw [e]
  have hlen := blk_len (D.lw _ (List.getElem_mem hi))
  refine ⟨_, hlen, c, NewRow.intro hlen (bv_one _) List.length_replicate fun h4 n4 => ?_⟩
  have D4 := D.keep' n4.fr (Ag.refl _ _) (fun _ _ _ x => x)
  refine ⟨_, _, _, D4.field 1, ?_⟩
  refine ⟨fun n hh => 0 ≤ n ∧ n ≤ S.pend.length ∧ Fr No h hh ∧ Own hh h.size ∧ rd hh h.size = (readFrom S.lasts[i.toNat] i (S.pend.take n.toNat)).map bv ∧ (readFrom S.lasts[i.toNat] i (S.pend.take n.toNat)).length = 512,
    fun n _ => (S.pend.length - n).toNat, ⟨by omega, by omega, n4.fr, n4.own, n4.rd, D.lw _ (List.getElem_mem hi)⟩, ?_⟩
  rintro n h5 ⟨n0, n1, f5, o5, r5, l5⟩
  have D5 := D.keep' f5 (Ag.refl _ _) (fun _ _ _ x => x)
  rw [D.pn]
  refine cd (fun hn => ?_) fun hn => ?_
  rotate_left
  · have : readAt S i.toNat = readFrom S.lasts[i.toNat] i (S.pend.take n.toNat) := by
      rw [List.take_of_length_le (by omega), readAt, List.getD_eq_getElem?_getD, List.getElem?_eq_getElem hi, Option.getD_some, Int.toNat_of_nonneg a.1]
    exact h3 hd a.1 a.2 _ _ f5 (Nat.le_refl _) o5 (by rw [this]; exact r5) (by rw [this]; exact l5)
  have hn' : n.toNat < S.pend.length := by omega
  obtain ⟨q, e', c'⟩ := D5.pendCells hn' D5.p
  refine ⟨⟨n0, hn⟩, ?_⟩
  rw [e']
  have hp2 := D.pw _ (List.getElem_mem hn')
  have hpl := pcell_len hp2
  refine ⟨_, hpl, c', NewRow.intro hpl (pcell_one _) (List.length_cons.trans (congrArg (· + 1) List.length_replicate)) fun h7 n7 => ?_⟩
  have f7 := f5.new n7
  have hs5 := f5.size
  have hw : IntKind.wrap .i64 (n + 1) = n + 1 := wrap_i64 (by omega) (by have := D.pmax; omega)
  have ht : (n + 1).toNat = n.toNat + 1 := by omega
  refine ⟨_, rda n7.rd rfl, ?_⟩
  rw [hw]
  refine ce (fun hq => ?_) fun hq => ?_
  · have hb := blk_len hp2
    have r7 := n7.at_ o5.lt
    refine ⟨_, hb, cellsa n7.rd (pcell_data _), PutRow.intro (n7.ow o5) hb (bv_one _) (by rw [r7, r5, List.length_map, l5]; omega) fun h8 n8 => ⟨⟨by omega, by omega, f7.did n8 (fun x => by omega), n8.own, ?_, ?_⟩, falls hn⟩⟩
    · rw [n8.rd, r7, r5, put_all _ _ (by rw [hb, List.length_map, l5]), ht, readFrom_take hn', if_pos hq]; rfl
    · rw [ht, readFrom_take hn', if_pos hq]; exact hp2
  · refine ⟨⟨by omega, by omega, f7, n7.ow o5, ?_, ?_⟩, falls hn⟩
    · rw [n7.at_ o5.lt, r5, ht, readFrom_take hn', if_neg hq]
    · rw [ht, readFrom_take hn', if_neg hq]; exact l5
end Go.Proofs.Ytnbfaokpaiiojaa.Ad
