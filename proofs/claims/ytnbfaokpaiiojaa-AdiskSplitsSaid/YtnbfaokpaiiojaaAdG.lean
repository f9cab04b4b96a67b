/-
  THE DISK of package adisk: a flush; what is pending.
-/
import Derived.Test.YtnbfaokpaiiojaaAdF
namespace Go.Proofs.Ytnbfaokpaiiojaa.Ad
open Go Go.Proofs Go.Proofs.Ytnbfaokpaiiojaa.Wx Go.Proofs.Ytnbfaokpaiiojaa.Hp Go.Proofs.Ytnbfaokpaiiojaa.W

def RD.flushed (S : RD) : RD := { S with lasts := applyTo S.lasts S.pend, pend := [], tape := S.tape ++ [(2, 0, [])] }
def RD.flush (S : RD) : RD × Int := if S.down then (S, 30) else RD.step { S with flushes := IntKind.wrap .i64 (S.flushes + 1) } RD.flushed

theorem Flush_c1_spec {d : Option Addr} {cb : Nat} {h : Heap} {K : Value → Heap → Prop} {S : RD} {col : Nat → Nat} {m : Nat} (D : DiskAt h d S col m)
    (hc : rd h cb = [.pointer d]) (hcl : cb < h.size) (hcc : ¬ Dk col m cb) (ht : S.tape.length < 1000000000)
    (hK : ∀ h' col', Fr (Dk col m) h h' → Ag h.size col col' → DiskAt h' d S.flushed col' m → K (.tuple #[]) h') : C.adisk_Disk_Flush_c1 (some ⟨cb, 0, none⟩) h K := by
  obtain ⟨b, r, es, rfl, D⟩ := D
  refine adisk_Disk_Flush_c1.ok (os ⟨_, rdc hc rfl, os ⟨_, _, _, D.field 1, ?_⟩⟩)
  rw [D.pn]
  refine ⟨fun n hh => 0 ≤ n ∧ n ≤ S.pend.length ∧ Fr (On col (m + 1)) h hh ∧ Disk hh b { S with lasts := applyTo S.lasts (S.pend.take n.toNat) } col m r es,
    fun n _ => (S.pend.length - n).toNat, ⟨by omega, by omega, Fr.refl _ _, D⟩, ?_⟩
  rintro n h2 ⟨n0, n1, f2, D2⟩
  have hc1 : ¬ On col (m + 1) cb := fun x => hcc ⟨by have x : col cb = m + 1 := x; omega, by have x : col cb = m + 1 := x; omega⟩
  have c2 : rd h2 cb = [.pointer (some ⟨b, 0, none⟩)] := (f2.rd hcl hc1).trans hc
  have hcl2 : cb < h2.size := Nat.lt_of_lt_of_le hcl f2.size
  have hbc : b ≠ cb := fun e => hcc ⟨by rw [← e, D.sc]; omega, by rw [← e, D.sc]; omega⟩
  refine cd (fun hn => ?_) fun hn => ?_
  · have hn1 : n.toNat < S.pend.length := by omega
    obtain ⟨q, e', c'⟩ := D2.pendCells (S := { S with lasts := applyTo S.lasts (S.pend.take n.toNat) }) hn1 D2.p
    refine ⟨⟨n0, hn⟩, ?_⟩
    rw [e']
    have hp2 := D.pw _ (List.getElem_mem hn1)
    have hpl := pcell_len hp2
    refine os ⟨_, hpl, c', NewRow.intro hpl (pcell_one _) (List.length_cons.trans (congrArg (· + 1) List.length_replicate)) fun h4 n4 => ?_⟩
    have f4 := f2.new n4
    have D4 := D2.keep' n4.fr (Ag.refl _ _) (fun _ _ _ x => x)
    have hw2 : IntKind.wrap .i64 (n + 1) = n + 1 := wrap_i64 (by omega) (by have := D.pmax; omega)
    have ht : (n + 1).toNat = n.toNat + 1 := by omega
    obtain ⟨i0, i1⟩ := D.pi _ (List.getElem_mem hn1)
    have hlen := applyTo_length (S.pend.take n.toNat) S.lasts
    have hbl := blk_len hp2
    refine os ⟨_, rdc ((n4.at_ hcl2).trans c2) rfl, os ⟨_, _, _, D4.field 0, _, rda n4.rd rfl, _, hbl, cellsa n4.rd (pcell_data _), ⟨i0, by rw [D4.ln]; show _ < ((applyTo _ _).length : Int); rw [hlen]; exact i1⟩, ?_⟩⟩
    obtain ⟨p, e, _⟩ := D4.l.get (by rw [D4.ln]; show 0 < (applyTo _ _).length; rw [hlen]; omega)
    rw [e]
    have L := D4.l
    rw [e] at L
    have hpm := L.mk
    rw [hpm] at e L ⊢
    obtain ⟨w1, w2⟩ := L.wr
    have hi : S.pend[n.toNat].1.toNat < (applyTo S.lasts (S.pend.take n.toNat)).length := by rw [hlen]; omega
    have hr : S.pend[n.toNat].1.toNat * 512 + 512 ≤ r.ln * 512 := by
      have : r.ln = (applyTo S.lasts (S.pend.take n.toNat)).length := D4.ln
      rw [this]; omega
    rw [hw2]
    refine os (PutRow.add w1 hbl (bv_one _) (by omega) fun h5 d5 => ⟨⟨by omega, by omega, f4.did d5 (fun _ => L.2.2.1), ?_⟩, falls hn⟩)
    have D5 := D4.putLast hi hp2 e d5
    rw [ht, take_snoc _ _ hn1, applyTo, List.foldl_append]
    exact D5
  · rw [List.take_of_length_le (by omega)] at D2
    have dk : b < h.size → Dk col m b := fun _ => ⟨by rw [D.sc]; omega, by rw [D.sc]; omega⟩
    have F2 : Fr (Dk col m) h h2 := f2.mono fun x _ hx => by have hx : col x = m + 1 := hx; exact ⟨by omega, by omega⟩
    refine os ⟨_, rdc c2 rfl, os (Put.add D2.so (by rw [D2.sr]; exact (by decide : 0 + 1 < 8)) fun h6 d6 => ?_)⟩
    rw [D2.sr] at d6
    have D6 : Disk h6 b { S with lasts := applyTo S.lasts S.pend, pend := [] } col m { r with pa := none, pn := 0, pc := 0 } es := by
      refine Disk.re ?_ D.sc d6
      have Q := D2.toParts
      exact ⟨Q.left, Q.leftb, Q.down, Q.writes, Q.flushes, Q.l, Q.lw, Q.ln, Q.lmax, Sl.nil _ _ _, (fun x hx => by simp at hx), rfl, (fun x hx => by simp at hx), Nat.zero_le _, Q.k, Q.kn, Q.t, Q.tn, Q.tmax, Q.ts⟩
    have c6 : rd h6 cb = [.pointer (some ⟨b, 0, none⟩)] := (d6.at_ hcl2 (Ne.symm hbc)).trans c2
    have hcl6 : cb < h6.size := by rw [d6.size]; exact hcl2
    refine os ⟨_, rdc c6 rfl, os ⟨_, rdc c6 rfl, os ⟨_, _, _, D6.field 7, rfl, New.intro fun h7 n7 => ?_⟩⟩⟩
    have c7 := (n7.at_ hcl6).trans c6
    have D7 := D6.keep' n7.fr (Ag.refl _ _) (fun _ _ _ x => x)
    refine ⟨rdc c7 rfl, rdc c7 rfl, D7.field 7, _, rfl, cellsAll n7.rd, ?_, ?_⟩
    · intro v hv; simp only [List.mem_cons, List.not_mem_nil, or_false] at hv; rcases hv with rfl | rfl | rfl <;> rfl
    have hel := Ents.length D.ts
    have htn := D.tn
    refine append_col D7.t rfl rfl (by show (r.tn + 1) * 40 ≤ _; omega) (by show r.tn + 1 ≤ _; omega) fun a8 c8 h8 f8 s8 => ?_
    have g8 : Ag h7.size col (upd col h7.size (m + 4)) := ag_upd _ _ _
    have hne8 : ∀ k, k ≠ m + 4 → ∀ x, col x = k → ¬ On col (m + 4) x := fun k hk x hx y => hk (hx.symm.trans y)
    have hcc8 : ¬ On col (m + 4) cb := fun x => hcc ⟨by have x : col cb = m + 4 := x; omega, by have x : col cb = m + 4 := x; omega⟩
    have hcl7 : cb < h7.size := by rw [n7.size]; omega
    have sb7 := D7.so.lt
    have nsb8 := hne8 m (by omega) b D7.sc
    have e8 : (es ++ [Ent.mk 2 0 none 0 0]).flatMap Ent.cells = es.flatMap Ent.cells ++ [.int .i64 2, .int .i64 0, .slice none 0 0] := by rw [List.flatMap_append, List.flatMap_singleton]; rfl
    have P8 : Parts h8 S.flushed (upd col h7.size (m + 4)) m { r with pa := none, pn := 0, pc := 0, ta := a8, tn := r.tn + 1, tc := c8 } (es ++ [⟨2, 0, none, 0, 0⟩]) := by
      refine ⟨D7.left, D7.leftb, D7.down, D7.writes, D7.flushes, D7.l.keep f8 g8 (hne8 _ (by omega)), D7.lw, D7.ln, D7.lmax, D7.p.keep f8 g8 (hne8 _ (by omega)), D7.pw, D7.pn, D7.pi, D7.pmax, D7.k.keep f8 g8 (hne8 _ (by omega)), D7.kn, ?_, ?_, ?_, ?_⟩
      · rw [e8]; exact s8
      · simp only [List.length_append, List.length_singleton]; omega
      · simp only [List.length_append, List.length_singleton]; omega
      · exact Ents.snoc rfl rfl (StrAt.nil _ _) (fun p hp => by cases hp) (Ents.keep f8 g8 (hne8 _ (by omega)) D7.ts)
    have r8 := (f8.rd sb7 nsb8).trans D7.sr
    have sc8 := (g8 b sb7).trans D7.sc
    refine ⟨rdc ((f8.rd hcl7 hcc8).trans c7) rfl, os (Put.add (f8.own sb7 nsb8 D7.so) (by rw [r8]; exact (by decide : 0 + 7 < 8)) fun h9 d9 => ?_)⟩
    rw [r8] at d9
    have D9 := Disk.re P8 sc8 d9
    have hs := f2.size
    have F8 : Fr (Dk col m) h h8 := ((F2.did d6 dk).new n7).trans f8 fun x hx y => by
      have y : col x = m + 4 := y
      exact ⟨by omega, by omega⟩
    refine hK h9 (upd col h7.size (m + 4)) (F8.did d9 dk) (g8.le ?_) ⟨b, _, _, rfl, D9⟩
    have := n7.size; have := d6.size; omega

theorem Flush_spec {d : Option Addr} {h : Heap} {K : Value → Heap → Prop} {S : RD} {col : Nat → Nat} {m : Nat} (D : DiskAt h d S col m) (ht : S.tape.length < 1000000000)
    (hK : ∀ h' col', Fr (Dk col m) h h' → Ag h.size col col' → DiskAt h' d S.flush.1 col' m → K (.int .i64 S.flush.2) h') : C.adisk_Disk_Flush d h K := by
  refine adisk_Disk_Flush.ok (New.intro fun h2 n2 => ⟨_, rdc n2.rd rfl, ?_⟩)
  have g2 : Ag h.size col (upd col h.size (m + 6)) := ag_upd _ _ _
  have D2 := D.keep n2.fr g2 (fun _ _ _ x => x)
  have D20 := D2
  have F2 : Fr (Dk col m) h h2 := n2.fr.mono fun _ _ x => x.elim
  obtain ⟨b, r, es, rfl, D2⟩ := D2
  refine os ⟨_, D2.field 4, ?_⟩
  rw [D2.down]
  refine cs (fun e => ?_) fun e => ?_
  · have := hK h2 _ F2 g2
    rw [RD.flush, if_pos e] at this; exact this D20
  have hcb : upd col h.size (m + 6) h.size = m + 6 := upd_ge (Nat.le_refl _)
  have hbc : h.size ≠ b := fun x => by have := D2.sc; rw [← x] at this; omega
  have hs2 := n2.size
  refine ⟨_, rdc n2.rd rfl, os ⟨_, D2.field 6, os (Put.add D2.so (by rw [D2.sr]; exact (by decide : 0 + 6 < 8)) fun h3 d3 => ?_)⟩⟩
  rw [D2.sr] at d3
  have D3 : Disk h3 b { S with flushes := IntKind.wrap .i64 (S.flushes + 1) } (upd col h.size (m + 6)) m { r with flushes := IntKind.wrap .i64 (r.flushes + 1) } es := by
    refine Disk.re ?_ D2.sc d3
    exact ⟨D2.left, D2.leftb, D2.down, D2.writes, by show IntKind.wrap .i64 (r.flushes + 1) = IntKind.wrap .i64 (S.flushes + 1); rw [D2.flushes], D2.l, D2.lw, D2.ln, D2.lmax, D2.p, D2.pw, D2.pn, D2.pi, D2.pmax, D2.k, D2.kn, D2.t, D2.tn, D2.tmax, D2.ts⟩
  have c3 : rd h3 h.size = [.pointer (some ⟨b, 0, none⟩)] := (d3.at_ (by omega) hbc).trans n2.rd
  have F3 : Fr (Dk col m) h h3 := F2.did d3 fun hb => by
    have e := g2 b hb
    exact ⟨by have := D2.sc; omega, by have := D2.sc; omega⟩
  have hncb : ¬ Dk (upd col h.size (m + 6)) m h.size := fun x => by have := x.2; omega
  refine ⟨_, rdc c3 rfl, step_spec (f := RD.flushed) ⟨b, _, _, rfl, D3⟩ rfl (fun x => Bool.noConfusion x) (fun _ S' h4 K' hS' f4 D4 k' => ?_) fun h' col' f' g' D' => ⟨_, rfl, ?_⟩⟩
  · refine Flush_c1_spec (S := S') D4 ((f4.rd (by rw [d3.size]; omega) hncb).trans c3) (by have := f4.size; have := d3.size; omega) hncb ?_ k'
    rcases hS' with rfl | rfl <;> exact ht
  · have hf : S.flush = RD.step { S with flushes := IntKind.wrap .i64 (S.flushes + 1) } RD.flushed := by rw [RD.flush, if_neg (by rw [e]; exact Bool.false_ne_true)]
    have hs3 := d3.size
    have := hK h' col' (F3.trans f' fun x hx y => by have e := g2 x hx; exact ⟨by have := y.1; omega, by have := y.2; omega⟩) (g2.trans g' (by omega)) (by rw [hf]; exact D')
    rw [hf] at this; exact this
end Go.Proofs.Ytnbfaokpaiiojaa.Ad
