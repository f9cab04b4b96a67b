/-
  THE DISK of package boleref03 under any acts: Tape, New.
-/
import Derived.Test.YtnbfaokpaiiojaaRfF
namespace Go.Proofs.Ytnbfaokpaiiojaa.Rf
open Go Go.Proofs Go.Proofs.Ytnbfaokpaiiojaa.Wx Go.Proofs.Ytnbfaokpaiiojaa.Hp Go.Proofs.Ytnbfaokpaiiojaa.W Go.Proofs.Ytnbfaokpaiiojaa.Ad Go.Proofs.Ytnbfaokpaiiojaa.L3

section
variable {h : Heap} {d : Option Addr} {S : FD} {col : Nat → Nat} {m : Nat}
theorem Tape_spec {n : Int} {K : Value → Heap → Prop} (D : RefAt h d S col m) (ht : S.acts.length < 1000000000) (hw : ∀ x ∈ S.acts, x.2.2.length ≤ 140737488355328)
    (hK : ∀ a l c h' col' xs, Fr No h h' → Tp h' h.size col' a l c xs (S.acts.drop n.toNat) → K (.slice a l c) h') : C.boleref03_Disk_Tape d n h K := by
  obtain ⟨b, r, es, rfl, D⟩ := D
  have hel := Ents.length D.ts
  have han := D.an
  refine boleref03_Disk_Tape.ok ⟨fun a l c k hh => 0 ≤ k ∧ k ≤ S.acts.length ∧ Fr No h hh ∧ ∃ col xs, Tp hh h.size col a l c xs ((S.acts.take k.toNat).drop n.toNat), fun _ _ _ k _ => ((S.acts.length : Int) - k).toNat,
    ⟨Int.le_refl _, by omega, Fr.refl _ _, fun _ => 0, [], ?_⟩, ?_⟩
  · have e : (S.acts.take (0 : Int).toNat).drop n.toNat = [] := by show (S.acts.take 0).drop n.toNat = []; rw [List.take_zero, List.drop_nil]
    rw [e]; exact ⟨Sl.nil _ _ _, rfl, trivial, fun _ _ => rfl⟩
  rintro a l c k h2 ⟨k0, k1, f2, cl, xs, T⟩
  have D2 := D.keep' f2 (Ag.refl _ _) (fun _ _ _ x => x)
  refine os ⟨_, _, _, D2.field 1, cd (fun hi => ?_) fun hi => ?_⟩
  rotate_left
  · have : (S.acts.take k.toNat) = S.acts := List.take_of_length_le (by omega)
    rw [this] at T
    exact hK a l c h2 cl xs f2 T
  have hk : k.toNat < S.acts.length := by omega
  have hke : k.toNat < es.length := by omega
  have ek : (k + 1).toNat = k.toNat + 1 := by omega
  rw [wrap_i64 (n := k + 1) (by omega) (by omega)]
  refine cd (fun hge => ?_) fun hge => ?_
  rotate_left
  · have e1 : (S.acts.take (k + 1).toNat).drop n.toNat = (S.acts.take k.toNat).drop n.toNat := by
      rw [List.drop_of_length_le (by rw [List.length_take]; omega), List.drop_of_length_le (by rw [List.length_take]; omega)]
    exact ⟨⟨by omega, by omega, f2, cl, xs, by rw [e1]; exact T⟩, by show ((S.acts.length : Int) - (k + 1)).toNat < ((S.acts.length : Int) - k).toNat; omega⟩
  have bd : (0 : Int) ≤ k ∧ k < (r.an : Int) := ⟨by omega, by omega⟩
  obtain ⟨q, e', c'⟩ := D2.a.get (by omega)
  have hc : Cells h2 (q.add (k.toNat * 3)) es[k.toNat].cells := by
    have := Cells.part c' (k.toNat * 3) 3
    rw [flat_part Ent.cells 3 es (fun _ _ => rfl) _ hke] at this
    exact this
  obtain ⟨t1, t2, t3, t4⟩ := Ents.at_ D2.ts k.toNat hke hk
  have hlen := hw _ (List.getElem_mem hk)
  have hs2 := f2.size
  refine os ⟨_, _, _, D2.field 1, bd, ?_⟩
  rw [e']
  refine os ⟨_, Cells.cell hc (i := 0) rfl, os ⟨_, _, _, D2.field 1, bd, ?_⟩⟩
  rw [e']
  refine os ⟨_, Cells.cell hc (i := 1) rfl, os ⟨_, _, _, D2.field 1, bd, ?_⟩⟩
  rw [e']
  refine os ⟨_, _, _, Cells.cell hc (i := 2) rfl, copied_spec t3 (by rw [← t3.1]; exact hlen) fun a5 c5 h5 f5 s5 => ⟨_, _, _, rfl, ?_⟩⟩
  have D5 := D2.keep' f5 (Ag.refl _ _) (fun _ _ _ x => x)
  have hc5 : Cells h5 (q.add (k.toNat * 3)) es[k.toNat].cells := by
    have c5' : SlCells h5 r.aa (es.flatMap Ent.cells) := D5.a.cells
    rw [e'] at c5'
    have := Cells.part c5' (k.toNat * 3) 3
    rw [flat_part Ent.cells 3 es (fun _ _ => rfl) _ hke] at this
    exact this
  have hs5 := f5.size
  have fe : cellOf h5 (Addr.add ⟨b, 0, none⟩ 1) = some (.slice (some q) r.an r.ac) := by have := D5.field 1; rw [← e']; exact this
  refine ⟨fe, Cells.cell hc5 (i := 0) rfl, fe, Cells.cell hc5 (i := 1) rfl, rfl, New.intro fun h7 n7 => ⟨_, rfl, cellsAll n7.rd, ent_one ⟨es[k.toNat].kind, es[k.toNat].at_, a5, es[k.toNat].l, c5⟩, ?_⟩⟩
  have hs7 := n7.size
  have F7 : Fr No h2 h7 := f5.new n7
  have g7 : Ag h2.size cl (upd cl h2.size 2) := ag_upd _ _ _
  have T7 := T.keep hs2 F7 g7 fun _ _ x => x
  have s7 : Sl h7 1 a5 es[k.toNat].l c5 (S.acts[k.toNat].2.2.map bv) (On (upd cl h2.size 2) 2) := (s5.fr n7.fr fun _ _ _ x => x).mono fun x hx => upd_ge hx
  have hcnt := T.num
  have hcl : l ≤ k.toNat := by rw [← hcnt, List.length_drop, List.length_take]; omega
  refine append_col T7.sl rfl rfl (by show (l + 1) * 40 ≤ _; omega) (by omega) fun a' c2 h8 f8 s8 => ?_
  have hs8 := f8.size
  have g8 : Ag h7.size (upd cl h2.size 2) (upd (upd cl h2.size 2) h7.size 1) := ag_upd _ _ _
  have k8 : ∀ x, upd cl h2.size 2 x = 2 → ¬ On (upd cl h2.size 2) 1 x := fun x e1 e2 => by have e2 : upd cl h2.size 2 x = 1 := e2; omega
  have hbase : ∀ x, x < h.size → upd cl h2.size 2 x = 0 := T7.base
  refine ⟨⟨by omega, by omega, (f2.no F7).trans f8 (fun x hx e => by have e : upd cl h2.size 2 x = 1 := e; have := hbase x hx; omega), upd (upd cl h2.size 2) h7.size 1, xs ++ [⟨es[k.toNat].kind, es[k.toNat].at_, a5, es[k.toNat].l, c5⟩], ?_, ?_, ?_, ?_⟩, by show ((S.acts.length : Int) - (k + 1)).toNat < ((S.acts.length : Int) - k).toNat; omega⟩
  · rw [List.flatMap_append, List.flatMap_cons, List.flatMap_nil, List.append_nil]
    exact s8
  · rw [ek, List.length_drop, List.length_take]
    rw [List.length_drop, List.length_take] at hcnt
    omega
  · rw [ek, take_snoc _ _ hk, List.drop_append_of_le_length (by rw [List.length_take]; omega)]
    have s8b := s7.keep f8 g8 k8
    refine Ents.snoc (e := ⟨es[k.toNat].kind, es[k.toNat].at_, a5, es[k.toNat].l, c5⟩) t1 t2 s8b.str (fun p hp => ?_) (Ents.keep f8 g8 k8 T7.es)
    have hp : a5 = some p := hp
    rw [hp] at s8b
    exact ⟨s8b.lt, s8b.2.2.1⟩
  · intro x hx
    exact (g8 x (by omega)).trans (hbase x hx)
end
theorem zero_cells (n : Nat) : repCells z5 n = (List.replicate n (0 : UInt8)).map bv := by
  rw [repCells_eq, List.map_replicate]
  show (List.replicate n [bv 0]).flatten = _
  rw [List.flatten_replicate_singleton]
theorem New_spec {n : Int} {h : Heap} {K : Value → Heap → Prop} (col : Nat → Nat) (m : Nat)
    (h1 : n < 1 ∨ 16384 < n → K (.tuple #[.pointer none, .int .i64 32]) h)
    (h2 : 1 ≤ n → n ≤ 16384 → ∀ q h' col', Fr No h h' → Ag h.size col col' → RefAt h' (some q) (freshR (List.replicate (n.toNat * 512) 0)) col' m → K (.tuple #[.pointer (some q), .int .i64 0]) h') : C.boleref03_New n h K := by
  refine boleref03_New.ok (cd (fun a => h1 (.inl a)) fun a => cd (fun b => h1 (.inr b)) fun b => ?_)
  unfold boleref03_New.k1
  have en : (n * 512).toNat = n.toNat * 512 := by omega
  rw [wrap_i64 (n := n * 512) (by omega) (by omega), en]
  refine ⟨⟨by omega, Int.le_refl _, by omega, by omega⟩, New.intro fun h3 n3 => New.intro fun h4 n4 => ?_⟩
  have z3 := n3.size
  refine h2 (by omega) (by omega) _ _ (upd (upd col h.size (m + 1)) h3.size m) (n3.fr.new n4) ((ag_upd _ _ _).trans (ag_upd _ _ _) n3.fr.size) ?_
  have ll : (List.replicate (n.toNat * 512) (0 : UInt8)).length = n.toNat * 512 := List.length_replicate ..
  have r3 : rd h3 h.size = (List.replicate (n.toNat * 512) (0 : UInt8)).map bv := n3.rd.trans (zero_cells _)
  refine ⟨_, ⟨some ⟨h.size, 0, none⟩, n.toNat * 512, n.toNat * 512, none, 0, 0, none, 0, 0, 0, false, 0, 0⟩, [], rfl, upd_ge (Nat.le_refl _), n4.own, n4.rd, rfl, rfl, rfl, rfl, ?_, ll.symm, ?_, Sl.nil _ _ _, rfl, by simp, trivial, Sl.nil _ _ _, rfl⟩
  · have s : Sl h3 1 (some ⟨h.size, 0, none⟩) (n.toNat * 512) (n.toNat * 512) ((List.replicate (n.toNat * 512) (0 : UInt8)).map bv) (On (upd col h.size (m + 1)) (m + 1)) := by
      refine ⟨by rw [List.length_map, ll, Nat.mul_one], rfl, upd_ge (Nat.le_refl _), n3.own, Nat.le_refl _, ?_, ?_⟩
      · show ((rd h3 h.size).drop 0).take _ = _
        rw [r3, List.drop_zero, List.take_length]
      · show 0 + n.toNat * 512 * 1 ≤ (rd h3 h.size).length
        rw [r3, List.length_map, ll]; omega
    exact s.keep n4.fr (ag_upd _ _ _) (fun _ _ x => x)
  · show (List.replicate (n.toNat * 512) (0 : UInt8)).length ≤ 8388608
    rw [ll]; omega
end Go.Proofs.Ytnbfaokpaiiojaa.Rf
