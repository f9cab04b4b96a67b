/-
  bolelaw03.AdiskPlays: a tape whose acts have bytes of their own.
-/
import Derived.Test.YtnbfaokpaiiojaaApE
namespace Go.Proofs.Ytnbfaokpaiiojaa.Ap
open Go Go.Proofs Go.Proofs.Ytnbfaokpaiiojaa.Wx Go.Proofs.Ytnbfaokpaiiojaa.Hp Go.Proofs.Ytnbfaokpaiiojaa.W Go.Proofs.Ytnbfaokpaiiojaa.Ad Go.Proofs.Ytnbfaokpaiiojaa.L3 Go.Proofs.Ytnbfaokpaiiojaa.Rf

/-- a row of acts in blocks from b on; each act's bytes in blocks of a colour of their own -/
structure Ts (h : Heap) (b : Nat) (col : Nat → Nat) (a : Option Addr) (l c : Nat) (xs : List Ent) (ts : List Tt) : Prop where
  sl : Sl h 3 a l c (xs.flatMap Ent.cells) (On col 1)
  num : ts.length = l
  len : xs.length = ts.length
  it : ∀ i (h1 : i < xs.length) (h2 : i < ts.length), xs[i].kind = ts[i].1 ∧ xs[i].at_ = ts[i].2.1 ∧ Sl h 1 xs[i].a xs[i].l xs[i].c (ts[i].2.2.map bv) (On col (2 + i))
  base : ∀ x, x < b → col x = 0
theorem Ts.keep {h h' : Heap} {b l c : Nat} {col col' : Nat → Nat} {a : Option Addr} {xs : List Ent} {ts : List Tt} {F : Nat → Prop} (t : Ts h b col a l c xs ts) (hb : b ≤ h.size) (f : Fr F h h') (g : Ag h.size col col') (hF : ∀ x, col x ≠ 0 → ¬ F x) : Ts h' b col' a l c xs ts :=
  ⟨t.sl.keep f g fun x hx => hF x (by omega), t.num, t.len, fun i h1 h2 => ⟨(t.it i h1 h2).1, (t.it i h1 h2).2.1, (t.it i h1 h2).2.2.keep f g fun x hx => hF x (by omega)⟩, fun x hx => (g x (by omega)).trans (t.base x hx)⟩
theorem tape_spec {d : Option Addr} {n : Int} {h : Heap} {K : Value → Heap → Prop} {S : RD} {col : Nat → Nat} {m : Nat} (D : DiskAt h d S col m) (ht : S.tape.length < 1000000000) (hw : ∀ x ∈ S.tape, x.2.2.length ≤ 140737488355328)
    (hK : ∀ a l c h' col' xs, Fr No h h' → Ts h' h.size col' a l c xs (S.tape.drop n.toNat) → K (.slice a l c) h') : C.adisk_Disk_Tape d n h K := by
  obtain ⟨b, r, es, rfl, D⟩ := D
  have hel := Ents.length D.ts
  have htn := D.tn
  have hs : ((if (0 : Int) > n then 0 else n) : Int) = n.toNat := by split <;> omega
  refine adisk_Disk_Tape.ok ?_
  unfold adisk_Disk_Tape
  rw [hs]
  refine ⟨fun a l c k hh => (n.toNat : Int) ≤ k ∧ (k ≤ (max n.toNat S.tape.length : Nat)) ∧ Fr No h hh ∧ ∃ col xs, Ts hh h.size col a l c xs ((S.tape.take k.toNat).drop n.toNat), fun _ _ _ k _ => ((max n.toNat S.tape.length : Nat) - k).toNat,
    ⟨by omega, by omega, Fr.refl _ _, fun _ => 0, [], ?_⟩, ?_⟩
  · have e : (S.tape.take (n.toNat : Int).toNat).drop n.toNat = [] := by rw [Int.toNat_natCast, List.drop_take, Nat.sub_self, List.take_zero]
    rw [e]; exact ⟨Sl.nil _ _ _, rfl, rfl, fun i h1 => absurd h1 (Nat.not_lt_zero _), fun _ _ => rfl⟩
  rintro a l c k h2 ⟨k0, k1, f2, cl, xs, T⟩
  have D2 := D.keep' f2 (Ag.refl _ _) (fun _ _ _ x => x)
  refine os ⟨_, _, _, D2.field 7, ?_⟩
  refine cd (fun hi => ?_) fun hi => ?_
  rotate_left
  · have : (S.tape.take k.toNat) = S.tape := List.take_of_length_le (by omega)
    rw [this] at T
    exact hK a l c h2 cl xs f2 T
  have hk : k.toNat < S.tape.length := by omega
  have hke : k.toNat < es.length := by omega
  refine os ⟨_, _, _, D2.field 7, ⟨by omega, hi⟩, ?_⟩
  obtain ⟨q, e', c'⟩ := D2.t.get (by rw [htn]; omega)
  have hc : Cells h2 (q.add (k.toNat * 3)) es[k.toNat].cells := by
    have := Cells.part c' (k.toNat * 3) 3
    rw [flat_part Ent.cells 3 es (fun _ _ => rfl) _ hke] at this
    exact this
  obtain ⟨t1, t2, t3, t4⟩ := Ents.at_ D2.ts k.toNat hke hk
  rw [e']
  refine os ⟨_, rfl, hc, NewRow.intro rfl (ent_one _) rfl fun h4 n4 => ⟨_, _, _, rda n4.rd rfl, ?_⟩⟩
  have hlen := hw _ (List.getElem_mem hk)
  have hs2 := f2.size
  have hs4 := n4.size
  have hlt := n4.own.lt
  refine Clone_spec (StrAt.fr n4.fr t3 fun _ _ x => x) (by rw [← t3.1]; exact hlen) fun a5 c5 h5 f5 s5 => ⟨_, _, _, rfl, ?_⟩
  have hs5 := f5.size
  have r5 := (f5.rd hlt fun x => x).trans n4.rd
  have o5 := f5.own hlt (fun x => x) n4.own
  refine Put.add o5 (by rw [r5]; exact (by decide : 0 + 2 < 3)) fun h6 d6 => ?_
  rw [r5] at d6
  have hs6 := d6.fr.size
  have r6 : rd h6 h2.size = Ent.cells ⟨es[k.toNat].kind, es[k.toNat].at_, a5, es[k.toNat].l, c5⟩ := d6.rd
  refine ⟨_, rfl, cellsAll r6, rfl, New.intro fun h7 n7 => ⟨_, rfl, cellsAll n7.rd, ent_one _, ?_⟩⟩
  have hs7 := n7.size
  have F6 : Fr No h2 h6 := ((Fr.refl No h2).new n4).no f5 |>.did d6 fun x => absurd x (Nat.lt_irrefl _)
  have F7 := F6.no n7.fr
  have hcnt := T.num
  have hxl := T.len
  have g7 : Ag h2.size cl (upd cl h2.size (2 + l)) := ag_upd _ _ _
  have T7 := T.keep hs2 F7 g7 fun _ _ x => x
  have s7 : Sl h7 1 a5 es[k.toNat].l c5 (S.tape[k.toNat].2.2.map bv) (On (upd cl h2.size (2 + l)) (2 + l)) := ((s5.fr d6.fr fun x _ e1 e2 => by have e1 : h4.size ≤ x := e1; rw [e2] at e1; omega).fr n7.fr fun _ _ _ x => x).mono fun x hx => upd_ge (by have hx : h4.size ≤ x := hx; omega)
  have hcl : l ≤ k.toNat := by rw [← hcnt, List.length_drop, List.length_take]; omega
  refine append_col T7.sl rfl rfl (by show (l + 1) * 40 ≤ _; omega) (by omega) fun a' c2 h8 f8 s8 => ?_
  have hs8 := f8.size
  have g8 : Ag h7.size (upd cl h2.size (2 + l)) (upd (upd cl h2.size (2 + l)) h7.size 1) := ag_upd _ _ _
  have k8 : ∀ kk, kk ≠ 1 → ∀ x, upd cl h2.size (2 + l) x = kk → ¬ On (upd cl h2.size (2 + l)) 1 x := fun kk hkk x e1 e2 => hkk (e1.symm.trans e2)
  rw [wrap_i64 (by omega) (by omega)]
  have ek : (k + 1).toNat = k.toNat + 1 := by omega
  have hbase : ∀ x, x < h.size → upd cl h2.size (2 + l) x = 0 := T7.base
  have et : (S.tape.take (k + 1).toNat).drop n.toNat = (S.tape.take k.toNat).drop n.toNat ++ [S.tape[k.toNat]] := by rw [ek, take_snoc _ _ hk, List.drop_append_of_le_length (by rw [List.length_take]; omega)]
  refine ⟨⟨by omega, by omega, (f2.no F7).trans f8 (fun x hx e => by have e : upd cl h2.size (2 + l) x = 1 := e; have := hbase x hx; omega), upd (upd cl h2.size (2 + l)) h7.size 1, xs ++ [⟨es[k.toNat].kind, es[k.toNat].at_, a5, es[k.toNat].l, c5⟩], ?_⟩, falls (m := max n.toNat S.tape.length) (by omega)⟩
  rw [et]
  refine ⟨?_, by rw [List.length_append, hcnt]; rfl, by rw [List.length_append, List.length_append, hxl]; rfl, fun i h1 h2_ => ?_, fun x hx => (g8 x (by omega)).trans (hbase x hx)⟩
  · rw [List.flatMap_append, List.flatMap_cons, List.flatMap_nil, List.append_nil]
    exact s8
  · by_cases e : i = xs.length
    · subst e
      have e2 : xs.length = ((S.tape.take k.toNat).drop n.toNat).length := hxl
      have e3 : xs.length = l := by omega
      have i1 : (xs ++ [(⟨es[k.toNat].kind, es[k.toNat].at_, a5, es[k.toNat].l, c5⟩ : Ent)])[xs.length]'h1 = ⟨es[k.toNat].kind, es[k.toNat].at_, a5, es[k.toNat].l, c5⟩ := by rw [List.getElem_append_right (Nat.le_refl _)]; simp
      have i2 : ((S.tape.take k.toNat).drop n.toNat ++ [S.tape[k.toNat]])[xs.length]'h2_ = S.tape[k.toNat] := by rw [List.getElem_append_right (by omega)]; simp [e2]
      rw [i1, i2, e3]
      exact ⟨t1, t2, s7.keep f8 g8 (k8 _ (by omega))⟩
    · have h1' : i < xs.length := by rw [List.length_append] at h1; have h1 : i < xs.length + 1 := h1; omega
      have h2' : i < ((S.tape.take k.toNat).drop n.toNat).length := by omega
      obtain ⟨y1, y2, y3⟩ := T7.it i h1' h2'
      rw [List.getElem_append_left h1', List.getElem_append_left h2']
      exact ⟨y1, y2, y3.keep f8 g8 (k8 _ (by omega))⟩
end Go.Proofs.Ytnbfaokpaiiojaa.Ap
