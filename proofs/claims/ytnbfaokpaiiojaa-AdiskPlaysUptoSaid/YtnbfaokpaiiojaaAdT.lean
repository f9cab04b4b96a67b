import Derived.Test.YtnbfaokpaiiojaaAdN
/-
  THE DISK of package adisk: Arm and Tape.
-/
namespace Go.Proofs.Ytnbfaokpaiiojaa.Ad
open Go Go.Proofs Go.Proofs.Ytnbfaokpaiiojaa.Wx Go.Proofs.Ytnbfaokpaiiojaa.Hp Go.Proofs.Ytnbfaokpaiiojaa.W

def RD.arm (S : RD) (n : Int) (keep : List Bool) : RD × Int := if S.down then (S, 30) else ({ S with left := if (0 : Int) > n then 0 else n, keep := keep }, 0)

theorem ent_one (e : Ent) : ∀ v ∈ e.cells, v.oneCell' = true := by
  intro v hv; simp only [Ent.cells, List.mem_cons, List.not_mem_nil, or_false] at hv; rcases hv with rfl | rfl | rfl <;> rfl
theorem Arm_spec {d : Option Addr} {n : Int} {ka : Option Addr} {kl kc : Nat} {keep : List Bool} {h : Heap} {K : Value → Heap → Prop} {S : RD} {col : Nat → Nat} {m : Nat} (D : DiskAt h d S col m)
    (hn : n ≤ 9223372036854775807) (hkl : keep.length = kl) (hk : SlCells h ka (keep.map .bool)) (hl : kl ≤ 140737488355328)
    (hK : ∀ h' col', Fr (Dk col m) h h' → Ag h.size col col' → DiskAt h' d (S.arm n keep).1 col' m → K (.int .i64 (S.arm n keep).2) h') : C.adisk_Disk_Arm d [.int .i64 n, .slice ka kl kc] h K := by
  obtain ⟨b, r, es, rfl, D⟩ := D
  refine adisk_Disk_Arm.ok (New.intro fun h2 n2 => ?_)
  have D2 := D.keep' n2.fr (Ag.refl _ _) (fun _ _ _ x => x)
  have F2 : Fr (Dk col m) h h2 := n2.fr.mono fun _ _ x => x.elim
  have hs2 := n2.size
  refine os ⟨_, D2.field 4, ?_⟩
  rw [D.down]
  refine cs (fun e => ?_) fun e => ?_
  · have := hK h2 col F2 (Ag.refl _ _)
    rw [RD.arm, if_pos e] at this; exact this ⟨_, _, _, rfl, D2⟩
  refine ⟨_, rda n2.rd rfl, _, _, _, rda n2.rd rfl, ClonesB_spec hkl (SlCells.fr n2.fr hk fun _ _ x => x) hl fun a' c' h3 f3 s3 => ⟨_, _, _, rfl, rda ((f3.rd n2.own.lt fun x => x).trans n2.rd) rfl, ?_⟩⟩
  have g3 : Ag h2.size col (upd col h2.size (m + 3)) := ag_upd _ _ _
  have D3 := D2.keep' f3 g3 (fun _ _ _ x => x)
  have F3 : Fr (Dk col m) h h3 := F2.no f3
  have s3 : Sl h3 1 a' kl c' (keep.map .bool) (On (upd col h2.size (m + 3)) (m + 3)) := s3.mono fun b hb => upd_ge hb
  have hb := D.so.lt
  have hcb : upd col h2.size (m + 3) b = m := D3.sc
  refine os (Put.add D3.so (by rw [D3.sr]; exact (by decide : 0 + 2 < 8)) fun h4 d4 => ?_)
  rw [D3.sr] at d4
  have D4 : Disk h4 b { S with left := if (0 : Int) > n then 0 else n } (upd col h2.size (m + 3)) m { r with left := if (0 : Int) > n then 0 else n } es := by
    refine Disk.re ?_ D3.sc d4
    refine ⟨rfl, ?_, D3.down, D3.writes, D3.flushes, D3.l, D3.lw, D3.ln, D3.lmax, D3.p, D3.pw, D3.pn, D3.pi, D3.pmax, D3.k, D3.kn, D3.t, D3.tn, D3.tmax, D3.ts⟩
    show 0 ≤ (if (0 : Int) > n then 0 else n) ∧ (if (0 : Int) > n then 0 else n) ≤ _
    split <;> omega
  have F4 : Fr (Dk col m) h h4 := F3.did d4 fun _ => ⟨by rw [D.sc]; omega, by rw [D.sc]; omega⟩
  have s4 := s3.fr d4.fr fun x _ e1 e2 => by have e1 : upd col h2.size (m + 3) x = m + 3 := e1; rw [e2] at e1; omega
  refine os (Put.add D4.so (by rw [D4.sr]; exact (by decide : 0 + 3 < 8)) fun h5 d5 => ?_)
  rw [D4.sr] at d5
  have D5 : Disk h5 b { S with left := if (0 : Int) > n then 0 else n, keep := keep } (upd col h2.size (m + 3)) m { r with left := if (0 : Int) > n then 0 else n, ka := a', kn := kl, kc := c' } es := by
    refine Disk.re ?_ D4.sc d5
    exact ⟨rfl, D4.leftb, D4.down, D4.writes, D4.flushes, D4.l, D4.lw, D4.ln, D4.lmax, D4.p, D4.pw, D4.pn, D4.pi, D4.pmax, s4, hkl.symm, D4.t, D4.tn, D4.tmax, D4.ts⟩
  have F5 : Fr (Dk col m) h h5 := F4.did d5 fun _ => ⟨by rw [D.sc]; omega, by rw [D.sc]; omega⟩
  have := hK h5 _ F5 (g3.le (by omega))
  rw [RD.arm, if_neg (by rw [e]; exact Bool.false_ne_true)] at this
  exact this ⟨_, _, _, rfl, D5⟩

/-- rows of acts that stand apart: entries and what each has of bytes -/
theorem Ents.at_ {h : Heap} {col : Nat → Nat} {k : Nat} : ∀ {es : List Ent} {ts : List (Int × Int × List UInt8)}, Ents h col k es ts → ∀ i (h1 : i < es.length) (h2 : i < ts.length),
    es[i].kind = ts[i].1 ∧ es[i].at_ = ts[i].2.1 ∧ StrAt h es[i].a es[i].l ts[i].2.2 ∧ (∀ p, es[i].a = some p → p.block < h.size ∧ col p.block = k) := by
  intro es
  induction es with
  | nil => intro ts _ i h1; exact absurd h1 (Nat.not_lt_zero _)
  | cons x r ih =>
    intro ts e i h1 h2
    cases ts with
    | nil => exact e.elim
    | cons t s =>
      cases i with
      | zero => exact ⟨e.1, e.2.1, e.2.2.1, e.2.2.2.1⟩
      | succ i => exact ih e.2.2.2.2 i (Nat.lt_of_succ_lt_succ h1) (Nat.lt_of_succ_lt_succ h2)
/-- a row of acts in blocks from b on: a new list, its bytes new too; ts: kind, block, bytes -/
structure Tp (h : Heap) (b : Nat) (col : Nat → Nat) (a : Option Addr) (l c : Nat) (xs : List Ent) (ts : List (Int × Int × List UInt8)) : Prop where
  sl : Sl h 3 a l c (xs.flatMap Ent.cells) (On col 1)
  num : ts.length = l
  es : Ents h col 2 xs ts
  base : ∀ x, x < b → col x = 0
theorem Tp.keep {h h' : Heap} {b l c : Nat} {col col' : Nat → Nat} {a : Option Addr} {xs : List Ent} {ts : List (Int × Int × List UInt8)} {F : Nat → Prop} (t : Tp h b col a l c xs ts) (hb : b ≤ h.size) (f : Fr F h h') (g : Ag h.size col col') (hF : ∀ x, col x = 1 ∨ col x = 2 → ¬ F x) : Tp h' b col' a l c xs ts :=
  ⟨t.sl.keep f g fun x hx => hF x (Or.inl hx), t.num, Ents.keep f g (fun x hx => hF x (Or.inr hx)) t.es, fun x hx => (g x (by omega)).trans (t.base x hx)⟩
theorem Tp.from_ {h : Heap} {b l c : Nat} {col : Nat → Nat} {a : Option Addr} {xs : List Ent} {ts : List (Int × Int × List UInt8)} (t : Tp h b col a l c xs ts) {x : Nat} (hx : col x = 1 ∨ col x = 2) : b ≤ x := by
  rcases Nat.lt_or_ge x b with h | h
  · have := t.base x h; omega
  · exact h
theorem Tape_spec {d : Option Addr} {n : Int} {h : Heap} {K : Value → Heap → Prop} {S : RD} {col : Nat → Nat} {m : Nat} (D : DiskAt h d S col m) (ht : S.tape.length < 1000000000) (hw : ∀ x ∈ S.tape, x.2.2.length ≤ 140737488355328)
    (hK : ∀ a l c h' col' xs, Fr No h h' → Tp h' h.size col' a l c xs (S.tape.drop n.toNat) → K (.slice a l c) h') : C.adisk_Disk_Tape d n h K := by
  obtain ⟨b, r, es, rfl, D⟩ := D
  have hel := Ents.length D.ts
  have htn := D.tn
  have hs : ((if (0 : Int) > n then 0 else n) : Int) = n.toNat := by split <;> omega
  refine adisk_Disk_Tape.ok ?_
  unfold adisk_Disk_Tape
  rw [hs]
  refine ⟨fun a l c k hh => (n.toNat : Int) ≤ k ∧ (k ≤ (max n.toNat S.tape.length : Nat)) ∧ Fr No h hh ∧ ∃ col xs, Tp hh h.size col a l c xs ((S.tape.take k.toNat).drop n.toNat), fun _ _ _ k _ => ((max n.toNat S.tape.length : Nat) - k).toNat,
    ⟨by omega, by omega, Fr.refl _ _, fun _ => 0, [], ?_⟩, ?_⟩
  · have e : (S.tape.take (n.toNat : Int).toNat).drop n.toNat = [] := by rw [Int.toNat_natCast, List.drop_take, Nat.sub_self, List.take_zero]
    rw [e]; exact ⟨Sl.nil _ _ _, rfl, trivial, fun _ _ => rfl⟩
  rintro a l c k h2 ⟨k0, k1, f2, cl, xs, T⟩
  have D2 := D.keep' f2 (Ag.refl _ _) (fun _ _ _ x => x)
  refine os ⟨_, _, _, D2.field 7, ?_⟩
  refine cd (fun hi => ?_) fun hi => ?_
  rotate_left
  · have : (S.tape.take k.toNat) = S.tape := List.take_of_length_le (by omega)
    rw [this] at T
    exact hK a l c h2 cl xs f2 T
  have hk : k.toNat < S.tape.length := by omega
  have hke : k.toNat < es.length := by omega
  refine os ⟨_, _, _, D2.field 7, ⟨by omega, hi⟩, ?_⟩
  obtain ⟨q, e', c'⟩ := D2.t.get (by rw [htn]; omega)
  have hc : Cells h2 (q.add (k.toNat * 3)) es[k.toNat].cells := by
    have := Cells.part c' (k.toNat * 3) 3
    rw [flat_part Ent.cells 3 es (fun _ _ => rfl) _ hke] at this
    exact this
  obtain ⟨t1, t2, t3, t4⟩ := Ents.at_ D2.ts k.toNat hke hk
  rw [e']
  refine os ⟨_, rfl, hc, NewRow.intro rfl (ent_one _) rfl fun h4 n4 => ⟨_, _, _, rda n4.rd rfl, ?_⟩⟩
  have hlen := hw _ (List.getElem_mem hk)
  have hs2 := f2.size
  have hs4 := n4.size
  have hlt := n4.own.lt
  refine Clone_spec (StrAt.fr n4.fr t3 fun _ _ x => x) (by rw [← t3.1]; exact hlen) fun a5 c5 h5 f5 s5 => ⟨_, _, _, rfl, ?_⟩
  have hs5 := f5.size
  have r5 := (f5.rd hlt fun x => x).trans n4.rd
  have o5 := f5.own hlt (fun x => x) n4.own
  refine Put.add o5 (by rw [r5]; exact (by decide : 0 + 2 < 3)) fun h6 d6 => ?_
  rw [r5] at d6
  have hs6 := d6.fr.size
  have r6 : rd h6 h2.size = Ent.cells ⟨es[k.toNat].kind, es[k.toNat].at_, a5, es[k.toNat].l, c5⟩ := d6.rd
  refine ⟨_, rfl, cellsAll r6, rfl, New.intro fun h7 n7 => ⟨_, rfl, cellsAll n7.rd, ent_one _, ?_⟩⟩
  have hs7 := n7.size
  have F6 : Fr No h2 h6 := ((Fr.refl No h2).new n4).no f5 |>.did d6 fun x => absurd x (Nat.lt_irrefl _)
  have F7 := F6.no n7.fr
  have g7 : Ag h2.size cl (upd cl h2.size 2) := ag_upd _ _ _
  have T7 := T.keep hs2 F7 g7 fun _ _ x => x
  have s7 : Sl h7 1 a5 es[k.toNat].l c5 (S.tape[k.toNat].2.2.map bv) (On (upd cl h2.size 2) 2) := ((s5.fr d6.fr fun x _ e1 e2 => by have e1 : h4.size ≤ x := e1; rw [e2] at e1; omega).fr n7.fr fun _ _ _ x => x).mono fun x hx => upd_ge (by have hx : h4.size ≤ x := hx; omega)
  have hcnt := T.num
  have hcl : l ≤ k.toNat := by rw [← hcnt, List.length_drop, List.length_take]; omega
  refine append_col T7.sl rfl rfl (by show (l + 1) * 40 ≤ _; omega) (by omega) fun a' c2 h8 f8 s8 => ?_
  have hs8 := f8.size
  have g8 : Ag h7.size (upd cl h2.size 2) (upd (upd cl h2.size 2) h7.size 1) := ag_upd _ _ _
  have k8 : ∀ x, upd cl h2.size 2 x = 2 → ¬ On (upd cl h2.size 2) 1 x := fun x e1 e2 => by have e2 : upd cl h2.size 2 x = 1 := e2; omega
  rw [wrap_i64 (by omega) (by omega)]
  have ek : (k + 1).toNat = k.toNat + 1 := by omega
  have hbase : ∀ x, x < h.size → upd cl h2.size 2 x = 0 := T7.base
  refine ⟨⟨by omega, by omega, (f2.no F7).trans f8 (fun x hx e => by have e : upd cl h2.size 2 x = 1 := e; have := hbase x hx; omega), upd (upd cl h2.size 2) h7.size 1, xs ++ [⟨es[k.toNat].kind, es[k.toNat].at_, a5, es[k.toNat].l, c5⟩], ?_, ?_, ?_, ?_⟩, falls (m := max n.toNat S.tape.length) (by omega)⟩
  · rw [List.flatMap_append, List.flatMap_cons, List.flatMap_nil, List.append_nil]
    exact s8
  · rw [ek, List.length_drop, List.length_take]
    rw [List.length_drop, List.length_take] at hcnt
    omega
  · rw [ek, take_snoc _ _ hk, List.drop_append_of_le_length (by rw [List.length_take]; omega)]
    have s8b := s7.keep f8 g8 k8
    refine Ents.snoc (e := ⟨es[k.toNat].kind, es[k.toNat].at_, a5, es[k.toNat].l, c5⟩) t1 t2 s8b.str (fun p hp => ?_) (Ents.keep f8 g8 k8 T7.es)
    have hp : a5 = some p := hp
    rw [hp] at s8b
    exact ⟨s8b.lt, s8b.2.2.1⟩
  · intro x hx
    exact (g8 x (by omega)).trans (hbase x hx)
end Go.Proofs.Ytnbfaokpaiiojaa.Ad
