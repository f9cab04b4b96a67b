/-
  THE DISK of package boleref03 under any acts: Write, Flush, Arm, Crash, and what they make of it.
-/
import Derived.Test.YtnbfaokpaiiojaaAfB
namespace Go.Proofs.Ytnbfaokpaiiojaa.Rf
open Go Go.Proofs Go.Proofs.Ytnbfaokpaiiojaa.Wx Go.Proofs.Ytnbfaokpaiiojaa.Hp Go.Proofs.Ytnbfaokpaiiojaa.W Go.Proofs.Ytnbfaokpaiiojaa.Ad Go.Proofs.Ytnbfaokpaiiojaa.L3

def FD.goes (S : FD) : FD × Bool := if S.left = 0 then (S, false) else ({ S with left := S.left - 1, out := S.left - 1 == 0 }, S.left - 1 == 0)
def FD.N (S : FD) : Nat := S.first.length / 512
def FD.putW (S : FD) (i : Int) (bs : List UInt8) : FD := { S with writes := IntKind.wrap .i64 (S.writes + 1), acts := S.acts ++ [(1, i, bs)] }
def FD.write (S : FD) (i : Int) (bs : List UInt8) : FD × Int :=
  if S.out = true then (S, 30) else if refT (S.N : Nat) (1, i, bs) ≠ 0 then (S, refT (S.N : Nat) (1, i, bs)) else ((S.putW i bs).goes.1, if (S.putW i bs).goes.2 = true then 30 else 0)
def FD.flush (S : FD) : FD × Int :=
  if S.out = true then (S, 30) else if (FD.goes { S with flushes := IntKind.wrap .i64 (S.flushes + 1) }).2 = true then ((FD.goes { S with flushes := IntKind.wrap .i64 (S.flushes + 1) }).1, 30)
  else ({ (FD.goes { S with flushes := IntKind.wrap .i64 (S.flushes + 1) }).1 with acts := (FD.goes { S with flushes := IntKind.wrap .i64 (S.flushes + 1) }).1.acts ++ [(2, 0, [])] }, 0)
def FD.arm (S : FD) (n : Int) (keep : List Bool) : FD × Int := if S.out = true then (S, 30) else if n > 0 then ({ S with left := n, keep := keep }, 0) else ({ S with left := 0 }, 0)
def FD.crash (S : FD) (keep : List Bool) : FD := if S.out = true then S else { S with out := true, keep := keep }

section
variable {h h' : Heap} {b : Nat} {S : FD} {col col' : Nat → Nat} {m : Nat} {r : FRaw} {es : List Ent}
theorem Ref.re (D : Ref h b S col m r es) {l w f : Int} {o : Bool} (d : Did b h h' ({ r with left := l, out := o, writes := w, flushes := f } : FRaw).cells) : Ref h' b { S with left := l, out := o, writes := w, flushes := f } col m { r with left := l, out := o, writes := w, flushes := f } es := by
  have ne : ∀ k, 1 ≤ k → ∀ x, col x = m + k → ¬ (fun x => x = b) x := fun k hk x hx (y : x = b) => by rw [y, D.sc] at hx; omega
  exact ⟨D.sc, d.own, d.rd, rfl, rfl, rfl, rfl, D.f.keep d.fr (Ag.refl _ _) (ne 1 (by decide)), D.fn, D.fmax, D.a.keep d.fr (Ag.refl _ _) (ne 2 (by decide)), D.an, D.amax, Ents.keep d.fr (Ag.refl _ _) (ne 3 (by decide)) D.ts, D.k.keep d.fr (Ag.refl _ _) (ne 4 (by decide)), D.kn⟩
theorem Ref.dk (D : Ref h b S col m r es) : Dk col m b := ⟨by rw [D.sc]; omega, by rw [D.sc]; omega⟩
theorem Ref.len (D : Ref h b S col m r es) : (rd h b).length = 7 := by rw [D.sr]; rfl
theorem goes_spec {K : Value → Heap → Prop} (D : Ref h b S col m r es) (hl : 0 ≤ S.left ∧ S.left ≤ 9223372036854775807)
    (hK : ∀ h' r', Fr (Dk col m) h h' → Ref h' b S.goes.1 col m r' es → K (.bool S.goes.2) h') : C.boleref03_Disk_goes (some ⟨b, 0, none⟩) h K := by
  refine boleref03_Disk_goes.ok (os ⟨_, D.field 3, ?_⟩)
  rw [D.left]
  refine ce (fun h0 => ?_) fun h0 => ?_
  · have e1 : S.goes = (S, false) := by unfold FD.goes; rw [if_pos h0]
    rw [e1] at hK
    exact hK h r (Fr.refl _ _) D
  have e1 : S.goes = ({ S with left := S.left - 1, out := S.left - 1 == 0 }, S.left - 1 == 0) := by unfold FD.goes; rw [if_neg h0]
  rw [e1] at hK
  refine os ⟨_, D.field 3, os ?_⟩
  rw [D.left, wrap_i64 (by omega) (by omega)]
  refine Put.add D.so (by rw [D.len]; decide) fun h2 d2 => ?_
  rw [D.sr] at d2
  have d2' : Did b h h2 ({ r with left := S.left - 1, out := r.out, writes := r.writes, flushes := r.flushes } : FRaw).cells := d2
  have D2 := D.re d2'
  refine os ⟨_, D2.field 3, os (Put.add D2.so (by rw [D2.len]; decide) fun h3 d3 => ?_)⟩
  rw [D2.sr] at d3
  have d3' : Did b h2 h3 ({ r with left := S.left - 1, out := S.left - 1 == 0, writes := r.writes, flushes := r.flushes } : FRaw).cells := d3
  have D3 := D2.re d3'
  refine os ⟨_, D3.field 4, ?_⟩
  have D3' : Ref h3 b { S with left := S.left - 1, out := S.left - 1 == 0 } col m { r with left := S.left - 1, out := S.left - 1 == 0, writes := r.writes, flushes := r.flushes } es := by
    have := D3
    rw [D.writes, D.flushes] at this ⊢
    exact this
  exact hK h3 _ (((Fr.refl _ _).did d2 fun _ => D.dk).did d3 fun _ => D.dk) D3'
/-- an act more -/
theorem act_spec {e : Ent} {t : Int × Int × List UInt8} {X : Heap → Prop} (D : Ref h b S col m r es) (hk : e.kind = t.1) (ha : e.at_ = t.2.1) (B : StrAt h e.a e.l t.2.2) (hc : ∀ p, e.a = some p → p.block < h.size ∧ col p.block = m + 3) (hn : es.length < 1000000000)
    (hX : ∀ h' col' r', Fr (Dk col m) h h' → Ag h.size col col' → Ref h' b { S with acts := S.acts ++ [t] } col' m r' (es ++ [e]) → X h') :
    AppendP ti70 70 r.aa r.an r.ac 1 e.cells h fun sA sL sC h9 => onSome (some (⟨b, 0, none⟩ : Addr)) fun p5 => Put (Addr.add p5 1) (.slice sA sL sC) h9 fun h10 => X h10 := by
  have han := D.an
  refine append_col D.a rfl rfl (by show (r.an + 1) * 40 ≤ _; omega) (by omega) fun a8 c8 h8 f8 s8 => ?_
  have g8 : Ag h.size col (upd col h.size (m + 2)) := ag_upd _ _ _
  have hne : ∀ k, k ≠ m + 2 → ∀ x, col x = k → ¬ On col (m + 2) x := fun k hk x hx y => hk (hx.symm.trans y)
  have sb := D.so.lt
  have nsb : ¬ On col (m + 2) b := hne m (by omega) b D.sc
  have r8 := (f8.rd sb nsb).trans D.sr
  refine os (Put.add (f8.own sb nsb D.so) (by rw [r8]; exact (by decide : 0 + 1 < 7)) fun h9 d9 => ?_)
  rw [r8] at d9
  have d9' : Did b h8 h9 ({ r with aa := a8, an := r.an + 1, ac := c8 } : FRaw).cells := d9
  have z8 := f8.size
  have sc8 : upd col h.size (m + 2) b = m := (g8 b sb).trans D.sc
  have ne : ∀ k, 1 ≤ k → ∀ x, upd col h.size (m + 2) x = m + k → ¬ (fun x => x = b) x := fun k hk x hx (y : x = b) => by rw [y, sc8] at hx; omega
  have F9 : Fr (Dk col m) h h9 := ((f8.mono fun x _ hx => by have hx : col x = m + 2 := hx; exact ⟨by omega, by omega⟩).did d9 fun _ => D.dk)
  refine hX h9 (upd col h.size (m + 2)) { r with aa := a8, an := r.an + 1, ac := c8 } F9 g8 ⟨sc8, d9.own, d9.rd, D.left, D.out, D.writes, D.flushes, (D.f.keep f8 g8 (hne _ (by omega))).keep d9.fr (Ag.refl _ _) (ne 1 (by decide)), D.fn, D.fmax, ?_, by show r.an + 1 = (es ++ [e]).length; rw [List.length_append, han]; rfl, by rw [List.length_append]; show es.length + 1 ≤ _; omega, ?_, (D.k.keep f8 g8 (hne _ (by omega))).keep d9.fr (Ag.refl _ _) (ne 4 (by decide)), D.kn⟩
  · have : (es ++ [e]).flatMap Ent.cells = es.flatMap Ent.cells ++ e.cells := by rw [List.flatMap_append, List.flatMap_singleton]
    rw [this]
    exact s8.keep d9.fr (Ag.refl _ _) (ne 2 (by decide))
  · refine Ents.keep d9.fr (Ag.refl _ _) (ne 3 (by decide)) (Ents.keep f8 g8 (hne _ (by omega)) (Ents.snoc hk ha B hc D.ts))
end
section
variable {h : Heap} {d : Option Addr} {S : FD} {col : Nat → Nat} {m : Nat}
theorem Write_spec {i : Int} {a : Option Addr} {l c : Nat} {bs : List UInt8} {K : Value → Heap → Prop} (D : RefAt h d S col m) (B : StrAt h a l bs) (hlm : l ≤ 140737488355328) (hl : 0 ≤ S.left ∧ S.left ≤ 9223372036854775807) (hn : S.acts.length < 1000000000)
    (hK : ∀ h' col', Fr (Dk col m) h h' → Ag h.size col col' → RefAt h' d (S.write i bs).1 col' m → K (.int .i64 (S.write i bs).2) h') : C.boleref03_Disk_Write d i a l c h K := by
  obtain ⟨b, r, es, rfl, D⟩ := D
  refine boleref03_Disk_Write.ok (os ⟨_, D.field 4, ?_⟩)
  rw [D.out]
  refine cs (fun ho => ?_) fun ho => ?_
  · have e1 : S.write i bs = (S, 30) := by unfold FD.write; rw [if_pos ho]
    rw [e1] at hK
    exact hK h col (Fr.refl _ _) (Ag.refl _ _) ⟨b, r, es, rfl, D⟩
  refine copied_spec B hlm fun a2 c2 h2 f2 s2 => ⟨_, _, _, rfl, NewRow.intro rfl (ent_one ⟨1, i, a2, l, c2⟩) rfl fun h4 n4 => ⟨_, rfl, cellsAll n4.rd, ?_⟩⟩
  have z2 := f2.size
  have z4 := n4.size
  have g4 : Ag h.size col (upd col h.size (m + 3)) := ag_upd _ _ _
  have F4 : Fr No h h4 := f2.new n4
  have D4 := D.keep' F4 g4 fun _ _ _ y => y
  refine Blocks_spec ⟨b, r, es, rfl, D4⟩ ⟨_, rfl, ⟨rfl, cellsAll n4.rd⟩, fault_spec (e := ⟨1, i, a2, l, c2⟩) fun h6 f6 => ⟨_, rfl, ?_⟩⟩
  have hbl := B.1
  have er : refusedOf ⟨1, i, a2, l, c2⟩ ((S.first.length / 512 : Nat) : Int) = refT (S.N : Nat) (1, i, bs) := by unfold refT refusedOf; rw [show ((1 : Int), i, bs).2.2.length = l from hbl]; rfl
  rw [er]
  have D6 := D4.keep' f6 (Ag.refl _ _) fun _ _ _ y => y
  have F6 : Fr No h h6 := F4.no f6
  have z6 := f6.size
  refine cn (fun hne => ?_) fun he => ?_
  · have e1 : S.write i bs = (S, refT (S.N : Nat) (1, i, bs)) := by unfold FD.write; rw [if_neg (by rw [ho]; simp), if_pos hne]
    rw [e1] at hK
    exact hK h6 _ (F6.mono fun _ _ y => y.elim) g4 ⟨b, r, es, rfl, D6⟩
  have e1 : S.write i bs = ((S.putW i bs).goes.1, if (S.putW i bs).goes.2 = true then 30 else 0) := by unfold FD.write; rw [if_neg (by rw [ho]; simp), if_neg (fun y => y he)]
  rw [e1] at hK
  refine os ⟨_, D6.field 5, os (Put.add D6.so (by rw [D6.len]; decide) fun h7 d7 => ?_)⟩
  rw [D6.sr, D6.writes] at d7
  have d7' : Did b h6 h7 ({ r with left := r.left, out := r.out, writes := IntKind.wrap .i64 (S.writes + 1), flushes := r.flushes } : FRaw).cells := d7
  have D7 := D6.re d7'
  have z7 := d7.size
  have ra : rd h7 h2.size = Ent.cells ⟨1, i, a2, l, c2⟩ := (d7.at_ (by omega) fun y => by have := D.so.lt; omega).trans ((f6.rd (by omega) fun y => y).trans n4.rd)
  refine os ⟨_, _, _, D7.field 1, _, rfl, cellsAll ra, rfl, New.intro fun h8 n8 => ?_⟩
  have D8 := D7.keep' n8.fr (Ag.refl _ _) fun _ _ _ y => y
  refine ⟨D8.field 1, _, rfl, cellsAll n8.rd, ent_one _, ?_⟩
  have z8 := n8.size
  have s8 := (((s2.fr n4.fr fun _ _ _ y => y).fr f6 fun _ _ _ y => y).fr d7.fr fun x _ y e => by have y : h.size ≤ x := y; have e : x = b := e; have := D.so.lt; omega).fr n8.fr fun _ _ _ y => y
  have hel := Ents.length D.ts
  refine act_spec D8 (e := ⟨1, i, a2, l, c2⟩) (t := (1, i, bs)) rfl rfl s8.str (fun p ep => ?_) (by omega) fun h10 col10 r10 f10 g10 D10 => ?_
  · have ep : a2 = some p := ep
    subst ep
    exact ⟨s8.lt, upd_ge s8.2.2.1⟩
  have eS : ({ S with left := r.left, out := r.out, writes := IntKind.wrap .i64 (S.writes + 1), flushes := r.flushes, acts := S.acts ++ [(1, i, bs)] } : FD) = S.putW i bs := by
    rw [D.left, D.out, D.flushes]; rfl
  have D10' : Ref h10 b (S.putW i bs) col10 m r10 (es ++ [⟨1, i, a2, l, c2⟩]) := by rw [← eS]; exact D10
  have dk : ∀ x, x < h.size → Dk (upd col h.size (m + 3)) m x → Dk col m x := fun x hx y => by unfold Dk at y ⊢; rw [g4 x hx] at y; exact y
  have F8 : Fr (Dk col m) h h8 := ((F6.mono fun _ _ y => y.elim).did d7 fun _ => D.dk).new n8
  have F10 : Fr (Dk col m) h h10 := F8.trans f10 dk
  have G10 : Ag h.size col col10 := g4.trans g10 F8.size
  have dk2 : ∀ x, x < h.size → Dk col10 m x → Dk col m x := fun x hx y => by unfold Dk at y ⊢; rw [G10 x hx] at y; exact y
  refine goes_spec D10' hl fun h11 r11 f11 D11 => ⟨_, rfl, cs (fun hg => ?_) fun hg => ?_⟩
  · rw [hg, if_pos rfl] at hK
    exact hK h11 col10 (F10.trans f11 dk2) G10 ⟨b, r11, _, rfl, D11⟩
  · rw [hg, if_neg (by simp)] at hK
    exact hK h11 col10 (F10.trans f11 dk2) G10 ⟨b, r11, _, rfl, D11⟩
end
end Go.Proofs.Ytnbfaokpaiiojaa.Rf
