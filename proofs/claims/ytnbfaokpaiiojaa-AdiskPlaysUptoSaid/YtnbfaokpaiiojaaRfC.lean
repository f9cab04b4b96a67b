/-
  THE DISK of package boleref03 under any acts: Flush, Arm, Crash, Read, Image.
-/
import Derived.Test.YtnbfaokpaiiojaaRfB
namespace Go.Proofs.Ytnbfaokpaiiojaa.Rf
open Go Go.Proofs Go.Proofs.Ytnbfaokpaiiojaa.Wx Go.Proofs.Ytnbfaokpaiiojaa.Hp Go.Proofs.Ytnbfaokpaiiojaa.W Go.Proofs.Ytnbfaokpaiiojaa.Ad Go.Proofs.Ytnbfaokpaiiojaa.L3

theorem bools_one (l : List Bool) : ∀ v ∈ l.map Value.bool, v.oneCell' = true := fun v hv => by
  obtain ⟨x, _, rfl⟩ := List.mem_map.mp hv; rfl
theorem marks_spec {a : Option Addr} {l c : Nat} {bs : List Bool} {h : Heap} {K : Value → Heap → Prop} (B : SlCells h a (bs.map .bool)) (hl : bs.length = l) (hm : l ≤ 140737488355328)
    (hK : ∀ a' c' h', Fr No h h' → Sl h' 1 a' l c' (bs.map .bool) (From h.size) → K (.slice a' l c') h') : C.boleref03_marks a l c h K := by
  have e : (bs.map Value.bool).length = l * 1 := by rw [List.length_map, hl, Nat.mul_one]
  exact boleref03_marks.ok ⟨_, e, B, bools_one bs, append_nil e rfl (by show l * 1 ≤ _; omega) hm hK⟩
section
variable {h : Heap} {d : Option Addr} {S : FD} {col : Nat → Nat} {m : Nat}
theorem Flush_spec {K : Value → Heap → Prop} (D : RefAt h d S col m) (hl : 0 ≤ S.left ∧ S.left ≤ 9223372036854775807) (hn : S.acts.length < 1000000000)
    (hK : ∀ h' col', Fr (Dk col m) h h' → Ag h.size col col' → RefAt h' d S.flush.1 col' m → K (.int .i64 S.flush.2) h') : C.boleref03_Disk_Flush d h K := by
  obtain ⟨b, r, es, rfl, D⟩ := D
  refine boleref03_Disk_Flush.ok (os ⟨_, D.field 4, ?_⟩)
  rw [D.out]
  refine cs (fun ho => ?_) fun ho => ?_
  · have e1 : S.flush = (S, 30) := by unfold FD.flush; rw [if_pos ho]
    rw [e1] at hK
    exact hK h col (Fr.refl _ _) (Ag.refl _ _) ⟨b, r, es, rfl, D⟩
  unfold FD.flush at hK
  rw [if_neg (by rw [ho]; simp)] at hK
  refine os ⟨_, D.field 6, os (Put.add D.so (by rw [D.len]; decide) fun h2 d2 => ?_)⟩
  rw [D.sr, D.flushes] at d2
  have d2' : Did b h h2 ({ r with left := r.left, out := r.out, writes := r.writes, flushes := IntKind.wrap .i64 (S.flushes + 1) } : FRaw).cells := d2
  have D2 := D.re d2'
  have eS : ({ S with left := r.left, out := r.out, writes := r.writes, flushes := IntKind.wrap .i64 (S.flushes + 1) } : FD) = { S with flushes := IntKind.wrap .i64 (S.flushes + 1) } := by rw [D.left, D.out, D.writes]
  rw [eS] at D2
  have F2 : Fr (Dk col m) h h2 := (Fr.refl _ _).did d2 fun _ => D.dk
  have hl2 : 0 ≤ ({ S with flushes := IntKind.wrap .i64 (S.flushes + 1) } : FD).left ∧ ({ S with flushes := IntKind.wrap .i64 (S.flushes + 1) } : FD).left ≤ 9223372036854775807 := hl
  have ha : (FD.goes { S with flushes := IntKind.wrap .i64 (S.flushes + 1) }).1.acts = S.acts := by unfold FD.goes; split <;> rfl
  generalize ({ S with flushes := IntKind.wrap .i64 (S.flushes + 1) } : FD) = S2 at hK D2 hl2 ha
  refine goes_spec D2 hl2 fun h3 r3 f3 D3 => ⟨_, rfl, cs (fun hg => ?_) fun hg => ?_⟩
  · rw [if_pos hg] at hK
    exact hK h3 col (F2.trans f3 fun _ _ y => y) (Ag.refl _ _) ⟨b, r3, es, rfl, D3⟩
  rw [if_neg (by rw [hg]; simp)] at hK
  have hel := Ents.length D3.ts
  rw [ha] at hel
  refine os ⟨_, _, _, D3.field 1, rfl, New.intro fun h4 n4 => ?_⟩
  have D4 := D3.keep' n4.fr (Ag.refl _ _) fun _ _ _ y => y
  have e0 : ([.int .i64 2, .int .i64 0, .slice none 0 0] : List Value) = Ent.cells ⟨2, 0, none, 0, 0⟩ := rfl
  have r4 := n4.rd
  refine ⟨Ent.cells ⟨2, 0, none, 0, 0⟩, rfl, cellsAll r4, ent_one _, ?_⟩
  refine act_spec D4 (e := ⟨2, 0, none, 0, 0⟩) (t := (2, 0, [])) rfl rfl ⟨rfl, rfl⟩ (fun p ep => by cases ep) (by omega) fun h6 col6 r6 f6 g6 D6 => ?_
  exact hK h6 col6 (((F2.trans f3 fun _ _ y => y).new n4).trans f6 fun _ _ y => y) (g6.le (Nat.le_trans d2.fr.size (Nat.le_trans f3.size n4.fr.size))) ⟨b, r6, _, rfl, D6⟩
theorem Crash_spec {ka : Option Addr} {kl kc : Nat} {keep : List Bool} {K : Value → Heap → Prop} (D : RefAt h d S col m) (B : SlCells h ka (keep.map .bool)) (hkl : keep.length = kl) (hm : kl ≤ 140737488355328) (hac : ∀ p, ka = some p → keep ≠ [] → ¬ Dk col m p.block)
    (hK : ∀ h' col', Fr (Dk col m) h h' → Ag h.size col col' → RefAt h' d (S.crash keep) col' m → K (.tuple #[]) h') : C.boleref03_Disk_Crash d ka kl kc h K := by
  obtain ⟨b, r, es, rfl, D⟩ := D
  refine boleref03_Disk_Crash.ok (os ⟨_, D.field 4, ?_⟩)
  rw [D.out]
  refine cs (fun ho => ?_) fun ho => ?_
  · have e1 : S.crash keep = S := by unfold FD.crash; rw [if_pos ho]
    rw [e1] at hK
    exact hK h col (Fr.refl _ _) (Ag.refl _ _) ⟨b, r, es, rfl, D⟩
  have e1 : S.crash keep = { S with out := true, keep := keep } := by unfold FD.crash; rw [if_neg (by rw [ho]; simp)]
  rw [e1] at hK
  refine os (Put.add D.so (by rw [D.len]; decide) fun h2 d2 => ?_)
  rw [D.sr] at d2
  have d2' : Did b h h2 ({ r with left := r.left, out := true, writes := r.writes, flushes := r.flushes } : FRaw).cells := d2
  have D2 := D.re d2'
  have B2 : SlCells h2 ka (keep.map .bool) := by
    cases ka with
    | none => exact B
    | some p =>
      by_cases hk : keep = []
      · subst hk; exact Cells.nil _ _
      · exact SlCells.fr (a := some p) d2.fr B fun q eq y => by
          cases eq
          exact hac p rfl hk (by have y : p.block = b := y; rw [y]; exact D.dk)
  have z2 := d2.size
  refine marks_spec B2 hkl hm fun a3 c3 h3 f3 s3 => ⟨_, _, _, rfl, ?_⟩
  have g3 : Ag h2.size col (upd col h2.size (m + 4)) := ag_upd _ _ _
  have D3 := D2.keep' f3 g3 fun _ _ _ y => y
  refine os (Put.add D3.so (by rw [D3.len]; decide) fun h4 d4 => ?_)
  rw [D3.sr] at d4
  have d4' : Did b h3 h4 ({ r with out := true, ka := a3, kn := kl, kc := c3 } : FRaw).cells := d4
  have sc := D3.sc
  have ne : ∀ k, 1 ≤ k → ∀ x, upd col h2.size (m + 4) x = m + k → ¬ (fun x => x = b) x := fun k hk x hx (y : x = b) => by rw [y, sc] at hx; omega
  have F4 : Fr (Dk col m) h h4 := ((((Fr.refl _ _).did d2 fun _ => D.dk).no f3)).did d4 fun _ => D.dk
  refine hK h4 (upd col h2.size (m + 4)) F4 (g3.le (Nat.le_of_eq z2.symm)) ⟨b, { r with out := true, ka := a3, kn := kl, kc := c3 }, es, rfl, ⟨sc, d4.own, d4.rd, D.left, rfl, D.writes, D.flushes, D3.f.keep d4.fr (Ag.refl _ _) (ne 1 (by decide)), D.fn, D.fmax, D3.a.keep d4.fr (Ag.refl _ _) (ne 2 (by decide)), D.an, D.amax, Ents.keep d4.fr (Ag.refl _ _) (ne 3 (by decide)) D3.ts, ?_, hkl.symm⟩⟩
  have s3' : Sl h3 1 a3 kl c3 (keep.map .bool) (On (upd col h2.size (m + 4)) (m + 4)) := s3.mono fun x hx => upd_ge hx
  exact s3'.keep d4.fr (Ag.refl _ _) (ne 4 (by decide))
theorem Arm_spec {n : Int} {ka : Option Addr} {kl kc : Nat} {keep : List Bool} {K : Value → Heap → Prop} (D : RefAt h d S col m) (B : SlCells h ka (keep.map .bool)) (hkl : keep.length = kl) (hm : kl ≤ 140737488355328) (hac : ∀ p, ka = some p → keep ≠ [] → ¬ Dk col m p.block)
    (hK : ∀ h' col', Fr (Dk col m) h h' → Ag h.size col col' → RefAt h' d (S.arm n keep).1 col' m → K (.int .i64 (S.arm n keep).2) h') : C.boleref03_Disk_Arm d [.int .i64 n, .slice ka kl kc] h K := by
  obtain ⟨b, r, es, rfl, D⟩ := D
  refine boleref03_Disk_Arm.ok (New.intro fun h2 n2 => ?_)
  have z2 := n2.size
  have D2 := D.keep' n2.fr (Ag.refl _ _) fun _ _ _ y => y
  have sb := D.so.lt
  refine os ⟨_, D2.field 4, ?_⟩
  rw [D.out]
  refine cs (fun ho => ?_) fun ho => ?_
  · have e1 : S.arm n keep = (S, 30) := by unfold FD.arm; rw [if_pos ho]
    rw [e1] at hK
    exact hK h2 col (n2.fr.mono fun _ _ y => y.elim) (Ag.refl _ _) ⟨b, r, es, rfl, D2⟩
  refine os (Put.add D2.so (by rw [D2.len]; decide) fun h3 d3 => ?_)
  rw [D2.sr] at d3
  have d3' : Did b h2 h3 ({ r with left := 0, out := r.out, writes := r.writes, flushes := r.flushes } : FRaw).cells := d3
  have D3 := D2.re d3'
  have z3 := d3.size
  have r3 : rd h3 h.size = [.int .i64 n, .slice ka kl kc] := (d3.at_ (by omega) (by omega)).trans n2.rd
  have F3 : Fr (Dk col m) h h3 := (n2.fr.mono fun _ _ y => y.elim).did d3 fun _ => D.dk
  refine ⟨_, rda r3 rfl, cd (fun hp => ⟨_, rda r3 rfl, ?_⟩) fun hp => ?_⟩
  rotate_left
  · have e1 : S.arm n keep = ({ S with left := 0 }, 0) := by unfold FD.arm; rw [if_neg (by rw [ho]; simp), if_neg hp]
    rw [e1] at hK
    have eS : ({ S with left := 0, out := r.out, writes := r.writes, flushes := r.flushes } : FD) = { S with left := 0 } := by rw [D.out, D.writes, D.flushes]
    rw [eS] at D3
    exact hK h3 col F3 (Ag.refl _ _) ⟨b, _, es, rfl, D3⟩
  have e1 : S.arm n keep = ({ S with left := n, keep := keep }, 0) := by unfold FD.arm; rw [if_neg (by rw [ho]; simp), if_pos hp]
  rw [e1] at hK
  refine os (Put.add D3.so (by rw [D3.len]; decide) fun h4 d4 => ?_)
  rw [D3.sr] at d4
  have d4' : Did b h3 h4 ({ r with left := n, out := r.out, writes := r.writes, flushes := r.flushes } : FRaw).cells := d4
  have D4 := D3.re d4'
  have z4 := d4.size
  have r4 : rd h4 h.size = [.int .i64 n, .slice ka kl kc] := (d4.at_ (by omega) (by omega)).trans r3
  have F4 : Fr (Dk col m) h h4 := F3.did d4 fun _ => D.dk
  have B4 : SlCells h4 ka (keep.map .bool) := by
    cases ka with
    | none => exact B
    | some p =>
      by_cases hk : keep = []
      · subst hk; exact Cells.nil _ _
      · exact SlCells.fr (a := some p) F4 B fun q eq y => by
          cases eq
          exact hac p rfl hk y
  refine ⟨_, _, _, rda r4 rfl, marks_spec B4 hkl hm fun a5 c5 h5 f5 s5 => ⟨_, _, _, rfl, ?_⟩⟩
  have g5 : Ag h4.size col (upd col h4.size (m + 4)) := ag_upd _ _ _
  have D5 := D4.keep' f5 g5 fun _ _ _ y => y
  refine os (Put.add D5.so (by rw [D5.len]; decide) fun h6 d6 => ?_)
  rw [D5.sr] at d6
  have d6' : Did b h5 h6 ({ r with left := n, ka := a5, kn := kl, kc := c5 } : FRaw).cells := d6
  have sc := D5.sc
  have ne : ∀ k, 1 ≤ k → ∀ x, upd col h4.size (m + 4) x = m + k → ¬ (fun x => x = b) x := fun k hk x hx (y : x = b) => by rw [y, sc] at hx; omega
  have F6 : Fr (Dk col m) h h6 := (F4.no f5).did d6 fun _ => D.dk
  refine hK h6 (upd col h4.size (m + 4)) F6 (g5.le (by omega)) ⟨b, { r with left := n, ka := a5, kn := kl, kc := c5 }, es, rfl, ⟨sc, d6.own, d6.rd, rfl, D.out, D.writes, D.flushes, D5.f.keep d6.fr (Ag.refl _ _) (ne 1 (by decide)), D.fn, D.fmax, D5.a.keep d6.fr (Ag.refl _ _) (ne 2 (by decide)), D.an, D.amax, Ents.keep d6.fr (Ag.refl _ _) (ne 3 (by decide)) D5.ts, ?_, hkl.symm⟩⟩
  have s5' : Sl h5 1 a5 kl c5 (keep.map .bool) (On (upd col h4.size (m + 4)) (m + 4)) := s5.mono fun x hx => upd_ge hx
  exact s5'.keep d6.fr (Ag.refl _ _) (ne 4 (by decide))
end
end Go.Proofs.Ytnbfaokpaiiojaa.Rf
