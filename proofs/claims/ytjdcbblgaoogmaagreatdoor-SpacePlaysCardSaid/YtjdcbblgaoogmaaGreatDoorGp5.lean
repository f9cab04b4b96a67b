/-
  TEXTS FOR spacePlays_card: RfC RfD RfE RfF RfS WpA CrA CrP R4A R4B RwA D5A D5B D5C D5D D5E RxA RxB RxC RgA BtA SpcA SpcB SpcC SpG AvA RyA SyA RxD RxE TaA TcP.
-/
import Derived.Test.YtjdcbblgaoogmaaGreatDoorGp4
namespace Go.Proofs.YtjdcbblgaoogmaaGreatDoor.Rf
open Go Go.Proofs Go.Proofs.YtjdcbblgaoogmaaGreatDoor.Wx Go.Proofs.YtjdcbblgaoogmaaGreatDoor.Hp Go.Proofs.YtjdcbblgaoogmaaGreatDoor.W Go.Proofs.YtjdcbblgaoogmaaGreatDoor.Ad Go.Proofs.YtjdcbblgaoogmaaGreatDoor.L3
theorem bools_one (l : List Bool) : ∀ v ∈ l.map Value.bool, v.oneCell' = true := fun v hv => by
  obtain ⟨x, _, rfl⟩ := List.mem_map.mp hv; rfl
theorem marks_spec {a : Option Addr} {l c : Nat} {bs : List Bool} {h : Heap} {K : Value → Heap → Prop} (B : SlCells h a (bs.map .bool)) (hl : bs.length = l) (hm : l ≤ 140737488355328)
    (hK : ∀ a' c' h', Fr No h h' → Sl h' 1 a' l c' (bs.map .bool) (From h.size) → K (.slice a' l c') h') : C.boleref03_marks a l c h K := by
  have e : (bs.map Value.bool).length = l * 1 := by rw [List.length_map, hl, Nat.mul_one]
  exact boleref03_marks.ok ⟨_, e, B, bools_one bs, append_nil e rfl (by show l * 1 ≤ _; omega) hm hK⟩
section
variable {h : Heap} {d : Option Addr} {S : FD} {col : Nat → Nat} {m : Nat}
theorem Flush_spec {K : Value → Heap → Prop} (D : RefAt h d S col m) (hl : 0 ≤ S.left ∧ S.left ≤ 9223372036854775807) (hn : S.acts.length < 1000000000)
    (hK : ∀ h' col', Fr (Dk col m) h h' → Ag h.size col col' → RefAt h' d S.flush.1 col' m → K (.int .i64 S.flush.2) h') : C.boleref03_Disk_Flush d h K := by
  obtain ⟨b, r, es, rfl, D⟩ := D
  refine boleref03_Disk_Flush.ok (os ⟨_, D.field 4, ?_⟩)
  rw [D.out]
  refine cs (fun ho => ?_) fun ho => ?_
  · have e1 : S.flush = (S, 30) := by unfold FD.flush; rw [if_pos ho]
    rw [e1] at hK
    exact hK h col (Fr.refl _ _) (Ag.refl _ _) ⟨b, r, es, rfl, D⟩
  unfold FD.flush at hK
  rw [if_neg (by rw [ho]; simp)] at hK
  refine os ⟨_, D.field 6, os (Put.add D.so (by rw [D.len]; decide) fun h2 d2 => ?_)⟩
  rw [D.sr, D.flushes] at d2
  have d2' : Did b h h2 ({ r with left := r.left, out := r.out, writes := r.writes, flushes := IntKind.wrap .i64 (S.flushes + 1) } : FRaw).cells := d2
  have D2 := D.re d2'
  have eS : ({ S with left := r.left, out := r.out, writes := r.writes, flushes := IntKind.wrap .i64 (S.flushes + 1) } : FD) = { S with flushes := IntKind.wrap .i64 (S.flushes + 1) } := by rw [D.left, D.out, D.writes]
  rw [eS] at D2
  have F2 : Fr (Dk col m) h h2 := (Fr.refl _ _).did d2 fun _ => D.dk
  have hl2 : 0 ≤ ({ S with flushes := IntKind.wrap .i64 (S.flushes + 1) } : FD).left ∧ ({ S with flushes := IntKind.wrap .i64 (S.flushes + 1) } : FD).left ≤ 9223372036854775807 := hl
  have ha : (FD.goes { S with flushes := IntKind.wrap .i64 (S.flushes + 1) }).1.acts = S.acts := by unfold FD.goes; split <;> rfl
  generalize ({ S with flushes := IntKind.wrap .i64 (S.flushes + 1) } : FD) = S2 at hK D2 hl2 ha
  refine goes_spec D2 hl2 fun h3 r3 f3 D3 => ⟨_, rfl, cs (fun hg => ?_) fun hg => ?_⟩
  · rw [if_pos hg] at hK
    exact hK h3 col (F2.trans f3 fun _ _ y => y) (Ag.refl _ _) ⟨b, r3, es, rfl, D3⟩
  rw [if_neg (by rw [hg]; simp)] at hK
  have hel := Ents.length D3.ts
  rw [ha] at hel
  refine os ⟨_, _, _, D3.field 1, rfl, New.intro fun h4 n4 => ?_⟩
  have D4 := D3.keep' n4.fr (Ag.refl _ _) fun _ _ _ y => y
  have e0 : ([.int .i64 2, .int .i64 0, .slice none 0 0] : List Value) = Ent.cells ⟨2, 0, none, 0, 0⟩ := rfl
  have r4 := n4.rd
  refine ⟨Ent.cells ⟨2, 0, none, 0, 0⟩, rfl, cellsAll r4, ent_one _, ?_⟩
  refine act_spec D4 (e := ⟨2, 0, none, 0, 0⟩) (t := (2, 0, [])) rfl rfl ⟨rfl, rfl⟩ (fun p ep => by cases ep) (by omega) fun h6 col6 r6 f6 g6 D6 => ?_
  exact hK h6 col6 (((F2.trans f3 fun _ _ y => y).new n4).trans f6 fun _ _ y => y) (g6.le (Nat.le_trans d2.fr.size (Nat.le_trans f3.size n4.fr.size))) ⟨b, r6, _, rfl, D6⟩
theorem Crash_spec {ka : Option Addr} {kl kc : Nat} {keep : List Bool} {K : Value → Heap → Prop} (D : RefAt h d S col m) (B : SlCells h ka (keep.map .bool)) (hkl : keep.length = kl) (hm : kl ≤ 140737488355328) (hac : ∀ p, ka = some p → keep ≠ [] → ¬ Dk col m p.block)
    (hK : ∀ h' col', Fr (Dk col m) h h' → Ag h.size col col' → RefAt h' d (S.crash keep) col' m → K (.tuple #[]) h') : C.boleref03_Disk_Crash d ka kl kc h K := by
  obtain ⟨b, r, es, rfl, D⟩ := D
  refine boleref03_Disk_Crash.ok (os ⟨_, D.field 4, ?_⟩)
  rw [D.out]
  refine cs (fun ho => ?_) fun ho => ?_
  · have e1 : S.crash keep = S := by unfold FD.crash; rw [if_pos ho]
    rw [e1] at hK
    exact hK h col (Fr.refl _ _) (Ag.refl _ _) ⟨b, r, es, rfl, D⟩
  have e1 : S.crash keep = { S with out := true, keep := keep } := by unfold FD.crash; rw [if_neg (by rw [ho]; simp)]
  rw [e1] at hK
  refine os (Put.add D.so (by rw [D.len]; decide) fun h2 d2 => ?_)
  rw [D.sr] at d2
  have d2' : Did b h h2 ({ r with left := r.left, out := true, writes := r.writes, flushes := r.flushes } : FRaw).cells := d2
  have D2 := D.re d2'
  have B2 : SlCells h2 ka (keep.map .bool) := by
    cases ka with
    | none => exact B
    | some p =>
      by_cases hk : keep = []
      · subst hk; exact Cells.nil _ _
      · exact SlCells.fr (a := some p) d2.fr B fun q eq y => by
          cases eq
          exact hac p rfl hk (by have y : p.block = b := y; rw [y]; exact D.dk)
  have z2 := d2.size
  refine marks_spec B2 hkl hm fun a3 c3 h3 f3 s3 => ⟨_, _, _, rfl, ?_⟩
  have g3 : Ag h2.size col (upd col h2.size (m + 4)) := ag_upd _ _ _
  have D3 := D2.keep' f3 g3 fun _ _ _ y => y
  refine os (Put.add D3.so (by rw [D3.len]; decide) fun h4 d4 => ?_)
  rw [D3.sr] at d4
  have d4' : Did b h3 h4 ({ r with out := true, ka := a3, kn := kl, kc := c3 } : FRaw).cells := d4
  have sc := D3.sc
  have ne : ∀ k, 1 ≤ k → ∀ x, upd col h2.size (m + 4) x = m + k → ¬ (fun x => x = b) x := fun k hk x hx (y : x = b) => by rw [y, sc] at hx; omega
  have F4 : Fr (Dk col m) h h4 := ((((Fr.refl _ _).did d2 fun _ => D.dk).no f3)).did d4 fun _ => D.dk
  refine hK h4 (upd col h2.size (m + 4)) F4 (g3.le (Nat.le_of_eq z2.symm)) ⟨b, { r with out := true, ka := a3, kn := kl, kc := c3 }, es, rfl, ⟨sc, d4.own, d4.rd, D.left, rfl, D.writes, D.flushes, D3.f.keep d4.fr (Ag.refl _ _) (ne 1 (by decide)), D.fn, D.fmax, D3.a.keep d4.fr (Ag.refl _ _) (ne 2 (by decide)), D.an, D.amax, Ents.keep d4.fr (Ag.refl _ _) (ne 3 (by decide)) D3.ts, ?_, hkl.symm⟩⟩
  have s3' : Sl h3 1 a3 kl c3 (keep.map .bool) (On (upd col h2.size (m + 4)) (m + 4)) := s3.mono fun x hx => upd_ge hx
  exact s3'.keep d4.fr (Ag.refl _ _) (ne 4 (by decide))
end
end Go.Proofs.YtjdcbblgaoogmaaGreatDoor.Rf
namespace Go.Proofs.YtjdcbblgaoogmaaGreatDoor.Rf
open Go Go.Proofs Go.Proofs.YtjdcbblgaoogmaaGreatDoor.Wx Go.Proofs.YtjdcbblgaoogmaaGreatDoor.Hp Go.Proofs.YtjdcbblgaoogmaaGreatDoor.W Go.Proofs.YtjdcbblgaoogmaaGreatDoor.Ad Go.Proofs.YtjdcbblgaoogmaaGreatDoor.L3
def lastW (i : Int) (z : List UInt8) (ts : List Tt) : List UInt8 := ts.foldl (fun b t => if t.1 = 1 ∧ t.2.1 = i then t.2.2 else b) z
theorem lastW_snoc (i : Int) (z : List UInt8) (ts : List Tt) (t : Tt) : lastW i z (ts ++ [t]) = if t.1 = 1 ∧ t.2.1 = i then t.2.2 else lastW i z ts := by unfold lastW; rw [List.foldl_append]; rfl
def pendF (ts : List Tt) : List Int := ts.foldl (fun l t => if t.1 = 2 then [] else l ++ [t.2.1]) []
theorem pendF_snoc (ts : List Tt) (t : Tt) : pendF (ts ++ [t]) = if t.1 = 2 then [] else pendF ts ++ [t.2.1] := by unfold pendF; rw [List.foldl_append]; rfl
def FD.first' (S : FD) (i : Int) : List UInt8 := (S.first.drop (i.toNat * 512)).take 512
/-- what holds of a disk's values -/
structure FD.Ok (S : FD) : Prop where
  len : S.first.length = S.N * 512
  max : S.N ≤ 16384
  may : ∀ t ∈ S.acts, May (S.N : Nat) t
theorem str_cut {h : Heap} {a : Option Addr} {l c i j : Nat} {bs : List UInt8} (B : StrAt h a l bs) (hlc : l ≤ c) (hij : i ≤ j) (hj : j ≤ l) : StrAt h (if c = i then a else Option.map (Addr.add · i) a) (j - i) ((bs.drop i).take (j - i)) := by
  by_cases e : c = i
  · rw [if_pos e]
    have : j - i = 0 := by omega
    rw [this, List.take_zero]; exact StrAt.nil _ _
  · rw [if_neg e]
    exact StrAt.take (StrAt.drop B i) (by omega)
section
variable {h : Heap} {d : Option Addr} {S : FD} {col : Nat → Nat} {m : Nat} {b : Nat} {r : FRaw} {es : List Ent}
theorem Ref.rot (D : Ref h b S col m r es) : Rot h r.aa r.an es S.acts :=
  ⟨D.a.cells, (Ents.length D.ts).symm.trans D.an.symm, Ents.length D.ts, fun i h1 h2 => by obtain ⟨x1, x2, x3, _⟩ := Ents.at_ D.ts i h1 h2; exact ⟨x1, x2, x3⟩⟩
theorem Ref.str (D : Ref h b S col m r es) : StrAt h r.fa r.fn S.first := D.f.str
theorem Read_spec {i : Int} {K : Value → Heap → Prop} (D : RefAt h d S col m) (ok : S.Ok) (hw : ∀ t ∈ S.acts, t.2.2.length ≤ 140737488355328)
    (h1 : S.out = true → K (.tuple #[.slice none 0 0, .int .i64 30]) h) (h2 : S.out = false → ¬ (0 ≤ i ∧ i < (S.N : Nat)) → K (.tuple #[.slice none 0 0, .int .i64 31]) h)
    (h3 : S.out = false → 0 ≤ i → i < (S.N : Nat) → ∀ a c h', Fr No h h' → Sl h' 1 a (lastW i (S.first' i) S.acts).length c ((lastW i (S.first' i) S.acts).map bv) (From h.size) → K (.tuple #[.slice a (lastW i (S.first' i) S.acts).length c, .int .i64 0]) h') : C.boleref03_Disk_Read d i h K := by
  obtain ⟨b, r, es, rfl, D⟩ := D
  have R := D.rot
  refine boleref03_Disk_Read.ok (os ⟨_, D.field 4, ?_⟩)
  rw [D.out]
  refine cs (fun ho => h1 ho) fun ho => cd (fun hi => h2 ho (by omega)) fun hi => Blocks_spec ⟨b, r, es, rfl, D⟩ ⟨_, rfl, cd (fun hj => h2 ho (by have hj : i ≥ ((S.N : Nat) : Int) := hj; omega)) fun hj => ?_⟩
  have hj : ¬ i ≥ ((S.N : Nat) : Int) := hj
  have h3 := h3 ho (by omega) (by omega)
  have hnum := R.num
  have hmx := ok.max
  have hln := ok.len
  have hfn := D.fn
  have hamax := D.amax
  have hel := R.len
  unfold boleref03_Disk_Read.k1
  refine os ⟨_, _, _, D.field 1, fun j hh => -1 ≤ j ∧ j < S.acts.length ∧ hh = h ∧ lastW i (S.first' i) S.acts = lastW i (S.first' i) (S.acts.take (j + 1).toNat), fun j _ => (j + 1).toNat, ⟨?_, ?_, rfl, ?_⟩, ?_⟩
  · rw [wrap_i64 (by omega) (by omega)]; omega
  · rw [wrap_i64 (by omega) (by omega)]; omega
  · rw [wrap_i64 (by omega) (by omega), List.take_of_length_le (by omega)]
  rintro j hh ⟨j0, j1, rfl, e⟩
  refine cd (fun hlt => ?_) fun hlt => ?_
  · obtain ⟨p, en, ep, c, x1, x2, x3, hjl, _⟩ := R.cell (i := j.toNat) (by omega)
    have ek : (S.acts.getD j.toNat (0, 0, [])) = S.acts[j.toNat] := by rw [List.getD_eq_getElem?_getD, List.getElem?_eq_getElem hjl]; rfl
    rw [ek] at x1 x2 x3
    have et : (j + 1).toNat = j.toNat + 1 := by omega
    rw [et, take_snoc _ _ hjl, lastW_snoc] at e
    have nxt : ¬ (S.acts[j.toNat].1 = 1 ∧ S.acts[j.toNat].2.1 = i) → ((-1 ≤ j - 1 ∧ j - 1 < S.acts.length ∧ hh = hh ∧ lastW i (S.first' i) S.acts = lastW i (S.first' i) (S.acts.take (j - 1 + 1).toNat)) ∧ (j - 1 + 1).toNat < (j + 1).toNat) := fun y => by
      rw [if_neg y] at e
      exact ⟨⟨by omega, by omega, rfl, by rw [show (j - 1 + 1).toNat = j.toNat by omega]; exact e⟩, by omega⟩
    have bd : (0 : Int) ≤ j ∧ j < (r.an : Int) := ⟨by omega, by omega⟩
    refine os ⟨_, _, _, D.field 1, bd, ?_⟩
    rw [ep]
    refine os ⟨_, Cells.cell c (i := 0) rfl, ce (fun hk => ?_) fun hk => ?_⟩
    · refine os ⟨_, _, _, D.field 1, bd, ?_⟩
      rw [ep]
      refine os ⟨_, Cells.cell c (i := 1) rfl, ce (fun ha => ?_) fun ha => ?_⟩
      · rw [if_pos ⟨by omega, by omega⟩] at e
        rw [e] at h3
        have l3 := hw _ (List.getElem_mem hjl)
        have hx3 := x3.1
        refine os ⟨_, _, _, D.field 1, bd, ?_⟩
        rw [ep]
        refine os ⟨_, _, _, Cells.cell c (i := 2) rfl, copied_spec x3 (by omega) fun a5 c5 h5 f5 s5 => ⟨_, _, _, rfl, ?_⟩⟩
        rw [← hx3] at s5 ⊢
        exact h3 a5 c5 h5 f5 s5
      · rw [wrap_i64 (by omega) (by omega)]
        exact nxt fun y => ha (by omega)
    · rw [wrap_i64 (by omega) (by omega)]
      exact nxt fun y => hk (by omega)
  · have ej : (j + 1).toNat = 0 := by omega
    rw [ej, List.take_zero] at e
    have e : lastW i (S.first' i) S.acts = S.first' i := e
    rw [e] at h3
    have lc := D.f.le
    have w1 : IntKind.wrap .i64 (i * 512) = i * 512 := wrap_i64 (by omega) (by omega)
    have w2 : IntKind.wrap .i64 (i * 512 + 512) = i * 512 + 512 := wrap_i64 (by omega) (by omega)
    refine os ⟨_, _, _, D.field 0, ?_⟩
    rw [w1, w2]
    have n1 : (i * 512).toNat = i.toNat * 512 := by omega
    have n2 : (i * 512 + 512).toNat = i.toNat * 512 + 512 := by omega
    have hf : (S.first' i).length = 512 := by unfold FD.first'; rw [List.length_take, List.length_drop]; omega
    rw [n1, n2]
    refine ⟨⟨by omega, by omega, by omega⟩, ?_⟩
    have B := str_cut (i := i.toNat * 512) (j := i.toNat * 512 + 512) D.str lc (by omega) (by omega)
    have hd : i.toNat * 512 + 512 - i.toNat * 512 = 512 := by omega
    rw [hd] at B ⊢
    refine copied_spec B (by decide) fun a5 c5 h5 f5 s5 => ⟨_, _, _, rfl, ?_⟩
    rw [hf] at h3
    exact h3 a5 c5 h5 f5 s5
end
end Go.Proofs.YtjdcbblgaoogmaaGreatDoor.Rf
namespace Go.Proofs.YtjdcbblgaoogmaaGreatDoor.Rf
open Go Go.Proofs Go.Proofs.YtjdcbblgaoogmaaGreatDoor.Wx Go.Proofs.YtjdcbblgaoogmaaGreatDoor.Hp Go.Proofs.YtjdcbblgaoogmaaGreatDoor.W Go.Proofs.YtjdcbblgaoogmaaGreatDoor.Ad Go.Proofs.YtjdcbblgaoogmaaGreatDoor.L3
theorem replay_snoc (D : RD) (ts : List Tt) (t : Tt) : replay D (ts ++ [t]) = again (replay D ts) t := by unfold replay; rw [List.foldl_append]; rfl
/-- what is held of acts, none of them cut off -/
def FD.Q (S : FD) : RD := replay (Ad.fresh (chunks S.first)) S.acts
theorem again_write {D : RD} (c : L3.Calm D) {i : Int} {b : List UInt8} (h0 : 0 ≤ i) (h1 : i < D.lasts.length) (h2 : b.length = 512) : again D (1, i, b) = D.putW i b := by
  rw [again, if_neg (show ¬ ((1 : Int), i, b).1 = 2 from (by decide : ¬ (1 : Int) = 2)), RD.write, if_neg (by rw [c.down]; exact Bool.false_ne_true), if_neg (fun x => x ⟨h0, h1⟩), if_neg (fun x => x h2), RD.step, if_neg (by show ¬ 0 < D.left; rw [c.left]; omega)]
  rfl
theorem again_flush {D : RD} (c : L3.Calm D) {i : Int} {b : List UInt8} : again D (2, i, b) = RD.flushed { D with flushes := IntKind.wrap .i64 (D.flushes + 1) } := by rw [again, if_pos rfl, c.flush]
theorem replay_calm {D : RD} (N : Nat) : ∀ (ts : List Tt), L3.Calm D → D.lasts.length = N → (∀ t ∈ ts, May N t) → L3.Calm (replay D ts) ∧ (replay D ts).lasts.length = N := by
  intro ts
  induction ts generalizing D with
  | nil => intro c h _; exact ⟨c, h⟩
  | cons t r ih =>
    intro c hN hm
    have hr : ∀ t ∈ r, May N t := fun t ht => hm t (List.mem_cons_of_mem _ ht)
    have hst : replay D (t :: r) = replay (again D t) r := rfl
    rw [hst]
    obtain ⟨k, i, b⟩ := t
    rcases hm _ (List.mem_cons_self ..) with h2 | ⟨h1, e0, e1, e2⟩
    · have h2 : k = 2 := h2
      subst h2
      rw [again_flush c]
      exact ih ⟨c.down, c.left, applyTo_len _ _ c.lw c.pw, fun x hx => by simp [RD.flushed] at hx⟩ ((applyTo_length _ _).trans hN) hr
    · have h1 : k = 1 := h1
      subst h1
      rw [again_write c e0 (by rw [hN]; exact e1) e2]
      exact ih (c.putW _ e2) hN hr
theorem FD.Ok.calm {S : FD} (o : S.Ok) : L3.Calm S.Q ∧ S.Q.lasts.length = S.N :=
  replay_calm S.N S.acts (L3.Calm.fresh (chunks_len _)) (by show (chunks S.first).length = _; rw [chunks_length]; rfl) o.may
theorem FD.Ok.left {S : FD} (o : S.Ok) (keep : List Bool) : (S.Q.cut keep).lasts = leftR keep (chunks S.first) S.acts 0 :=
  left_fresh keep (chunks_len _) (by rw [chunks_length]; rfl) S.acts o.may
structure Sm (D : RD) (S : FD) : Prop where
  ok : S.Ok
  tape : D.tape = S.acts
  writes : D.writes = S.writes
  flushes : D.flushes = S.flushes
  down : D.down = S.out
  left : S.out = false → D.left = S.left
  keep : S.out = false → S.left ≠ 0 → D.keep = S.keep
  leftb : 0 ≤ S.left ∧ S.left ≤ 9223372036854775807
  len : D.lasts.length = S.N
  up : S.out = false → D.lasts = S.Q.lasts ∧ D.pend = S.Q.pend
  dn : S.out = true → D.lasts = leftR S.keep (chunks S.first) S.acts 0 ∧ D.pend = []
theorem refT_iff {N : Nat} {i : Int} {b : List UInt8} : refT (N : Nat) (1, i, b) = if ¬ (0 ≤ i ∧ i < (N : Nat)) then 31 else if b.length ≠ 512 then 32 else 0 := by
  unfold refT refusedOf
  rw [if_neg (show ¬ ((1 : Int) = 2) by decide), if_neg (show ¬ ((1 : Int) ≠ 1) by decide)]
  by_cases h1 : i < 0
  · rw [if_pos h1, if_pos (by omega)]
  · rw [if_neg h1]
    by_cases h2 : i ≥ (N : Nat)
    · rw [if_pos h2, if_pos (by omega)]
    · rw [if_neg h2]
      show (if b.length ≠ 512 then (32 : Int) else 0) = _
      rw [if_neg (show ¬ ¬ (0 ≤ i ∧ i < (N : Nat)) from fun y => y ⟨by omega, by omega⟩)]
/-- a step behind which all is held still -/
theorem sm_step {D1 : RD} {S1 : FD} {f : RD → RD} {g : FD → FD} (ho : S1.out = false) (hd : D1.down = false) (hl : D1.left = S1.left) (hb : 0 ≤ S1.left ∧ S1.left ≤ 9223372036854775807)
    (cutok : S1.left ≠ 0 → S1.left - 1 = 0 → Sm (RD.cut { D1 with left := S1.left - 1 } D1.keep) { S1 with left := S1.left - 1, out := true })
    (go : ∀ l, (l = S1.left ∨ S1.left ≠ 0 ∧ l = S1.left - 1 ∧ l ≠ 0) → Sm (f { D1 with left := l }) (g { S1 with left := l, out := false })) :
    (D1.step f).2 = (if S1.goes.2 = true then 30 else 0) ∧ Sm (D1.step f).1 (if S1.goes.2 = true then S1.goes.1 else g S1.goes.1) := by
  unfold RD.step FD.goes
  rw [hl]
  by_cases h0 : S1.left = 0
  · rw [if_neg (by omega), if_pos h0]
    have := go S1.left (.inl rfl)
    have e1 : ({ D1 with left := S1.left } : RD) = D1 := by rw [← hl]
    have e2 : ({ S1 with left := S1.left, out := false } : FD) = S1 := by rw [← ho]
    rw [e1, e2] at this
    exact ⟨rfl, this⟩
  · rw [if_pos (by omega), if_neg h0]
    by_cases h1 : S1.left - 1 = 0
    · rw [if_pos h1]
      have e : (S1.left - 1 == 0) = true := beq_iff_eq.mpr h1
      have c := cutok h0 h1
      simp only [e, if_true]
      exact ⟨by first | trivial | rfl, c⟩
    · rw [if_neg h1]
      have e : (S1.left - 1 == 0) = false := beq_eq_false_iff_ne.mpr h1
      have c := go (S1.left - 1) (.inr ⟨h0, rfl, h1⟩)
      simp only [e]
      exact ⟨by first | trivial | rfl | simp, by simpa using c⟩
theorem Sm.write {D : RD} {S : FD} (s : Sm D S) (i : Int) (b : List UInt8) : (D.write i b).2 = (S.write i b).2 ∧ Sm (D.write i b).1 (S.write i b).1 := by
  unfold RD.write FD.write
  rw [s.down, s.len, refT_iff]
  by_cases ho : S.out = true
  · rw [if_pos ho, if_pos ho]; exact ⟨rfl, s⟩
  rw [if_neg ho, if_neg ho]
  have ho : S.out = false := by simpa using ho
  by_cases hi : 0 ≤ i ∧ i < (S.N : Nat)
  rotate_left
  · rw [if_pos hi, if_pos hi, if_pos (by decide)]; exact ⟨rfl, s⟩
  have hi' : ¬ ¬ (0 ≤ i ∧ i < (S.N : Nat)) := fun y => y hi
  rw [if_neg hi', if_neg hi']
  by_cases hb : b.length = 512
  rotate_left
  · rw [if_pos hb, if_pos hb, if_pos (by decide)]; exact ⟨rfl, s⟩
  have hb' : ¬ b.length ≠ 512 := fun y => y hb
  rw [if_neg hb', if_neg hb', if_neg (show ¬ ((0 : Int) ≠ 0) from fun y => y rfl)]
  have ok1 : ∀ l o, FD.Ok { S.putW i b with left := l, out := o } := fun l o => ⟨s.ok.len, s.ok.max, fun t ht => by
    rcases List.mem_append.mp ht with ht | ht
    · exact s.ok.may t ht
    · rw [List.mem_singleton.mp ht]; exact .inr ⟨rfl, hi.1, hi.2, hb⟩⟩
  obtain ⟨c, lq⟩ := s.ok.calm
  obtain ⟨u1, u2⟩ := s.up ho
  have eQ : ∀ l o, FD.Q { S.putW i b with left := l, out := o } = S.Q.putW i b := fun l o => by
    show replay _ (S.acts ++ [(1, i, b)]) = _
    rw [replay_snoc]; exact again_write (D := S.Q) c hi.1 (by rw [show (S.Q).lasts.length = S.N from lq]; exact hi.2) hb
  have W := sm_step (D1 := D.putW i b) (S1 := S.putW i b) (f := id) (g := id) ho (s.down.trans ho) (s.left ho) s.leftb (fun h0 h1 => ?_) fun l hl => ?_
  · simpa using W
  · have lk := (ok1 (S.left - 1) true).left S.keep
    rw [eQ] at lk
    refine ⟨ok1 _ _, by show D.tape ++ _ = S.acts ++ _; rw [s.tape], by show IntKind.wrap .i64 (D.writes + 1) = _; rw [s.writes]; rfl, s.flushes, rfl, fun y => (by cases y), fun y => (by cases y), ⟨by show 0 ≤ S.left - 1; have := s.leftb; have h0 : S.left ≠ 0 := h0; omega, by show S.left - 1 ≤ _; have := s.leftb; omega⟩, by show (applyTo _ _).length = _; rw [applyTo_length]; exact s.len, fun y => (by cases y), fun _ => ⟨?_, rfl⟩⟩
    show applyTo D.lasts (chosen (D.pend ++ [(i, b)]) D.keep) = leftR S.keep (chunks S.first) (S.acts ++ [(1, i, b)]) 0
    rw [u1, u2, s.keep ho h0]
    exact lk
  · have hlb : 0 ≤ l ∧ l ≤ 9223372036854775807 := by
      have := s.leftb
      have hl : l = S.left ∨ S.left ≠ 0 ∧ l = S.left - 1 ∧ l ≠ 0 := hl
      omega
    refine ⟨ok1 _ _, by show D.tape ++ _ = S.acts ++ _; rw [s.tape], by show IntKind.wrap .i64 (D.writes + 1) = _; rw [s.writes]; rfl, s.flushes, s.down.trans ho, fun _ => rfl, fun _ h => s.keep ho ?_, hlb, s.len, fun _ => ?_, fun y => (by cases y)⟩
    · have hl : l = S.left ∨ S.left ≠ 0 ∧ l = S.left - 1 ∧ l ≠ 0 := hl
      have h : l ≠ 0 := h
      omega
    · have e := eQ l false
      rw [show FD.Q (id { S.putW i b with left := l, out := false }) = S.Q.putW i b from e]
      exact ⟨u1, by show D.pend ++ _ = S.Q.pend ++ _; rw [u2]⟩
end Go.Proofs.YtjdcbblgaoogmaaGreatDoor.Rf
namespace Go.Proofs.YtjdcbblgaoogmaaGreatDoor.Rf
open Go Go.Proofs Go.Proofs.YtjdcbblgaoogmaaGreatDoor.Wx Go.Proofs.YtjdcbblgaoogmaaGreatDoor.Hp Go.Proofs.YtjdcbblgaoogmaaGreatDoor.W Go.Proofs.YtjdcbblgaoogmaaGreatDoor.Ad Go.Proofs.YtjdcbblgaoogmaaGreatDoor.L3
theorem Sm.flush {D : RD} {S : FD} (s : Sm D S) : D.flush.2 = S.flush.2 ∧ Sm D.flush.1 S.flush.1 := by
  unfold RD.flush FD.flush
  have hd : ¬ S.out = true → ¬ D.down = true := fun y => by rw [s.down]; exact y
  by_cases ho : S.out = true
  · rw [if_pos (s.down.trans ho), if_pos ho]; exact ⟨rfl, s⟩
  rw [if_neg (hd ho), if_neg ho]
  have ho : S.out = false := by simpa using ho
  obtain ⟨c, lq⟩ := s.ok.calm
  obtain ⟨u1, u2⟩ := s.up ho
  have W := sm_step (D1 := { D with flushes := IntKind.wrap .i64 (D.flushes + 1) }) (S1 := { S with flushes := IntKind.wrap .i64 (S.flushes + 1) }) (f := RD.flushed) (g := fun S => { S with acts := S.acts ++ [(2, 0, [])] }) ho (s.down.trans ho) (s.left ho) s.leftb (fun h0 h1 => ?_) fun l hl => ?_
  · obtain ⟨W1, W2⟩ := W
    refine ⟨W1.trans ?_, ?_⟩
    · split <;> rfl
    · refine cast ?_ W2
      congr 1
      split <;> rfl
  · have lk := s.ok.left S.keep
    refine ⟨⟨s.ok.len, s.ok.max, s.ok.may⟩, s.tape, s.writes, by show IntKind.wrap .i64 (D.flushes + 1) = _; rw [s.flushes], rfl, fun y => (by cases y), fun y => (by cases y), ⟨by show 0 ≤ S.left - 1; have := s.leftb; have h0 : S.left ≠ 0 := h0; omega, by show S.left - 1 ≤ _; have := s.leftb; omega⟩, by show (applyTo _ _).length = _; rw [applyTo_length]; exact s.len, fun y => (by cases y), fun _ => ⟨?_, rfl⟩⟩
    show applyTo D.lasts (chosen D.pend D.keep) = leftR S.keep (chunks S.first) S.acts 0
    rw [u1, u2, s.keep ho h0]
    exact lk
  · have hlb : 0 ≤ l ∧ l ≤ 9223372036854775807 := by
      have := s.leftb
      have hl : l = S.left ∨ S.left ≠ 0 ∧ l = S.left - 1 ∧ l ≠ 0 := hl
      omega
    have eQ : replay (Ad.fresh (chunks S.first)) (S.acts ++ [(2, 0, [])]) = RD.flushed { S.Q with flushes := IntKind.wrap .i64 (S.Q.flushes + 1) } := by rw [replay_snoc]; exact again_flush (D := S.Q) c
    refine ⟨⟨s.ok.len, s.ok.max, fun t ht => ?_⟩, by show D.tape ++ _ = S.acts ++ _; rw [s.tape], s.writes, by show IntKind.wrap .i64 (D.flushes + 1) = _; rw [s.flushes], s.down.trans ho, fun _ => rfl, fun _ h => s.keep ho ?_, hlb, by show (applyTo _ _).length = _; rw [applyTo_length]; exact s.len, fun _ => ?_, fun y => (by cases y)⟩
    · rcases List.mem_append.mp ht with ht | ht
      · exact s.ok.may t ht
      · rw [List.mem_singleton.mp ht]; exact .inl rfl
    · have hl : l = S.left ∨ S.left ≠ 0 ∧ l = S.left - 1 ∧ l ≠ 0 := hl
      have h : l ≠ 0 := h
      omega
    · show applyTo D.lasts D.pend = (replay (Ad.fresh (chunks S.first)) (S.acts ++ [(2, 0, [])])).lasts ∧ [] = (replay (Ad.fresh (chunks S.first)) (S.acts ++ [(2, 0, [])])).pend
      rw [eQ, u1, u2]
      exact ⟨rfl, rfl⟩
theorem Sm.crash {D : RD} {S : FD} (s : Sm D S) (keep : List Bool) : Sm (if D.down = true then D else D.cut keep) (S.crash keep) := by
  unfold FD.crash
  have hd : ¬ S.out = true → ¬ D.down = true := fun y => by rw [s.down]; exact y
  by_cases ho : S.out = true
  · rw [if_pos (s.down.trans ho), if_pos ho]; exact s
  rw [if_neg (hd ho), if_neg ho]
  have ho : S.out = false := by simpa using ho
  obtain ⟨u1, u2⟩ := s.up ho
  have lk := s.ok.left keep
  refine ⟨⟨s.ok.len, s.ok.max, s.ok.may⟩, s.tape, s.writes, s.flushes, rfl, fun y => (by cases y), fun y => (by cases y), s.leftb, by show (applyTo _ _).length = _; rw [applyTo_length]; exact s.len, fun y => (by cases y), fun _ => ⟨?_, rfl⟩⟩
  show applyTo D.lasts (chosen D.pend keep) = leftR keep (chunks S.first) S.acts 0
  rw [u1, u2]; exact lk
theorem readFrom_snoc (b : List UInt8) (i : Int) (ps : List (Int × List UInt8)) (p : Int × List UInt8) : readFrom b i (ps ++ [p]) = if p.1 = i then p.2 else readFrom b i ps := by unfold readFrom; rw [List.foldl_append]; rfl
theorem applyTo_at (i : Nat) : ∀ (ps : List (Int × List UInt8)) (ls : List (List UInt8)), i < ls.length → (∀ x ∈ ps, 0 ≤ x.1) → (applyTo ls ps).getD i [] = readFrom (ls.getD i []) i ps
  | [], _, _, _ => rfl
  | p :: r, ls, hi, h => by
    have h0 := h p (List.mem_cons_self ..)
    show (applyTo (ls.set p.1.toNat p.2) r).getD i [] = readFrom (if p.1 = i then p.2 else ls.getD i []) i r
    rw [applyTo_at i r _ (by rw [List.length_set]; exact hi) fun x hx => h x (List.mem_cons_of_mem _ hx)]
    congr 1
    rw [List.getD_eq_getElem?_getD, List.getD_eq_getElem?_getD]
    by_cases e : p.1 = i
    · rw [if_pos e, show p.1.toNat = i by omega, List.getElem?_set_self hi]; rfl
    · rw [if_neg e, List.getElem?_set_ne (by omega)]
/-- what is read of acts -/
theorem replay_read (N i : Nat) (z : List UInt8) (D0 : RD) (c0 : L3.Calm D0) (hN : D0.lasts.length = N) (h0 : D0.pend = []) (hz : D0.lasts.getD i [] = z) (hi : i < N) : ∀ (n : Nat) (ts : List Tt), ts.length = n → (∀ t ∈ ts, May N t) →
    readAt (replay D0 ts) i = lastW i z ts ∧ (∀ x ∈ (replay D0 ts).pend, 0 ≤ x.1) ∧ (replay D0 ts).pend.map (·.1) = pendF ts := by
  intro n
  induction n with
  | zero =>
    intro ts hl _
    have : ts = [] := List.length_eq_zero_iff.mp hl
    subst this
    refine ⟨?_, ?_, ?_⟩
    · show readFrom (D0.lasts.getD i []) i D0.pend = z
      rw [h0, hz]; rfl
    · intro x hx
      have hx : x ∈ D0.pend := hx
      rw [h0] at hx; cases hx
    · show D0.pend.map (·.1) = []
      rw [h0]; rfl
  | succ n ih =>
    intro ts hl hm
    have hne : ts ≠ [] := fun e => by rw [e] at hl; cases hl
    obtain ⟨us, t, rfl⟩ : ∃ us t, ts = us ++ [t] := ⟨ts.dropLast, ts.getLast hne, (List.dropLast_concat_getLast hne).symm⟩
    have hu : ∀ t ∈ us, May N t := fun x hx => hm x (List.mem_append_left _ hx)
    obtain ⟨i1, i2, i3⟩ := ih us (by rw [List.length_append] at hl; simpa using hl) hu
    obtain ⟨c, lq⟩ := replay_calm N us c0 hN hu
    rw [replay_snoc, lastW_snoc, pendF_snoc]
    obtain ⟨k, j, b⟩ := t
    rcases hm (k, j, b) (List.mem_append_right _ (List.mem_singleton.mpr rfl)) with h2 | ⟨h1, e0, e1, e2⟩
    · have h2 : k = 2 := h2
      subst h2
      rw [again_flush c, if_neg (fun y => by have := y.1; simp at this), if_pos rfl]
      refine ⟨?_, fun x hx => (by cases hx), rfl⟩
      rw [← i1]
      exact applyTo_at i _ _ (by rw [lq]; exact hi) i2
    · have h1 : k = 1 := h1
      subst h1
      rw [again_write c e0 (by rw [lq]; exact e1) e2, if_neg (show ¬ ((1 : Int), j, b).1 = 2 from (by decide : ¬ (1 : Int) = 2))]
      refine ⟨?_, fun x hx => ?_, ?_⟩
      · show readFrom ((replay D0 us).lasts.getD i []) i ((replay D0 us).pend ++ [(j, b)]) = _
        rw [readFrom_snoc, ← i1]
        by_cases e : j = i
        · rw [if_pos e, if_pos ⟨rfl, e⟩]
        · rw [if_neg e, if_neg (fun y => e y.2)]; rfl
      · rcases List.mem_append.mp hx with hx | hx
        · exact i2 x hx
        · rw [List.mem_singleton.mp hx]; exact e0
      · show ((replay D0 us).pend ++ [(j, b)]).map (·.1) = _
        rw [List.map_append, i3]; rfl
theorem Sm.read {D : RD} {S : FD} (s : Sm D S) (ho : S.out = false) {i : Nat} (hi : i < S.N) : readAt D i = lastW i (S.first' i) S.acts := by
  obtain ⟨u1, u2⟩ := s.up ho
  have hl : (chunks S.first).length = S.N := by rw [chunks_length]; rfl
  have hz : (Ad.fresh (chunks S.first)).lasts.getD i [] = S.first' i := by
    show (chunks S.first).getD i [] = _
    rw [List.getD_eq_getElem?_getD, List.getElem?_eq_getElem (by rw [hl]; exact hi), Option.getD_some, chunks_get]; rfl
  obtain ⟨r1, _⟩ := replay_read S.N i (S.first' i) (Ad.fresh (chunks S.first)) (L3.Calm.fresh (chunks_len _)) hl rfl hz hi S.acts.length S.acts rfl s.ok.may
  rw [← r1]
  unfold readAt
  rw [u1, u2]; rfl
theorem sm_fresh {bs : List UInt8} (h1 : bs.length % 512 = 0) (h2 : bs.length / 512 ≤ 16384) : Sm (Ad.fresh (chunks bs)) (freshR bs) :=
  ⟨⟨by show bs.length = bs.length / 512 * 512; omega, h2, fun t ht => (by cases ht)⟩, rfl, rfl, rfl, rfl, fun _ => rfl, fun _ y => absurd rfl y, ⟨Int.le_refl _, by show (0 : Int) ≤ _; decide⟩, by show (chunks bs).length = _; rw [chunks_length]; rfl, fun _ => ⟨rfl, rfl⟩, fun y => (by cases y)⟩
end Go.Proofs.YtjdcbblgaoogmaaGreatDoor.Rf
namespace Go.Proofs.YtjdcbblgaoogmaaGreatDoor.Rf
open Go Go.Proofs Go.Proofs.YtjdcbblgaoogmaaGreatDoor.Wx Go.Proofs.YtjdcbblgaoogmaaGreatDoor.Hp Go.Proofs.YtjdcbblgaoogmaaGreatDoor.W Go.Proofs.YtjdcbblgaoogmaaGreatDoor.Ad Go.Proofs.YtjdcbblgaoogmaaGreatDoor.L3
theorem goes_acts (S : FD) : S.goes.1.acts = S.acts ∧ S.goes.1.first = S.first := by unfold FD.goes; split <;> exact ⟨rfl, rfl⟩
theorem write_acts (S : FD) (i : Int) (bs : List UInt8) (hw : ∀ t ∈ S.acts, t.2.2.length ≤ 512) : (∀ t ∈ (S.write i bs).1.acts, t.2.2.length ≤ 512) ∧ (S.write i bs).1.first = S.first := by
  unfold FD.write
  split
  · exact ⟨hw, rfl⟩
  · split
    · exact ⟨hw, rfl⟩
    · rename_i h1 h2
      have h2 : refT (S.N : Nat) (1, i, bs) = 0 := by simpa using h2
      obtain ⟨e1, e2⟩ := goes_acts (S.putW i bs)
      refine ⟨fun t ht => ?_, e2⟩
      rw [e1] at ht
      have ht : t ∈ S.acts ++ [(1, i, bs)] := ht
      rcases List.mem_append.mp ht with ht | ht
      · exact hw t ht
      · rw [List.mem_singleton.mp ht]
        rcases refT_may h2 with h | ⟨_, _, _, h⟩
        · have h : (1 : Int) = 2 := h
          exact absurd h (by decide)
        · have h : bs.length = 512 := h
          show bs.length ≤ 512
          omega
theorem flush_acts (S : FD) (hw : ∀ t ∈ S.acts, t.2.2.length ≤ 512) : (∀ t ∈ S.flush.1.acts, t.2.2.length ≤ 512) ∧ S.flush.1.first = S.first := by
  obtain ⟨e1, e2⟩ := goes_acts { S with flushes := IntKind.wrap .i64 (S.flushes + 1) }
  have e1 : (FD.goes { S with flushes := IntKind.wrap .i64 (S.flushes + 1) }).1.acts = S.acts := e1
  have e2 : (FD.goes { S with flushes := IntKind.wrap .i64 (S.flushes + 1) }).1.first = S.first := e2
  unfold FD.flush
  split
  · exact ⟨hw, rfl⟩
  · split
    · exact ⟨by rw [e1]; exact hw, e2⟩
    · refine ⟨fun t ht => ?_, e2⟩
      have ht : t ∈ (FD.goes { S with flushes := IntKind.wrap .i64 (S.flushes + 1) }).1.acts ++ [(2, 0, [])] := ht
      rw [e1] at ht
      rcases List.mem_append.mp ht with ht | ht
      · exact hw t ht
      · rw [List.mem_singleton.mp ht]; exact Nat.zero_le _
theorem N_of {S S' : FD} (h : S'.first = S.first) : S'.N = S.N := by unfold FD.N; rw [h]
theorem crash_acts (S : FD) (keep : List Bool) : (S.crash keep).acts = S.acts ∧ (S.crash keep).first = S.first := by unfold FD.crash; split <;> exact ⟨rfl, rfl⟩
/-- the document's disk at r, on the blocks E, does what D does -/
def RfS (h : Heap) (E : Nat → Prop) (r : Option Addr) (D : RD) : Prop := ∃ col S, RefAt h r S col 1 ∧ Sm D S ∧ 0 < S.N ∧ (∀ t ∈ S.acts, t.2.2.length ≤ 512) ∧ (∀ b, h.size ≤ b → col b = 0) ∧ ∀ b, E b ↔ 1 ≤ col b ∧ col b ≤ 6
section
variable {h h' : Heap} {E F : Nat → Prop} {r : Option Addr} {D : RD}
theorem RfS.mk {S : FD} {col : Nat → Nat} (a : RefAt h r S col 1) (s : Sm D S) (p : 0 < S.N) (w : ∀ t ∈ S.acts, t.2.2.length ≤ 512) : RfS h (fun b => b < h.size ∧ 1 ≤ col b ∧ col b ≤ 6) r D := by
  refine ⟨trim col h.size, S, a.keep (F := No) (Fr.refl _ h) (ag_trim _ _) fun _ _ _ x => x, s, p, w, fun b hb => trim_ge hb, fun b => ⟨fun hb => by rw [trim_lt hb.1]; exact hb.2, fun hb => ?_⟩⟩
  rcases Nat.lt_or_ge b h.size with h1 | h1
  · rw [trim_lt h1] at hb; exact ⟨h1, hb⟩
  · rw [trim_ge h1] at hb; omega
theorem RfS.lt (x : RfS h E r D) {b : Nat} (hb : E b) : b < h.size := by
  obtain ⟨col, S, _, _, _, _, hz, hD⟩ := x
  rcases Nat.lt_or_ge b h.size with h1 | h1
  · exact h1
  · have := (hD b).mp hb; rw [hz b h1] at this; omega
theorem RfS.fr (x : RfS h E r D) (f : Fr F h h') (hF : ∀ b, E b → ¬ F b) : RfS h' E r D := by
  obtain ⟨col, S, a, s, p, w, hz, hD⟩ := x
  have := f.size
  exact ⟨col, S, a.keep f (Ag.refl _ _) fun b h1 h2 => hF b ((hD b).mpr ⟨h1, by omega⟩), s, p, w, fun b hb => hz b (by omega), hD⟩
theorem RfS.no (x : RfS h E r D) (f : Fr No h h') : RfS h' E r D := x.fr f fun _ _ y => y
theorem dk_iff {col : Nat → Nat} (hD : ∀ b, E b ↔ 1 ≤ col b ∧ col b ≤ 6) (f : Fr (Dk col 1) h h') : Fr E h h' := f.mono fun b _ hb => (hD b).mpr ⟨hb.1, by have := hb.2; omega⟩
theorem RfS.gw {col col' : Nat → Nat} {S' : FD} (hD : ∀ b, E b ↔ 1 ≤ col b ∧ col b ≤ 6) (g : Ag h.size col col') (a : RefAt h' r S' col' 1) (s : Sm D S') (p : 0 < S'.N) (w : ∀ t ∈ S'.acts, t.2.2.length ≤ 512) (hs : h.size ≤ h'.size) :
    ∃ E', Gw h E h' E' ∧ RfS h' E' r D :=
  ⟨_, ⟨fun b hb => by rw [hD b, g b hb]; exact ⟨fun x => x.2, fun x => ⟨by omega, x⟩⟩, fun b hb => hb.1⟩, RfS.mk a s p w⟩
theorem RfS.write {i : Int} {a : Option Addr} {l c : Nat} {bs : List UInt8} {K : Value → Heap → Prop} (x : RfS h E r D) (B : StrAt h a l bs) (hl : l ≤ 140737488355328) (ht : D.tape.length < 1000000000)
    (hK : ∀ h' E', Fr E h h' → Gw h E h' E' → RfS h' E' r (D.write i bs).1 → K (.int .i64 (D.write i bs).2) h') : C.boleref03_Disk_Write r i a l c h K := by
  obtain ⟨col, S, A, s, p, w, hz, hD⟩ := x
  obtain ⟨e, s'⟩ := s.write i bs
  obtain ⟨w', ef⟩ := write_acts S i bs w
  refine Write_spec A B hl s.leftb (by rw [← s.tape]; exact ht) fun h' col' f g A' => ?_
  obtain ⟨E', G, X⟩ := RfS.gw hD g A' s' (by rw [N_of ef]; exact p) w' f.size
  rw [← e]
  exact hK h' E' (dk_iff hD f) G X
theorem RfS.flush {K : Value → Heap → Prop} (x : RfS h E r D) (ht : D.tape.length < 1000000000)
    (hK : ∀ h' E', Fr E h h' → Gw h E h' E' → RfS h' E' r D.flush.1 → K (.int .i64 D.flush.2) h') : C.boleref03_Disk_Flush r h K := by
  obtain ⟨col, S, A, s, p, w, hz, hD⟩ := x
  obtain ⟨e, s'⟩ := s.flush
  obtain ⟨w', ef⟩ := flush_acts S w
  refine Flush_spec A s.leftb (by rw [← s.tape]; exact ht) fun h' col' f g A' => ?_
  obtain ⟨E', G, X⟩ := RfS.gw hD g A' s' (by rw [N_of ef]; exact p) w' f.size
  rw [← e]
  exact hK h' E' (dk_iff hD f) G X
theorem RfS.crash {ka : Option Addr} {kl kc : Nat} {keep : List Bool} {K : Value → Heap → Prop} (x : RfS h E r D) (B : SlCells h ka (keep.map .bool)) (hkl : keep.length = kl) (hm : kl ≤ 140737488355328) (hac : ∀ p, ka = some p → keep ≠ [] → ¬ E p.block)
    (hK : ∀ h' E', Fr E h h' → Gw h E h' E' → RfS h' E' r (if D.down = true then D else D.cut keep) → K (.tuple #[]) h') : C.boleref03_Disk_Crash r ka kl kc h K := by
  obtain ⟨col, S, A, s, p, w, hz, hD⟩ := x
  obtain ⟨ea, ef⟩ := crash_acts S keep
  refine Crash_spec A B hkl hm (fun q eq hne y => hac q eq hne ((hD _).mpr ⟨y.1, by have := y.2; omega⟩)) fun h' col' f g A' => ?_
  obtain ⟨E', G, X⟩ := RfS.gw hD g A' (s.crash keep) (by rw [N_of ef]; exact p) (by rw [ea]; exact w) f.size
  exact hK h' E' (dk_iff hD f) G X
theorem RfS.blocks {K : Value → Heap → Prop} (x : RfS h E r D) (hK : K (.int .i64 D.lasts.length) h) : C.boleref03_Disk_Blocks r h K := by
  obtain ⟨col, S, A, s, p, w, hz, hD⟩ := x
  refine Blocks_spec A ?_
  rw [s.len] at hK
  exact hK
theorem RfS.read {i : Int} {K : Value → Heap → Prop} (x : RfS h E r D)
    (h1 : D.down = true → K (.tuple #[.slice none 0 0, .int .i64 30]) h) (h2 : D.down = false → ¬ (0 ≤ i ∧ i < D.lasts.length) → K (.tuple #[.slice none 0 0, .int .i64 31]) h)
    (h3 : D.down = false → 0 ≤ i → i < D.lasts.length → ∀ a l c h', Fr No h h' → Sl h' 1 a l c ((readAt D i.toNat).map bv) (From h.size) → K (.tuple #[.slice a l c, .int .i64 0]) h') : C.boleref03_Disk_Read r i h K := by
  obtain ⟨col, S, A, s, p, w, hz, hD⟩ := x
  rw [s.down, s.len] at *
  refine Read_spec A s.ok (fun t ht => Nat.le_trans (w t ht) (by decide)) h1 h2 fun ho i0 i1 a c h' f sl => ?_
  have e := s.read ho (i := i.toNat) (by omega)
  rw [show ((i.toNat : Nat) : Int) = i by omega] at e
  rw [e] at h3
  exact h3 ho i0 i1 a _ c h' f sl
/-- its fields -/
theorem RfS.fields (x : RfS h E r D) : ∃ rb aa ac, r = some ⟨rb, 0, none⟩ ∧ E rb ∧ cellOf h (Addr.add ⟨rb, 0, none⟩ 1) = some (.slice aa D.tape.length ac) ∧ cellOf h (Addr.add ⟨rb, 0, none⟩ 4) = some (.bool D.down) ∧ cellOf h (Addr.add ⟨rb, 0, none⟩ 5) = some (.int .i64 D.writes) ∧ cellOf h (Addr.add ⟨rb, 0, none⟩ 6) = some (.int .i64 D.flushes) := by
  obtain ⟨col, S, ⟨b, q, es, e, A⟩, s, p, w, hz, hD⟩ := x
  have c := fun k => A.field k
  refine ⟨b, q.aa, q.ac, e, (hD b).mpr (by rw [A.sc]; omega), ?_, ?_, ?_, ?_⟩
  · rw [c 1, s.tape, ← A.ts.length, ← A.an]; rfl
  · rw [c 4, s.down, ← A.out]; rfl
  · rw [c 5, s.writes, ← A.writes]; rfl
  · rw [c 6, s.flushes, ← A.flushes]; rfl
theorem fresh_N {bs : List UInt8} (h0 : 0 < bs.length) (h1 : bs.length % 512 = 0) : 0 < (freshR bs).N := by
  show 0 < bs.length / 512
  omega
theorem RfS.of {a : Option Addr} {l c : Nat} {bs : List UInt8} {K : Value → Heap → Prop} (B : StrAt h a l bs) (hl : l ≤ 140737488355328)
    (h1 : l % 512 ≠ 0 ∨ l = 0 ∨ 16384 < l / 512 → K (.tuple #[.pointer none, .int .i64 32]) h)
    (h2 : l % 512 = 0 → 0 < l → l / 512 ≤ 16384 → ∀ q h' E, Fr No h h' → (∀ b, E b → h.size ≤ b) → RfS h' E (some q) (fresh (chunks bs)) → K (.tuple #[.pointer (some q), .int .i64 0]) h') : C.boleref03_Of a l c h K := by
  refine Of_spec (fun _ => 0) 1 B hl h1 fun y1 y2 y3 q h' col' f g A => ?_
  have bl := B.1
  refine h2 y1 y2 y3 q h' _ f (fun b hb => ?_) (RfS.mk A (sm_fresh (by omega) (by omega)) (fresh_N (by omega) (by omega)) fun t ht => by cases ht)
  rcases Nat.lt_or_ge b h.size with h1 | h1
  · have e : col' b = 0 := g b h1
    omega
  · exact h1
end
end Go.Proofs.YtjdcbblgaoogmaaGreatDoor.Rf
namespace Go.Proofs.YtjdcbblgaoogmaaGreatDoor.Wc
open Go Go.Proofs Go.Proofs.YtjdcbblgaoogmaaGreatDoor.Wx Go.Proofs.YtjdcbblgaoogmaaGreatDoor.Hp Go.Proofs.YtjdcbblgaoogmaaGreatDoor.W Go.Proofs.YtjdcbblgaoogmaaGreatDoor.Ad
theorem runS_len : ∀ (xs : List Stp) (S : RD), (runS xs S).1.tape.length ≤ S.tape.length + xs.length ∧ (runS xs S).1.pend.length ≤ S.pend.length + xs.length
  | [], S => ⟨Nat.le_refl _, Nat.le_refl _⟩
  | s :: r, S => by
    obtain ⟨a, b⟩ := write_len S s
    have e : runS (s :: r) S = if (s.on S).2 = 0 then runS r (s.on S).1 else s.on S := rfl
    rw [e, List.length_cons]
    split
    · obtain ⟨c, d⟩ := runS_len r (s.on S).1
      omega
    · omega
theorem runS_down {S : RD} (h : S.down = true) : ∀ {xs : List Stp}, xs ≠ [] → runS xs S = (S, 30)
  | [], hn => absurd rfl hn
  | s :: r, _ => by
    have e : s.on S = (S, 30) := by
      cases s with
      | w i b => show S.write i b = _; unfold RD.write; rw [if_pos h]
      | f => show S.flush = _; unfold RD.flush; rw [if_pos h]
    show (if (s.on S).2 = 0 then runS r (s.on S).1 else s.on S) = _
    rw [e]
    exact if_neg (show ¬ (30 : Int) = 0 by decide)
theorem homeS_len (l : Nb) : (homeS l).length = l.length + 3 := by unfold homeS ws; rw [List.length_append, List.length_map]; rfl
theorem commitS_len (l : Nb) (hdr : List UInt8) : (commitS l hdr).length = 2 * l.length + 6 := by
  unfold commitS
  rw [List.length_append, List.length_append, homeS_len]
  unfold ws
  rw [List.length_map, logL_length]
  show l.length + 3 + (l.length + 3) = _
  omega
theorem commitS_ne (l : Nb) (hdr : List UInt8) : commitS l hdr ≠ [] := fun e => by have := commitS_len l hdr; rw [e] at this; cases this
/-- a commit, with no word of the power -/
theorem wal_run {S : RD} {l : Nb} (h0 : l ≠ []) (h1 : mayW l S.lasts.length = true) (h2 : (l.map (·.2)).all (fun d => d.length == 512) = true) : wal S l = runS (commitS l (hdrOf l)) S := by
  unfold wal
  rw [if_neg h0, if_neg (by rw [h1]; decide), if_neg (by rw [h2]; decide)]
  split
  · rename_i h; exact (runS_down h (commitS_ne _ _)).symm
  · rfl
theorem mayW_len {l : Nb} {n : Int} (h : mayW l n = true) : l.length ≤ 96 := by
  unfold mayW at h
  rw [Bool.and_eq_true, decide_eq_true_eq] at h
  omega
theorem wal_len (S : RD) (l : Nb) : (wal S l).1.tape.length ≤ S.tape.length + 198 ∧ (wal S l).1.pend.length ≤ S.pend.length + 198 := by
  unfold wal
  split
  · exact ⟨Nat.le_add_right _ _, Nat.le_add_right _ _⟩
  · split
    · exact ⟨Nat.le_add_right _ _, Nat.le_add_right _ _⟩
    · rename_i hm
      have := mayW_len (l := l) (n := S.lasts.length) (by cases e : mayW l S.lasts.length <;> simp_all)
      split
      · exact ⟨Nat.le_add_right _ _, Nat.le_add_right _ _⟩
      · split
        · exact ⟨Nat.le_add_right _ _, Nat.le_add_right _ _⟩
        · have := runS_len (commitS l (hdrOf l)) S
          rw [commitS_len] at this
          omega
end Go.Proofs.YtjdcbblgaoogmaaGreatDoor.Wc
namespace Go.Proofs.YtjdcbblgaoogmaaGreatDoor.Cr
open Go Go.Proofs Go.Proofs.YtjdcbblgaoogmaaGreatDoor.Wx Go.Proofs.YtjdcbblgaoogmaaGreatDoor.Hp Go.Proofs.YtjdcbblgaoogmaaGreatDoor.Su
def P : BitVec 32 := 0xEDB88320#32
/-- a word behind one place -/
def T (w : BitVec 32) : BitVec 32 := (w >>> 1) ^^^ (bif w.getLsbD 0 then P else 0#32)
theorem T_xor (a b : BitVec 32) : T (a ^^^ b) = T a ^^^ T b := by
  unfold T
  rw [BitVec.ushiftRight_xor_distrib, BitVec.getLsbD_xor]
  cases a.getLsbD 0 <;> cases b.getLsbD 0 <;> simp only [Bool.xor_false, Bool.xor_true, Bool.not_false, Bool.not_true, cond_true, cond_false, BitVec.xor_zero]
  · rw [BitVec.xor_assoc]
  · rw [BitVec.xor_assoc, BitVec.xor_assoc, BitVec.xor_comm P]
  · rw [BitVec.xor_assoc (a >>> 1) P, BitVec.xor_comm (b >>> 1) P, ← BitVec.xor_assoc P, BitVec.xor_self, BitVec.zero_xor]
def Tn : Nat → BitVec 32 → BitVec 32
  | 0, w => w
  | n + 1, w => Tn n (T w)
theorem Tn_xor : ∀ (n : Nat) (a b : BitVec 32), Tn n (a ^^^ b) = Tn n a ^^^ Tn n b
  | 0, _, _ => rfl
  | n + 1, a, b => by rw [Tn, T_xor, Tn_xor n]; rfl
theorem T_shl {x : BitVec 32} (h : x.toNat < 2 ^ 31) : T (x <<< 1) = x := by
  have h0 : (x <<< 1).getLsbD 0 = false := by rw [BitVec.getLsbD_shiftLeft]; rfl
  rw [T, h0, cond_false, BitVec.xor_zero]
  apply BitVec.eq_of_toNat_eq
  rw [BitVec.toNat_ushiftRight, BitVec.toNat_shiftLeft, Nat.shiftLeft_eq, Nat.shiftRight_eq_div_pow, Nat.mod_eq_of_lt (by omega)]
  omega
def bit (b : Bool) : BitVec 32 := bif b then 1#32 else 0#32
def natB : List Bool → Nat
  | [] => 0
  | b :: r => b.toNat + 2 * natB r
theorem natB_lt : ∀ bs : List Bool, natB bs < 2 ^ bs.length
  | [] => by decide
  | b :: r => by
    have := natB_lt r
    have hb : b.toNat ≤ 1 := by cases b <;> decide
    rw [natB, List.length_cons, Nat.pow_succ]; omega
def num (bs : List Bool) : BitVec 32 := BitVec.ofNat 32 (natB bs)
theorem num_cons (b : Bool) (r : List Bool) (h : natB r < 2 ^ 31) : num (b :: r) = bit b ^^^ (num r <<< 1) := by
  apply BitVec.eq_of_getLsbD_eq
  intro i hi
  rw [num, natB, BitVec.getLsbD_ofNat, BitVec.getLsbD_xor, BitVec.getLsbD_shiftLeft, num, BitVec.getLsbD_ofNat]
  cases i with
  | zero =>
    have e : (b.toNat + 2 * natB r).testBit 0 = b := by rw [Nat.testBit_zero]; cases b <;> simp [Nat.add_mod]
    rw [e]
    cases b <;> simp [bit]
  | succ i =>
    have e : (b.toNat + 2 * natB r).testBit (i + 1) = (natB r).testBit i := by
      rw [Nat.testBit_succ]; congr 1
      have hb : b.toNat ≤ 1 := by cases b <;> decide
      omega
    have e2 : (bit b).getLsbD (i + 1) = false := by
      cases b
      · simp [bit]
      · simp [bit, BitVec.getLsbD_one]
    rw [e, e2]
    simp [hi, show i < 32 by omega]
def g (D : BitVec 32) (b : Bool) : BitVec 32 := T (D ^^^ bit b)
theorem fold_num : ∀ (bs : List Bool), bs.length ≤ 32 → ∀ D, bs.foldl g D = Tn bs.length (D ^^^ num bs)
  | [], _, D => by
    have : num [] = 0#32 := rfl
    rw [this, BitVec.xor_zero]; rfl
  | b :: r, h, D => by
    have hl : r.length ≤ 31 := by rw [List.length_cons] at h; omega
    have hn : natB r < 2 ^ 31 := Nat.lt_of_lt_of_le (natB_lt r) (Nat.pow_le_pow_right (by decide) hl)
    have hN : (num r).toNat < 2 ^ 31 := by
      rw [num, BitVec.toNat_ofNat, Nat.mod_eq_of_lt (by omega)]; exact hn
    rw [List.foldl_cons, fold_num r (by omega), List.length_cons, Tn, num_cons b r hn, ← BitVec.xor_assoc, T_xor (D ^^^ bit b), T_shl hN]
    rfl
theorem xor_int (a b : BitVec 32) : bitsI .xor .u32 (a.toNat : Int) (b.toNat : Int) = ((a ^^^ b).toNat : Int) := by
  show IntKind.wrap .u32 (((BitVec.ofInt 32 (a.toNat : Int) ^^^ BitVec.ofInt 32 (b.toNat : Int)).toNat : Nat) : Int) = _
  rw [BitVec.ofInt_natCast, BitVec.ofInt_natCast, BitVec.ofNat_toNat, BitVec.ofNat_toNat, BitVec.setWidth_eq, BitVec.setWidth_eq]
  have := (a ^^^ b).isLt
  exact wrap_u32 ⟨by omega, by omega⟩
theorem and_int (a b : BitVec 32) : bitsI .and .u32 (a.toNat : Int) (b.toNat : Int) = ((a &&& b).toNat : Int) := by
  show IntKind.wrap .u32 (((BitVec.ofInt 32 (a.toNat : Int) &&& BitVec.ofInt 32 (b.toNat : Int)).toNat : Nat) : Int) = _
  rw [BitVec.ofInt_natCast, BitVec.ofInt_natCast, BitVec.ofNat_toNat, BitVec.ofNat_toNat, BitVec.setWidth_eq, BitVec.setWidth_eq]
  have := (a &&& b).isLt
  exact wrap_u32 ⟨by omega, by omega⟩
theorem shr_int (a : BitVec 32) : Int.fdiv (a.toNat : Int) (2 ^ min (Int.toNat 4) 32) = ((a >>> 4).toNat : Int) := by
  have e : (2 ^ min (Int.toNat 4) 32 : Int) = 16 := by decide
  rw [e, BitVec.toNat_ushiftRight, Nat.shiftRight_eq_div_pow, Int.fdiv_eq_ediv_of_nonneg _ (by decide)]
  omega
theorem half_table : ∀ n : Nat, n < 16 → half (n : Int) = ((Tn 4 (BitVec.ofNat 32 n)).toNat : Int) := by decide
theorem fifteen : ∀ i, i < 32 → (15#32).getLsbD i = decide (i < 4) := by decide
theorem low4 (x : BitVec 32) : x = (x &&& 15#32) ^^^ ((x >>> 4) <<< 4) := by
  apply BitVec.eq_of_getLsbD_eq
  intro i hi
  rw [BitVec.getLsbD_xor, BitVec.getLsbD_and, fifteen i hi, BitVec.getLsbD_shiftLeft, BitVec.getLsbD_ushiftRight]
  by_cases h : i < 4
  · simp [h]
  · rw [decide_eq_true hi, decide_eq_false h, show 4 + (i - 4) = i by omega]; simp
theorem Tn4_shl {z : BitVec 32} (h : z.toNat < 2 ^ 28) : Tn 4 (z <<< 4) = z := by
  have s : ∀ k, k ≤ 3 → (z <<< k).toNat < 2 ^ 31 := fun k hk => by
    rw [BitVec.toNat_shiftLeft, Nat.shiftLeft_eq]
    refine Nat.lt_of_le_of_lt (Nat.mod_le _ _) ?_
    have : 2 ^ k ≤ 2 ^ 3 := Nat.pow_le_pow_right (by decide) hk
    have := Nat.mul_le_mul_left z.toNat this
    omega
  have e : ∀ k, z <<< (k + 1) = (z <<< k) <<< 1 := fun k => by rw [BitVec.shiftLeft_add]
  show T (T (T (T (z <<< 4)))) = z
  rw [e 3, T_shl (s 3 (by decide)), e 2, T_shl (s 2 (by decide)), e 1, T_shl (s 1 (by decide)), e 0, T_shl (s 0 (by decide))]
  exact BitVec.shiftLeft_zero z
theorem half_word (x : BitVec 32) : bitsI .xor .u32 (half (bitsI .and .u32 (x.toNat : Int) 15)) (Int.fdiv (x.toNat : Int) (2 ^ min (Int.toNat 4) 32)) = ((Tn 4 x).toNat : Int) := by
  have e15 : (15 : Int) = ((15#32).toNat : Int) := rfl
  have hx : (x &&& 15#32).toNat < 16 := by
    rw [BitVec.toNat_and]; exact Nat.lt_of_le_of_lt Nat.and_le_right (by decide)
  rw [e15, and_int, half_table _ hx, BitVec.ofNat_toNat, BitVec.setWidth_eq, shr_int, xor_int]
  have hz : (x >>> 4).toNat < 2 ^ 28 := by
    rw [BitVec.toNat_ushiftRight, Nat.shiftRight_eq_div_pow]
    have := x.isLt
    omega
  conv => rhs; rw [low4 x, Tn_xor, Tn4_shl hz]
theorem Tn_add : ∀ (m n : Nat) (w : BitVec 32), Tn (m + n) w = Tn n (Tn m w)
  | 0, n, w => by rw [Nat.zero_add]; rfl
  | m + 1, n, w => by rw [Nat.add_right_comm, Tn, Tn_add m n]; rfl
theorem step_word (v : BitVec 32) (b : UInt8) : stepM (v.toNat : Int) b = ((Tn 8 (v ^^^ BitVec.ofNat 32 b.toNat)).toNat : Int) := by
  have hb : b.toNat < 256 := b.toNat_lt
  have e : IntKind.wrap .u32 (b.toNat : Int) = ((BitVec.ofNat 32 b.toNat).toNat : Int) := by
    rw [wrap_u32 ⟨by omega, by omega⟩, BitVec.toNat_ofNat, Nat.mod_eq_of_lt (by omega)]
  unfold stepM
  rw [e, xor_int, half_word, half_word, show (8 : Nat) = 4 + 4 from rfl, Tn_add]
def bitsOf (b : UInt8) : List Bool := (List.range 8).map fun i => b.toNat.testBit i
theorem bits_num : ∀ n : Nat, n < 256 → num ((List.range 8).map fun i => n.testBit i) = BitVec.ofNat 32 n := by decide +kernel
theorem bitsOf_length (b : UInt8) : (bitsOf b).length = 8 := by rw [bitsOf, List.length_map, List.length_range]
theorem step_bits (v : BitVec 32) (b : UInt8) : stepM (v.toNat : Int) b = (((bitsOf b).foldl g v).toNat : Int) := by
  rw [step_word, fold_num _ (by rw [bitsOf_length]; decide), bitsOf_length, bitsOf, bits_num _ b.toNat_lt]
def allBits (bs : List UInt8) : List Bool := bs.flatMap bitsOf
theorem allBits_length (bs : List UInt8) : (allBits bs).length = 8 * bs.length := by
  induction bs with
  | nil => rfl
  | cons b r ih =>
    have e : allBits (b :: r) = bitsOf b ++ allBits r := rfl
    rw [e, List.length_append, bitsOf_length, ih, List.length_cons]; omega
theorem fold_bits : ∀ (bs : List UInt8) (v : BitVec 32), bs.foldl stepM (v.toNat : Int) = (((allBits bs).foldl g v).toNat : Int) := by
  intro bs
  induction bs with
  | nil => intro v; rfl
  | cons b r ih =>
    intro v
    have e : allBits (b :: r) = bitsOf b ++ allBits r := rfl
    rw [List.foldl_cons, step_bits, ih, e, List.foldl_append]
end Go.Proofs.YtjdcbblgaoogmaaGreatDoor.Cr
namespace Go.Proofs.YtjdcbblgaoogmaaGreatDoor.Cr
open Go Go.Proofs Go.Proofs.YtjdcbblgaoogmaaGreatDoor.Wx Go.Proofs.YtjdcbblgaoogmaaGreatDoor.Hp Go.Proofs.YtjdcbblgaoogmaaGreatDoor.Su Go.Proofs.YtjdcbblgaoogmaaGreatDoor.Re Go.Proofs.YtjdcbblgaoogmaaGreatDoor.Hd
/-- a matrix that does what F does -/
def Rep (m : List Int) (F : BitVec 32 → BitVec 32) : Prop := m = (List.range 32).map fun i => ((F (1#32 <<< i)).toNat : Int)
def Lin (F : BitVec 32 → BitVec 32) : Prop := ∀ a b, F (a ^^^ b) = F a ^^^ F b
theorem Lin.zero {F : BitVec 32 → BitVec 32} (h : Lin F) : F 0#32 = 0#32 := by
  have := h 0#32 0#32
  rw [BitVec.xor_self] at this
  rw [this, BitVec.xor_self]
def low (V : BitVec 32) (i : Nat) : BitVec 32 := BitVec.ofNat 32 (V.toNat % 2 ^ i)
theorem low_bit (V : BitVec 32) (i j : Nat) (hj : j < 32) : (low V i).getLsbD j = (decide (j < i) && V.getLsbD j) := by
  rw [low, BitVec.getLsbD_ofNat, Nat.testBit_mod_two_pow, decide_eq_true hj, Bool.true_and]; rfl
theorem low_succ (V : BitVec 32) (i : Nat) (hi : i < 32) : low V (i + 1) = low V i ^^^ (bif V.getLsbD i then 1#32 <<< i else 0#32) := by
  apply BitVec.eq_of_getLsbD_eq
  intro j hj
  rw [BitVec.getLsbD_xor, low_bit V _ j hj, low_bit V _ j hj]
  have e1 : (1#32 <<< i).getLsbD j = decide (j = i) := by
    rw [BitVec.getLsbD_shiftLeft, BitVec.getLsbD_one]
    by_cases h : j = i
    · subst h; simp [hj]
    · simp only [decide_eq_false h, decide_eq_true hj, Bool.true_and]
      by_cases h2 : j < i
      · simp [h2]
      · simp [h2, show j - i ≠ 0 by omega]
  by_cases h : j = i
  · subst h
    rw [decide_eq_true (show j < j + 1 by omega), decide_eq_false (show ¬ j < j by omega)]
    cases hb : V.getLsbD j with
    | true => rw [cond_true, e1]; simp
    | false => simp
  · have : decide (j < i + 1) = decide (j < i) := by
      by_cases h2 : j < i
      · rw [decide_eq_true h2, decide_eq_true (show j < i + 1 by omega)]
      · rw [decide_eq_false h2, decide_eq_false (show ¬ j < i + 1 by omega)]
    rw [this]
    cases V.getLsbD i with
    | true => rw [cond_true, e1, decide_eq_false h, Bool.xor_false]
    | false => simp
theorem low_all {V : BitVec 32} {i : Nat} (h : V.toNat < 2 ^ i) : low V i = V := by
  rw [low, Nat.mod_eq_of_lt h, BitVec.ofNat_toNat, BitVec.setWidth_eq]
theorem times_go {m : List Int} {F : BitVec 32 → BitVec 32} (hm : Rep m F) (hF : Lin F) (V : BitVec 32) : ∀ (f i : Nat), f = 33 - i → i ≤ 32 → timesGo m f ((V >>> i).toNat : Int) ((F (low V i)).toNat : Int) i = ((F V).toNat : Int) := by
  intro f
  induction f with
  | zero => intro i h1 h2; omega
  | succ f ih =>
    intro i h1 h2
    have hV := V.isLt
    have hsh : (V >>> i).toNat = V.toNat / 2 ^ i := by rw [BitVec.toNat_ushiftRight, Nat.shiftRight_eq_div_pow]
    unfold timesGo
    by_cases hz : (V >>> i).toNat = 0
    · have hlt : V.toNat < 2 ^ i := by
        rw [hsh] at hz
        exact (Nat.div_eq_zero_iff_lt (Nat.pow_pos (by decide))).mp hz
      rw [hz, low_all hlt]; rfl
    · have hi : i < 32 := by
        rcases Nat.lt_or_ge i 32 with h | h
        · exact h
        · exfalso
          have : i = 32 := by omega
          subst this
          rw [hsh, Nat.div_eq_of_lt (by exact hV)] at hz
          exact hz rfl
      have hne : (((V >>> i).toNat : Int) != 0) = true := by rw [bne_iff_ne]; omega
      rw [hne, cond_true]
      have e1 : (2 ^ min (Int.toNat 1) 32 : Int) = 2 := by decide
      have hd : Int.fdiv ((V >>> i).toNat : Int) 2 = ((V >>> (i + 1)).toNat : Int) := by
        rw [Int.fdiv_eq_ediv_of_nonneg _ (by decide), hsh, BitVec.toNat_ushiftRight, Nat.shiftRight_eq_div_pow, Nat.pow_succ, ← Nat.div_div_eq_div_mul]
        omega
      have hbit : (bitsI .and .u32 ((V >>> i).toNat : Int) 1 == 1) = V.getLsbD i := by
        have e : (1 : Int) = ((1#32).toNat : Int) := rfl
        conv => lhs; rw [show bitsI .and .u32 ((V >>> i).toNat : Int) 1 = bitsI .and .u32 ((V >>> i).toNat : Int) ((1#32).toNat : Int) from rfl, and_int]
        have hb : ((V >>> i) &&& 1#32) = (bif V.getLsbD i then 1#32 else 0#32) := by
          apply BitVec.eq_of_getLsbD_eq
          intro j hj
          rw [BitVec.getLsbD_and, BitVec.getLsbD_one, BitVec.getLsbD_ushiftRight]
          cases j with
          | zero => cases V.getLsbD i <;> simp
          | succ j => cases V.getLsbD i <;> simp [BitVec.getLsbD_one]
        rw [hb]
        cases V.getLsbD i <;> rfl
      rw [e1, hd, hbit]
      have hmi : m.getD i 0 = ((F (1#32 <<< i)).toNat : Int) := by
        rw [hm, List.getD_eq_getElem?_getD, List.getElem?_map, List.getElem?_range hi]; rfl
      have hr : (bif V.getLsbD i then bitsI .xor .u32 ((F (low V i)).toNat : Int) (m.getD i 0) else ((F (low V i)).toNat : Int)) = ((F (low V (i + 1))).toNat : Int) := by
        rw [low_succ V i hi, hmi]
        cases V.getLsbD i with
        | true => rw [cond_true, cond_true, xor_int, hF]
        | false => rw [cond_false, cond_false, BitVec.xor_zero]
      rw [hr]
      exact ih (i + 1) (by omega) (by omega)
theorem times_rep {m : List Int} {F : BitVec 32 → BitVec 32} (hm : Rep m F) (hF : Lin F) (V : BitVec 32) : timesM m (V.toNat : Int) = ((F V).toNat : Int) := by
  have := times_go hm hF V 33 0 rfl (by omega)
  have e1 : V >>> 0 = V := BitVec.ushiftRight_zero V
  have e2 : low V 0 = 0#32 := by rw [low, Nat.pow_zero, Nat.mod_one]
  rw [e1, e2, hF.zero] at this
  exact this
theorem square_rep {m : List Int} {F : BitVec 32 → BitVec 32} (hm : Rep m F) (hF : Lin F) : Rep (squareM m) (fun a => F (F a)) := by
  unfold Rep squareM
  conv => lhs; rw [show m = (List.range 32).map fun i => ((F (1#32 <<< i)).toNat : Int) from hm]
  rw [List.map_map]
  apply List.map_congr_left
  intro i _
  have := times_rep hm hF (F (1#32 <<< i))
  rw [show m = (List.range 32).map fun i => ((F (1#32 <<< i)).toNat : Int) from hm] at this
  exact this
theorem m0_rep : Rep m0 (Tn 8) := by
  unfold Rep m0
  apply List.map_congr_left
  intro i hi
  have hi := List.mem_range.mp hi
  have h2 : 2 ^ i < 2 ^ 32 := Nat.pow_lt_pow_right (by decide) hi
  have e : IntKind.wrap .u32 (1 * 2 ^ min i 32) = (((1#32 <<< i).toNat : Nat) : Int) := by
    rw [Nat.min_eq_left (by omega), Int.one_mul, BitVec.toNat_shiftLeft, Nat.shiftLeft_eq]
    have e2 : ((2 : Int) ^ i) = ((2 ^ i : Nat) : Int) := by simp
    rw [e2, wrap_u32 ⟨Int.natCast_nonneg _, Int.ofNat_lt.mpr (show 2 ^ i < 4294967296 from h2)⟩]
    have : (1#32).toNat = 1 := rfl
    rw [this, Nat.one_mul, Nat.mod_eq_of_lt h2]
  rw [e, step_word]
  have : BitVec.ofNat 32 (0 : UInt8).toNat = 0#32 := rfl
  rw [this, BitVec.xor_zero]
end Go.Proofs.YtjdcbblgaoogmaaGreatDoor.Cr
namespace Go.Proofs.YtjdcbblgaoogmaaGreatDoor.Cr
open Go Go.Proofs Go.Proofs.YtjdcbblgaoogmaaGreatDoor.Wx Go.Proofs.YtjdcbblgaoogmaaGreatDoor.Hp Go.Proofs.YtjdcbblgaoogmaaGreatDoor.W Go.Proofs.YtjdcbblgaoogmaaGreatDoor.Su Go.Proofs.YtjdcbblgaoogmaaGreatDoor.Re Go.Proofs.YtjdcbblgaoogmaaGreatDoor.Hd
theorem and1 {n : Int} (h0 : 0 ≤ n) (h1 : n < 9223372036854775808) : bitsI .and .i64 n 1 = n % 2 := by
  obtain ⟨k, rfl⟩ := Int.eq_ofNat_of_zero_le h0
  show IntKind.wrap .i64 (((BitVec.ofInt 64 (k : Int) &&& BitVec.ofInt 64 ((1 : Nat) : Int)).toNat : Nat) : Int) = _
  rw [BitVec.ofInt_natCast, BitVec.ofInt_natCast, BitVec.toNat_and, BitVec.toNat_ofNat, BitVec.toNat_ofNat]
  have hk : k < 2 ^ 64 := by
    have : k < 9223372036854775808 := by omega
    exact Nat.lt_trans this (by decide)
  rw [Nat.mod_eq_of_lt hk, show 1 % 2 ^ 64 = 1 by decide, Nat.and_one_is_mod]
  rw [wrap_i64 (by omega) (by omega)]
  omega
theorem Tn_lin (k : Nat) : Lin (Tn k) := Tn_xor k
theorem behind_go : ∀ (f : Nat) (m : List Int) (k n : Nat) (V : BitVec 32), Rep m (Tn k) → n < 2 ^ f → n < 9223372036854775808 → behindGo f m (V.toNat : Int) (n : Int) = ((Tn (k * n) V).toNat : Int) := by
  intro f
  induction f with
  | zero =>
    intro m k n V _ hn _
    have : n = 0 := by simpa using hn
    subst this
    rfl
  | succ f ih =>
    intro m k n V hm hn hb
    by_cases h0 : n = 0
    · subst h0
      rfl
    have hd : decide ((n : Int) > 0) = true := decide_eq_true (by omega)
    have sq : Rep (squareM m) (Tn (2 * k)) := by
      have := square_rep hm (Tn_lin k)
      have e : (fun a => Tn k (Tn k a)) = Tn (2 * k) := by
        funext a
        rw [show 2 * k = k + k by omega, Tn_add]
      rw [e] at this; exact this
    have hdiv : (n : Int) / 2 = ((n / 2 : Nat) : Int) := by omega
    have hlt : n / 2 < 2 ^ f := by rw [Nat.pow_succ] at hn; omega
    rw [behindGo, hd, cond_true, and1 (by omega) (by omega), hdiv]
    by_cases ho : n % 2 = 1
    · have : ((n : Int) % 2 == 1) = true := beq_iff_eq.mpr (by omega)
      rw [this, cond_true, times_rep hm (Tn_lin k), ih _ (2 * k) (n / 2) _ sq hlt (by omega), ← Tn_add]
      congr 3
      have e : k * n = k * (1 + 2 * (n / 2)) := by congr 1; omega
      rw [e, Nat.mul_add, Nat.mul_one, ← Nat.mul_assoc, Nat.mul_comm k 2]
    · have : ((n : Int) % 2 == 1) = false := beq_eq_false_iff_ne.mpr (by omega)
      rw [this, cond_false, ih _ (2 * k) (n / 2) _ sq hlt (by omega)]
      congr 3
      have e : k * n = k * (2 * (n / 2)) := by congr 1; omega
      rw [e, ← Nat.mul_assoc, Nat.mul_comm k 2]
theorem behind_exact (V : BitVec 32) {n : Nat} (hn : n < 9223372036854775808) : behindM (V.toNat : Int) (n : Int) = ((Tn (8 * n) V).toNat : Int) :=
  behind_go 64 m0 8 n V m0_rep (Nat.lt_trans hn (by decide)) hn
theorem fold_lin : ∀ (xs : List Bool) (A B : BitVec 32), xs.foldl g (A ^^^ B) = xs.foldl g A ^^^ Tn xs.length B
  | [], _, _ => rfl
  | x :: r, A, B => by
    have e : g (A ^^^ B) x = g A x ^^^ T B := by
      rw [g, g, ← T_xor]
      congr 1
      rw [BitVec.xor_assoc, BitVec.xor_assoc, BitVec.xor_comm B]
    rw [List.foldl_cons, List.foldl_cons, e, fold_lin r, List.length_cons]
    rfl
/-- what the bytes do to a word -/
def fb (bs : List UInt8) (v : BitVec 32) : BitVec 32 := (allBits bs).foldl g v
theorem allBits_append (xs ys : List UInt8) : allBits (xs ++ ys) = allBits xs ++ allBits ys := List.flatMap_append
theorem fb_append (xs ys : List UInt8) (v : BitVec 32) : fb (xs ++ ys) v = fb ys (fb xs v) := by rw [fb, allBits_append, List.foldl_append]; rfl
theorem fb_lin (bs : List UInt8) (A B : BitVec 32) : fb bs (A ^^^ B) = fb bs A ^^^ Tn (8 * bs.length) B := by rw [fb, fold_lin, allBits_length]; rfl
def M : BitVec 32 := 0xFFFFFFFF#32
theorem of_fb (bs : List UInt8) : ofM bs = ((M ^^^ fb bs M).toNat : Int) := by
  have e : (4294967295 : Int) = (M.toNat : Int) := rfl
  have em : (IntKind.max .u32) = (M.toNat : Int) := by decide
  rw [ofM, e, em, fold_bits, xor_int]; rfl
theorem of_append (xs ys : List UInt8) (h : ys.length < 9223372036854775808) : ofM (xs ++ ys) = joinM (ofM xs) (ofM ys) ys.length := by
  rw [joinM, of_fb, of_fb, of_fb, behind_exact _ h, xor_int, fb_append]
  congr 2
  have e : fb ys (fb xs M) = fb ys M ^^^ Tn (8 * ys.length) (fb xs M ^^^ M) := by
    rw [← fb_lin]
    congr 1
    rw [BitVec.xor_comm (fb xs M), ← BitVec.xor_assoc, BitVec.xor_self, BitVec.zero_xor]
  rw [e, BitVec.xor_comm M (fb xs M), ← BitVec.xor_assoc, BitVec.xor_comm M (fb ys M), BitVec.xor_comm]
theorem chain_flat : ∀ (ds : List (List UInt8)) (xs : List UInt8), (∀ d ∈ ds, d.length < 9223372036854775808) → ds.foldl (fun s d => joinM s (ofM d) d.length) (ofM xs) = ofM (xs ++ ds.flatten)
  | [], xs, _ => by rw [List.flatten_nil, List.append_nil]; rfl
  | d :: r, xs, h => by
    rw [List.foldl_cons, ← of_append xs d (h d List.mem_cons_self), chain_flat r (xs ++ d) (fun e he => h e (List.mem_cons_of_mem _ he)), List.flatten_cons, List.append_assoc]
theorem sum_flat (hd : List UInt8) (ds : List (List UInt8)) (h : ∀ d ∈ ds, d.length < 9223372036854775808) : sumM hd ds = ofM (putU hd 12 (leBs 4 0) ++ ds.flatten) := chain_flat ds _ h
theorem Tn_succ (n : Nat) (w : BitVec 32) : T (Tn n w) = Tn (n + 1) w := by rw [Tn_add n 1]; rfl
end Go.Proofs.YtjdcbblgaoogmaaGreatDoor.Cr
namespace Go.Proofs.YtjdcbblgaoogmaaGreatDoor.Cr
open Go Go.Proofs Go.Proofs.YtjdcbblgaoogmaaGreatDoor.Wx Go.Proofs.YtjdcbblgaoogmaaGreatDoor.Hp Go.Proofs.YtjdcbblgaoogmaaGreatDoor.W Go.Proofs.YtjdcbblgaoogmaaGreatDoor.Su Go.Proofs.YtjdcbblgaoogmaaGreatDoor.Re Go.Proofs.YtjdcbblgaoogmaaGreatDoor.Hd
theorem markH_size (h : Heap) (b : Nat) : (markH h b).size = h.size := by
  unfold markH; split
  · rw [Array.size_modify]
  · rfl
theorem markH_rd (h : Heap) (b c : Nat) : rd (markH h b) c = rd h c := by
  unfold markH; split
  · rename_i cs e T hb
    simp only [rd, Array.getElem?_modify]
    by_cases hc : b = c
    · subst hc
      rw [if_pos rfl, hb]; rfl
    · rw [if_neg hc]
  · rfl
theorem Fr.markH {F : Nat → Prop} {h h' : Heap} {b : Nat} (f : Fr F h h') (hb : F b ∨ h.size ≤ b) : Fr F h (markH h' b) := by
  refine ⟨by rw [markH_size]; exact f.size, fun c hc hF => ?_⟩
  rw [← f.same c hc hF]
  unfold Wx.markH; split
  · rw [Array.getElem?_modify, if_neg]
    intro e; subst e
    rcases hb with hb | hb
    · exact hF hb
    · omega
  · rfl
theorem MarkAt.intro {p : Addr} {h : Heap} {k : Heap → Prop} (H : k (markH h p.block)) : MarkAt p h k := H
/-- append, where there is no room -/
theorem append_grow {elem : TI} {e : Nat} {a : Option Addr} {l c n : Nat} {old new : List Value} {h : Heap} {k : Option Addr → Nat → Nat → Heap → Prop}
    (ho : old.length = l * elem.cells) (S : SlCells h a old) (hn : new.length = n * elem.cells) (hz : elem.zero.length = elem.cells) (hb : (l + n) * elem.bytes ≤ 140737488355328) (hb' : l + n ≤ 140737488355328) (hc : c < l + n)
    (hk : ∀ c' h', Fr No h h' → Sl h' elem.cells (some ⟨h.size, 0, none⟩) (l + n) c' (old ++ new) (fun b => b = h.size) → k (some ⟨h.size, 0, none⟩) (l + n) c' h') :
    AppendP elem e a l c n new h k := by
  refine ⟨old, ho, S, hb, hb', fun x => absurd x (by omega), fun _ cap hcap => ?_⟩
  refine hk cap _ (fr_newO _ _) (Sl.new h elem.cells e (l + n) cap (old ++ new) _ _ rfl (by rw [List.length_append, ho, hn, Nat.add_mul]) hcap ?_)
  rw [length_repCells, hz]
/-- append to a row that lies behind h0 -/
theorem append_from {elem : TI} {e : Nat} {a : Option Addr} {l c n : Nat} {xs new : List Value} {h0 h : Heap} {k : Option Addr → Nat → Nat → Heap → Prop} (f : Fr No h0 h)
    (s : Sl h elem.cells a l c xs (From h0.size)) (hn : new.length = n * elem.cells) (hz : elem.zero.length = elem.cells) (hb : (l + n) * elem.bytes ≤ 140737488355328) (hb' : l + n ≤ 140737488355328)
    (hk : ∀ a' c' h', Fr No h0 h' → Sl h' elem.cells a' (l + n) c' (xs ++ new) (From h0.size) → k a' (l + n) c' h') :
    AppendP elem e a l c n new h k := by
  have hs := f.size
  refine append_own s hn hz hb hb' fun a' c' h' f' s' => hk a' c' h' (f.trans f' fun b hb e => by have : h0.size ≤ b := e; omega) (s'.mono fun b hb => ?_)
  rcases hb with hb | hb
  · exact hb
  · show h0.size ≤ b; omega
theorem bv_nat (m : Nat) : (Value.int .u8 (IntKind.wrap .u8 (m : Int))) = bv (UInt8.ofNat m) := by
  rw [bv_wrap]
  congr 1
  apply UInt8.toNat_inj.mp
  rw [UInt8.toNat_ofNat', UInt8.toNat_ofNat']; omega
end Go.Proofs.YtjdcbblgaoogmaaGreatDoor.Cr
namespace Go.Proofs.YtjdcbblgaoogmaaGreatDoor.Rz
open Go Go.Proofs Go.Proofs.YtjdcbblgaoogmaaGreatDoor.Wx Go.Proofs.YtjdcbblgaoogmaaGreatDoor.Hp
theorem oe {α : Type} {a : Option α} {p : α} {k : α → Prop} (e : a = some p) (h : k p) : onSome a k := by rw [e]; exact h
variable {h0 hh h' : Heap} {col : Nat → Nat}
end Go.Proofs.YtjdcbblgaoogmaaGreatDoor.Rz
namespace Go.Proofs.YtjdcbblgaoogmaaGreatDoor.Wd
open Go Go.Proofs Go.Proofs.YtjdcbblgaoogmaaGreatDoor.Wx Go.Proofs.YtjdcbblgaoogmaaGreatDoor.Hp Go.Proofs.YtjdcbblgaoogmaaGreatDoor.W Go.Proofs.YtjdcbblgaoogmaaGreatDoor.Ad Go.Proofs.YtjdcbblgaoogmaaGreatDoor.Wc Go.Proofs.YtjdcbblgaoogmaaGreatDoor.Rf
open Go.Proofs.YtjdcbblgaoogmaaGreatDoor.L3 (Tt)
def stp (t : Tt) : Stp := if t.1 = 1 then .w t.2.1 t.2.2 else .f
/-- entries, none of them in E -/
structure EsT (h : Heap) (E : Nat → Prop) (es : List Ent) (ts : List Tt) : Prop where
  len : es.length = ts.length
  at_ : ∀ i (h1 : i < es.length) (h2 : i < ts.length), es[i].kind = ts[i].1 ∧ es[i].at_ = ts[i].2.1 ∧ StrAt h es[i].a es[i].l ts[i].2.2 ∧ ∀ p, es[i].a = some p → es[i].l ≠ 0 → ¬ E p.block
theorem str_lt {h : Heap} {p : Addr} {l : Nat} {bs : List UInt8} (B : StrAt h (some p) l bs) (hl : l ≠ 0) : p.block < h.size :=
  L3.SlCells.lt B.2 fun e => by
    have := B.1
    rw [List.map_eq_nil_iff] at e
    rw [e] at this
    exact hl this.symm
theorem str_keep {h h' : Heap} {F : Nat → Prop} {a : Option Addr} {l : Nat} {bs : List UInt8} (B : StrAt h a l bs) (f : Fr F h h') (hF : ∀ p, a = some p → l ≠ 0 → p.block < h.size → ¬ F p.block) : StrAt h' a l bs := by
  by_cases hl : l = 0
  · subst hl
    have e : bs = [] := List.eq_nil_of_length_eq_zero B.1
    subst e
    exact StrAt.nil h' a
  · exact StrAt.fr f B fun p e => by subst e; exact hF p rfl hl (str_lt B hl)
theorem EsT.step {h h' : Heap} {E E' : Nat → Prop} {es : List Ent} {ts : List Tt} (t : EsT h E es ts) (f : Fr E h h') (g : Gw h E h' E') : EsT h' E' es ts := by
  refine ⟨t.len, fun i h1 h2 => ?_⟩
  obtain ⟨a, b, c, d⟩ := t.at_ i h1 h2
  exact ⟨a, b, str_keep c f fun p e hl _ => d p e hl, fun p e hl y => d p e hl ((g.old _ (by rw [e] at c; exact str_lt c hl)).mp y)⟩
theorem EsT.no {h h' : Heap} {E : Nat → Prop} {es : List Ent} {ts : List Tt} (t : EsT h E es ts) (f : Fr No h h') : EsT h' E es ts := by
  refine ⟨t.len, fun i h1 h2 => ?_⟩
  obtain ⟨a, b, c, d⟩ := t.at_ i h1 h2
  exact ⟨a, b, str_keep c f fun _ _ _ _ y => y, d⟩
theorem EsT.app {h : Heap} {E : Nat → Prop} {es es' : List Ent} {ts ts' : List Tt} (t : EsT h E es ts) (t' : EsT h E es' ts') : EsT h E (es ++ es') (ts ++ ts') := by
  refine ⟨by rw [List.length_append, List.length_append, t.len, t'.len], fun i h1 h2 => ?_⟩
  rw [List.length_append] at h1 h2
  by_cases hi : i < es.length
  · have hi2 : i < ts.length := by rw [← t.len]; exact hi
    simp only [List.getElem_append_left hi, List.getElem_append_left hi2]
    exact t.at_ i hi hi2
  · have hl := t.len
    simp only [List.getElem_append_right (show es.length ≤ i by omega), List.getElem_append_right (show ts.length ≤ i by omega), hl]
    exact t'.at_ (i - ts.length) (by omega) (by omega)
theorem EsT.nil (h : Heap) (E : Nat → Prop) : EsT h E [] [] := ⟨rfl, fun i h1 => absurd h1 (Nat.not_lt_zero _)⟩
theorem EsT.one {h : Heap} {E : Nat → Prop} {e : Ent} {t : Tt} (h1 : e.kind = t.1) (h2 : e.at_ = t.2.1) (h3 : StrAt h e.a e.l t.2.2) (h4 : ∀ p, e.a = some p → e.l ≠ 0 → ¬ E p.block) : EsT h E [e] [t] :=
  ⟨rfl, fun i g1 g2 => by
    have : i = 0 := by have : i < 1 := g1; omega
    subst this
    exact ⟨h1, h2, h3, h4⟩⟩
theorem ent_cell {h : Heap} {a : Option Addr} {es : List Ent} (R : SlCells h a (es.flatMap Ent.cells)) {i : Nat} (hi : i < es.length) : ∃ p, a = some p ∧ Cells h (p.add (i * 3)) es[i].cells := by
  cases a with
  | none =>
    exfalso
    have R : es.flatMap Ent.cells = [] := R
    have := flat_length Ent.cells 3 es fun _ _ => rfl
    rw [R, List.length_nil] at this
    omega
  | some p =>
    refine ⟨p, rfl, ?_⟩
    have := Cells.part (show Cells h p (es.flatMap Ent.cells) from R) (i * 3) 3
    rw [flat_part Ent.cells 3 es (fun _ _ => rfl) i hi] at this
    exact this
structure Bx (h : Heap) (a : Option Addr) (rs : Rs) : Prop where
  cells : SlCells h a (rs.flatMap cellsR)
  ok : ∀ r ∈ rs, StrAt h r.2.1.a r.2.1.l r.2.2
theorem Bx.no {h h' : Heap} {a : Option Addr} {rs : Rs} (b : Bx h a rs) (f : Fr No h h') : Bx h' a rs := ⟨SlCells.fr f b.cells fun _ _ y => y, fun r hr => StrAt.fr f (b.ok r hr) fun _ _ y => y⟩
theorem Bx.get {h : Heap} {a : Option Addr} {rs : Rs} (b : Bx h a rs) {i : Nat} (hi : i < rs.length) : ∃ p, a = some p ∧ Cells h (p.add (i * 2)) (cellsR rs[i]) := by
  have R := b.cells
  cases a with
  | none =>
    exfalso
    have R : rs.flatMap cellsR = [] := R
    have := flat_length cellsR 2 rs fun _ _ => rfl
    rw [R, List.length_nil] at this
    omega
  | some p =>
    refine ⟨p, rfl, ?_⟩
    have := Cells.part (show Cells h p (rs.flatMap cellsR) from R) (i * 2) 2
    rw [flat_part cellsR 2 rs (fun _ _ => rfl) i hi] at this
    exact this
end Go.Proofs.YtjdcbblgaoogmaaGreatDoor.Wd
namespace Go.Proofs.YtjdcbblgaoogmaaGreatDoor.Wd
open Go Go.Proofs Go.Proofs.YtjdcbblgaoogmaaGreatDoor.Wx Go.Proofs.YtjdcbblgaoogmaaGreatDoor.Hp Go.Proofs.YtjdcbblgaoogmaaGreatDoor.W Go.Proofs.YtjdcbblgaoogmaaGreatDoor.Ad Go.Proofs.YtjdcbblgaoogmaaGreatDoor.Wc Go.Proofs.YtjdcbblgaoogmaaGreatDoor.Rf
open Go.Proofs.YtjdcbblgaoogmaaGreatDoor.L3 (Tt)
theorem ent_one' (es : List Ent) : ∀ v ∈ es.flatMap Ent.cells, v.oneCell' = true := fun v hv => by
  obtain ⟨e, _, hv⟩ := List.mem_flatMap.mp hv
  unfold Ent.cells at hv
  simp only [List.mem_cons, List.not_mem_nil, or_false] at hv
  rcases hv with rfl | rfl | rfl <;> rfl
/-- more entries behind a row -/
theorem row_more {n0 : Nat} {hh : Heap} {F : Nat → Prop} {w n : Nat} {a : Option Addr} {l c e : Nat} {xs vs : List Value} {elem : TI} {K : Option Addr → Nat → Nat → Heap → Prop} (r : Row n0 hh F w a l c xs) (hv : vs.length = n * w)
    (hz : elem.zero.length = elem.cells) (hc : elem.cells = w) (hby : elem.bytes ≤ 64) (hl : l + n < 1000000) (hn : n0 ≤ hh.size)
    (hK : ∀ a' c' h' F', Fr F hh h' → (∀ b, F' b → F b ∨ hh.size ≤ b) → Row n0 h' F' w a' (l + n) c' (xs ++ vs) → K a' (l + n) c' h') : AppendP elem e a l c n vs hh K := by
  refine append_own (show Sl hh elem.cells a l c xs F by rw [hc]; exact r.s) (by rw [hc, hv]) hz (Nat.le_trans (Nat.mul_le_mul (show l + n ≤ 1000000 by omega) hby) (by decide)) (by omega) fun a' c' h5 f5 s5 => ?_
  rw [hc] at s5
  have z5 := f5.size
  refine hK a' c' h5 (fun b => (F b ∨ hh.size ≤ b) ∧ b < h5.size) f5 (fun b hb => hb.1) ⟨?_, fun b hb => ⟨?_, hb.2⟩⟩
  · obtain ⟨q1, q2⟩ := s5
    refine ⟨q1, ?_⟩
    cases a' with
    | none => exact q2
    | some p => obtain ⟨a1, a2, a3, a4⟩ := q2; exact ⟨a1, ⟨a2, a3.lt⟩, a3, a4⟩
  · rcases hb.1 with q | q
    · exact (r.ge b q).1
    · omega
def entW (n : Int) (a : Option Addr) (l c : Nat) : Ent := ⟨1, n, a, l, c⟩
def entF : Ent := ⟨2, 0, none, 0, 0⟩
def wT (l : Nb) : List Tt := l.map fun p => (1, p.1, p.2)
def homeT (l : Nb) : List Tt := wT l ++ [(2, 0, []), (1, 1, Hd.zeros 512), (2, 0, [])]
theorem stp_w (l : Nb) : (wT l).map stp = ws l := by
  unfold wT ws
  rw [List.map_map]; rfl
theorem stp_home (l : Nb) : (homeT l).map stp = homeS l := by
  unfold homeT homeS
  rw [List.map_append, stp_w]; rfl
def logT (ds : List (List UInt8)) (i : Nat) : List Tt := (List.range i).map fun k : Nat => ((1 : Int), 2 + (k : Int), ds.getD k [])
theorem logT_succ (ds : List (List UInt8)) (i : Nat) : logT ds (i + 1) = logT ds i ++ [((1 : Int), 2 + (i : Int), ds.getD i [])] := by unfold logT; rw [List.range_succ, List.map_append]; rfl
theorem stp_log (l : Nb) : (logT (l.map (·.2)) l.length).map stp = ws (logL l) := by
  unfold ws
  refine List.ext_getElem (by unfold logT; rw [List.length_map, List.length_map, List.length_map, List.length_range, logL_length]) fun i h1 h2 => ?_
  rw [List.length_map, logL_length] at h2
  rw [List.getElem_map, List.getElem_map, logL_get _ (by rw [logL_length]; exact h2)]
  unfold logT
  rw [List.getElem_map, List.getElem_range]
  show Stp.w (2 + (i : Int)) ((l.map (·.2)).getD i []) = Stp.w (2 + (i : Int)) l[i].2
  rw [List.getD_eq_getElem?_getD, List.getElem?_map, List.getElem?_eq_getElem h2]; rfl
def commitT (l : Nb) (hdr : List UInt8) : List Tt := logT (l.map (·.2)) l.length ++ [(2, 0, []), (1, 1, hdr), (2, 0, [])] ++ homeT l
theorem stp_commit (l : Nb) (hdr : List UInt8) : (commitT l hdr).map stp = commitS l hdr := by
  unfold commitT commitS
  rw [List.map_append, List.map_append, stp_log, stp_home]; rfl
theorem wT_snoc (l : Nb) (p : Int × List UInt8) : wT (l ++ [p]) = wT l ++ [(1, p.1, p.2)] := by unfold wT; rw [List.map_append]; rfl
theorem flat_snoc (es : List Ent) (e : Ent) : (es ++ [e]).flatMap Ent.cells = es.flatMap Ent.cells ++ e.cells := by rw [List.flatMap_append, List.flatMap_cons, List.flatMap_nil, List.append_nil]
theorem EsT.entW {h : Heap} {E : Nat → Prop} {n : Int} {a : Option Addr} {l c : Nat} {b : List UInt8} (B : StrAt h a l b) (O : ∀ p, a = some p → l ≠ 0 → ¬ E p.block) : EsT h E [Wd.entW n a l c] [(1, n, b)] := EsT.one rfl rfl B O
theorem EsT.entF (h : Heap) (E : Nat → Prop) : EsT h E [Wd.entF] [(2, 0, [])] := EsT.one rfl rfl (StrAt.nil h none) fun p e => by cases e
theorem row_no {n0 w l c : Nat} {h h' h0 : Heap} {F : Nat → Prop} {a : Option Addr} {xs : List Value} (R : Row n0 h F w a l c xs) (f : Fr No h0 h) (e : n0 = h0.size) (f' : Fr F h h') : Fr No h0 h' := f.trans f' fun b hb y => by have := (R.ge b y).1; omega
end Go.Proofs.YtjdcbblgaoogmaaGreatDoor.Wd
namespace Go.Proofs.YtjdcbblgaoogmaaGreatDoor.Wd
open Go Go.Proofs Go.Proofs.YtjdcbblgaoogmaaGreatDoor.Wx Go.Proofs.YtjdcbblgaoogmaaGreatDoor.Hp Go.Proofs.YtjdcbblgaoogmaaGreatDoor.W Go.Proofs.YtjdcbblgaoogmaaGreatDoor.Ad Go.Proofs.YtjdcbblgaoogmaaGreatDoor.Wc Go.Proofs.YtjdcbblgaoogmaaGreatDoor.Rf
open Go.Proofs.YtjdcbblgaoogmaaGreatDoor.L3 (Tt)
theorem EsT.small {h : Heap} {E : Nat → Prop} {es : List Ent} {ts : List Tt} (T : EsT h E es ts) (hs : ∀ t ∈ ts, t.2.2.length ≤ 512) : ∀ i (hi : i < es.length), es[i].l ≤ 140737488355328 := fun i hi => by
  have hi2 : i < ts.length := by rw [← T.len]; exact hi
  have := (T.at_ i hi hi2).2.2.1.1
  have := hs _ (List.getElem_mem hi2)
  omega
theorem EsT.weak {h : Heap} {E E' : Nat → Prop} {es : List Ent} {ts : List Tt} (T : EsT h E' es ts) (hE : ∀ b, E b → E' b) : EsT h E es ts :=
  ⟨T.len, fun i h1 h2 => by
    obtain ⟨a, b, c, d⟩ := T.at_ i h1 h2
    exact ⟨a, b, c, fun p e hl y => d p e hl (hE _ y)⟩⟩
theorem wT_small {l : Nb} (h : ∀ p ∈ l, p.2.length ≤ 512) : ∀ t ∈ wT l, t.2.2.length ≤ 512 := fun t ht => by
  obtain ⟨p, hp, rfl⟩ := List.mem_map.mp ht; exact h p hp
theorem three_small {b : List UInt8} (hb : b.length ≤ 512) : ∀ t ∈ ([((2 : Int), (0 : Int), ([] : List UInt8)), (1, 1, b), (2, 0, [])] : List Tt), t.2.2.length ≤ 512 := fun t ht => by
  simp only [List.mem_cons, List.not_mem_nil, or_false] at ht
  rcases ht with rfl | rfl | rfl
  · exact Nat.zero_le _
  · exact hb
  · exact Nat.zero_le _
theorem homeT_small {l : Nb} (h : ∀ p ∈ l, p.2.length ≤ 512) : ∀ t ∈ homeT l, t.2.2.length ≤ 512 := fun t ht => by
  rcases List.mem_append.mp ht with ht | ht
  · exact wT_small h t ht
  · exact three_small (by rw [Hd.zeros_length]; exact Nat.le_refl _) t ht
theorem rs_ns (rs : Rs) : (nb rs).map (·.1) = rs.map (·.1) := by unfold nb; rw [List.map_map]; rfl
theorem rs_ds (rs : Rs) : (nb rs).map (·.2) = rs.map (·.2.2) := by unfold nb; rw [List.map_map]; rfl
end Go.Proofs.YtjdcbblgaoogmaaGreatDoor.Wd
namespace Go.Proofs.YtjdcbblgaoogmaaGreatDoor.Wd
open Go Go.Proofs Go.Proofs.YtjdcbblgaoogmaaGreatDoor.Wx Go.Proofs.YtjdcbblgaoogmaaGreatDoor.Hp Go.Proofs.YtjdcbblgaoogmaaGreatDoor.W Go.Proofs.YtjdcbblgaoogmaaGreatDoor.Ad Go.Proofs.YtjdcbblgaoogmaaGreatDoor.Wc Go.Proofs.YtjdcbblgaoogmaaGreatDoor.Rf
open Go.Proofs.YtjdcbblgaoogmaaGreatDoor.L3 (Tt)
theorem lastW_len {N : Int} {i : Int} : ∀ (n : Nat) (ts : List Tt) (z : List UInt8), ts.length = n → z.length = 512 → (∀ t ∈ ts, L3.May N t) → (lastW i z ts).length = 512
  | 0, ts, z, hn, hz, _ => by rw [List.eq_nil_of_length_eq_zero hn]; exact hz
  | n + 1, ts, z, hn, hz, hm => by
    have ne : ts ≠ [] := fun e => by rw [e] at hn; cases hn
    rw [← List.dropLast_concat_getLast ne, lastW_snoc]
    have hl := hm _ (List.getLast_mem ne)
    split
    · rename_i h
      rcases hl with h2 | h2
      · rw [h.1] at h2; exact absurd h2 (by decide)
      · exact h2.2.2.2
    · exact lastW_len n _ z (by rw [List.length_dropLast, hn]; rfl) hz fun t ht => hm t (List.dropLast_subset _ ht)
theorem RfS.readLen {h : Heap} {E : Nat → Prop} {r : Option Addr} {D : RD} (x : RfS h E r D) (hd : D.down = false) {i : Nat} (hi : i < D.lasts.length) : (readAt D i).length = 512 := by
  obtain ⟨col, S, _, s, _, _, _, _⟩ := x
  have ho : S.out = false := by rw [← s.down]; exact hd
  rw [s.len] at hi
  rw [s.read ho hi]
  refine lastW_len _ _ _ rfl ?_ s.ok.may
  unfold FD.first'
  rw [List.length_take, List.length_drop, s.ok.len]
  have : (i + 1) * 512 ≤ S.N * 512 := Nat.mul_le_mul_right _ hi
  have : ((i : Int)).toNat = i := Int.toNat_natCast i
  rw [this]
  omega
theorem RfS.max {h : Heap} {E : Nat → Prop} {r : Option Addr} {D : RD} (x : RfS h E r D) : D.lasts.length ≤ 16384 := by
  obtain ⟨col, S, _, s, _, _, _, _⟩ := x
  rw [s.len]; exact s.ok.max
end Go.Proofs.YtjdcbblgaoogmaaGreatDoor.Wd
namespace Go.Proofs.YtjdcbblgaoogmaaGreatDoor.Wd
open Go Go.Proofs Go.Proofs.YtjdcbblgaoogmaaGreatDoor.Wx Go.Proofs.YtjdcbblgaoogmaaGreatDoor.Hp Go.Proofs.YtjdcbblgaoogmaaGreatDoor.W Go.Proofs.YtjdcbblgaoogmaaGreatDoor.Ad Go.Proofs.YtjdcbblgaoogmaaGreatDoor.Wc Go.Proofs.YtjdcbblgaoogmaaGreatDoor.Rf
open Go.Proofs.YtjdcbblgaoogmaaGreatDoor.L3 (Tt)
theorem flat_512 : ∀ (ls : List (List UInt8)), (∀ x ∈ ls, x.length = 512) → ls.flatten.length = ls.length * 512
  | [], _ => rfl
  | x :: r, h => by
    rw [List.flatten_cons, List.length_append, flat_512 r fun y hy => h y (List.mem_cons_of_mem _ hy), h x (List.mem_cons_self ..), List.length_cons]; omega
/-- more bytes behind a row -/
theorem row_bytes {n0 : Nat} {hh : Heap} {F : Nat → Prop} {n : Nat} {a : Option Addr} {l c e : Nat} {xs vs : List Value} {elem : TI} {K : Option Addr → Nat → Nat → Heap → Prop} (r : Row n0 hh F 1 a l c xs) (hv : vs.length = n)
    (hz : elem.zero.length = elem.cells) (hc : elem.cells = 1) (hby : elem.bytes = 1) (hl : l + n ≤ 140737488355328) (hn : n0 ≤ hh.size)
    (hK : ∀ a' c' h' F', Fr F hh h' → (∀ b, F' b → F b ∨ hh.size ≤ b) → Row n0 h' F' 1 a' (l + n) c' (xs ++ vs) → K a' (l + n) c' h') : AppendP elem e a l c n vs hh K := by
  refine append_own (show Sl hh elem.cells a l c xs F by rw [hc]; exact r.s) (by rw [hc, hv, Nat.mul_one]) hz (by rw [hby, Nat.mul_one]; exact hl) hl fun a' c' h5 f5 s5 => ?_
  rw [hc] at s5
  have z5 := f5.size
  refine hK a' c' h5 (fun b => (F b ∨ hh.size ≤ b) ∧ b < h5.size) f5 (fun b hb => hb.1) ⟨?_, fun b hb => ⟨?_, hb.2⟩⟩
  · obtain ⟨q1, q2⟩ := s5
    refine ⟨q1, ?_⟩
    cases a' with
    | none => exact q2
    | some p => obtain ⟨a1, a2, a3, a4⟩ := q2; exact ⟨a1, ⟨a2, a3.lt⟩, a3, a4⟩
  · rcases hb.1 with q | q
    · exact (r.ge b q).1
    · omega
end Go.Proofs.YtjdcbblgaoogmaaGreatDoor.Wd
namespace Go.Proofs.YtjdcbblgaoogmaaGreatDoor.Rx
open Go Go.Proofs Go.Proofs.YtjdcbblgaoogmaaGreatDoor.Wx Go.Proofs.YtjdcbblgaoogmaaGreatDoor.Hp Go.Proofs.YtjdcbblgaoogmaaGreatDoor.W Go.Proofs.YtjdcbblgaoogmaaGreatDoor.Ad Go.Proofs.YtjdcbblgaoogmaaGreatDoor.Tm Go.Proofs.YtjdcbblgaoogmaaGreatDoor.Spc Go.Proofs.YtjdcbblgaoogmaaGreatDoor.Re
def lget (row : List (Int × Txt)) (i : Int) : Option Txt := row.foldl (fun o p => if p.1 = i then some p.2 else o) none
theorem lget_snoc (row : List (Int × Txt)) (p : Int × Txt) (i : Int) : lget (row ++ [p]) i = if p.1 = i then some p.2 else lget row i := by
  unfold lget; rw [List.foldl_append]; rfl
theorem lget_mem {i : Int} : ∀ {n : Nat} {row : List (Int × Txt)}, row.length = n → ∀ {b : Txt}, lget row i = some b → (i, b) ∈ row
  | 0, row, hn, b, e => by rw [List.eq_nil_of_length_eq_zero hn] at e; cases e
  | n + 1, row, hn, b, e => by
    have ne : row ≠ [] := by intro y; rw [y] at hn; cases hn
    rw [← List.dropLast_concat_getLast ne] at e ⊢
    rw [lget_snoc] at e
    split at e
    · rename_i h; cases e; subst h; exact List.mem_append_right _ (List.mem_singleton.mpr rfl)
    · exact List.mem_append_left _ (lget_mem (n := n) (by rw [List.length_dropLast, hn]; rfl) e)
structure RM where
  disk : RD
  row : List (Int × Txt)
  ends : Bool
def RM.N (M : RM) : Nat := M.disk.lasts.length
def RM.read (M : RM) (i : Int) : Txt × Int :=
  if M.ends = true then ([], 61) else if i < 0 ∨ i ≥ M.N then ([], 31) else match lget M.row i with
    | some b => (b, 0)
    | none => if M.disk.down = true then ([], 30) else (readAt M.disk i.toNat, 0)
def keysTo (M : RM) (k : Nat) : List Int := ((List.range' 98 k).filter fun i => (lget M.row ((i : Nat) : Int)).isSome).map fun i : Nat => ((i : Nat) : Int)
theorem keysTo_succ (M : RM) (k : Nat) : keysTo M (k + 1) = keysTo M k ++ if (lget M.row ((98 + k : Nat) : Int)).isSome = true then [((98 + k : Nat) : Int)] else [] := by
  unfold keysTo
  rw [List.range'_concat, List.filter_append, List.map_append, Nat.one_mul]
  congr 1
  by_cases h : (lget M.row ((98 + k : Nat) : Int)).isSome = true
  · rw [if_pos h]; simp only [List.filter, h, List.map]
  · rw [if_neg h]; simp only [List.filter, h, List.map]
def RM.written (M : RM) : List Int := if M.ends = true then [] else keysTo M (M.N - 98)
theorem mem_keysTo {M : RM} {k : Nat} {x : Int} : x ∈ keysTo M k ↔ 98 ≤ x ∧ x < 98 + k ∧ (lget M.row x).isSome = true := by
  unfold keysTo
  rw [List.mem_map]
  constructor
  · rintro ⟨a, ha, rfl⟩
    rw [List.mem_filter, List.mem_range'_1] at ha
    exact ⟨by omega, by omega, ha.2⟩
  · rintro ⟨h1, h2, h3⟩
    refine ⟨x.toNat, ?_, by omega⟩
    rw [List.mem_filter, List.mem_range'_1]
    refine ⟨by omega, ?_⟩
    rw [show ((x.toNat : Nat) : Int) = x by omega]; exact h3
theorem keysTo_lt (M : RM) (k : Nat) : (keysTo M k).Pairwise (· < ·) := by
  unfold keysTo
  rw [List.pairwise_map]
  have h : (List.range' 98 k).Pairwise (· < ·) := List.pairwise_lt_range'
  exact ((h.sublist (List.filter_sublist)).imp fun h => by omega)
theorem le_trans_b : ∀ a b c : Int, decide (a ≤ b) = true → decide (b ≤ c) = true → decide (a ≤ c) = true := fun a b c h1 h2 => decide_eq_true (Int.le_trans (of_decide_eq_true h1) (of_decide_eq_true h2))
theorem le_total_b : ∀ a b : Int, (decide (a ≤ b) || decide (b ≤ a)) = true := fun a b => by
  rcases Int.le_total a b with h | h
  · rw [decide_eq_true h]; rfl
  · rw [decide_eq_true h, Bool.or_true]
theorem sortZ_eq {l m : List Int} (h : l.Nodup) (hm : m.Pairwise (· < ·)) (hs : ∀ x, x ∈ l ↔ x ∈ m) : sortZ l = m := by
  have hp0 : (sortZ l).Perm l := List.mergeSort_perm l _
  have hlt : (sortZ l).Pairwise (· < ·) := by
    have h1 : (sortZ l).Pairwise fun x y => decide (x ≤ y) = true := List.pairwise_mergeSort le_trans_b le_total_b l
    have h2 : (sortZ l).Nodup := hp0.nodup_iff.mpr h
    exact (h1.and h2).imp fun ⟨a, b⟩ => by have := of_decide_eq_true a; omega
  have hmn : m.Nodup := hm.imp fun h => by omega
  have hp : (sortZ l).Perm m := hp0.trans ((List.perm_ext_iff_of_nodup h hmn).mpr hs)
  exact List.Perm.eq_of_pairwise (le := (· < ·)) (fun a b _ _ h1 h2 => by omega) hlt hm hp
/-- the document's transaction is as this one -/
structure Sim (T : TM) (M : RM) : Prop where
  ends : M.ends = T.over
  dk : M.disk = T.disk
  gone : T.over = true → T.put = [] ∧ T.undo = []
  un : T.over = false → T.undo.length = M.row.length
  nd : T.over = false → ∀ k, k ≤ M.row.length → ((undoAll T.put (T.undo.drop k)).map (·.1)).Nodup
  mx : T.over = false → ∀ k, k ≤ M.row.length → (undoAll T.put (T.undo.drop k)).length ≤ 96
  get : T.over = false → ∀ k, k ≤ M.row.length → ∀ i, aget (undoAll T.put (T.undo.drop k)) i = lget (M.row.take k) i
  rr : ∀ p ∈ M.row, 98 ≤ p.1 ∧ p.1 < T.N ∧ p.2.length = 512
theorem Sim.N {T : TM} {M : RM} (s : Sim T M) : M.N = T.N := by unfold RM.N; rw [s.dk]; rfl
theorem Sim.now {T : TM} {M : RM} (s : Sim T M) (h : T.over = false) (i : Int) : aget T.put i = lget M.row i := by
  have := s.get h M.row.length (Nat.le_refl _) i
  rw [← s.un h, List.drop_length, s.un h, List.take_length] at this
  exact this
theorem Sim.nodup {T : TM} {M : RM} (s : Sim T M) (h : T.over = false) : (T.put.map (·.1)).Nodup := by
  have := s.nd h M.row.length (Nat.le_refl _)
  rw [← s.un h, List.drop_length] at this
  exact this
theorem Sim.most {T : TM} {M : RM} (s : Sim T M) (h : T.over = false) : T.put.length ≤ 96 := by
  have := s.mx h M.row.length (Nat.le_refl _)
  rw [← s.un h, List.drop_length] at this
  exact this
theorem Sim.read {T : TM} {M : RM} (s : Sim T M) (i : Int) : M.read i = T.read i := by
  unfold RM.read TM.read
  rw [s.ends, s.N]
  split
  · rfl
  · rename_i h
    have hl : T.over = false := by cases e : T.over <;> simp_all
    split
    · rfl
    · rename_i h2
      rw [← s.now hl i]
      cases e : aget T.put i with
      | some b => rw [TM.get_some e]
      | none =>
        rw [TM.get_none e, s.dk]
theorem aget_key {α : Type} {i : Int} {m : List (Int × α)} : i ∈ m.map (·.1) ↔ (aget m i).isSome = true := by
  constructor
  · intro h
    cases e : aget m i with
    | some b => rfl
    | none =>
      obtain ⟨p, hp, ep⟩ := List.mem_map.mp h
      exact absurd ep (aget_none.mp e p hp)
  · intro h
    cases e : aget m i with
    | some b => exact List.mem_map.mpr ⟨_, aget_mem e, rfl⟩
    | none => rw [e] at h; cases h
theorem Sim.written {T : TM} {M : RM} (s : Sim T M) : T.written = M.written := by
  unfold TM.written RM.written
  rw [s.ends]
  cases hl : T.over with
  | true => rw [(s.gone hl).1, if_pos rfl]; exact List.mergeSort_nil
  | false =>
    rw [if_neg (by simp)]
    refine sortZ_eq (s.nodup hl) (keysTo_lt _ _) fun x => ?_
    rw [mem_keysTo, aget_key, s.now hl, s.N]
    constructor
    · intro h
      cases e : lget M.row x with
      | none => rw [e] at h; cases h
      | some b =>
        have := s.rr _ (lget_mem rfl e)
        simp only at this
        exact ⟨this.1, by omega, rfl⟩
    · exact fun h => h.2.2
theorem sortZ_length (l : List Int) : (sortZ l).length = l.length := (List.mergeSort_perm l _).length_eq
theorem Sim.many {T : TM} {M : RM} (s : Sim T M) : M.written.length = T.put.length := by rw [← s.written]; unfold TM.written; rw [sortZ_length, List.length_map]
def RM.write (M : RM) (i : Int) (bs : Txt) : RM × Int :=
  if M.ends = true then (M, 61) else if i < 98 ∨ i ≥ M.N then (M, 31) else if bs.length ≠ 512 then (M, 32) else if lget M.row i = none ∧ M.written.length ≥ 96 then (M, 60) else ({ M with row := M.row ++ [(i, bs)] }, 0)
theorem undo1_aput (m : List (Int × Txt)) (i : Int) (v : Txt) : undo1 (aput m i v) (i, aget m i) = m := by
  unfold undo1
  cases e : aget m i with
  | some b => exact aput_aput e
  | none => exact adel_aput e
theorem undoAll_app (m : List (Int × Txt)) (us vs : List (Int × Option Txt)) : undoAll m (us ++ vs) = undoAll (undoAll m vs) us := by unfold undoAll; rw [List.foldr_append]
theorem aput_nodup {α : Type} {m : List (Int × α)} (h : (m.map (·.1)).Nodup) (i : Int) (v : α) : ((aput m i v).map (·.1)).Nodup := by
  rw [aput_keys]
  split
  · rename_i e
    rw [List.nodup_append]
    refine ⟨h, by simp, fun a ha b hb => ?_⟩
    rw [List.mem_singleton] at hb
    subst hb
    obtain ⟨p, hp, rfl⟩ := List.mem_map.mp ha
    exact aget_none.mp e p hp
  · exact h
theorem Sim.write {T : TM} {M : RM} (s : Sim T M) (i : Int) (bs : Txt) : (M.write i bs).2 = (T.write i bs).2 ∧ Sim (T.write i bs).1 (M.write i bs).1 := by
  unfold RM.write TM.write
  rw [s.ends, s.N, s.many]
  split
  · exact ⟨rfl, s⟩
  · rename_i h
    have hl : T.over = false := by cases e : T.over <;> simp_all
    rw [← s.now hl i]
    split
    · exact ⟨rfl, s⟩
    · split
      · exact ⟨rfl, s⟩
      · split
        · exact ⟨rfl, s⟩
        · rename_i h2 h3 h4
          refine ⟨rfl, rfl, s.dk, fun y => absurd (hl.symm.trans y) (by simp), fun _ => ?_, fun _ k hk => ?_, fun _ k hk => ?_, fun _ k hk j => ?_, fun p hp => ?_⟩
          · show (T.undo ++ [_]).length = (M.row ++ [_]).length
            rw [List.length_append, List.length_append, s.un hl]; rfl
          · have hk : k ≤ (M.row ++ [(i, bs)]).length := hk
            rw [List.length_append, List.length_singleton] at hk
            show ((undoAll (aput T.put i bs) ((T.undo ++ [(i, aget T.put i)]).drop k)).map _).Nodup
            rcases Nat.lt_or_ge M.row.length k with y | y
            · rw [List.drop_eq_nil_of_le (by rw [List.length_append, s.un hl]; show _ + 1 ≤ k; omega)]
              exact aput_nodup (s.nodup hl) i bs
            · rw [List.drop_append_of_le_length (by rw [s.un hl]; exact y), undoAll_app]
              show ((undoAll (undo1 (aput T.put i bs) (i, aget T.put i)) _).map _).Nodup
              rw [undo1_aput]
              exact s.nd hl k y
          · have hk : k ≤ (M.row ++ [(i, bs)]).length := hk
            rw [List.length_append, List.length_singleton] at hk
            show (undoAll (aput T.put i bs) ((T.undo ++ [(i, aget T.put i)]).drop k)).length ≤ 96
            rcases Nat.lt_or_ge M.row.length k with y | y
            · rw [List.drop_eq_nil_of_le (by rw [List.length_append, s.un hl]; show _ + 1 ≤ k; omega)]
              show (aput T.put i bs).length ≤ 96
              have := s.most hl
              rw [aput_length]
              split
              · rename_i z
                have : ¬ T.put.length ≥ 96 := fun w => h4 ⟨z, w⟩
                omega
              · exact this
            · rw [List.drop_append_of_le_length (by rw [s.un hl]; exact y), undoAll_app]
              show (undoAll (undo1 (aput T.put i bs) (i, aget T.put i)) _).length ≤ 96
              rw [undo1_aput]
              exact s.mx hl k y
          · have hk : k ≤ (M.row ++ [(i, bs)]).length := hk
            rw [List.length_append, List.length_singleton] at hk
            show aget (undoAll (aput T.put i bs) ((T.undo ++ [(i, aget T.put i)]).drop k)) j = lget ((M.row ++ [(i, bs)]).take k) j
            rcases Nat.lt_or_ge M.row.length k with y | y
            · rw [List.drop_eq_nil_of_le (by rw [List.length_append, s.un hl]; show _ + 1 ≤ k; omega), List.take_of_length_le (by rw [List.length_append]; show _ + 1 ≤ k; omega), lget_snoc]
              show aget (aput T.put i bs) j = _
              rw [aget_aput, s.now hl j]
              by_cases e : j = i
              · rw [if_pos e, if_pos (show (i, bs).1 = j from e.symm)]
              · rw [if_neg e, if_neg (show ¬ (i, bs).1 = j from fun y => e y.symm)]
            · rw [List.drop_append_of_le_length (by rw [s.un hl]; exact y), undoAll_app, List.take_append_of_le_length y]
              show aget (undoAll (undo1 (aput T.put i bs) (i, aget T.put i)) _) j = _
              rw [undo1_aput]
              exact s.get hl k y j
          · have hp : p ∈ M.row ++ [(i, bs)] := hp
            rcases List.mem_append.mp hp with y | y
            · exact s.rr p y
            · rw [List.mem_singleton.mp y]; show 98 ≤ i ∧ i < (T.N : Int) ∧ bs.length = 512; omega
def RM.back (M : RM) (m : Int) : RM × Int := if M.ends = true then (M, 61) else if m < 0 ∨ m > M.row.length then (M, 62) else ({ M with row := M.row.take m.toNat }, 0)
theorem Sim.back {T : TM} {M : RM} (s : Sim T M) (m : Int) : (M.back m).2 = (T.back m).2 ∧ Sim (T.back m).1 (M.back m).1 := by
  unfold RM.back TM.back
  rw [s.ends]
  split
  · exact ⟨rfl, s⟩
  · rename_i h
    have hl : T.over = false := by cases e : T.over <;> simp_all
    rw [s.un hl]
    split
    · exact ⟨rfl, s⟩
    · rename_i h2
      have hm : m.toNat ≤ M.row.length := by omega
      have key : ∀ k, k ≤ m.toNat → undoAll (undoAll T.put (T.undo.drop m.toNat)) ((T.undo.take m.toNat).drop k) = undoAll T.put (T.undo.drop k) := fun k hk => by
        have e : T.undo.drop k = (T.undo.take m.toNat).drop k ++ T.undo.drop m.toNat := by
          have e1 : T.undo = T.undo.take m.toNat ++ T.undo.drop m.toNat := (List.take_append_drop _ _).symm
          rw (config := { occs := .pos [1] }) [e1]
          rw [List.drop_append_of_le_length (by rw [List.length_take, s.un hl]; omega)]
        rw [e, undoAll_app]
      have lt : (M.row.take m.toNat).length = m.toNat := by rw [List.length_take]; omega
      refine ⟨rfl, rfl, s.dk, fun y => absurd (hl.symm.trans y) (by simp), fun _ => ?_, fun _ k hk => ?_, fun _ k hk => ?_, fun _ k hk j => ?_, fun p hp => s.rr p (List.mem_of_mem_take hp)⟩
      · show (T.undo.take m.toNat).length = (M.row.take m.toNat).length
        rw [lt, List.length_take, s.un hl]; omega
      · have hk : k ≤ (M.row.take m.toNat).length := hk
        rw [lt] at hk
        show ((undoAll (undoAll T.put (T.undo.drop m.toNat)) ((T.undo.take m.toNat).drop k)).map _).Nodup
        rw [key k hk]; exact s.nd hl k (by omega)
      · have hk : k ≤ (M.row.take m.toNat).length := hk
        rw [lt] at hk
        show (undoAll (undoAll T.put (T.undo.drop m.toNat)) ((T.undo.take m.toNat).drop k)).length ≤ 96
        rw [key k hk]; exact s.mx hl k (by omega)
      · have hk : k ≤ (M.row.take m.toNat).length := hk
        rw [lt] at hk
        show aget (undoAll (undoAll T.put (T.undo.drop m.toNat)) ((T.undo.take m.toNat).drop k)) j = lget ((M.row.take m.toNat).take k) j
        rw [key k hk, s.get hl k (by omega) j, List.take_take, Nat.min_eq_left hk]
theorem Sim.mark {T : TM} {M : RM} (s : Sim T M) : (if M.ends = true then ((0 : Int), (61 : Int)) else ((M.row.length : Int), 0)) = T.mark := by
  unfold TM.mark
  rw [s.ends]
  split
  · rfl
  · rename_i h
    have hl : T.over = false := by cases e : T.over <;> simp_all
    rw [s.un hl]
/-- it is over, the disk beneath is another -/
theorem Sim.over {T : TM} {M : RM} (s : Sim T M) {S : RD} (h : S.lasts.length = T.N) : Sim ⟨S, [], [], true⟩ { M with disk := S, ends := true } :=
  ⟨rfl, rfl, fun _ => ⟨rfl, rfl⟩, fun y => (by cases y), fun y => (by cases y), fun y => (by cases y), fun y => (by cases y), fun p hp => by
    have e : TM.N ⟨S, [], [], true⟩ = T.N := h
    rw [e]; exact s.rr p hp⟩
/-- the disk beneath changes -/
theorem Sim.onDisk {T : TM} {M : RM} (s : Sim T M) {S : RD} (h : S.lasts.length = T.N) : Sim { T with disk := S } { M with disk := S } := by
  have hN : TM.N { T with disk := S } = T.N := h
  exact ⟨s.ends, rfl, s.gone, s.un, s.nd, s.mx, s.get, fun p hp => by rw [hN]; exact s.rr p hp⟩
theorem sim_new (S : RD) : Sim ⟨S, [], [], false⟩ ⟨S, [], false⟩ :=
  ⟨rfl, rfl, fun y => (by cases y), fun _ => rfl, fun _ k _ => by
    show ((undoAll [] (([] : List (Int × Option Txt)).drop k)).map _).Nodup
    rw [List.drop_nil]; exact List.nodup_nil, fun _ k _ => by
    show (undoAll [] (([] : List (Int × Option Txt)).drop k)).length ≤ 96
    rw [List.drop_nil]; exact Nat.zero_le _, fun _ k _ i => by
    show aget (undoAll [] (([] : List (Int × Option Txt)).drop k)) i = lget (([] : List (Int × Txt)).take k) i
    rw [List.drop_nil, List.take_nil]; rfl, fun p hp => (by cases hp)⟩
end Go.Proofs.YtjdcbblgaoogmaaGreatDoor.Rx
namespace Go.Proofs.YtjdcbblgaoogmaaGreatDoor.Rx
open Go Go.Proofs Go.Proofs.YtjdcbblgaoogmaaGreatDoor.Wx Go.Proofs.YtjdcbblgaoogmaaGreatDoor.Hp Go.Proofs.YtjdcbblgaoogmaaGreatDoor.W Go.Proofs.YtjdcbblgaoogmaaGreatDoor.Ad Go.Proofs.YtjdcbblgaoogmaaGreatDoor.Tm Go.Proofs.YtjdcbblgaoogmaaGreatDoor.Spc Go.Proofs.YtjdcbblgaoogmaaGreatDoor.Re
theorem newS_intro {bs : Txt} {t : Nat} {h : Heap} {k : Nat → Heap → Prop} (H : ∀ cap h', Fr No h h' → Sl h' 1 (some ⟨h.size, 0, none⟩) bs.length cap (bs.map bv) (fun b => b = h.size) → k cap h') : NewS (mkStr bs) t h k := by
  intro cap hcap
  have hcap : bs.length ≤ cap := hcap
  show k cap (newS h ((mkStr bs).toList.map bv ++ List.replicate (cap - bs.length) (bv 0)) t)
  rw [toList_mkStr]
  generalize hcs : bs.map bv ++ List.replicate (cap - bs.length) (bv 0) = cs
  have hg : (newS h cs t)[h.size]? = some (.cells ⟨cs⟩ t (cs.length, cs.length + 1)) := by simp [newS]
  have hr : rd (newS h cs t) h.size = cs := by simp only [rd, hg]
  refine H cap _ ⟨by simp [newS], fun x hx _ => by simp [newS, Array.getElem?_push, show x ≠ h.size by omega]⟩ ⟨by rw [List.length_map, Nat.mul_one], rfl, rfl, ⟨_, _, _, hg, .inr (Nat.le_refl _)⟩, hcap, ?_, ?_⟩
  · show ((rd (newS h cs t) h.size).drop 0).take _ = _
    rw [hr, ← hcs, List.drop_zero]; exact List.take_left
  · show 0 + cap * 1 ≤ (rd (newS h cs t) h.size).length
    rw [hr, ← hcs, List.length_append, List.length_map, List.length_replicate]; omega
def dcell (p : Int × Txt) : List Value := [.int .i64 p.1, .string (mkStr p.2)]
theorem dcell_one (p : Int × Txt) : ∀ v ∈ dcell p, v.oneCell' = true := one2 rfl rfl
structure RR where
  rb : Nat
  q : Option Addr
  ra : Option Addr
  rc : Nat
structure RxC (h : Heap) (col : Nat → Nat) (R : RR) (M : RM) : Prop where
  nrm : ∀ b, h.size ≤ b → col b = 0
  rc : col R.rb = 1
  ro : Own h R.rb
  rr : rd h R.rb = [.pointer R.q, .slice R.ra M.row.length R.rc, .bool M.ends]
  dk : Rf.RfS h (fun b => col b = 3) R.q M.disk
  row : Sl h 2 R.ra M.row.length R.rc (M.row.flatMap dcell) (On col 4)
  rm : M.row.length ≤ 1000000000
def Rx (h : Heap) (F : Nat → Prop) (r e : Option Addr) (M : RM) : Prop := ∃ col R, r = some ⟨R.rb, 0, none⟩ ∧ e = R.q ∧ RxC h col R M ∧ ∀ b, F b ↔ 1 ≤ col b ∧ col b ≤ 4
theorem iffS {h : Heap} {E E' : Nat → Prop} {r : Option Addr} {D : RD} (x : Rf.RfS h E r D) (g : ∀ b, E' b ↔ E b) : Rf.RfS h E' r D := by
  obtain ⟨col, S, a, s, p, w, hz, hD⟩ := x
  exact ⟨col, S, a, s, p, w, hz, fun b => (g b).trans (hD b)⟩
theorem RxC.max {h : Heap} {col : Nat → Nat} {R : RR} {M : RM} (X : RxC h col R M) : M.N ≤ 16384 := Wd.RfS.max X.dk
theorem RxC.keep {h h' : Heap} {col : Nat → Nat} {R : RR} {M : RM} {G : Nat → Prop} (X : RxC h col R M) (f : Fr G h h') (hG : ∀ b, b < h.size → 1 ≤ col b → col b ≤ 4 → ¬ G b) : RxC h' col R M := by
  have c1 := X.rc
  have l1 := X.ro.lt
  have g1 := hG _ l1 (by omega) (by omega)
  exact ⟨fun b hb => X.nrm b (Nat.le_trans f.size hb), c1, f.own l1 g1 X.ro, (f.rd l1 g1).trans X.rr,
    X.dk.fr f (fun b hb => hG b (X.dk.lt hb) (by have hb : col b = 3 := hb; omega) (by have hb : col b = 3 := hb; omega)), X.row.fr f (fun b hb e => hG b hb (by have e : col b = 4 := e; omega) (by have e : col b = 4 := e; omega)), X.rm⟩
theorem Rx.fr {h h' : Heap} {F G : Nat → Prop} {r e : Option Addr} {M : RM} (x : Rx h F r e M) (f : Fr G h h') (hG : ∀ b, F b → ¬ G b) : Rx h' F r e M := by
  obtain ⟨col, R, e1, e2, X, hF⟩ := x
  exact ⟨col, R, e1, e2, X.keep f fun b _ h1 h2 => hG b ((hF b).mpr ⟨h1, h2⟩), hF⟩
theorem Rx.lt {h : Heap} {F : Nat → Prop} {r e : Option Addr} {M : RM} (x : Rx h F r e M) {b : Nat} (hb : F b) : b < h.size := by
  obtain ⟨col, R, e1, e2, X, hF⟩ := x
  rcases Nat.lt_or_ge b h.size with y | y
  · exact y
  · have := X.nrm b y; have := (hF b).mp hb; omega
theorem sl_rng {h : Heap} {ec l c : Nat} {a : Option Addr} {xs : List Value} {F : Nat → Prop} (s : Sl h ec a l c xs F) : Sl h ec a l c xs (fun b => F b ∧ b < h.size) := by
  obtain ⟨h1, h2⟩ := s
  refine ⟨h1, ?_⟩
  cases a with
  | none => exact h2
  | some p => exact ⟨h2.1, ⟨h2.2.1, h2.2.2.1.lt⟩, h2.2.2.1, h2.2.2.2.1, h2.2.2.2.2⟩
theorem Begin_spec {h : Heap} {D : Nat → Prop} {q : Option Addr} {S : RD} {K : Value → Heap → Prop} (x : Rf.RfS h D q S)
    (hK : ∀ F h', Fr No h h' → Rx h' F (some ⟨h.size, 0, none⟩) q ⟨S, [], false⟩ → (∀ b, F b ↔ D b ∨ b = h.size) → K (.pointer (some ⟨h.size, 0, none⟩)) h') : C.boleref06_Begin q h K := by
  have l := fun b (hb : D b) => x.lt hb
  refine boleref06_Begin.ok (New.intro fun h2 n2 => ?_)
  have z := n2.size
  obtain ⟨col, c1, c3, c4⟩ : ∃ col : Nat → Nat, col h.size = 1 ∧ (∀ b, D b → col b = 3) ∧ ∀ b, ¬ D b → b ≠ h.size → col b = 0 :=
    ⟨fun b => if b = h.size then 1 else @ite _ (D b) (Classical.propDecidable _) 3 0, if_pos rfl,
      (fun b hb => by have := l b hb; show (if b = h.size then 1 else @ite _ (D b) (Classical.propDecidable _) 3 0) = 3; rw [if_neg (by omega), if_pos hb]), (fun b hb hne => by show (if b = h.size then 1 else @ite _ (D b) (Classical.propDecidable _) 3 0) = 0; rw [if_neg hne, if_neg hb])⟩
  refine hK (fun b => 1 ≤ col b ∧ col b ≤ 4) h2 n2.fr ⟨col, ⟨h.size, q, none, 0⟩, rfl, rfl, ⟨fun b hb => c4 b (fun y => by have := l b y; omega) (by omega), c1, n2.own, n2.rd, iffS (x.no n2.fr) fun b => ⟨fun e => ?_, c3 b⟩, Sl.nil _ _ _, Nat.zero_le _⟩, fun b => Iff.rfl⟩ fun b => ⟨fun hb => ?_, fun hb => ?_⟩
  · refine Classical.byContradiction fun y => ?_
    have e : col b = 3 := e
    by_cases y2 : b = h.size
    · rw [y2] at e; omega
    · have := c4 b y y2; omega
  · by_cases y : D b
    · exact .inl y
    · refine .inr (Classical.byContradiction fun ne => ?_)
      have := c4 b y ne; omega
  · rcases hb with y | rfl
    · have := c3 b y; omega
    · omega
theorem RxC.dcell {h : Heap} {col : Nat → Nat} {R : RR} {M : RM} (X : RxC h col R M) {j : Nat} (hj : j < M.row.length) : ∃ p, R.ra = some p ∧ Cells h (p.add (j * 2)) (dcell M.row[j]) := by
  obtain ⟨p, ep, cc⟩ := X.row.get (by omega)
  refine ⟨p, ep, ?_⟩
  have := Cells.take (Cells.drop cc (j * 2)) 2
  rw [flat_part Rx.dcell 2 M.row (fun x _ => rfl) j hj] at this
  exact this
theorem Blocks_spec {h : Heap} {col : Nat → Nat} {R : RR} {M : RM} {K : Value → Heap → Prop} (X : RxC h col R M) (hK : K (.int .i64 M.N) h) : C.boleref03_Disk_Blocks R.q h K := X.dk.blocks hK
def AtR (row : List (Int × Txt)) (i : Int) (a : Int) : Prop := (a = -1 ∧ lget row i = none) ∨ ∃ k : Nat, ∃ hk : k < row.length, a = k ∧ lget row i = some row[k].2
theorem put_spec {h : Heap} {col : Nat → Nat} {R : RR} {M : RM} {i : Int} {K : Value → Heap → Prop} (X : RxC h col R M) (hK : ∀ a, AtR M.row i a → K (.int .i64 a) h) : C.boleref06_Txn_put (some ⟨R.rb, 0, none⟩) i h K := by
  have rm := X.rm
  refine boleref06_Txn_put.ok ⟨fun a k hh => ∃ j : Nat, k = j ∧ j ≤ M.row.length ∧ h = hh ∧ ((a = -1 ∧ lget (M.row.take j) i = none) ∨ ∃ k : Nat, ∃ hk : k < M.row.length, a = k ∧ lget (M.row.take j) i = some M.row[k].2), fun _ k _ => ((M.row.length : Int) - k).toNat,
    ⟨0, rfl, Nat.zero_le _, rfl, .inl ⟨rfl, rfl⟩⟩, ?_⟩
  rintro a k _ ⟨j, rfl, hj, rfl, ha⟩
  refine os ⟨_, _, _, rda X.rr rfl, cd (fun hl => ?_) fun hl => ?_⟩
  · have hl' : j < M.row.length := by omega
    obtain ⟨p, ep, cc⟩ := X.dcell hl'
    refine os ⟨_, _, _, rda X.rr rfl, ⟨by omega, hl⟩, oe ep ⟨_, Cells.cell cc rfl, ?_⟩⟩
    have es : lget (M.row.take (j + 1)) i = if M.row[j].1 = i then some M.row[j].2 else lget (M.row.take j) i := by rw [take_snoc _ _ hl', lget_snoc]
    have ew : IntKind.wrap .i64 ((j : Int) + 1) = ((j + 1 : Nat) : Int) := by rw [wrap_i64 (by omega) (by omega)]; omega
    rw [ew]
    refine ce (fun e => ⟨⟨j + 1, rfl, hl', rfl, .inr ⟨j, hl', rfl, by rw [es, if_pos e]⟩⟩, (by show ((M.row.length : Int) - ((j + 1 : Nat) : Int)).toNat < ((M.row.length : Int) - (j : Int)).toNat; omega)⟩) fun e => ⟨⟨j + 1, rfl, hl', rfl, ?_⟩, (by show ((M.row.length : Int) - ((j + 1 : Nat) : Int)).toNat < ((M.row.length : Int) - (j : Int)).toNat; omega)⟩
    rw [es, if_neg e]; exact ha
  · have e : j = M.row.length := by omega
    subst e
    rw [List.take_length] at ha
    exact hK a ha
theorem AtR.neg {row : List (Int × Txt)} {i a : Int} (x : AtR row i a) : a < 0 ↔ lget row i = none := by
  rcases x with ⟨rfl, e⟩ | ⟨k, hk, rfl, e⟩
  · exact ⟨fun _ => e, fun _ => by decide⟩
  · exact ⟨fun y => by omega, fun y => by rw [y] at e; cases e⟩
theorem dRead_spec {h : Heap} {col : Nat → Nat} {R : RR} {M : RM} {i : Int} {K : Value → Heap → Prop} (X : RxC h col R M) (h0 : 0 ≤ i) (h1 : i < M.N)
    (hK : ∀ a l c h', Fr No h h' → l = (if M.disk.down = true then ([] : Txt) else readAt M.disk i.toNat).length → Sl h' 1 a l c ((if M.disk.down = true then ([] : Txt) else readAt M.disk i.toNat).map bv) (From h.size) → K (.tuple #[.slice a l c, .int .i64 (if M.disk.down = true then 30 else 0)]) h') :
    C.boleref03_Disk_Read R.q i h K := by
  refine X.dk.read (fun ho => ?_) (fun _ y => absurd ⟨h0, h1⟩ y) fun ho _ _ a l c h' f s => ?_
  · rw [ho] at hK
    exact hK none 0 0 h (Fr.refl _ _) rfl (Sl.nil _ _ _)
  · rw [ho, if_neg (by simp), if_neg (by simp)] at hK
    exact hK a l c h' f (by have := s.1; rw [List.length_map] at this; omega) s
theorem Read_rspec {h : Heap} {F : Nat → Prop} {r e : Option Addr} {M : RM} {i : Int} {K : Value → Heap → Prop} (x : Rx h F r e M)
    (hK : ∀ a l c h', Fr No h h' → l = (M.read i).1.length → Sl h' 1 a l c ((M.read i).1.map bv) (From h.size) → K (.tuple #[.slice a l c, .int .i64 (M.read i).2]) h') : C.boleref06_Txn_Read r i h K := by
  obtain ⟨col, R, rfl, rfl, X, hF⟩ := x
  have bad : ∀ e, M.read i = ([], e) → K (.tuple #[.slice none 0 0, .int .i64 e]) h := fun e h2 => by
    rw [h2] at hK
    exact hK none 0 0 h (Fr.refl _ _) rfl (Sl.nil _ _ _)
  refine boleref06_Txn_Read.ok (os ⟨_, rda X.rr rfl, ?_⟩)
  cases he : M.ends with
  | true => exact ct rfl (bad _ (by unfold RM.read; rw [if_pos he]))
  | false =>
    have e0 : M.read i = if i < 0 ∨ i ≥ M.N then (([], 31) : Txt × Int) else match lget M.row i with
      | some b => (b, 0)
      | none => if M.disk.down = true then ([], 30) else (readAt M.disk i.toNat, 0) := by unfold RM.read; rw [if_neg (by rw [he]; simp)] <;> rfl
    refine cf rfl (cd (fun y => bad _ (by rw [e0, if_pos (.inl y)])) fun y0 => os ⟨_, rda X.rr rfl, Blocks_spec X ⟨_, rfl, cd (fun y => bad _ (by rw [e0, if_pos (.inr y)])) fun y1 => ?_⟩⟩)
    rw [if_neg (by omega)] at e0
    unfold boleref06_Txn_Read.k1
    refine put_spec X fun a ha => ⟨_, rfl, cd (fun y => ?_) fun y => ?_⟩
    · rcases ha with ⟨rfl, _⟩ | ⟨k, hk, rfl, eg⟩
      · exact absurd y (by decide)
      · rw [eg] at e0
        simp only at e0
        rw [e0] at hK
        obtain ⟨p, ep, cc⟩ := X.dcell hk
        refine os ⟨_, _, _, rda X.rr rfl, ⟨by omega, by omega⟩, oe ep ⟨_, Cells.cell cc rfl, newS_intro fun cap h5 f5 s5 => ?_⟩⟩
        exact hK _ _ cap h5 f5 rfl (s5.mono fun b hb => by have hb : b = h.size := hb; show h.size ≤ b; omega)
    · have eg : lget M.row i = none := ha.neg.mp (by omega)
      rw [eg] at e0
      simp only at e0
      refine os ⟨_, rda X.rr rfl, dRead_spec X (by omega) (by omega) fun a l c h6 f6 hl s6 => ⟨_, _, _, _, rfl, ?_⟩⟩
      rw [e0] at hK
      cases ho : M.disk.down with
      | true => rw [ho] at hK hl s6; exact hK a l c h6 f6 hl s6
      | false => rw [ho] at hK hl s6; exact hK a l c h6 f6 hl s6
theorem Mark_rspec {h : Heap} {F : Nat → Prop} {r e : Option Addr} {M : RM} {K : Value → Heap → Prop} (x : Rx h F r e M)
    (hK : K (.tuple #[.int .i64 (if M.ends = true then ((0 : Int), (61 : Int)) else ((M.row.length : Int), 0)).1, .int .i64 (if M.ends = true then ((0 : Int), (61 : Int)) else ((M.row.length : Int), 0)).2]) h) : C.boleref06_Txn_Mark r h K := by
  obtain ⟨col, R, rfl, rfl, X, hF⟩ := x
  refine boleref06_Txn_Mark.ok (os ⟨_, rda X.rr rfl, ?_⟩)
  cases he : M.ends with
  | true => rw [he] at hK; exact ct rfl hK
  | false => rw [he] at hK; exact cf rfl (os ⟨_, _, _, rda X.rr rfl, hK⟩)
end Go.Proofs.YtjdcbblgaoogmaaGreatDoor.Rx
namespace Go.Proofs.YtjdcbblgaoogmaaGreatDoor.Rx
open Go Go.Proofs Go.Proofs.YtjdcbblgaoogmaaGreatDoor.Wx Go.Proofs.YtjdcbblgaoogmaaGreatDoor.Hp Go.Proofs.YtjdcbblgaoogmaaGreatDoor.W Go.Proofs.YtjdcbblgaoogmaaGreatDoor.Ad Go.Proofs.YtjdcbblgaoogmaaGreatDoor.Tm Go.Proofs.YtjdcbblgaoogmaaGreatDoor.Spc Go.Proofs.YtjdcbblgaoogmaaGreatDoor.Re
theorem app_from {elem : TI} {e : Nat} {a : Option Addr} {l c n : Nat} {xs new : List Value} {h0 h : Heap} {k : Option Addr → Nat → Nat → Heap → Prop} (f : Fr No h0 h)
    (s : Sl h elem.cells a l c xs (From h0.size)) (hn : new.length = n * elem.cells) (hz : elem.zero.length = elem.cells) (hb : (l + n) * elem.bytes ≤ 140737488355328) (hb' : l + n ≤ 140737488355328)
    (hk : ∀ a' c' h', Fr No h0 h' → Sl h' elem.cells a' (l + n) c' (xs ++ new) (From h0.size) → k a' (l + n) c' h') :
    AppendP elem e a l c n new h k := by
  have hs := f.size
  refine append_own s hn hz hb hb' fun a' c' h' f' s' => hk a' c' h' (f.trans f' fun b hb e => by have : h0.size ≤ b := e; omega) (s'.mono fun b hb => ?_)
  rcases hb with hb | hb
  · exact hb
  · show h0.size ≤ b; omega
theorem Written_xspec {h : Heap} {col : Nat → Nat} {R : RR} {M : RM} {K : Value → Heap → Prop} (X : RxC h col R M)
    (hK : ∀ a c h', Fr No h h' → Sl h' 1 a M.written.length c (M.written.map (.int .i64)) (From h.size) → K (.slice a M.written.length c) h') : C.boleref06_Txn_Written (some ⟨R.rb, 0, none⟩) h K := by
  have hNm := X.max
  refine boleref06_Txn_Written.ok ⟨fun a l c i hh => ∃ j : Nat, i = ((98 + j : Nat) : Int) ∧ j ≤ M.N - 98 ∧ Fr No h hh ∧ l = (keysTo M j).length ∧ Sl hh 1 a l c ((keysTo M j).map (.int .i64)) (From h.size) ∧ ((M.ends = true ∨ M.row = []) → keysTo M j = [] ∧ (M.ends = true → j = 0)), fun _ _ _ i _ => ((M.N : Int) - i).toNat,
    ⟨0, rfl, Nat.zero_le _, Fr.refl _ _, rfl, Sl.nil _ _ _, fun _ => ⟨rfl, fun _ => rfl⟩⟩, ?_⟩
  rintro a l c i h2 ⟨j, rfl, hj, f2, rfl, s2, hz⟩
  have X2 := X.keep f2 fun _ _ _ _ y => y
  have fin : M.written = keysTo M j → K (.slice a (keysTo M j).length c) h2 := fun e => by
    rw [e] at hK; exact hK a c h2 f2 s2
  refine os ⟨_, rda X2.rr rfl, Blocks_spec X2 ⟨_, rfl, cd (fun hl => os ⟨_, rda X2.rr rfl, cnot ?_⟩) fun hl => fin ?_⟩⟩
  · cases he : M.ends with
    | true => exact ct rfl (fin (by unfold RM.written; rw [if_pos he, (hz (.inl he)).1]))
    | false =>
      refine cf rfl (os ⟨_, _, _, rda X2.rr rfl, cd (fun hr => ?_) fun hr => fin ?_⟩)
      · unfold boleref06_Txn_Written.k1
        have ew : IntKind.wrap .i64 (((98 + j : Nat) : Int) + 1) = ((98 + (j + 1) : Nat) : Int) := by rw [wrap_i64 (by omega) (by omega)]; omega
        have es := keysTo_succ M j
        have me : ((M.N : Int) - ((98 + (j + 1) : Nat) : Int)).toNat < ((M.N : Int) - ((98 + j : Nat) : Int)).toNat := by omega
        have hne : ¬ (false = true ∨ M.row = []) := by
          rintro (y | y)
          · cases y
          · rw [y] at hr; exact absurd hr (by decide)
        refine put_spec X2 fun n2 ha => ⟨_, rfl, ?_⟩
        rw [ew]
        refine cd (fun y => ?_) fun y => ?_
        · have hs : (lget M.row ((98 + j : Nat) : Int)).isSome = true := by
            cases e : lget M.row ((98 + j : Nat) : Int) with
            | some b => rfl
            | none => have := ha.neg.mpr e; omega
          rw [if_pos hs] at es
          have hkl : (keysTo M j).length ≤ j := by
            have : (keysTo M j).length ≤ (List.range' 98 j).length := by unfold keysTo; rw [List.length_map]; exact List.length_filter_le ..
            rw [List.length_range'] at this; exact this
          refine New.intro fun h6 n6 => ⟨[.int .i64 ((98 + j : Nat) : Int)], rfl, cellsAll n6.rd, (fun v hv => by rw [List.mem_singleton.mp hv]; rfl), ?_⟩
          refine app_from (f2.new n6) (s2.fr n6.fr fun _ _ _ y => y) rfl rfl (by show (_ + 1) * 8 ≤ _; omega) (by omega) fun a' c' h7 f7 s7 => ⟨⟨j + 1, rfl, by omega, f7, by rw [es, List.length_append]; rfl, ?_, fun y => absurd y hne⟩, me⟩
          rw [es, List.map_append]; exact s7
        · have hs : ¬ (lget M.row ((98 + j : Nat) : Int)).isSome = true := by
            rw [ha.neg.mp (by omega)]; simp
          rw [if_neg hs, List.append_nil] at es
          exact ⟨⟨j + 1, rfl, by omega, f2, by rw [es], by rw [es]; exact s2, fun y => absurd y hne⟩, me⟩
      · have er : M.row = [] := by
          cases e : M.row with
          | nil => rfl
          | cons p r => rw [e] at hr; exact absurd (show (0 : Int) < ((r.length + 1 : Nat) : Int) by omega) hr
        have all : ∀ k, keysTo M k = [] := fun k => by
          cases e : keysTo M k with
          | nil => rfl
          | cons x r =>
            have : x ∈ keysTo M k := by rw [e]; exact List.mem_cons_self ..
            rw [mem_keysTo, er] at this
            exact absurd this.2.2 (by simp [lget])
        unfold RM.written
        rw [if_neg (by rw [he]; simp), all, all]
  · have ej : j = M.N - 98 := by omega
    unfold RM.written
    cases he : M.ends with
    | true => rw [if_pos rfl, (hz (.inl he)).1]
    | false => rw [if_neg (by simp), ej]
theorem Write_rspec {h : Heap} {F : Nat → Prop} {r e : Option Addr} {M : RM} {i : Int} {a : Option Addr} {l c : Nat} {bs : Txt} {K : Value → Heap → Prop} (x : Rx h F r e M) (B : StrAt h a l bs) (hu : M.ends = false → M.row.length < 1000000000)
    (hK : ∀ h' F', Fr F h h' → Gw h F h' F' → Rx h' F' r e (M.write i bs).1 → K (.int .i64 (M.write i bs).2) h') : C.boleref06_Txn_Write r i a l c h K := by
  have hlt := fun b hb => x.lt (b := b) hb
  obtain ⟨col, R, rfl, rfl, X, hF⟩ := x
  have bad : ∀ e h', Fr No h h' → M.write i bs = (M, e) → K (.int .i64 e) h' := fun e h' f h2 => by
    rw [h2] at hK
    exact hK h' F (f.mono fun _ _ y => y.elim) (Gw.refl f.size hlt) ⟨col, R, rfl, rfl, X.keep f fun _ _ _ _ y => y, hF⟩
  refine boleref06_Txn_Write.ok (os ⟨_, rda X.rr rfl, ?_⟩)
  cases he : M.ends with
  | true => exact ct rfl (bad _ h (Fr.refl _ _) (by unfold RM.write; rw [if_pos he]))
  | false =>
  have hu := hu he
  have e0 : M.write i bs = if i < 98 ∨ i ≥ M.N then (M, 31) else if bs.length ≠ 512 then (M, 32) else if lget M.row i = none ∧ M.written.length ≥ 96 then (M, 60) else ({ M with row := M.row ++ [(i, bs)] }, 0) := by unfold RM.write; rw [if_neg (by rw [he]; simp)]
  refine cf rfl (cd (fun y => bad _ h (Fr.refl _ _) (by rw [e0, if_pos (.inl y)])) fun y0 => os ⟨_, rda X.rr rfl, Blocks_spec X ⟨_, rfl, cd (fun y => bad _ h (Fr.refl _ _) (by rw [e0, if_pos (.inr y)])) fun y1 => ?_⟩⟩)
  rw [if_neg (by omega)] at e0
  have hbl := B.1
  unfold boleref06_Txn_Write.k1
  refine cn (fun y => bad _ h (Fr.refl _ _) (by rw [e0, if_pos (by omega)])) fun y => ?_
  rw [if_neg (by omega)] at e0
  refine put_spec X fun n2 ha => ⟨_, rfl, Written_xspec X fun wa wc h5 f5 sw => ⟨_, _, _, rfl, ?_⟩⟩
  have fin : ¬ (lget M.row i = none ∧ M.written.length ≥ 96) → boleref06_Txn_Write.k2 (some ⟨R.rb, 0, none⟩) i a l h5 K := fun hno => by
    rw [if_neg hno] at e0
    rw [e0] at hK
    have X5 := X.keep f5 fun _ _ _ _ y => y
    have z5 := f5.size
    have c1 := X.rc
    have hm := X.rm
    unfold boleref06_Txn_Write.k2
    refine os ⟨_, _, _, rda X5.rr rfl, bs, StrAt.fr f5 B fun _ _ y => y, rfl, New.intro fun h6 n6 => ⟨rda ((n6.at_ X5.ro.lt).trans X5.rr) rfl, dcell (i, bs), rfl, cellsAll n6.rd, dcell_one _, ?_⟩⟩
    have z6 := n6.size
    have nb : ∀ b, h6.size ≤ b → col b = 0 := fun b hb => X5.nrm b (by omega)
    have s6 : Sl h6 2 R.ra M.row.length R.rc (M.row.flatMap dcell) (On col 4) := X5.row.fr n6.fr fun _ _ _ y => y
    refine append_col (elem := ti190) s6 rfl rfl (by show (_ + 1) * 24 ≤ _; omega) (by omega) fun a' c' h7 f7 s7 => ?_
    have z7 := f7.size
    have l1 : R.rb < h6.size := by have := X5.ro.lt; omega
    have k1 : ¬ On col 4 R.rb := fun y => by have y : col R.rb = 4 := y; omega
    have o7 : Own h7 R.rb := f7.own l1 k1 (n6.ow X5.ro)
    have r7 : rd h7 R.rb = [.pointer R.q, .slice R.ra M.row.length R.rc, .bool M.ends] := (f7.rd l1 k1).trans ((n6.at_ X5.ro.lt).trans X5.rr)
    refine os (Put.add o7 (by rw [r7]; show 0 + 1 < 3; omega) fun h8 d8 => ?_)
    have z8 := d8.size
    obtain ⟨cl, ecl⟩ : ∃ cl, cl = trim (upd col h6.size 4) h7.size := ⟨_, rfl⟩
    have old : ∀ b, b < h6.size → cl b = col b := fun b hb => by rw [ecl, trim_lt (by omega), upd_lt hb]
    have new : ∀ b, h6.size ≤ b → b < h7.size → cl b = 4 := fun b h1 h2 => by rw [ecl, trim_lt h2, upd_ge h1]
    have top : ∀ b, h7.size ≤ b → cl b = 0 := fun b h1 => by rw [ecl, trim_ge h1]
    have f8 : Fr F h h8 := by
      have fa : Fr F h h6 := (f5.mono fun _ _ y => y.elim).new n6
      refine (fa.trans f7 fun b hb y => (hF b).mpr ?_).did d8 fun _ => (hF _).mpr ⟨by omega, by omega⟩
      have y : col b = 4 := y
      omega
    refine hK h8 (fun b => 1 ≤ cl b ∧ cl b ≤ 4) f8 ⟨fun b hb => by show 1 ≤ cl b ∧ cl b ≤ 4 ↔ F b; rw [old b (by omega), hF b], fun b hb => ?_⟩ ⟨cl, { R with ra := a', rc := c' }, rfl, rfl,
      ⟨fun b hb => top b (by omega), (old _ l1).trans c1, d8.own, ?_, ?_, ?_, ?_⟩, fun b => Iff.rfl⟩
    · rcases Nat.lt_or_ge b h7.size with y | y
      · omega
      · have := top b y; have hb : 1 ≤ cl b ∧ cl b ≤ 4 := hb; omega
    · show rd h8 R.rb = [.pointer R.q, .slice a' (M.row ++ [(i, bs)]).length c', .bool M.ends]
      rw [d8.rd, r7, List.length_append]; rfl
    · have x7 := (X5.dk.no n6.fr).fr f7 fun b y y2 => by have y : col b = 3 := y; have y2 : col b = 4 := y2; omega
      have x8 := x7.fr d8.fr fun b y y2 => by have y : col b = 3 := y; have y2 : b = R.rb := y2; rw [y2] at y; omega
      refine iffS x8 fun b => ?_
      show cl b = 3 ↔ col b = 3
      rcases Nat.lt_or_ge b h6.size with y | y
      · rw [old b y]
      · have e := nb b y
        rcases Nat.lt_or_ge b h7.size with y2 | y2
        · rw [new b y y2, e]; omega
        · rw [top b y2, e]
    · have e2 : (M.row ++ [(i, bs)]).flatMap dcell = M.row.flatMap dcell ++ dcell (i, bs) := by rw [List.flatMap_append]; rfl
      show Sl h8 2 a' (M.row ++ [(i, bs)]).length c' ((M.row ++ [(i, bs)]).flatMap dcell) (On cl 4)
      rw [e2, List.length_append]
      have s8 := (sl_rng s7).fr d8.fr fun b _ y y2 => by
        have y2 : b = R.rb := y2
        have y := y.1
        have y : upd col h6.size 4 b = 4 := y
        rw [y2, upd_lt l1] at y; omega
      refine s8.mono fun b hb => ?_
      have h1 : upd col h6.size 4 b = 4 := hb.1
      show cl b = 4
      rw [ecl, trim_lt hb.2]; exact h1
    · show (M.row ++ [(i, bs)]).length ≤ _
      rw [List.length_append]; show M.row.length + 1 ≤ _; omega
  refine cd (fun y => cd (fun y2 => bad _ h5 f5 ?_) fun y2 => fin ?_) fun y => fin ?_
  · rw [e0, if_pos ⟨ha.neg.mp y, by omega⟩]
  · rintro ⟨_, y3⟩; omega
  · rintro ⟨y3, _⟩; exact y (ha.neg.mpr y3)
theorem Back_rspec {h : Heap} {F : Nat → Prop} {r e : Option Addr} {M : RM} {m : Int} {K : Value → Heap → Prop} (x : Rx h F r e M)
    (hK : ∀ h' F', Fr F h h' → Gw h F h' F' → Rx h' F' r e (M.back m).1 → K (.int .i64 (M.back m).2) h') : C.boleref06_Txn_Back r m h K := by
  have hlt := fun b hb => x.lt (b := b) hb
  obtain ⟨col, R, rfl, rfl, X, hF⟩ := x
  have bad : ∀ e, M.back m = (M, e) → K (.int .i64 e) h := fun e h2 => by
    rw [h2] at hK
    exact hK h F (Fr.refl _ _) (Gw.refl (Nat.le_refl _) hlt) ⟨col, R, rfl, rfl, X, hF⟩
  refine boleref06_Txn_Back.ok (os ⟨_, rda X.rr rfl, ?_⟩)
  cases he : M.ends with
  | true => exact ct rfl (bad _ (by unfold RM.back; rw [if_pos he]))
  | false =>
  have e0 : M.back m = if m < 0 ∨ m > M.row.length then (M, 62) else ({ M with row := M.row.take m.toNat }, 0) := by unfold RM.back; rw [if_neg (by rw [he]; simp)]
  refine cf rfl (cd (fun y => bad _ (by rw [e0, if_pos (.inl y)])) fun y0 => os ⟨_, _, _, rda X.rr rfl, cd (fun y => bad _ (by rw [e0, if_pos (.inr y)])) fun y1 => ?_⟩)
  rw [if_neg (by omega)] at e0
  rw [e0] at hK
  have c1 := X.rc
  have hm := X.rm
  have cap := X.row.le
  have lt : (M.row.take m.toNat).length = m.toNat := by rw [List.length_take]; omega
  have l2 := flat_length dcell 2 (M.row.take m.toNat) fun _ _ => rfl
  unfold boleref06_Txn_Back.k1
  refine os ⟨_, _, _, rda X.rr rfl, ⟨by omega, by omega⟩, (M.row.take m.toNat).flatMap dcell, by rw [l2, lt], ?_, fun v hv => ?_, ?_⟩
  · have := SlCells.take X.row.cells (m.toNat * 2)
    rw [show (M.row.flatMap dcell).take (m.toNat * 2) = (M.row.take m.toNat).flatMap dcell from ?_] at this
    · exact this
    · have e1 : M.row.flatMap dcell = (M.row.take m.toNat).flatMap dcell ++ (M.row.drop m.toNat).flatMap dcell := by rw [← List.flatMap_append, List.take_append_drop]
      rw [e1, show m.toNat * 2 = ((M.row.take m.toNat).flatMap dcell).length by rw [l2, lt], List.take_left]
  · obtain ⟨p, _, hp⟩ := List.mem_flatMap.mp hv
    exact dcell_one p v hp
  refine append_nil (elem := ti190) (by rw [l2, lt]; rfl) rfl (by show _ * 24 ≤ _; omega) (by omega) fun a' c' h2 f2 s2 => ?_
  have z2 := f2.size
  have X2 := X.keep f2 fun _ _ _ _ y => y
  refine os (Put.add X2.ro (by rw [X2.rr]; show 0 + 1 < 3; omega) fun h3 d3 => ?_)
  have z3 := d3.size
  have r1 := X.ro.lt
  obtain ⟨cl, ecl⟩ : ∃ cl : Nat → Nat, cl = fun b => if b < h.size then (if col b = 4 then 2 else col b) else if b < h2.size then 4 else 0 := ⟨_, rfl⟩
  have old : ∀ b, b < h.size → cl b = if col b = 4 then 2 else col b := fun b hb => by rw [ecl]; show (if b < h.size then _ else _) = _; rw [if_pos hb]
  have new : ∀ b, h.size ≤ b → b < h2.size → cl b = 4 := fun b h1 h2' => by rw [ecl]; show (if b < h.size then _ else if b < h2.size then 4 else 0) = _; rw [if_neg (by omega), if_pos h2']
  have top : ∀ b, h2.size ≤ b → cl b = 0 := fun b h1 => by rw [ecl]; show (if b < h.size then _ else if b < h2.size then 4 else 0) = _; rw [if_neg (by omega), if_neg (by omega)]
  refine hK h3 (fun b => 1 ≤ cl b ∧ cl b ≤ 4) ((f2.mono fun _ _ y => y.elim).did d3 fun _ => (hF _).mpr ⟨by omega, by omega⟩) ⟨fun b hb => ?_, fun b hb => ?_⟩ ⟨cl, { R with ra := a', rc := c' }, rfl, rfl,
    ⟨fun b hb => top b (by omega), ?_, d3.own, ?_, ?_, ?_, ?_⟩, fun b => Iff.rfl⟩
  · show 1 ≤ cl b ∧ cl b ≤ 4 ↔ F b
    rw [old b hb, hF b]
    split <;> omega
  · have hb : 1 ≤ cl b ∧ cl b ≤ 4 := hb
    rcases Nat.lt_or_ge b h2.size with y | y
    · omega
    · have := top b y; omega
  · show cl R.rb = 1
    rw [old _ r1, if_neg (by omega)]; exact c1
  · show rd h3 R.rb = [.pointer R.q, .slice a' (M.row.take m.toNat).length c', .bool M.ends]
    rw [d3.rd, X2.rr, lt]; rfl
  · have x3 := X2.dk.fr d3.fr fun b y y2 => by have y : col b = 3 := y; have y2 : b = R.rb := y2; rw [y2] at y; omega
    refine iffS x3 fun b => ?_
    show cl b = 3 ↔ col b = 3
    rcases Nat.lt_or_ge b h.size with y | y
    · rw [old b y]; split <;> omega
    · have e := X.nrm b y
      rcases Nat.lt_or_ge b h2.size with y2 | y2
      · rw [new b y y2, e]; omega
      · rw [top b y2, e]
  · have s3 := (sl_rng s2).fr d3.fr fun b _ y y2 => by have y : h.size ≤ b := y.1; have y2 : b = R.rb := y2; omega
    show Sl h3 2 a' (M.row.take m.toNat).length c' ((M.row.take m.toNat).flatMap dcell) (On cl 4)
    rw [lt]
    exact s3.mono fun b hb => new b hb.1 hb.2
  · show (M.row.take m.toNat).length ≤ _
    omega
def RxS (h : Heap) (F : Nat → Prop) (r e : Option Addr) (T : TM) : Prop := ∃ M, Sim T M ∧ Rx h F r e M
theorem RxS.fr {h h' : Heap} {F G : Nat → Prop} {r e : Option Addr} {T : TM} (x : RxS h F r e T) (f : Fr G h h') (hG : ∀ b, F b → ¬ G b) : RxS h' F r e T := by
  obtain ⟨M, s, x⟩ := x; exact ⟨M, s, x.fr f hG⟩
theorem RxS.no {h h' : Heap} {F : Nat → Prop} {r e : Option Addr} {T : TM} (x : RxS h F r e T) (f : Fr No h h') : RxS h' F r e T := x.fr f fun _ _ y => y
theorem RxS.lt {h : Heap} {F : Nat → Prop} {r e : Option Addr} {T : TM} (x : RxS h F r e T) {b : Nat} (hb : F b) : b < h.size := by
  obtain ⟨M, s, x⟩ := x; exact x.lt hb
theorem Read_spec {h : Heap} {F : Nat → Prop} {r e : Option Addr} {T : TM} {i : Int} {K : Value → Heap → Prop} (x : RxS h F r e T)
    (hK : ∀ a l c h', Fr No h h' → l = (T.read i).1.length → Sl h' 1 a l c ((T.read i).1.map bv) (From h.size) → K (.tuple #[.slice a l c, .int .i64 (T.read i).2]) h') : C.boleref06_Txn_Read r i h K := by
  obtain ⟨M, s, x⟩ := x
  rw [← s.read i] at hK
  exact Read_rspec x hK
theorem Write_spec0 {h : Heap} {F : Nat → Prop} {r e : Option Addr} {T : TM} {i : Int} {a : Option Addr} {l c : Nat} {bs : Txt} {K : Value → Heap → Prop} (x : RxS h F r e T) (B : StrAt h a l bs) (hu : T.undo.length < 1000000000)
    (hK : ∀ h' F', Fr F h h' → Gw h F h' F' → RxS h' F' r e (T.write i bs).1 → K (.int .i64 (T.write i bs).2) h') : C.boleref06_Txn_Write r i a l c h K := by
  obtain ⟨M, s, x⟩ := x
  have w := s.write i bs
  refine Write_rspec x B (fun he => by rw [← s.un (by rw [← s.ends]; exact he)]; exact hu) fun h' F' f g x' => ?_
  rw [w.1]
  exact hK h' F' f g ⟨_, w.2, x'⟩
theorem Write_spec {h : Heap} {F : Nat → Prop} {r e : Option Addr} {T : TM} {i : Int} {a : Option Addr} {l c : Nat} {bs : Txt} {K : Value → Heap → Prop} (x : RxS h F r e T) (_ : 98 ≤ T.N) (B : StrAt h a l bs) (hu : T.undo.length < 1000000000)
    (hK : ∀ h' F', Fr F h h' → Gw h F h' F' → RxS h' F' r e (T.write i bs).1 → K (.int .i64 (T.write i bs).2) h') : C.boleref06_Txn_Write r i a l c h K := Write_spec0 x B hu hK
theorem Written_spec0 {h : Heap} {F : Nat → Prop} {r e : Option Addr} {T : TM} {K : Value → Heap → Prop} (x : RxS h F r e T)
    (hK : ∀ a c h', Fr No h h' → Sl h' 1 a T.written.length c (T.written.map (.int .i64)) (From h.size) → K (.slice a T.written.length c) h') : C.boleref06_Txn_Written r h K := by
  obtain ⟨M, s, col, R, rfl, rfl, X, hF⟩ := x
  rw [s.written] at hK
  exact Written_xspec X hK
theorem Mark_spec {h : Heap} {F : Nat → Prop} {r e : Option Addr} {T : TM} {K : Value → Heap → Prop} (x : RxS h F r e T) (hK : K (.tuple #[.int .i64 T.mark.1, .int .i64 T.mark.2]) h) : C.boleref06_Txn_Mark r h K := by
  obtain ⟨M, s, x⟩ := x
  rw [← s.mark] at hK
  exact Mark_rspec x hK
theorem Back_spec {h : Heap} {F : Nat → Prop} {r e : Option Addr} {T : TM} {m : Int} {K : Value → Heap → Prop} (x : RxS h F r e T)
    (hK : ∀ h' F', Fr F h h' → Gw h F h' F' → RxS h' F' r e (T.back m).1 → K (.int .i64 (T.back m).2) h') : C.boleref06_Txn_Back r m h K := by
  obtain ⟨M, s, x⟩ := x
  have w := s.back m
  refine Back_rspec x fun h' F' f g x' => ?_
  rw [w.1]
  exact hK h' F' f g ⟨_, w.2, x'⟩
theorem RxS.readLen {h : Heap} {F : Nat → Prop} {r e : Option Addr} {T : TM} (x : RxS h F r e T) {i : Int} (e0 : (T.read i).2 = 0) : (T.read i).1.length = 512 := by
  obtain ⟨M, s, col, R, rfl, rfl, X, hF⟩ := x
  have hN := s.N
  rw [← s.read i] at e0 ⊢
  unfold RM.read at e0 ⊢
  split at e0
  · cases e0
  · rename_i h1
    rw [if_neg h1]
    split at e0
    · cases e0
    · rename_i h2
      rw [if_neg h2]
      cases eg : lget M.row i with
      | some b => exact (s.rr _ (lget_mem rfl eg)).2.2
      | none =>
        rw [eg] at e0
        simp only at e0 ⊢
        split at e0
        · cases e0
        · rename_i h3
          rw [if_neg h3]
          exact Wd.RfS.readLen X.dk (by simpa using h3) (by have e : M.N = M.disk.lasts.length := rfl; omega)
end Go.Proofs.YtjdcbblgaoogmaaGreatDoor.Rx
namespace Go.Proofs.YtjdcbblgaoogmaaGreatDoor.Rg
open Go Go.Proofs Go.Proofs.YtjdcbblgaoogmaaGreatDoor.Wx Go.Proofs.YtjdcbblgaoogmaaGreatDoor.Hp
theorem ycalls_mono {P : Program} {l : Nat} {args : List Value} {h : Heap} {k k' : Value → Heap → Prop} (y : YCalls P l args h k) (hk : ∀ v h', k v h' → k' v h') : YCalls P l args h k' :=
  fun w hw => by
    obtain ⟨fn, tmps, a, b, h1, h2⟩ := y w hw
    exact ⟨fn, tmps, a, b, h1, h2.mono fun _ _ ⟨v, e, r, x⟩ => ⟨v, e, r, hk v _ x⟩⟩
theorem loopOn_lt {h : Heap} {l : Nat} {R : Loop} {st : LoopState} {p : Option Code} (o : LoopOn h l R st p) : l < h.size := (Array.getElem?_eq_some_iff.mp o).1
theorem loopOn_fr {F : Nat → Prop} {h h' : Heap} {l : Nat} {R : Loop} {st : LoopState} {p : Option Code} (o : LoopOn h l R st p) (f : Fr F h h') (hF : ¬ F l) : LoopOn h' l R st p := (f.same l (loopOn_lt o) hF).trans o
theorem setLoop_size (h : Heap) (l : Nat) (R : Loop) (st : LoopState) (p : Option Code) : (setLoop h l R st p).size = h.size := by simp [setLoop]
theorem setLoop_fr (h : Heap) (l : Nat) (R : Loop) (st : LoopState) (p : Option Code) : Fr (fun b => b = l) h (setLoop h l R st p) :=
  ⟨by rw [setLoop_size]; exact Nat.le_refl _, fun b _ hb => by simp only [setLoop]; rw [Array.getElem?_setIfInBounds_ne fun e => hb e.symm]⟩
theorem setLoop_on {h : Heap} {l : Nat} (hl : l < h.size) (R : Loop) (st : LoopState) (p : Option Code) : LoopOn (setLoop h l R st p) l R st p := by
  simp [LoopOn, setLoop, hl]
/-- the record was written: what is known then -/
structure Turned (l : Nat) (R : Loop) (st : LoopState) (p : Option Code) (h h' : Heap) : Prop where
  size : h'.size = h.size
  fr : Fr (fun b => b = l) h h'
  on : LoopOn h' l R st p
theorem turned {h : Heap} {l : Nat} (hl : l < h.size) (R : Loop) (st : LoopState) (p : Option Code) : Turned l R st p h (setLoop h l R st p) := ⟨setLoop_size h l R st p, setLoop_fr h l R st p, setLoop_on hl R st p⟩
theorem setL_intro {h : Heap} {l : Nat} {R : Loop} {st : LoopState} {p : Option Code} {k : Heap → Prop} (hl : l < h.size) (H : ∀ h', Turned l R st p h h' → k h') : SetL h l R st p k := H _ (turned hl R st p)
theorem beginL_size (h : Heap) (R : Loop) : (beginL h R).size = h.size + 2 := by simp [beginL]
theorem beginL_fr (h : Heap) (R : Loop) : Fr No h (beginL h R) :=
  ⟨by rw [beginL_size]; omega, fun b hb _ => by simp only [beginL]; rw [Array.getElem?_push, if_neg (by rw [Array.size_push]; omega), Array.getElem?_push, if_neg (by omega)]⟩
theorem beginL_on (h : Heap) (R : Loop) : LoopOn (beginL h R) (h.size + 1) R .ready none := by
  simp only [LoopOn, beginL]
  rw [Array.getElem?_push, if_pos (by rw [Array.size_push])]
theorem beginL_d (h : Heap) (R : Loop) : (beginL h R)[h.size]? = some (.deferred (some [])) := by
  simp only [beginL]
  rw [Array.getElem?_push, if_neg (by rw [Array.size_push]; omega), Array.getElem?_push, if_pos rfl]
theorem endD_size (h : Heap) (b : Nat) : (endD h b).size = h.size := by simp [endD]
theorem endD_fr (h : Heap) (b : Nat) : Fr (fun x => x = b) h (endD h b) :=
  ⟨by rw [endD_size]; exact Nat.le_refl _, fun c _ hc => by simp only [endD]; rw [Array.getElem?_setIfInBounds_ne fun e => hc e.symm]⟩
theorem endD_intro {h : Heap} {b : Nat} {k : Heap → Prop} (hd : h[b]? = some (.deferred (some []))) (H : ∀ h', h'.size = h.size → Fr (fun x => x = b) h h' → k h') : EndD b h k := ⟨hd, H _ (endD_size h b) (endD_fr h b)⟩
theorem pend_none {n r : Prop} {e : Nat → Prop} (h : n) : pendX none n r e := h
theorem pend_ret {n r : Prop} {e : Nat → Prop} (h : r) : pendX (some .ret) n r e := h
end Go.Proofs.YtjdcbblgaoogmaaGreatDoor.Rg
namespace Go.Proofs.YtjdcbblgaoogmaaGreatDoor.Bt
open Go Go.Proofs Go.Proofs.YtjdcbblgaoogmaaGreatDoor.Wx Go.Proofs.YtjdcbblgaoogmaaGreatDoor.Hp Go.Proofs.YtjdcbblgaoogmaaGreatDoor.W Go.Proofs.YtjdcbblgaoogmaaGreatDoor.Rg
/-- a bit of a row of bytes -/
def bitAt (bs : List UInt8) (i : Nat) : Bool := (bs.getD (i / 8) 0).toNat.testBit (i % 8)
def setB (n s : Nat) (on : Bool) : Nat := if on = true then n ||| 2 ^ s else n &&& (255 - 2 ^ s)
/-- and that bit put -/
def putBit (bs : List UInt8) (i : Nat) (on : Bool) : List UInt8 := bs.set (i / 8) (UInt8.ofNat (setB (bs.getD (i / 8) 0).toNat (i % 8) on))
theorem bit_read : ∀ n : Fin 256, ∀ s : Fin 8, ((bitsI .and .u8 (Int.fdiv (n.val : Int) (2 ^ min (Int.toNat (s.val : Int)) 8)) 1) == 1) = n.val.testBit s.val := by decide +kernel
theorem bit_or : ∀ n : Fin 256, ∀ s : Fin 8, bitsI .or .u8 (n.val : Int) (IntKind.wrap .u8 (1 * 2 ^ min (Int.toNat (s.val : Int)) 8)) = (setB n.val s.val true : Nat) := by decide +kernel
theorem bit_not : ∀ n : Fin 256, ∀ s : Fin 8, bitsI .andNot .u8 (n.val : Int) (IntKind.wrap .u8 (1 * 2 ^ min (Int.toNat (s.val : Int)) 8)) = (setB n.val s.val false : Nat) := by decide +kernel
theorem setB_lt : ∀ n : Fin 256, ∀ s : Fin 8, setB n.val s.val true < 256 ∧ setB n.val s.val false < 256 := by decide +kernel
theorem setB_lt' {n s : Nat} (hn : n < 256) (hs : s < 8) (on : Bool) : setB n s on < 256 := by
  cases on
  · exact (setB_lt ⟨n, hn⟩ ⟨s, hs⟩).2
  · exact (setB_lt ⟨n, hn⟩ ⟨s, hs⟩).1
theorem sl_rng {h : Heap} {ec l c : Nat} {a : Option Addr} {xs : List Value} {F : Nat → Prop} (s : Sl h ec a l c xs F) : Sl h ec a l c xs (fun b => F b ∧ b < h.size) := by
  cases a with
  | none => exact ⟨s.1, s.2⟩
  | some p => exact ⟨s.1, s.2.1, ⟨s.2.2.1, s.lt⟩, s.2.2.2⟩
theorem tdiv8 (n : Nat) : Int.tdiv (n : Int) 8 = ((n / 8 : Nat) : Int) := rfl
theorem tmod8 (n : Nat) : Int.tmod (n : Int) 8 = ((n % 8 : Nat) : Int) := rfl
theorem has_spec {A : Option Addr} {l c : Nat} {i : Int} {h : Heap} {K : Value → Heap → Prop} (hl : l ≤ 1099511627776) (hK : K (.bool (decide (0 ≤ i ∧ i < 8 * l))) h) : C.bits_has A l c i h K := by
  refine bits_has.ok (cd (fun h0 => ?_) fun h0 => ?_)
  · rw [wrap_i64 (by omega) (by omega)]
    have : decide (0 ≤ i ∧ i < 8 * (l : Int)) = decide (i < 8 * (l : Int)) := by
      apply decide_eq_decide.mpr; constructor
      · exact fun x => x.2
      · exact fun x => ⟨h0, x⟩
    rw [this] at hK; exact hK
  · have : decide (0 ≤ i ∧ i < 8 * (l : Int)) = false := decide_eq_false fun x => h0 x.1
    rw [this] at hK; exact hK
theorem cell_at {h : Heap} {A : Option Addr} {l : Nat} {bs : List UInt8} (B : StrAt h A l bs) {j : Nat} (hj : j < bs.length) : ∃ p, A = some p ∧ cellOf h (p.add j) = some (bv (bs.getD j 0)) := by
  obtain ⟨B1, B2⟩ := B
  cases A with
  | none =>
    have B2 : bs.map bv = [] := B2
    rw [List.map_eq_nil_iff.mp B2] at hj; exact absurd hj (Nat.not_lt_zero _)
  | some p =>
    refine ⟨p, rfl, Cells.cell B2 ?_⟩
    rw [List.getElem?_map, List.getD_eq_getElem?_getD, List.getElem?_eq_getElem hj]; rfl
theorem oe {α : Type} {a : Option α} {p : α} {k : α → Prop} (e : a = some p) (h : k p) : onSome a k := by rw [e]; exact h
theorem on_spec {A : Option Addr} {l c i : Nat} {bs : List UInt8} {h : Heap} {K : Value → Heap → Prop} (B : StrAt h A l bs) (hl : l ≤ 1099511627776) (hi : i < 8 * l) (hK : K (.bool (bitAt bs i)) h) : C.bits_on A l c i h K := by
  have e := B.1
  obtain ⟨p, ep, hc⟩ := cell_at B (j := i / 8) (by omega)
  refine bits_on.ok ?_
  unfold bits_on
  rw [tdiv8, tmod8, wrap_i64 (by omega) (by omega)]
  refine ⟨⟨by omega, by omega⟩, oe ep ⟨_, hc, ?_⟩⟩
  rw [if_neg (by omega)]
  have := bit_read ⟨(bs.getD (i / 8) 0).toNat, UInt8.toNat_lt _⟩ ⟨i % 8, by omega⟩
  unfold bitAt at hK
  rw [← this] at hK
  exact hK
theorem Get_spec {A : Option Addr} {l c : Nat} {i : Int} {bs : List UInt8} {h : Heap} {K : Value → Heap → Prop} (B : StrAt h A l bs) (hl : l ≤ 1099511627776)
    (h1 : ¬ (0 ≤ i ∧ i < 8 * l) → K (.tuple #[.bool false, .int .i64 80]) h) (h2 : 0 ≤ i → i < 8 * l → K (.tuple #[.bool (bitAt bs i.toNat), .int .i64 0]) h) : C.bits_Get A l c i h K := by
  refine bits_Get.ok (has_spec hl ⟨_, rfl, cnot (cd (fun hi => ?_) h1)⟩)
  obtain ⟨n, rfl⟩ := Int.eq_ofNat_of_zero_le hi.1
  exact on_spec B hl (by omega) ⟨_, rfl, h2 hi.1 hi.2⟩
theorem map_set_bv (bs : List UInt8) (j : Nat) (x : UInt8) : put (bs.map bv) j [bv x] = (bs.set j x).map bv := by
  show (bs.map bv).set j (bv x) = _
  rw [List.map_set]
theorem Put_spec {b o l c : Nat} {i : Int} {on : Bool} {bs : List UInt8} {h : Heap} {F : Nat → Prop} {K : Value → Heap → Prop} (S : Sl h 1 (some ⟨b, o, none⟩) l c (bs.map bv) F) (hl : l ≤ 1099511627776)
    (h1 : ¬ (0 ≤ i ∧ i < 8 * l) → K (.int .i64 80) h) (h2 : 0 ≤ i → i < 8 * l → ∀ h', Fr (fun x => x = b) h h' → h'.size = h.size → Sl h' 1 (some ⟨b, o, none⟩) l c ((putBit bs i.toNat on).map bv) F → K (.int .i64 0) h') :
    C.bits_Put (some ⟨b, o, none⟩) l c i on h K := by
  refine bits_Put.ok (has_spec hl ⟨_, rfl, cnot (cd (fun hi => ?_) h1)⟩)
  obtain ⟨n, rfl⟩ := Int.eq_ofNat_of_zero_le hi.1
  have h2 := h2 hi.1 hi.2
  have B := S.str
  have e := B.1
  have hn : n / 8 < bs.length := by omega
  obtain ⟨p, ep, hc⟩ := cell_at B hn
  cases ep
  obtain ⟨w1, w2⟩ := S.wr
  have hx : (bs.getD (n / 8) 0).toNat < 256 := UInt8.toNat_lt _
  rw [tdiv8, tmod8, wrap_i64 (by omega) (by omega)]
  have go : ∀ v : Int, v = (setB (bs.getD (n / 8) 0).toNat (n % 8) on : Nat) → Put (Addr.add ⟨b, o, none⟩ (Int.toNat ((n / 8 : Nat) : Int))) (.int .u8 v) h fun h3 => K (.int .i64 0) h3 := by
    intro v ev
    subst ev
    have et : Int.toNat ((n / 8 : Nat) : Int) = n / 8 := rfl
    rw [et]
    refine Put.add w1 (by omega) fun h3 d3 => h2 h3 d3.fr d3.size ?_
    have ex : (.int .u8 ((setB (bs.getD (n / 8) 0).toNat (n % 8) on : Nat) : Int) : Value) = bv (UInt8.ofNat (setB (bs.getD (n / 8) 0).toNat (n % 8) on)) := by
      show _ = Value.int .u8 _
      rw [UInt8.toNat_ofNat_of_lt' (setB_lt' hx (by omega) on)]
    rw [ex] at d3
    have := S.putAt (j := n / 8) (new := [bv (UInt8.ofNat (setB (bs.getD (n / 8) 0).toNat (n % 8) on))]) (by show n / 8 + 1 ≤ l * 1; omega) d3
    rw [map_set_bv] at this
    exact this
  have ob := bit_or ⟨(bs.getD (n / 8) 0).toNat, hx⟩ ⟨n % 8, by omega⟩
  have nb := bit_not ⟨(bs.getD (n / 8) 0).toNat, hx⟩ ⟨n % 8, by omega⟩
  cases on
  · refine cf rfl ⟨⟨by omega, by omega⟩, os ⟨_, hc, ?_⟩⟩
    rw [if_neg (by omega)]
    exact ⟨⟨by omega, by omega⟩, os (go _ nb)⟩
  · refine ct rfl ⟨⟨by omega, by omega⟩, os ⟨_, hc, ?_⟩⟩
    rw [if_neg (by omega)]
    exact ⟨⟨by omega, by omega⟩, os (go _ ob)⟩
theorem hv_yield {P : Program} {l : Nat} {args : List Value} {h : Heap} {k : Value → Heap → Prop} (y : YCalls P l args h k) : HCallsV P (.func (.yield l) #[] #[]) args h k := y
theorem hv_mono {P : Program} {v : Value} {args : List Value} {h : Heap} {k k' : Value → Heap → Prop} (H : HCallsV P v args h k) (hk : ∀ v h', k v h' → k' v h') : HCallsV P v args h k' := by
  cases v with
  | func fn fs cs =>
    cases fn with
    | func g => exact HCalls.mono H hk
    | yield l => exact ycalls_mono H hk
    | _ => exact H.elim
  | _ => exact H.elim
/-- the rows of bits that are off -/
theorem runs_iter {l cb : Nat} {A : Option Addr} {sl c : Nat} {bs : List UInt8} {h : Heap} {K : Value → Heap → Prop} (hl : sl ≤ 1099511627776) (J : Nat → Heap → Prop) (hc : ∀ i hh, J i hh → rd hh cb = [.slice A sl c] ∧ StrAt hh A sl bs)
    (hY : ∀ i f n hh, J i hh → i ≤ f → 0 < n → f + n ≤ 8 * sl → (∀ t, i ≤ t → t < f → bitAt bs t = true) → (∀ t, f ≤ t → t < f + n → bitAt bs t = false) →
      YCalls Tryz.prog l [.int .i64 f, .int .i64 n] hh fun v h' => (v = .bool true ∧ J (f + n) h') ∨ (v = .bool false ∧ K (.tuple #[]) h'))
    (h0 : J 0 h) (hK : ∀ i hh, J i hh → i ≤ 8 * sl → (∀ t, i ≤ t → t < 8 * sl → bitAt bs t = true) → K (.tuple #[]) hh) : C.bits_Runs_c1 (.func (.yield l) #[] #[]) (some ⟨cb, 0, none⟩) h K := by
  refine bits_Runs_c1.ok ⟨fun i hh => 0 ≤ i ∧ i ≤ 8 * sl ∧ J i.toNat hh, fun i _ => (8 * sl - i).toNat, ⟨by omega, by omega, h0⟩, ?_⟩
  rintro i h2 ⟨i0, i1, hJ⟩
  obtain ⟨r, B⟩ := hc _ _ hJ
  have C2 : cellOf h2 ⟨cb, 0, none⟩ = some (.slice A sl c) := rdc r rfl
  refine ⟨fun f hh => h2 = hh ∧ i ≤ f ∧ f ≤ 8 * sl ∧ ∀ t, i.toNat ≤ t → t < f.toNat → bitAt bs t = true, fun f _ => (8 * sl - f).toNat, ⟨rfl, by omega, i1, fun t h1 h2 => by omega⟩, ?_⟩
  rintro f _ ⟨rfl, f0, f1, hon⟩
  have third : (f = 8 * sl ∨ bitAt bs f.toNat = false) → bits_Runs_c1.k1 (.func (.yield l) #[] #[]) (some ⟨cb, 0, none⟩) i h2 (fun i hh => 0 ≤ i ∧ i ≤ 8 * sl ∧ J i.toNat hh) (fun i _ => (8 * sl - i).toNat) f h2 K := by
    intro hf
    refine ⟨fun e hh => h2 = hh ∧ f ≤ e ∧ e ≤ 8 * sl ∧ ∀ t, f.toNat ≤ t → t < e.toNat → bitAt bs t = false, fun e _ => (8 * sl - e).toNat, ⟨rfl, by omega, f1, fun t h1 h2 => by omega⟩, ?_⟩
    rintro e _ ⟨rfl, e0, e1, hoff⟩
    have last : (e = f → f = 8 * sl) → bits_Runs_c1.k2 (.func (.yield l) #[] #[]) i h2 (fun i hh => 0 ≤ i ∧ i ≤ 8 * sl ∧ J i.toNat hh) (fun i _ => (8 * sl - i).toNat) f e h2 K := by
      intro hq
      refine ce (fun he => ?_) fun he => ?_
      · have := hq he
        exact hK i.toNat h2 hJ (by omega) fun t h1 h3 => hon t h1 (by omega)
      · rw [wrap_i64 (n := e - f) (by omega) (by omega)]
        have y := hY i.toNat f.toNat (e - f).toNat h2 hJ (by omega) (by omega) (by omega) hon fun t h1 h3 => hoff t h1 (by omega)
        rw [show ((f.toNat : Nat) : Int) = f by omega, show (((e - f).toNat : Nat) : Int) = e - f by omega] at y
        refine hv_yield (ycalls_mono y fun v h5 hv => ?_)
        rcases hv with ⟨rfl, hJ5⟩ | ⟨rfl, hk⟩
        · refine ⟨true, rfl, cnot (ct rfl ⟨⟨by omega, e1, ?_⟩, by show ((8 * sl : Int) - e).toNat < ((8 * sl : Int) - i).toNat; omega⟩)⟩
          rw [show f.toNat + (e - f).toNat = e.toNat by omega] at hJ5
          exact hJ5
        · exact ⟨false, rfl, cnot (cf rfl hk)⟩
    refine os ⟨_, _, _, C2, has_spec hl ⟨_, rfl, cd (fun hi => os ⟨_, _, _, C2, ?_⟩) fun hi => ?_⟩⟩
    · obtain ⟨n, rfl⟩ := Int.eq_ofNat_of_zero_le hi.1
      refine on_spec B hl (by omega) ⟨_, rfl, cnot (cs (fun hb => ?_) fun hb => ?_)⟩
      · refine last fun he => ?_
        rcases hf with hf | hf
        · exact hf
        · rw [← he] at hf
          rw [show ((n : Int)).toNat = n from rfl, hb] at hf; cases hf
      · rw [wrap_i64 (n := (n : Int) + 1) (by omega) (by omega)]
        refine ⟨⟨rfl, by omega, by omega, fun t h1 h3 => ?_⟩, by show ((8 * sl : Int) - ((n : Int) + 1)).toNat < ((8 * sl : Int) - (n : Int)).toNat; omega⟩
        by_cases ht : t = n
        · rw [ht]; exact hb
        · exact hoff t h1 (by omega)
    · exact last fun he => by omega
  refine os ⟨_, _, _, C2, has_spec hl ⟨_, rfl, cd (fun hi => os ⟨_, _, _, C2, ?_⟩) fun hi => third (.inl (by omega))⟩⟩
  obtain ⟨n, rfl⟩ := Int.eq_ofNat_of_zero_le hi.1
  refine on_spec B hl (by omega) ⟨_, rfl, cs (fun hb => ?_) fun hb => third (.inr hb)⟩
  rw [wrap_i64 (n := (n : Int) + 1) (by omega) (by omega)]
  refine ⟨⟨rfl, by omega, by omega, fun t h1 h3 => ?_⟩, by show ((8 * sl : Int) - ((n : Int) + 1)).toNat < ((8 * sl : Int) - (n : Int)).toNat; omega⟩
  by_cases ht : t = n
  · rw [ht]; exact hb
  · exact hon t h1 (by omega)
end Go.Proofs.YtjdcbblgaoogmaaGreatDoor.Bt
namespace Go.Proofs.YtjdcbblgaoogmaaGreatDoor.Spc
open Go Go.Proofs Go.Proofs.YtjdcbblgaoogmaaGreatDoor.Wx Go.Proofs.YtjdcbblgaoogmaaGreatDoor.Hp Go.Proofs.YtjdcbblgaoogmaaGreatDoor.W Go.Proofs.YtjdcbblgaoogmaaGreatDoor.Ad Go.Proofs.YtjdcbblgaoogmaaGreatDoor.Tm Go.Proofs.YtjdcbblgaoogmaaGreatDoor.Bt
/-- where the regions lie -/
structure G where
  blocks : Nat
  bitmap : Nat
  inodes : Nat
  data : Nat
  count : Nat
def G.v (g : G) : List Value := [.int .i64 g.blocks, .int .i64 g.bitmap, .int .i64 g.inodes, .int .i64 g.data, .int .i64 g.count]
structure G.ok (g : G) : Prop where
  b : g.blocks ≤ 1099511627776
  m : g.bitmap ≤ 1099511627776
  i : g.inodes ≤ 1099511627776
  d : g.data ≤ 1099511627776
theorem geo_Bit_spec {g : G} {i : Int} {h : Heap} {K : Value → Heap → Prop} (ok : g.ok) (h1 : ¬ (0 ≤ i ∧ i < g.blocks) → ∀ h', Fr No h h' → K (.tuple #[.int .i64 0, .int .i64 0, .int .i64 31]) h')
    (h2 : 0 ≤ i → i < g.blocks → ∀ h', Fr No h h' → K (.tuple #[.int .i64 (g.bitmap + i.toNat / 4096 : Nat), .int .i64 (i.toNat % 4096 : Nat), .int .i64 0]) h') : C.geo_Bit g.v i h K := by
  have b1 := ok.b
  have b2 := ok.m
  refine geo_Bit.ok (New.intro fun h3 n3 => ?_)
  refine cd (fun hn => h1 (by omega) h3 n3.fr) fun h0 => ⟨_, rda n3.rd rfl, cd (fun hn => h1 (by omega) h3 n3.fr) fun hb => ⟨_, rda n3.rd rfl, ?_⟩⟩
  obtain ⟨n, rfl⟩ := Int.eq_ofNat_of_zero_le (show 0 ≤ i by omega)
  have e1 : Int.tdiv (n : Int) 4096 = ((n / 4096 : Nat) : Int) := rfl
  have e2 : Int.tmod (n : Int) 4096 = ((n % 4096 : Nat) : Int) := rfl
  have h2 := h2 (by omega) (by omega) h3 n3.fr
  rw [e1, e2, wrap_i64 (n := ((n / 4096 : Nat) : Int)) (by omega) (by omega), wrap_i64 (by omega) (by omega)]
  rw [show ((n : Int)).toNat = n from rfl] at h2
  rw [show ((g.bitmap + n / 4096 : Nat) : Int) = (g.bitmap : Int) + ((n / 4096 : Nat) : Int) by omega] at h2
  exact h2
def G.at_ (g : G) (i : Nat) : Int := (g.bitmap + i / 4096 : Nat)
def setBit (T : TM) (g : G) (i : Nat) (on : Bool) : TM × Int :=
  if (T.read (g.at_ i)).2 ≠ 0 then (T, (T.read (g.at_ i)).2) else T.write (g.at_ i) (putBit (T.read (g.at_ i)).1 (i % 4096) on)
def give (T : TM) (g : G) (i : Int) : TM × Int :=
  if i < g.data ∨ i ≥ g.blocks then (T, 91) else if (T.read (g.at_ i.toNat)).2 ≠ 0 then (T, (T.read (g.at_ i.toNat)).2) else
    if bitAt (T.read (g.at_ i.toNat)).1 (i.toNat % 4096) = false then (T, 91) else setBit T g i.toNat false
theorem bit_spec {h : Heap} {F : Nat → Prop} {t d : Option Addr} {T : TM} {g : G} {i : Int} {K : Value → Heap → Prop} (x : Tx h F t d T) (ok : g.ok)
    (h1 : ¬ (0 ≤ i ∧ i < g.blocks) → ∀ h', Fr No h h' → K (.tuple #[.int .i64 0, .slice none 0 0, .int .i64 0, .int .i64 31]) h')
    (h2 : 0 ≤ i → i < g.blocks → ∀ a l c h', Fr No h h' → l = (T.read (g.at_ i.toNat)).1.length → Sl h' 1 a l c ((T.read (g.at_ i.toNat)).1.map bv) (From h.size) →
      K (.tuple #[.int .i64 (g.at_ i.toNat), .slice a l c, .int .i64 (i.toNat % 4096 : Nat), .int .i64 (T.read (g.at_ i.toNat)).2]) h') : C.space_bit t g.v i h K := by
  refine space_bit.ok (New.intro fun h3 n3 => ⟨g.v, rfl, cellsAll n3.rd, ?_⟩)
  refine geo_Bit_spec ok (fun hb h4 f4 => ⟨_, _, _, rfl, ct rfl (h1 hb h4 (n3.fr.no f4))⟩) fun h0 hb h4 f4 => ⟨_, _, _, rfl, cf rfl ?_⟩
  have f := n3.fr.no f4
  refine Read_spec (x.no f) fun a l c h5 f5 hl s => ⟨_, _, _, _, rfl, ?_⟩
  exact h2 h0 hb a l c h5 (f.no f5) hl (s.mono fun b hb => Nat.le_trans f.size hb)
theorem Used_spec {h : Heap} {F : Nat → Prop} {t d : Option Addr} {T : TM} {g : G} {i : Int} {K : Value → Heap → Prop} (x : Tx h F t d T) (ok : g.ok)
    (h1 : ¬ (0 ≤ i ∧ i < g.blocks) → ∀ h', Fr No h h' → K (.tuple #[.bool false, .int .i64 31]) h')
    (h2 : 0 ≤ i → i < g.blocks → (T.read (g.at_ i.toNat)).2 ≠ 0 → ∀ h', Fr No h h' → K (.tuple #[.bool false, .int .i64 (T.read (g.at_ i.toNat)).2]) h')
    (h3 : 0 ≤ i → i < g.blocks → (T.read (g.at_ i.toNat)).2 = 0 → ∀ h', Fr No h h' → K (.tuple #[.bool (bitAt (T.read (g.at_ i.toNat)).1 (i.toNat % 4096)), .int .i64 0]) h') : C.space_Used t g.v i h K := by
  refine space_Used.ok (New.intro fun h4 n4 => ⟨g.v, rfl, cellsAll n4.rd, ?_⟩)
  refine bit_spec (x.no n4.fr) ok (fun hb h5 f5 => ⟨_, _, _, _, _, _, rfl, ct rfl (h1 hb h5 (n4.fr.no f5))⟩) fun h0 hb a l c h5 f5 hl s => ⟨_, _, _, _, _, _, rfl, cn (fun he => h2 h0 hb he h5 (n4.fr.no f5)) fun he => ?_⟩
  have hlen := Tx.readLen x he
  refine Get_spec s.str (by omega) (fun hn => absurd ⟨by omega, by omega⟩ hn) fun _ _ => ⟨_, _, rfl, ?_⟩
  exact h3 h0 hb he h5 (n4.fr.no f5)
theorem set_spec {h : Heap} {F : Nat → Prop} {t d : Option Addr} {T : TM} {g : G} {i : Int} {on : Bool} {K : Value → Heap → Prop} (x : Tx h F t d T) (ok : g.ok) (h0 : 0 ≤ i) (h1 : i < g.blocks) (hu : T.undo.length < 1000000000)
    (hK : ∀ h' F', Fr F h h' → Gw h F h' F' → Tx h' F' t d (setBit T g i.toNat on).1 → K (.int .i64 (setBit T g i.toNat on).2) h') : C.space_set t g.v i on h K := by
  refine space_set.ok (New.intro fun h4 n4 => ⟨g.v, rfl, cellsAll n4.rd, ?_⟩)
  have x4 := x.no n4.fr
  refine bit_spec x4 ok (fun hb => absurd ⟨h0, h1⟩ hb) fun _ _ a l c h5 f5 hl s => ⟨_, _, _, _, _, _, rfl, cn (fun he => ?_) fun he => ?_⟩
  · have e : setBit T g i.toNat on = (T, (T.read (g.at_ i.toNat)).2) := by unfold setBit; rw [if_pos he]
    rw [e] at hK
    have f := n4.fr.no f5
    exact hK h5 F (f.mono fun _ _ y => y.elim) (Gw.refl f.size fun b hb => x.lt hb) (x.no f)
  · have hlen := Tx.readLen x he
    have e : setBit T g i.toNat on = T.write (g.at_ i.toNat) (putBit (T.read (g.at_ i.toNat)).1 (i.toNat % 4096) on) := by unfold setBit; rw [if_neg (by rw [he]; simp)]
    rw [e] at hK
    obtain ⟨p, ep, _⟩ := s.get (by omega)
    subst ep
    obtain ⟨pb, po, sp⟩ := p
    have esp : sp = none := s.2.1
    subst esp
    refine Put_spec s (by omega) (fun hn => absurd ⟨by omega, by omega⟩ hn) fun _ _ h6 f6 z6 s6 => ⟨_, rfl, cf rfl ?_⟩
    have f := n4.fr.no f5
    have hfrom : h4.size ≤ pb := s.2.2.1
    have f6' : Fr No h h6 := f.trans f6 fun b hb e => by have := n4.size; omega
    have e2 : ((i.toNat % 4096 : Nat) : Int).toNat = i.toNat % 4096 := rfl
    rw [e2] at s6
    refine Tm.Write_spec (x.no f6') s6.str (by omega) (fun q eq y => ?_) hu fun h7 F7 f7 g7 x7 => ⟨_, rfl, hK h7 F7 ?_ ?_ x7⟩
    · cases eq
      have y : F pb := y
      have := x.lt y
      have := n4.size
      omega
    · exact (f6'.mono fun _ _ y => y.elim).trans f7 fun _ _ y => y
    · exact (Gw.refl f6'.size fun b hb => x.lt hb).trans g7 f6'.size
theorem Give_spec {h : Heap} {F : Nat → Prop} {t d : Option Addr} {T : TM} {g : G} {i : Int} {K : Value → Heap → Prop} (x : Tx h F t d T) (ok : g.ok) (hu : T.undo.length < 1000000000)
    (hK : ∀ h' F', Fr F h h' → Gw h F h' F' → Tx h' F' t d (give T g i).1 → K (.int .i64 (give T g i).2) h') : C.space_Give t g.v i h K := by
  refine space_Give.ok (New.intro fun h4 n4 => ⟨_, rda n4.rd rfl, ?_⟩)
  have same : ∀ e h5, Fr No h h5 → give T g i = (T, e) → K (.int .i64 e) h5 := fun e h5 f e0 => by
    rw [e0] at hK
    exact hK h5 F (f.mono fun _ _ y => y.elim) (Gw.refl f.size fun b hb => x.lt hb) (x.no f)
  refine cd (fun hn => same 91 h4 n4.fr (by unfold give; rw [if_pos (.inl hn)])) fun h0 => ⟨_, rda n4.rd rfl, cd (fun hn => same 91 h4 n4.fr (by unfold give; rw [if_pos (.inr hn)])) fun hb => ?_⟩
  have hr : ¬ (i < g.data ∨ i ≥ g.blocks) := by omega
  refine ⟨g.v, rfl, cellsAll n4.rd, Used_spec (x.no n4.fr) ok (fun hn => absurd ⟨by omega, by omega⟩ hn) (fun _ _ he h5 f5 => ⟨_, _, rfl, cn (fun _ => ?_) fun e => absurd e he⟩) fun _ _ he h5 f5 => ⟨_, _, rfl, cf rfl (cnot (cs (fun hon => ?_) fun hoff => ?_))⟩⟩
  · exact same _ h5 (n4.fr.no f5) (by unfold give; rw [if_neg hr, if_pos he])
  · have e0 : give T g i = setBit T g i.toNat false := by unfold give; rw [if_neg hr, if_neg (by rw [he]; simp), if_neg (by rw [hon]; simp)]
    rw [e0] at hK
    have f := n4.fr.no f5
    refine ⟨g.v, rfl, Cells.fr f5 (cellsAll n4.rd) (fun y => y), set_spec (x.no f) ok (by omega) (by omega) hu fun h6 F6 f6 g6 x6 => ⟨_, rfl, hK h6 F6 ?_ ?_ x6⟩⟩
    · exact (f.mono fun _ _ y => y.elim).trans f6 fun _ _ y => y
    · exact (Gw.refl f.size fun b hb => x.lt hb).trans g6 f.size
  · exact same _ h5 (n4.fr.no f5) (by unfold give; rw [if_neg hr, if_neg (by rw [he]; simp), if_pos hoff])
end Go.Proofs.YtjdcbblgaoogmaaGreatDoor.Spc
namespace Go.Proofs.YtjdcbblgaoogmaaGreatDoor.Spc
open Go Go.Proofs Go.Proofs.YtjdcbblgaoogmaaGreatDoor.Wx Go.Proofs.YtjdcbblgaoogmaaGreatDoor.Hp Go.Proofs.YtjdcbblgaoogmaaGreatDoor.W Go.Proofs.YtjdcbblgaoogmaaGreatDoor.Ad Go.Proofs.YtjdcbblgaoogmaaGreatDoor.Tm Go.Proofs.YtjdcbblgaoogmaaGreatDoor.Bt Go.Proofs.YtjdcbblgaoogmaaGreatDoor.Rg
theorem Runs_spec {A : Option Addr} {l c : Nat} {bs : Txt} {h : Heap} {K : Value → Heap → Prop} (B : StrAt h A l bs) (h0 : 0 < l) (hl : l ≤ 140737488355328)
    (hK : ∀ cb A' c' h', Fr No h h' → h.size ≤ cb → cb < h'.size → rd h' cb = [.slice A' l c'] → Sl h' 1 A' l c' (bs.map bv) (fun b => h.size ≤ b ∧ b < h'.size) → K (.func (.func 261) #[] ⟨[.pointer (some ⟨cb, 0, none⟩)]⟩) h') : C.bits_Runs A l c h K := by
  refine bits_Runs.ok (New.intro fun h2 n2 => ?_)
  have z2 := n2.size
  obtain ⟨s1, s2, s3⟩ := StrAt.src (StrAt.fr n2.fr B (fun _ _ x => x))
  have S0 : Sl h2 1 (some ⟨h.size, 0, none⟩) 0 0 [] (fun b => b = h.size) := ⟨rfl, rfl, rfl, n2.own, Nat.le_refl _, rfl, Nat.zero_le _⟩
  refine ⟨_, s1, s2, s3, append_own S0 s1 rfl (by show (0 + l) * 1 ≤ _; omega) (by omega) fun a' c' h3 f3 s => New.intro fun h4 n4 => ?_⟩
  have z3 := f3.size
  have z4 := n4.size
  rw [Nat.zero_add] at s ⊢
  rw [List.nil_append] at s
  have s := sl_rng s
  refine Put.intro n4.own (by rw [n4.rd]; exact Nat.one_pos) fun h5 d5 => ?_
  have z5 := d5.size
  have f : Fr No h h5 := ((n2.fr.trans f3 fun b hb e => by have e : b = h.size := e; omega).new n4).did d5 fun hh => by omega
  refine hK h3.size a' c' h5 f (by omega) (by omega) (by rw [d5.rd, n4.rd]; rfl) (((s.fr n4.fr fun _ _ _ x => x).fr d5.fr fun b hb hF e => ?_).mono fun b hb => ?_)
  · have e : b = h3.size := e
    have := hF.2
    omega
  · obtain ⟨hb, hb2⟩ := hb
    refine ⟨?_, by omega⟩
    rcases hb with hb | hb
    · omega
    · omega
/-- what a loop over the rows of a bitmap block leaves alone -/
structure Rw (n cb e : Nat) (g : G) (first : Nat) (do1 : Value) (A : Option Addr) (l c : Nat) (bs : Txt) (hh : Heap) : Prop where
  size : e + 1 < hh.size
  n1 : n + 3 ≤ cb
  n2 : cb < e
  r1 : rd hh n = g.v
  r2 : rd hh (n + 1) = [.int .i64 first]
  r3 : rd hh (n + 2) = [do1]
  r4 : rd hh cb = [.slice A l c]
  s : StrAt hh A l bs
  sb : ∀ p, A = some p → n + 3 ≤ p.block ∧ p.block < e
  d : hh[e]? = some (.deferred (some []))
theorem Rw.step {n cb e first l c : Nat} {g : G} {do1 : Value} {A : Option Addr} {bs : Txt} {hh hh' : Heap} {F : Nat → Prop} (b : Rw n cb e g first do1 A l c bs hh) (f : Fr F hh hh') (hF : ∀ x, F x → x < n ∨ x = e + 1) : Rw n cb e g first do1 A l c bs hh' := by
  have z := f.size
  have s := b.size
  have n1 := b.n1
  have n2 := b.n2
  have k : ∀ x, n ≤ x → x ≤ e → ¬ F x := fun x h1 h2 y => by have := hF x y; omega
  exact ⟨by omega, n1, n2, (f.rd (by omega) (k _ (by omega) (by omega))).trans b.r1, (f.rd (by omega) (k _ (by omega) (by omega))).trans b.r2, (f.rd (by omega) (k _ (by omega) (by omega))).trans b.r3, (f.rd (by omega) (k _ (by omega) (by omega))).trans b.r4,
    StrAt.fr f b.s fun p ep => k _ (by have := b.sb p ep; omega) (by have := b.sb p ep; omega), b.sb, (f.same _ (by omega) (k _ (by omega) (by omega))).trans b.d⟩
/-- a block of the data, and free -/
def isF (g : G) (first : Nat) (bs : Txt) (t : Nat) : Prop := bitAt bs t = false ∧ g.data ≤ first + t ∧ first + t < g.blocks
theorem rows_spec {g : G} {first : Nat} {A : Option Addr} {l c : Nat} {bs : Txt} {do1 : Value} {h : Heap} {K : Value → Heap → Prop} (B : StrAt h A l bs) (hl0 : 0 < l) (hl : l ≤ 1099511627776) (ok : g.ok) (hf : first ≤ 9007199254740992) (hdo : cellsL do1 = [do1])
    (J : Nat → Heap → Prop) (E : Heap → Prop) (hJ : ∀ i hh hh', J i hh → Fr (From h.size) hh hh' → J i hh') (hE : ∀ hh hh', E hh → Fr (From h.size) hh hh' → E hh')
    (hskip : ∀ i j hh, J i hh → i ≤ j → j ≤ 8 * l → (∀ t, i ≤ t → t < j → ¬ isF g first bs t) → J j hh)
    (hD : ∀ (i j a b : Nat) hh, J i hh → i ≤ j → j ≤ 8 * l → first + i ≤ a → a < b → b ≤ first + j → (∀ t, i ≤ t → t < j → (isF g first bs t ↔ a ≤ first + t ∧ first + t < b)) →
      HCallsV Tryz.prog do1 [.int .i64 a, .int .i64 b] hh fun v h' => ∃ r, v = .bool r ∧ Fr (fun x => x < h.size) hh h' ∧ (r = true → J j h') ∧ (r = false → E h'))
    (h0 : J 0 h) (hK : ∀ hh, (J (8 * l) hh ∨ E hh) → K (.tuple #[]) hh) : C.space_rows g.v first A l c do1 h K := by
  refine space_rows.ok (New.intro fun h2 n2 => New.intro fun h3 n3 => New.intro fun h4 n4 => ?_)
  have z2 := n2.size
  have z3 := n3.size
  have z4 := n4.size
  have e2 : h2.size = h.size + 1 := z2
  have e3 : h3.size = h.size + 2 := by omega
  have F4 : Fr No h h4 := (n2.fr.new n3).new n4
  have B4 := StrAt.fr F4 B fun _ _ x => x
  refine Runs_spec B4 hl0 (by omega) fun cb A' c' h5 f5 cb1 cb2 r5 s5 => ⟨_, rfl, fun R rounds => ?_⟩
  have z5 := f5.size
  have F5 : Fr No h h5 := F4.no f5
  rw [e2, e3] at rounds
  have Fb := beginL_fr h5 R
  have on0 := beginL_on h5 R
  have d0 := beginL_d h5 R
  have zb := beginL_size h5 R
  have fb : ∀ b, b < h5.size → rd (beginL h5 R) b = rd h5 b := fun b hb => Fb.rd hb fun x => x
  have g1 : rd h5 h.size = g.v := (f5.rd (by omega) fun x => x).trans ((n4.at_ (by omega)).trans ((n3.at_ (by omega)).trans n2.rd))
  have g2 : rd h5 (h.size + 1) = [.int .i64 first] := by have := n3.rd; rw [e2] at this; exact (f5.rd (by omega) fun x => x).trans ((n4.at_ (by omega)).trans this)
  have g3 : rd h5 (h.size + 2) = [do1] := by have := n4.rd; rw [e3, hdo] at this; exact (f5.rd (by omega) fun x => x).trans this
  have W0 : Rw h.size cb h5.size g first do1 A' l c' bs (beginL h5 R) := by
    refine ⟨by omega, by omega, cb2, (fb _ (by omega)).trans g1, (fb _ (by omega)).trans g2, (fb _ (by omega)).trans g3, (fb _ (by omega)).trans r5, StrAt.fr Fb s5.str fun _ _ x => x, fun p ep => ?_, d0⟩
    subst ep
    have := s5.2.2.1
    have h1 : h4.size ≤ p.block := this.1
    have h2 : p.block < h5.size := this.2
    exact ⟨by omega, h2⟩
  have J0 : J 0 (beginL h5 R) := hJ _ _ _ h0 ((F5.no Fb).mono fun _ _ x => x.elim)
  show C.bits_Runs_c1 (.func (.yield (h5.size + 1)) #[] #[]) (some ⟨cb, 0, none⟩) (beginL h5 R) _
  have fin : ∀ (st : LoopState) (pend : Option Code) (h9 : Heap), (st = .ready ∧ pend = none ∨ st = .done ∧ pend = some .ret) → LoopOn h9 (h5.size + 1) R st pend → Rw h.size cb h5.size g first do1 A' l c' bs h9 → (J (8 * l) h9 ∨ E h9) →
      ∃ (st1 : LoopState) (pend1 : Option Code), LoopOn h9 (h5.size + 1) R st1 pend1 ∧ st1 ≠ .busy ∧ pendX pend1 (SetL h9 (h5.size + 1) R .exhausted pend1 fun h10 => EndD h5.size h10 fun h11 => K (.tuple #[]) h11) (SetL h9 (h5.size + 1) R .exhausted pend1 fun h12 => EndD h5.size h12 fun h13 => K (.tuple #[]) h13) (fun _ => False) := by
    intro st pend h9 hs on9 W9 je
    have size9 := W9.size
    have out : SetL h9 (h5.size + 1) R .exhausted pend fun h10 => EndD h5.size h10 fun h11 => K (.tuple #[]) h11 := by
      refine setL_intro size9 fun h10 t10 => ?_
      have W10 := W9.step t10.fr fun b e => .inr e
      refine endD_intro W10.d fun h11 z11 f11 => hK h11 ?_
      have f : Fr (From h.size) h9 h11 := (t10.fr.mono fun b _ e => by show h.size ≤ b; omega).trans f11 fun b _ e => by show h.size ≤ b; omega
      rcases je with j | j
      · exact .inl (hJ _ _ _ j f)
      · exact .inr (hE _ _ j f)
    rcases hs with ⟨rfl, rfl⟩ | ⟨rfl, rfl⟩
    · exact ⟨.ready, none, on9, (by intro x; cases x), pend_none out⟩
    · exact ⟨.done, some .ret, on9, (by intro x; cases x), pend_ret out⟩
  refine runs_iter (l := h5.size + 1) (A := A') (sl := l) (c := c') (bs := bs) hl (fun i hh => J i hh ∧ Rw h.size cb h5.size g first do1 A' l c' bs hh ∧ LoopOn hh (h5.size + 1) R .ready none) (fun i hh q => ⟨q.2.1.r4, q.2.1.s⟩) (fun i f n hh q hif hn hfl hon hoff => ?_) ⟨J0, W0, on0⟩ fun i hh q hi hon => ?_
  · obtain ⟨j, W, o⟩ := q
    have b1 := ok.b
    have b2 := ok.d
    refine rounds (f : Int) (n : Int) hh _ o ⟨o, setL_intro W.size fun h7 t7 => ?_⟩
    have W7 := W.step t7.fr fun b e => .inr e
    have j7 : J i h7 := hJ _ _ _ j (t7.fr.mono fun b _ e => by show h.size ≤ b; omega)
    have s7 := W7.size
    refine ⟨_, rdc W7.r2 rfl, _, rda W7.r1 rfl, _, rdc W7.r2 rfl, _, rda W7.r1 rfl, ?_⟩
    rw [wrap_i64 (n := (first : Int) + f) (by omega) (by omega), wrap_i64 (n := (first : Int) + f + n) (by omega) (by omega)]
    obtain ⟨a, ea, la, la2, la3⟩ : ∃ a : Nat, (if (g.data : Int) > (first : Int) + f then (g.data : Int) else (first : Int) + f) = (a : Int) ∧ g.data ≤ a ∧ first + f ≤ a ∧ (a = g.data ∨ a = first + f) := by
      split
      · exact ⟨g.data, rfl, Nat.le_refl _, by omega, .inl rfl⟩
      · exact ⟨first + f, by omega, by omega, Nat.le_refl _, .inr rfl⟩
    obtain ⟨b, eb, lb, lb2, lb3⟩ : ∃ b : Nat, (if (g.blocks : Int) < (first : Int) + f + n then (g.blocks : Int) else (first : Int) + f + n) = (b : Int) ∧ b ≤ g.blocks ∧ b ≤ first + f + n ∧ (b = g.blocks ∨ b = first + f + n) := by
      split
      · exact ⟨g.blocks, rfl, Nat.le_refl _, by omega, .inl rfl⟩
      · exact ⟨first + f + n, by omega, by omega, Nat.le_refl _, .inr rfl⟩
    rw [ea, eb]
    have iff : ∀ t, i ≤ t → t < f + n → (isF g first bs t ↔ a ≤ first + t ∧ first + t < b) := by
      intro t h1 h2
      unfold isF
      rcases Nat.lt_or_ge t f with h3 | h3
      · rw [hon t h1 h3]
        exact ⟨fun x => absurd x.1 (by simp), fun x => by omega⟩
      · rw [hoff t h3 h2]
        exact ⟨fun x => by omega, fun x => ⟨rfl, by omega, by omega⟩⟩
    refine cd (fun hab => ?_) fun hab => ?_
    · refine ⟨_, rdc W7.r3 rfl, ?_⟩
      refine hv_mono (hD i (f + n) a b h7 j7 (by omega) (by omega) (by omega) (by omega) (by omega) iff) fun v h8 q => ?_
      obtain ⟨r, rfl, f8, q1, q2⟩ := q
      have W8 := W7.step f8 fun b e => .inl e
      have s8 := W8.size
      have on8 : LoopOn h8 (h5.size + 1) R .busy none := loopOn_fr t7.on f8 (by omega)
      have t9 : ∀ st p, Turned (h5.size + 1) R st p h8 (setLoop h8 (h5.size + 1) R st p) := fun st p => turned s8 R st p
      refine ⟨r, rfl, cnot ?_⟩
      cases r with
      | true =>
        have t9 := t9 .ready none
        refine ct rfl ⟨on8, .inl ⟨rfl, hJ _ _ _ (q1 rfl) (t9.fr.mono fun b _ e => by show h.size ≤ b; omega), W8.step t9.fr fun b e => .inr e, t9.on⟩⟩
      | false =>
        have t9 := t9 .done (some .ret)
        exact cf rfl ⟨on8, .inr ⟨rfl, fin .done (some .ret) _ (.inr ⟨rfl, rfl⟩) t9.on (W8.step t9.fr fun b e => .inr e) (.inr (hE _ _ (q2 rfl) (t9.fr.mono fun b _ e => by show h.size ≤ b; omega)))⟩⟩
    · have t9 := turned s7 R .ready none
      have j' : J (f + n) h7 := hskip i (f + n) h7 j7 (by omega) (by omega) fun t h1 h2 y => by have := (iff t h1 h2).mp y; omega
      exact ⟨t7.on, .inl ⟨rfl, hJ _ _ _ j' (t9.fr.mono fun b _ e => by show h.size ≤ b; omega), W7.step t9.fr fun b e => .inr e, t9.on⟩⟩
  · obtain ⟨j, W, o⟩ := q
    exact fin .ready none hh (.inl ⟨rfl, rfl⟩) o W (.inl (hskip i (8 * l) hh j hi (Nat.le_refl _) fun t h1 h2 y => by have := y.1; rw [hon t h1 h2] at this; cases this))
theorem each_spec {do1 : Value} {g : G} {h : Heap} {F : Nat → Prop} {t d : Option Addr} {T : TM} {K : Value → Heap → Prop} (ok : g.ok) (hbi : g.bitmap ≤ g.inodes)
    (J : Nat → Heap → Prop) (E : Heap → Prop) (hx : ∀ k hh, J k hh → Tx hh F t d T) (hJ : ∀ k hh hh', J k hh → Fr (From h.size) hh hh' → J k hh')
    (hD : ∀ k hh A l c, J k hh → g.bitmap ≤ k → k < g.inodes → (T.read k).2 = 0 → StrAt hh A l (T.read k).1 →
      HCallsV Tryz.prog do1 [.int .i64 (4096 * (k - g.bitmap) : Nat), .slice A l c] hh fun v h' => ∃ r, v = .bool r ∧ Fr (fun x => x < h.size) hh h' ∧ (r = true → J (k + 1) h') ∧ (r = false → E h'))
    (h0 : J g.bitmap h) (hend : ∀ hh, J g.inodes hh → K (.int .i64 0) hh) (hE : ∀ hh, E hh → K (.int .i64 0) hh)
    (hbad : ∀ k hh, J k hh → g.bitmap ≤ k → k < g.inodes → (T.read k).2 ≠ 0 → K (.int .i64 (T.read k).2) hh) : C.space_each t g.v do1 h K := by
  have b2 := ok.m
  have b3 := ok.i
  refine space_each.ok (New.intro fun h2 n2 => ⟨_, rda n2.rd rfl, ?_⟩)
  have z2 := n2.size
  refine ⟨fun k hh => ∃ n : Nat, k = n ∧ g.bitmap ≤ n ∧ n ≤ g.inodes ∧ J n hh ∧ rd hh h.size = g.v ∧ h.size < hh.size, fun k _ => (g.inodes - k).toNat,
    ⟨g.bitmap, rfl, Nat.le_refl _, hbi, hJ _ _ _ h0 (n2.fr.mono fun _ _ x => x.elim), n2.rd, by omega⟩, ?_⟩
  rintro _ h3 ⟨k, rfl, k0, k1, j, r, s3⟩
  refine ⟨_, rda r rfl, cd (fun hk => ?_) fun hk => ?_⟩
  · refine Read_spec (hx _ _ j) fun a l c h4 f4 hl s => ⟨_, _, _, _, rfl, ?_⟩
    have j4 : J k h4 := hJ _ _ _ j (f4.mono fun _ _ x => x.elim)
    have z4 := f4.size
    have r4 : rd h4 h.size = g.v := (f4.rd s3 fun x => x).trans r
    refine cn (fun he => hbad k h4 j4 k0 (by omega) he) fun he => ⟨_, rda r4 rfl, ?_⟩
    rw [wrap_i64 (n := (k : Int) - g.bitmap) (by omega) (by omega), wrap_i64 (n := 4096 * ((k : Int) - g.bitmap)) (by omega) (by omega)]
    rw [show 4096 * ((k : Int) - g.bitmap) = ((4096 * (k - g.bitmap) : Nat) : Int) by omega]
    refine hv_mono (hD k h4 a l c j4 k0 (by omega) he s.str) fun v h5 q => ?_
    obtain ⟨b, rfl, f5, q1, q2⟩ := q
    refine ⟨b, rfl, cnot ?_⟩
    cases b with
    | true =>
      refine ct rfl ?_
      rw [wrap_i64 (n := (k : Int) + 1) (by omega) (by omega)]
      have z5 := f5.size
      refine ⟨⟨k + 1, rfl, by omega, by omega, q1 rfl, (f5.rd (by omega) (by omega)).trans r4, by omega⟩, by show ((g.inodes : Int) - ((k : Int) + 1)).toNat < ((g.inodes : Int) - (k : Int)).toNat; omega⟩
    | false => exact cf rfl (hE h5 (q2 rfl))
  · have : k = g.inodes := by omega
    subst this
    exact hend h3 j
end Go.Proofs.YtjdcbblgaoogmaaGreatDoor.Spc
namespace Go.Proofs.YtjdcbblgaoogmaaGreatDoor.Spc
open Go Go.Proofs Go.Proofs.YtjdcbblgaoogmaaGreatDoor.Wx Go.Proofs.YtjdcbblgaoogmaaGreatDoor.Hp Go.Proofs.YtjdcbblgaoogmaaGreatDoor.W Go.Proofs.YtjdcbblgaoogmaaGreatDoor.Ad Go.Proofs.YtjdcbblgaoogmaaGreatDoor.Tm Go.Proofs.YtjdcbblgaoogmaaGreatDoor.Bt Go.Proofs.YtjdcbblgaoogmaaGreatDoor.Rg
/-- a data block that is free -/
def FreeAt (T : TM) (g : G) (m : Nat) : Prop := bitAt (T.read (g.at_ m)).1 (m % 4096) = false ∧ g.data ≤ m ∧ m < g.blocks
instance (T : TM) (g : G) (m : Nat) : Decidable (FreeAt T g m) := by unfold FreeAt; exact inferInstance
theorem isF_iff {T : TM} {g : G} {k t : Nat} (hk : g.bitmap ≤ k) (ht : t < 4096) : isF g (4096 * (k - g.bitmap)) (T.read k).1 t ↔ FreeAt T g (4096 * (k - g.bitmap) + t) := by
  unfold isF FreeAt
  have e1 : g.at_ (4096 * (k - g.bitmap) + t) = (k : Int) := by
    unfold G.at_
    have : (4096 * (k - g.bitmap) + t) / 4096 = k - g.bitmap := by omega
    rw [this]; omega
  have e2 : (4096 * (k - g.bitmap) + t) % 4096 = t := by omega
  rw [e1, e2]
/-- how many are free below m -/
def cntTo (T : TM) (g : G) : Nat → Nat
  | 0 => 0
  | m + 1 => cntTo T g m + if FreeAt T g m then 1 else 0
theorem cnt_zero {T : TM} {g : G} {i : Nat} : ∀ d, (∀ t, i ≤ t → t < i + d → ¬ FreeAt T g t) → cntTo T g (i + d) = cntTo T g i
  | 0, _ => rfl
  | d + 1, h => by
    show cntTo T g (i + d) + (if FreeAt T g (i + d) then 1 else 0) = _
    rw [if_neg (h (i + d) (by omega) (by omega)), cnt_zero d fun t h1 h2 => h t h1 (by omega)]; rfl
theorem cnt_full {T : TM} {g : G} {i : Nat} : ∀ d, (∀ t, i ≤ t → t < i + d → FreeAt T g t) → cntTo T g (i + d) = cntTo T g i + d
  | 0, _ => rfl
  | d + 1, h => by
    show cntTo T g (i + d) + (if FreeAt T g (i + d) then 1 else 0) = _
    rw [if_pos (h (i + d) (by omega) (by omega)), cnt_full d fun t h1 h2 => h t h1 (by omega)]; omega
theorem cnt_run {T : TM} {g : G} {i j a b : Nat} (h1 : i ≤ a) (h2 : a ≤ b) (h3 : b ≤ j) (h : ∀ t, i ≤ t → t < j → (FreeAt T g t ↔ a ≤ t ∧ t < b)) : cntTo T g j = cntTo T g i + (b - a) := by
  have e1 := cnt_zero (T := T) (g := g) (i := i) (a - i) fun t x y z => by have := (h t x (by omega)).mp z; omega
  have e2 := cnt_full (T := T) (g := g) (i := a) (b - a) fun t x y => (h t (by omega) (by omega)).mpr ⟨x, by omega⟩
  have e3 := cnt_zero (T := T) (g := g) (i := b) (j - b) fun t x y z => by have := (h t (by omega) (by omega)).mp z; omega
  rw [show i + (a - i) = a by omega] at e1
  rw [show a + (b - a) = b by omega] at e2
  rw [show b + (j - b) = j by omega] at e3
  omega
theorem cnt_le (T : TM) (g : G) : ∀ m, cntTo T g m ≤ m
  | 0 => Nat.le_refl _
  | m + 1 => by
    have := cnt_le T g m
    show cntTo T g m + (if _ then 1 else 0) ≤ _
    split <;> omega
/-- the cells of Free -/
structure Fk (n : Nat) (h : Heap) (g : G) (x : Int) (hh : Heap) : Prop where
  f : Fr No h hh
  e : n = h.size
  size : n + 2 ≤ hh.size
  r1 : rd hh n = g.v
  o2 : Own hh (n + 1)
  r2 : rd hh (n + 1) = [.int .i64 x]
theorem Fk.step {n : Nat} {h hh hh' : Heap} {g : G} {x : Int} {F : Nat → Prop} (a : Fk n h g x hh) (f : Fr F hh hh') (hF : ∀ b, F b → n + 2 ≤ b) : Fk n h g x hh' := by
  have z := f.size
  have s := a.size
  have e := a.e
  have k : ∀ b, b < n + 2 → ¬ F b := fun b hb y => by have := hF b y; omega
  exact ⟨a.f.trans f fun b hb y => (k b (by omega) y).elim, e, by omega, (f.rd (by omega) (k _ (by omega))).trans a.r1, f.own a.o2.lt (k _ (by omega)) a.o2, (f.rd (by omega) (k _ (by omega))).trans a.r2⟩
theorem Fk.put {n : Nat} {h hh hh' : Heap} {g : G} {x y : Int} (a : Fk n h g x hh) (d : Did (n + 1) hh hh' ((rd hh (n + 1)).set 0 (.int .i64 y))) : Fk n h g y hh' := by
  have s := a.size
  have e := a.e
  exact ⟨a.f.did d fun hb => by omega, e, by rw [d.size]; exact s, (d.at_ (by omega) (by omega)).trans a.r1, d.own, by rw [d.rd, a.r2]; rfl⟩
theorem tm_eta {T : TM} {p : List (Int × Txt)} {u : List (Int × Option Txt)} (h1 : p = T.put) (h2 : u = T.undo) : { T with put := p, undo := u } = T := by subst h1; subst h2; rfl
theorem back_id (T : TM) : (T.back T.undo.length).1 = T := by
  unfold TM.back
  split
  · rfl
  · split
    · rfl
    · refine tm_eta ?_ ?_
      · rw [show ((T.undo.length : Nat) : Int).toNat = T.undo.length from rfl, List.drop_length]; rfl
      · rw [show ((T.undo.length : Nat) : Int).toNat = T.undo.length from rfl, List.take_length]
theorem back_write {T : TM} {i : Int} {bs : Txt} (e : (T.write i bs).2 = 0) : ((T.write i bs).1.back T.undo.length).1 = T := by
  obtain ⟨h1, h2, h3, h4, h5, ew⟩ := TM.write_ok e
  rw [ew]
  unfold TM.back
  show (if T.over = true then _ else if ((T.undo.length : Nat) : Int) < 0 ∨ ((T.undo.length : Nat) : Int) > ((T.undo ++ [(i, aget T.put i)]).length : Nat) then _ else _ : TM × Int).1 = T
  rw [if_neg (by rw [h1]; simp), if_neg (by rw [List.length_append]; simp only [List.length_singleton]; omega)]
  refine tm_eta (T := T) ?_ ?_
  · show undoAll (aput T.put i bs) ((T.undo ++ [(i, aget T.put i)]).drop T.undo.length) = T.put
    rw [List.drop_left]
    show undo1 (aput T.put i bs) (i, aget T.put i) = _
    unfold undo1
    cases ea : aget T.put i with
    | none => exact adel_aput ea
    | some b => exact aput_aput ea
  · show (T.undo ++ [(i, aget T.put i)]).take T.undo.length = T.undo
    exact List.take_left
theorem rep_one (v : Value) : ∀ n, repCells [v] n = List.replicate n v
  | 0 => rfl
  | n + 1 => by
    show [v] ++ repCells [v] n = _
    rw [rep_one v n]; rfl
theorem setBit_bad {T : TM} {g : G} {m : Nat} {on : Bool} (e : (setBit T g m on).2 ≠ 0) : (setBit T g m on).1 = T := by
  unfold setBit at e ⊢
  split
  · rfl
  · rename_i h; rw [if_neg h] at e; exact TM.write_bad e
theorem setBit_good {T : TM} {g : G} {m : Nat} {on : Bool} (e : (setBit T g m on).2 = 0) : (T.read (g.at_ m)).2 = 0 ∧ setBit T g m on = T.write (g.at_ m) (putBit (T.read (g.at_ m)).1 (m % 4096) on) := by
  unfold setBit at e ⊢
  by_cases h : (T.read (g.at_ m)).2 ≠ 0
  · rw [if_pos h] at e; exact absurd e h
  · rw [if_neg h]; exact ⟨by omega, rfl⟩
theorem setBit_back {T : TM} {g : G} {m : Nat} {on : Bool} (e : (setBit T g m on).2 = 0) : ((setBit T g m on).1.back T.undo.length).1 = T := by
  obtain ⟨h1, h2⟩ := setBit_good e
  rw [h2] at e ⊢
  exact back_write e
theorem setBit_undo (T : TM) (g : G) (m : Nat) (on : Bool) : (setBit T g m on).1.undo.length ≤ T.undo.length + 1 := by
  by_cases e : (setBit T g m on).2 = 0
  · obtain ⟨h1, h2⟩ := setBit_good e
    rw [h2] at e ⊢
    obtain ⟨_, _, _, _, _, ew⟩ := TM.write_ok e
    rw [ew]
    show (T.undo ++ [_]).length ≤ _
    rw [List.length_append]; exact Nat.le_refl _
  · rw [setBit_bad e]; omega
theorem rep_zeros : repCells [.int .u8 0] (Int.toNat 512) = (List.replicate 512 (0 : UInt8)).map bv := by
  rw [List.map_replicate]
  show repCells [.int .u8 0] 512 = List.replicate 512 (.int .u8 0)
  exact rep_one _ 512
def zeros512 : Txt := List.replicate 512 0
/-- Take, when m is the lowest -/
def takeAt (T : TM) (g : G) (m : Nat) : TM × Int × Int :=
  if (setBit T g m true).2 ≠ 0 then (T, 0, (setBit T g m true).2) else
  if ((setBit T g m true).1.write m zeros512).2 ≠ 0 then (T, 0, ((setBit T g m true).1.write m zeros512).2) else
    (((setBit T g m true).1.write m zeros512).1, m, 0)
/-- the cells of Take -/
structure Tk (n : Nat) (h : Heap) (t : Option Addr) (g : G) (x : Int) (hh : Heap) : Prop where
  f : Fr No h hh
  e : n = h.size
  size : n + 4 ≤ hh.size
  r1 : rd hh n = [.pointer t]
  r2 : rd hh (n + 1) = g.v
  o3 : Own hh (n + 2)
  r3 : rd hh (n + 2) = [.int .i64 0]
  o4 : Own hh (n + 3)
  r4 : rd hh (n + 3) = [.int .i64 x]
theorem Tk.step {n : Nat} {h hh hh' : Heap} {t : Option Addr} {g : G} {x : Int} {F : Nat → Prop} (a : Tk n h t g x hh) (f : Fr F hh hh') (hF : ∀ b, F b → n + 4 ≤ b) : Tk n h t g x hh' := by
  have z := f.size
  have s := a.size
  have e := a.e
  have k : ∀ b, b < n + 4 → ¬ F b := fun b hb y => by have := hF b y; omega
  exact ⟨a.f.trans f fun b hb y => (k b (by omega) y).elim, e, by omega, (f.rd (by omega) (k _ (by omega))).trans a.r1, (f.rd (by omega) (k _ (by omega))).trans a.r2,
    f.own a.o3.lt (k _ (by omega)) a.o3, (f.rd (by omega) (k _ (by omega))).trans a.r3, f.own a.o4.lt (k _ (by omega)) a.o4, (f.rd (by omega) (k _ (by omega))).trans a.r4⟩
theorem Tk.put {n : Nat} {h hh hh' : Heap} {t : Option Addr} {g : G} {x y : Int} (a : Tk n h t g x hh) (d : Did (n + 3) hh hh' ((rd hh (n + 3)).set 0 (.int .i64 y))) : Tk n h t g y hh' := by
  have s := a.size
  have e := a.e
  exact ⟨a.f.did d fun hb => by omega, e, by rw [d.size]; exact s, (d.at_ (by omega) (by omega)).trans a.r1, (d.at_ (by omega) (by omega)).trans a.r2, d.ow a.o3, (d.at_ (by omega) (by omega)).trans a.r3, d.own, by rw [d.rd, a.r4]; rfl⟩
/-- and later on -/
structure Tq (n q : Nat) (t : Option Addr) (g : G) (x mk : Int) (hh : Heap) : Prop where
  lt : n + 4 ≤ q ∧ q < hh.size
  r1 : rd hh n = [.pointer t]
  r2 : rd hh (n + 1) = g.v
  o3 : Own hh (n + 2)
  l3 : (rd hh (n + 2)).length = 1
  r4 : rd hh (n + 3) = [.int .i64 x]
  r5 : rd hh q = [.int .i64 mk]
theorem Tq.step {n q : Nat} {hh hh' : Heap} {t : Option Addr} {g : G} {x mk : Int} {F : Nat → Prop} (a : Tq n q t g x mk hh) (f : Fr F hh hh') (hF : ∀ b, F b → n ≤ b → b ≤ q → False) : Tq n q t g x mk hh' := by
  have z := f.size
  have s := a.lt
  have k : ∀ b, n ≤ b → b ≤ q → ¬ F b := fun b h1 h2 y => hF b y h1 h2
  exact ⟨by omega, (f.rd (by omega) (k _ (by omega) (by omega))).trans a.r1, (f.rd (by omega) (k _ (by omega) (by omega))).trans a.r2, f.own a.o3.lt (k _ (by omega) (by omega)) a.o3, by rw [f.rd (by omega) (k _ (by omega) (by omega))]; exact a.l3,
    (f.rd (by omega) (k _ (by omega) (by omega))).trans a.r4, (f.rd (by omega) (k _ (by omega) (by omega))).trans a.r5⟩
theorem Tq.put {n q : Nat} {hh hh' : Heap} {t : Option Addr} {g : G} {x mk : Int} {v : Value} (a : Tq n q t g x mk hh) (d : Did (n + 2) hh hh' ((rd hh (n + 2)).set 0 v)) : Tq n q t g x mk hh' ∧ rd hh' (n + 2) = [v] := by
  have s := a.lt
  have l3 := a.l3
  have e : rd hh' (n + 2) = [v] := by
    rw [d.rd]
    match rd hh (n + 2), l3 with
    | [_], _ => rfl
  exact ⟨⟨by rw [d.size]; exact s, (d.at_ (by omega) (by omega)).trans a.r1, (d.at_ (by omega) (by omega)).trans a.r2, d.own, by rw [e]; rfl, (d.at_ (by omega) (by omega)).trans a.r4, (d.at_ (by omega) (by omega)).trans a.r5⟩, e⟩
theorem Take_spec {h : Heap} {F : Nat → Prop} {t d : Option Addr} {T : TM} {g : G} {K : Value → Heap → Prop} (x : Tx h F t d T) (ok : g.ok) (hbi : g.bitmap ≤ g.inodes) (hd0 : 0 < g.data) (hu : T.undo.length < 900000000)
    (hbad : ∀ k : Nat, g.bitmap ≤ k → k < g.inodes → (∀ m, m < 4096 * (k - g.bitmap) → ¬ FreeAt T g m) → (T.read k).2 ≠ 0 → ∀ h', Fr No h h' → K (.tuple #[.int .i64 0, .int .i64 (T.read k).2]) h')
    (hfull : (∀ m, m < 4096 * (g.inodes - g.bitmap) → ¬ FreeAt T g m) → ∀ h', Fr No h h' → K (.tuple #[.int .i64 0, .int .i64 90]) h')
    (hgot : ∀ m, m < 4096 * (g.inodes - g.bitmap) → FreeAt T g m → (∀ m', m' < m → ¬ FreeAt T g m') → (T.read (g.at_ m)).2 = 0 → ∀ h' F', Fr F h h' → Gw h F h' F' → Tx h' F' t d (takeAt T g m).1 →
      K (.tuple #[.int .i64 (takeAt T g m).2.1, .int .i64 (takeAt T g m).2.2]) h') : C.space_Take t g.v h K := by
  refine space_Take.ok (New.intro fun h2 n2 => New.intro fun h3 n3 => New.intro fun h4 n4 => New.intro fun h5 n5 => ?_)
  have z2 := n2.size
  have z3 := n3.size
  have z4 := n4.size
  have z5 := n5.size
  have e2 : h2.size = h.size + 1 := z2
  have e3 : h3.size = h.size + 2 := by omega
  have e4 : h4.size = h.size + 3 := by omega
  have b2 := ok.m
  have b3 := ok.i
  refine Put.intro n5.own (by rw [n5.rd]; exact Nat.one_pos) fun h6 d6 => ?_
  have z6 := d6.size
  have k6 : Tk h.size h t g 0 h6 := by
    have r4 := d6.rd
    have o4 := d6.own
    rw [n5.rd] at r4
    rw [e4] at r4 o4
    have r3 := n4.rd
    have o3 := n4.own
    rw [e3] at r3 o3
    have r2 := n3.rd
    rw [e2] at r2
    refine ⟨(((n2.fr.new n3).new n4).new n5).did d6 fun hb => by omega, rfl, by omega, ?_, ?_, d6.ow (n5.ow o3), ?_, o4, r4⟩
    · exact (d6.at_ (by omega) (by omega)).trans ((n5.at_ (by omega)).trans ((n4.at_ (by omega)).trans ((n3.at_ (by omega)).trans n2.rd)))
    · exact (d6.at_ (by omega) (by omega)).trans ((n5.at_ (by omega)).trans ((n4.at_ (by omega)).trans r2))
    · exact (d6.at_ (by omega) (by omega)).trans ((n5.at_ (by omega)).trans r3)
  rw [e2, e3, e4]
  refine ⟨_, rdc k6.r1 rfl, g.v, rfl, cellsAll k6.r2, ?_⟩
  -- e is put
  have pe : ∀ {hh : Heap} {y v : Int} {k : Heap → Prop}, Tk h.size h t g y hh → (∀ h8, h8.size = hh.size → Fr No h h8 → rd h8 (h.size + 2) = [.int .i64 v] → Own h8 (h.size + 2) → rd h8 h.size = [.pointer t] → rd h8 (h.size + 1) = g.v → rd h8 (h.size + 3) = [.int .i64 y] → k h8) → Put ⟨h.size + 2, 0, none⟩ (.int .i64 v) hh k := by
    intro hh y v k a H
    have s := a.size
    refine Put.intro a.o3 (by rw [a.r3]; exact Nat.one_pos) fun h8 d8 => ?_
    exact H h8 d8.size (a.f.did d8 fun hb => by omega) (by rw [d8.rd, a.r3]; rfl) d8.own ((d8.at_ (by omega) (by omega)).trans a.r1) ((d8.at_ (by omega) (by omega)).trans a.r2) ((d8.at_ (by omega) (by omega)).trans a.r4)
  refine each_spec (T := T) (F := F) (d := d) ok hbi (fun k hh => Tk h.size h t g 0 hh ∧ ∀ m, m < 4096 * (k - g.bitmap) → ¬ FreeAt T g m)
    (fun hh => ∃ m : Nat, Tk h.size h t g m hh ∧ m < 4096 * (g.inodes - g.bitmap) ∧ FreeAt T g m ∧ (∀ m', m' < m → ¬ FreeAt T g m') ∧ (T.read (g.at_ m)).2 = 0)
    (fun k hh j => x.no j.1.f) (fun k hh hh' j f => ⟨j.1.step f fun b hb => by have hb : h6.size ≤ b := hb; omega, j.2⟩) (fun k hh A l c j hk0 hk1 he B => ?_) ⟨k6, fun m hm => by omega⟩ (fun hh j => ?_) (fun hh j => ?_) fun k hh j hk0 hk1 he => ?_
  · have hlen := Tx.readLen x he
    have hl : l = 512 := by rw [← B.1]; exact hlen
    subst hl
    obtain ⟨j, jn⟩ := j
    have sz := j.size
    show C.space_Take_c1 _ A 512 c (some ⟨h.size + 1, 0, none⟩) (some ⟨h.size + 3, 0, none⟩) hh _
    refine space_Take_c1.ok (os ⟨g.v, rfl, cellsAll j.r2, ?_⟩)
    refine rows_spec B (by omega) (by omega) ok (by omega) rfl (fun i hx => Tk h.size h t g 0 hx ∧ Fr (fun b => b = h.size + 3) hh hx ∧ ∀ m, m < 4096 * (k - g.bitmap) + i → ¬ FreeAt T g m)
      (fun hx => ∃ m : Nat, Tk h.size h t g m hx ∧ Fr (fun b => b = h.size + 3) hh hx ∧ m < 4096 * (k - g.bitmap) + 4096 ∧ 4096 * (k - g.bitmap) ≤ m ∧ FreeAt T g m ∧ ∀ m', m' < m → ¬ FreeAt T g m')
      (fun i hx hx' q f => ⟨q.1.step f fun b hb => by have hb : hh.size ≤ b := hb; omega, q.2.1.trans f fun b hb y => by have y : hh.size ≤ b := y; omega, q.2.2⟩)
      (fun hx hx' q f => ?_) (fun i j' hx q h1 h2 h3 => ⟨q.1, q.2.1, fun m hm z => ?_⟩) (fun i j' a b hx q h1 h2 h3 h4 h5 h7 => ?_) ⟨j, Fr.refl _ _, fun m hm => jn m (by omega)⟩ fun hx q => ⟨rfl, os ?_⟩
    · obtain ⟨m, q1, q2, q3⟩ := q
      exact ⟨m, q1.step f fun b hb => by have hb : hh.size ≤ b := hb; omega, q2.trans f fun b hb y => by have y : hh.size ≤ b := y; omega, q3⟩
    · rcases Nat.lt_or_ge m (4096 * (k - g.bitmap) + i) with hm2 | hm2
      · exact q.2.2 m hm2 z
      · refine h3 (m - 4096 * (k - g.bitmap)) (by omega) (by omega) ((isF_iff hk0 (by omega)).mpr ?_)
        rw [show 4096 * (k - g.bitmap) + (m - 4096 * (k - g.bitmap)) = m by omega]; exact z
    · show C.space_Take_c1_c1 _ _ (some ⟨h.size + 3, 0, none⟩) hx _
      have fr : ∀ m, 4096 * (k - g.bitmap) + i ≤ m → m < 4096 * (k - g.bitmap) + j' → (FreeAt T g m ↔ a ≤ m ∧ m < b) := fun m x y => by
        have := h7 (m - 4096 * (k - g.bitmap)) (by omega) (by omega)
        rw [isF_iff hk0 (by omega), show 4096 * (k - g.bitmap) + (m - 4096 * (k - g.bitmap)) = m by omega] at this
        exact this
      refine space_Take_c1_c1.ok (os (Put.intro q.1.o4 (by rw [q.1.r4]; exact Nat.one_pos) fun h8 d8 => ⟨false, rfl, d8.fr.mono fun b _ e => by show b < hh.size; omega, fun e => (by cases e), fun _ => ⟨a, q.1.put d8, q.2.1.trans d8.fr fun _ _ e => e, by omega, by omega, (fr a (by omega) (by omega)).mpr ⟨Nat.le_refl _, by omega⟩, fun m' hm' z => ?_⟩⟩))
      rcases Nat.lt_or_ge m' (4096 * (k - g.bitmap) + i) with hm2 | hm2
      · exact q.2.2 m' hm2 z
      · have := (fr m' hm2 (by omega)).mp z; omega
    · rcases q with q | ⟨m, q1, q2, q3, q4, q5, q6⟩
      · refine ⟨_, rdc q.1.r4 rfl, true, rfl, q.2.1.mono fun b _ e => by show b < h6.size; omega, fun _ => ⟨q.1, fun m hm => q.2.2 m (by omega)⟩, fun e => by cases e⟩
      · have hm0 : 0 < m := by have := q5.2.1; omega
        refine ⟨_, rdc q1.r4 rfl, false, ?_, q2.mono fun b _ e => by show b < h6.size; omega, fun e => (by cases e), fun _ => ⟨m, q1, by omega, q5, q6, ?_⟩⟩
        · have : ((m : Int) == 0) = false := beq_eq_false_iff_ne.mpr (by omega)
          rw [this]
        · have e : g.at_ m = (k : Int) := by
            unfold G.at_
            have : m / 4096 = k - g.bitmap := by omega
            rw [this]; omega
          rw [e]; exact he
  · -- all are taken
    obtain ⟨j, jn⟩ := j
    refine ⟨_, rfl, pe j fun h8 z8 f8 r3 o3 r1 r2 r4 => ⟨_, rdc r3 rfl, cf rfl ⟨_, rdc r4 rfl, ct rfl ?_⟩⟩⟩
    refine Put.intro o3 (by rw [r3]; exact Nat.one_pos) fun h9 d9 => ⟨90, rdc (xs := [.int .i64 90]) (by rw [d9.rd, r3]; rfl) rfl, hfull jn h9 (f8.did d9 fun hb => by omega)⟩
  · -- m is the lowest
    obtain ⟨m, j, jm, jf, jl, jr⟩ := j
    have hm0 : 0 < m := by have := jf.2.1; omega
    have sz := j.size
    have live := TM.read_ok_over jr
    have emark : T.mark = ((T.undo.length : Int), 0) := by unfold TM.mark; rw [live, if_neg (by simp)]
    refine ⟨_, rfl, pe j fun h8 z8 f8 r3 o3 r1 r2 r4 => ⟨_, rdc r3 rfl, cf rfl ⟨_, rdc r4 rfl, cf (beq_eq_false_iff_ne.mpr (by omega)) ⟨_, rdc r1 rfl, Mark_spec (x.no f8) ⟨_, _, rfl, ?_⟩⟩⟩⟩⟩
    rw [emark]
    refine New.intro fun h12 n12 => ?_
    have z12 := n12.size
    refine Put.intro n12.own (by rw [n12.rd]; exact Nat.one_pos) fun h13 d13 => ?_
    have z13 := d13.size
    have q13 : Tq h.size h8.size t g m T.undo.length h13 := by
      refine ⟨by omega, (d13.at_ (by omega) (by omega)).trans ((n12.at_ (by omega)).trans r1), (d13.at_ (by omega) (by omega)).trans ((n12.at_ (by omega)).trans r2), d13.ow (n12.ow o3), ?_, (d13.at_ (by omega) (by omega)).trans ((n12.at_ (by omega)).trans r4), by rw [d13.rd, n12.rd]; rfl⟩
      rw [d13.at_ (by omega) (by omega), n12.at_ (by omega), r3]; rfl
    have f13 : Fr No h h13 := (f8.new n12).did d13 fun hb => by omega
    refine Put.intro q13.o3 (by rw [q13.l3]; exact Nat.one_pos) fun h14 d14 => ?_
    obtain ⟨q14, r14⟩ := q13.put d14
    have z14 := d14.size
    have f14 : Fr No h h14 := f13.did d14 fun hb => by omega
    refine ⟨0, rdc r14 rfl, cf rfl ⟨_, rdc q14.r1 rfl, g.v, rfl, cellsAll q14.r2, _, rdc q14.r4 rfl, ?_⟩⟩
    have mb := jf.2.2
    -- refused: it goes back
    have refuse : ∀ (hs : Heap) (Fs : Nat → Prop) (Ts : TM) (e : Int) (k' : Heap → Prop), e ≠ 0 → Fr F h hs → Gw h F hs Fs → Tx hs Fs t d Ts → Ts.undo.length < 1000000000 → (Ts.back T.undo.length).1 = T → (∀ b, h.size ≤ b → b ≤ h8.size → ¬ Fs b) → Tq h.size h8.size t g m T.undo.length hs → rd hs (h.size + 2) = [.int .i64 e] →
        (∀ h19 F', Fr F h h19 → Gw h F h19 F' → Tx h19 F' t d T → rd h19 (h.size + 2) = [.int .i64 e] → k' h19) → D.space_Take_c2 (some ⟨h.size, 0, none⟩) (some ⟨h8.size, 0, none⟩) (some ⟨h.size + 2, 0, none⟩) hs k' := by
      intro hs Fs Ts e k' he fs gs xs us eb nq qs rs H
      refine space_Take_c2.okD (os ⟨_, rdc qs.r1 rfl, os ⟨_, rdc qs.r5 rfl, space_back.ok (os ⟨_, rdc rs rfl, cn (fun _ => ?_) fun e0 => absurd e0 he⟩)⟩⟩)
      refine Back_spec xs us fun h19 f19 x19 => ⟨_, rfl, rfl, ?_⟩
      rw [eb] at x19
      have lq := qs.lt
      have nF : ¬ Fs (h.size + 2) := nq _ (by omega) (by omega)
      exact H h19 Fs (fs.trans f19 fun b hb y => (gs.old b hb).mp y) ⟨gs.old, fun b hb => Nat.lt_of_lt_of_le (gs.lt b hb) f19.size⟩ x19 ((f19.rd (by omega) nF).trans rs)
    refine set_spec (x.no f14) ok (by omega) (by omega) (by omega) fun h16 F6 f6 g6 x6 => ⟨_, rfl, ?_⟩
    have x6 : Tx h16 F6 t d (setBit T g m true).1 := x6
    have em : ((m : Nat) : Int).toNat = m := rfl
    rw [em]
    have z16 := f6.size
    have nq6 : ∀ b, h.size ≤ b → b ≤ h8.size → ¬ F6 b := fun b h1 h2 y => by
      have := x.lt ((g6.old b (by omega)).mp y)
      omega
    have nF6 : ∀ b, F b → h.size ≤ b → b ≤ h8.size → False := fun b y h1 h2 => by have := x.lt y; omega
    have q16 : Tq h.size h8.size t g m T.undo.length h16 := q14.step f6 nF6
    have g16 : Gw h F h16 F6 := (Gw.refl f14.size fun b hb => x.lt hb).trans g6 f14.size
    have f16 : Fr F h h16 := (f14.mono fun _ _ y => y.elim).trans f6 fun _ _ y => y
    refine Put.intro q16.o3 (by rw [q16.l3]; exact Nat.one_pos) fun h17 d17 => ?_
    obtain ⟨q17, r17⟩ := q16.put d17
    have z17 := d17.size
    have x17 : Tx h17 F6 t d (setBit T g m true).1 := x6.fr d17.fr fun b hb e => nq6 b (by omega) (by omega) hb
    have f17 : Fr F h h17 := f16.did d17 fun hb => by omega
    have g17 : Gw h F h17 F6 := ⟨g16.old, fun b hb => by rw [z17]; exact g16.lt b hb⟩
    have u17 : (setBit T g m true).1.undo.length ≤ T.undo.length + 1 := setBit_undo T g m true
    refine ⟨_, rdc r17 rfl, cn (fun he => ?_) fun he => ?_⟩
    · refine ⟨_, rdc r17 rfl, Put.intro q17.o3 (by rw [q17.l3]; exact Nat.one_pos) fun h18 d18 => ?_⟩
      obtain ⟨q18, r18⟩ := q17.put d18
      have z18 := d18.size
      have et : takeAt T g m = (T, 0, (setBit T g m true).2) := by unfold takeAt; rw [if_pos he]
      have hgot := hgot m jm jf jl jr
      rw [et] at hgot
      refine refuse h18 F6 (setBit T g m true).1 _ _ he (f17.did d18 fun hb => by omega) ⟨g17.old, fun b hb => by rw [z18]; exact g17.lt b hb⟩ (x17.fr d18.fr fun b hb e => nq6 b (by omega) (by omega) hb) (by omega) (by rw [setBit_bad he]; exact back_id T) nq6 q18 r18 fun h19 F' f19 g19 x19 r19 => ⟨_, rdc r19 rfl, hgot h19 F' f19 g19 x19⟩
    · refine ⟨_, rdc q17.r1 rfl, _, rdc q17.r4 rfl, by decide, New.intro fun h20 n20 => ⟨rdc ((n20.at_ (by omega)).trans q17.r1) rfl, rdc ((n20.at_ (by omega)).trans q17.r4) rfl, ?_⟩⟩
      have z20 := n20.size
      have B20 : StrAt h20 (some ⟨h17.size, 0, none⟩) 512 zeros512 := strAll (by rw [n20.rd]; exact rep_zeros) List.length_replicate
      have ua : (setBit T g m true).1.undo.length < 1000000000 := by omega
      refine Tm.Write_spec (x17.no n20.fr) B20 (by decide) (fun p ep y => ?_) ua fun h21 F7 f21 g21 x21 => ⟨_, rfl, ?_⟩
      · cases ep
        have := x17.lt y
        have y : F6 h17.size := y
        have := g17.lt _ y
        omega
      have z21 := f21.size
      have q20 : Tq h.size h8.size t g m T.undo.length h20 := q17.step n20.fr fun _ y => y.elim
      have q21 : Tq h.size h8.size t g m T.undo.length h21 := q20.step f21 fun b y h1 h2 => nq6 b h1 h2 y
      have f20 : Fr F h h20 := f17.new n20
      have f21' : Fr F h h21 := f20.trans f21 fun b hb y => (g17.old b hb).mp y
      have g20 : Gw h F h20 F6 := ⟨g17.old, fun b hb => by have := g17.lt b hb; omega⟩
      have g21' : Gw h F h21 F7 := g20.trans g21 f20.size
      have nq7 : ∀ b, h.size ≤ b → b ≤ h8.size → ¬ F7 b := fun b h1 h2 y => nq6 b h1 h2 ((g21.old b (by omega)).mp y)
      refine Put.intro q21.o3 (by rw [q21.l3]; exact Nat.one_pos) fun h22 d22 => ?_
      obtain ⟨q22, r22⟩ := q21.put d22
      have z22 := d22.size
      have x22 : Tx h22 F7 t d ((setBit T g m true).1.write m zeros512).1 := x21.fr d22.fr fun b hb e => nq7 b (by omega) (by omega) hb
      have f22 : Fr F h h22 := f21'.did d22 fun hb => by omega
      have g22 : Gw h F h22 F7 := ⟨g21'.old, fun b hb => by rw [z22]; exact g21'.lt b hb⟩
      have hgot := hgot m jm jf jl jr
      refine ⟨_, rdc r22 rfl, cn (fun hw => ?_) fun hw => ?_⟩
      · refine ⟨_, rdc r22 rfl, Put.intro q22.o3 (by rw [q22.l3]; exact Nat.one_pos) fun h23 d23 => ?_⟩
        obtain ⟨q23, r23⟩ := q22.put d23
        have z23 := d23.size
        have et : takeAt T g m = (T, 0, ((setBit T g m true).1.write m zeros512).2) := by unfold takeAt; rw [if_neg (by rw [he]; simp), if_pos hw]
        rw [et] at hgot
        have x23 := x22.fr d23.fr fun b hb e => nq7 b (by omega) (by omega) hb
        rw [TM.write_bad hw] at x23
        refine refuse h23 F7 (setBit T g m true).1 _ _ hw (f22.did d23 fun hb => by omega) ⟨g22.old, fun b hb => by rw [z23]; exact g22.lt b hb⟩ x23 ua (setBit_back he) nq7 q23 r23 fun h24 F' f24 g24 x24 r24 => ⟨_, rdc r24 rfl, hgot h24 F' f24 g24 x24⟩
      · have et : takeAt T g m = (((setBit T g m true).1.write m zeros512).1, (m : Int), 0) := by unfold takeAt; rw [if_neg (by rw [he]; simp), if_neg (by rw [hw]; simp)]
        rw [et] at hgot
        refine ⟨_, rdc q22.r4 rfl, Put.intro q22.o3 (by rw [q22.l3]; exact Nat.one_pos) fun h25 d25 => ?_⟩
        obtain ⟨q25, r25⟩ := q22.put d25
        have z25 := d25.size
        have x25 := x22.fr d25.fr fun b hb e => nq7 b (by omega) (by omega) hb
        refine space_Take_c2.okD (os ⟨_, rdc q25.r1 rfl, os ⟨_, rdc q25.r5 rfl, space_back.ok (os ⟨_, rdc r25 rfl, cf rfl ⟨rfl, 0, rdc r25 rfl, ?_⟩⟩)⟩⟩)
        exact hgot h25 F7 (f22.did d25 fun hb => by omega) ⟨g22.old, fun b hb => by rw [z25]; exact g22.lt b hb⟩ x25
  · obtain ⟨j, jn⟩ := j
    refine ⟨_, rfl, pe j fun h8 z8 f8 r3 o3 r1 r2 r4 => ⟨_, rdc r3 rfl, cn (fun _ => ⟨_, rdc r3 rfl, ?_⟩) fun e => absurd e he⟩⟩
    refine Put.intro o3 (by rw [r3]; exact Nat.one_pos) fun h9 d9 => ⟨_, rdc (xs := [.int .i64 (T.read k).2]) (by rw [d9.rd, r3]; rfl) rfl, hbad k hk0 hk1 jn he h9 (f8.did d9 fun hb => by omega)⟩
end Go.Proofs.YtjdcbblgaoogmaaGreatDoor.Spc
namespace Go.Proofs.YtjdcbblgaoogmaaGreatDoor.Spc
open Go Go.Proofs Go.Proofs.YtjdcbblgaoogmaaGreatDoor.Wx Go.Proofs.YtjdcbblgaoogmaaGreatDoor.Hp Go.Proofs.YtjdcbblgaoogmaaGreatDoor.W Go.Proofs.YtjdcbblgaoogmaaGreatDoor.Ad Go.Proofs.YtjdcbblgaoogmaaGreatDoor.Tm Go.Proofs.YtjdcbblgaoogmaaGreatDoor.Bt Go.Proofs.YtjdcbblgaoogmaaGreatDoor.Rg
/-- where the regions of n blocks lie -/
def geoN (n : Nat) : G := ⟨n, 98, 98 + (n + 4095) / 4096, 98 + (n + 4095) / 4096 + n / 64, 8 * (n / 64)⟩
theorem geoN_ok {n : Nat} (h : n ≤ 16384) : (geoN n).ok := by
  refine ⟨?_, ?_, ?_, ?_⟩
  · show n ≤ _; omega
  · show 98 ≤ _; omega
  · show 98 + (n + 4095) / 4096 ≤ _; omega
  · show 98 + (n + 4095) / 4096 + n / 64 ≤ _; omega
theorem G.one (g : G) : ∀ v ∈ g.v, v.oneCell' = true := by
  intro v hv
  simp only [G.v, List.mem_cons, List.not_mem_nil, or_false] at hv
  rcases hv with rfl | rfl | rfl | rfl | rfl <;> rfl
theorem Geo_spec {n : Nat} {h : Heap} {K : Value → Heap → Prop} (hn : n ≤ 1099511627776) (hK : ∀ h', Fr No h h' → K (.agg ⟨(geoN n).v⟩) h') : C.boleref09_Geo n h K := by
  refine boleref09_Geo.ok ?_
  unfold boleref09_Geo
  have e1 : Int.tdiv ((n : Int) + 4096 - 1) 4096 = (((n + 4095) / 4096 : Nat) : Int) := by
    rw [show (n : Int) + 4096 - 1 = ((n + 4095 : Nat) : Int) by omega]; rfl
  have e2 : Int.tdiv (n : Int) 64 = ((n / 64 : Nat) : Int) := rfl
  rw [wrap_i64 (n := (n : Int) + 4096) (by omega) (by omega), wrap_i64 (n := (n : Int) + 4096 - 1) (by omega) (by omega), e1, e2, wrap_i64 (n := (((n + 4095) / 4096 : Nat) : Int)) (by omega) (by omega),
    wrap_i64 (n := 98 + (((n + 4095) / 4096 : Nat) : Int)) (by omega) (by omega), wrap_i64 (n := ((n / 64 : Nat) : Int)) (by omega) (by omega), wrap_i64 (n := 98 + (((n + 4095) / 4096 : Nat) : Int) + ((n / 64 : Nat) : Int)) (by omega) (by omega), wrap_i64 (n := 8 * ((n / 64 : Nat) : Int)) (by omega) (by omega)]
  rw [show (98 : Int) + (((n + 4095) / 4096 : Nat) : Int) = ((98 + (n + 4095) / 4096 : Nat) : Int) by omega, show ((98 + (n + 4095) / 4096 : Nat) : Int) + ((n / 64 : Nat) : Int) = ((98 + (n + 4095) / 4096 + n / 64 : Nat) : Int) by omega, show 8 * ((n / 64 : Nat) : Int) = ((8 * (n / 64) : Nat) : Int) by omega]
  exact NewRow.intro (cs := (geoN n).v) rfl (G.one _) rfl fun h3 n3 => ⟨(geoN n).v, rfl, cellsAll n3.rd, hK h3 n3.fr⟩
structure Ext (T T' : TM) : Prop where
  disk : T'.disk = T.disk
  over : T'.over = T.over
  undo : ∃ us, T'.undo = T.undo ++ us ∧ undoAll T'.put us = T.put
theorem Ext.refl (T : TM) : Ext T T := ⟨rfl, rfl, [], (List.append_nil _).symm, rfl⟩
theorem Ext.write {T T' : TM} (e : Ext T T') (i : Int) (bs : Txt) : Ext T (T'.write i bs).1 := by
  by_cases h : (T'.write i bs).2 = 0
  · obtain ⟨h1, h2, h3, h4, h5, ew⟩ := TM.write_ok h
    obtain ⟨us, e1, e2⟩ := e.undo
    rw [ew]
    refine ⟨e.disk, e.over, us ++ [(i, aget T'.put i)], ?_, ?_⟩
    · show T'.undo ++ [_] = _
      rw [e1, List.append_assoc]
    · show undoAll (aput T'.put i bs) (us ++ [(i, aget T'.put i)]) = T.put
      unfold undoAll
      rw [List.foldr_append]
      have : List.foldr (fun u m => undo1 m u) (aput T'.put i bs) [(i, aget T'.put i)] = T'.put := by
        show undo1 (aput T'.put i bs) (i, aget T'.put i) = _
        unfold undo1
        cases ea : aget T'.put i with
        | none => exact adel_aput ea
        | some b => exact aput_aput ea
      rw [this]; exact e2
  · rw [TM.write_bad h]; exact e
theorem Ext.back {T T' : TM} (e : Ext T T') (h : T.over = false) : T'.back T.undo.length = (T, 0) := by
  obtain ⟨us, e1, e2⟩ := e.undo
  have ho : T'.over = false := e.over.trans h
  unfold TM.back
  rw [if_neg (by rw [ho]; simp), if_neg (by rw [e1, List.length_append]; omega)]
  have et : ((T.undo.length : Nat) : Int).toNat = T.undo.length := rfl
  rw [et, e1, List.drop_left, List.take_left, e2]
  have hd := e.disk
  have hv := e.over
  cases T; cases T'; simp_all
end Go.Proofs.YtjdcbblgaoogmaaGreatDoor.Spc
namespace Go.Proofs.YtjdcbblgaoogmaaGreatDoor.Av
open Go Go.Proofs Go.Proofs.YtjdcbblgaoogmaaGreatDoor.Wx Go.Proofs.YtjdcbblgaoogmaaGreatDoor.Hp Go.Proofs.YtjdcbblgaoogmaaGreatDoor.W Go.Proofs.YtjdcbblgaoogmaaGreatDoor.Ad Go.Proofs.YtjdcbblgaoogmaaGreatDoor.Tm Go.Proofs.YtjdcbblgaoogmaaGreatDoor.Bt Go.Proofs.YtjdcbblgaoogmaaGreatDoor.Spc
structure Dim (n : Nat) : Prop where
  lo : 128 ≤ n
  hi : n ≤ 16384
theorem Dim.data {n : Nat} (d : Dim n) : (geoN n).data = 98 + (n + 4095) / 4096 + n / 64 ∧ (geoN n).data < n ∧ (geoN n).data < 4096 ∧ 101 ≤ (geoN n).data := by
  have := d.lo
  have := d.hi
  have e : (geoN n).data = 98 + (n + 4095) / 4096 + n / 64 := rfl
  omega
theorem at_eq (n i : Nat) : (geoN n).at_ i = ((98 + i / 4096 : Nat) : Int) := rfl
theorem bitAt_nil (i : Nat) : bitAt [] i = false := by
  unfold bitAt
  rw [List.getD_nil]
  exact Nat.zero_testBit _
/-- Take -/
def takeM (T : TM) (g : G) : TM × Int × Int :=
  match (List.range g.blocks).find? (fun m => decide (FreeAt T g m)) with
  | some m => takeAt T g m
  | none => (T, 0, 90)
theorem find_low {p : Nat → Bool} {n m : Nat} (h : m < n) (hp : p m = true) (hl : ∀ k, k < m → p k = false) : (List.range n).find? p = some m := by
  rw [List.find?_eq_some_iff_getElem]
  refine ⟨hp, m, by rw [List.length_range]; exact h, List.getElem_range _, fun j hj => ?_⟩
  rw [List.getElem_range, hl j hj]; rfl
theorem find_none {p : Nat → Bool} {n : Nat} (h : ∀ k, k < n → p k = false) : (List.range n).find? p = none := by
  rw [List.find?_eq_none]
  intro x hx
  rw [h x (List.mem_range.mp hx)]; simp
theorem takeM_low {T : TM} {g : G} {m : Nat} (h : FreeAt T g m) (hl : ∀ k, k < m → ¬ FreeAt T g k) : takeM T g = takeAt T g m := by
  unfold takeM
  rw [find_low h.2.2 (decide_eq_true h) fun k hk => decide_eq_false (hl k hk)]
theorem takeM_none {T : TM} {g : G} (h : ∀ k, ¬ FreeAt T g k) : takeM T g = (T, 0, 90) := by
  unfold takeM
  rw [find_none fun k _ => decide_eq_false (h k)]
theorem read_fail {T : TM} {i : Int} (h : (T.read i).2 ≠ 0) : (T.read i).1 = [] := by
  unfold TM.read at h ⊢
  split
  · rfl
  · rename_i h1
    rw [if_neg h1] at h
    split
    · rfl
    · rename_i h2
      rw [if_neg h2] at h
      unfold TM.get at h ⊢
      split
      · rename_i e
        rw [e] at h; exact absurd rfl h
      · rename_i e
        rw [e] at h
        simp only at h
        split
        · rfl
        · rename_i h3
          rw [if_neg h3] at h; exact absurd rfl h
theorem Take_any {h : Heap} {F : Nat → Prop} {t d : Option Addr} {T : TM} {n : Nat} {K : Value → Heap → Prop} (x : Tx h F t d T) (dm : Dim n) (hu : T.undo.length < 900000000)
    (hK : ∀ h' F', Fr F h h' → Gw h F h' F' → Tx h' F' t d (takeM T (geoN n)).1 → K (.tuple #[.int .i64 (takeM T (geoN n)).2.1, .int .i64 (takeM T (geoN n)).2.2]) h') : C.space_Take t (geoN n).v h K := by
  have hd := dm.data
  have hlo := dm.lo
  have hhi := dm.hi
  have hino : (geoN n).inodes = 98 + (n + 4095) / 4096 := rfl
  have hbm : (geoN n).bitmap = 98 := rfl
  have hbl : (geoN n).blocks = n := rfl
  have same : ∀ e h', Fr No h h' → takeM T (geoN n) = (T, 0, e) → K (.tuple #[.int .i64 0, .int .i64 e]) h' := fun e h' f e0 => by
    rw [e0] at hK
    exact hK h' F (f.mono fun _ _ y => y.elim) (Gw.refl f.size fun b hb => x.lt hb) (x.no f)
  refine Take_spec x (geoN_ok hhi) (by omega) (by omega) hu (fun k h1 h2 hno he h' f => same _ h' f ?_) (fun hno h' f => same _ h' f (takeM_none fun k hk => ?_)) (fun m hm hfree hlow hr h' F' f g x' => ?_)
  · rw [hbm] at h1 hno
    -- the first data block of this bitmap block reads as free
    have ex : ∃ m, FreeAt T (geoN n) m ∧ m / 4096 = k - 98 := by
      refine ⟨max (4096 * (k - 98)) (geoN n).data, ⟨?_, Nat.le_max_right _ _, by omega⟩, by omega⟩
      have : (geoN n).at_ (max (4096 * (k - 98)) (geoN n).data) = (k : Int) := by rw [at_eq]; omega
      rw [this, read_fail he]
      exact bitAt_nil _
    obtain ⟨m0, hm0, hk0⟩ := ex
    obtain ⟨m, hm, hl⟩ : ∃ m, FreeAt T (geoN n) m ∧ ∀ k, k < m → ¬ FreeAt T (geoN n) k := by
      clear hk0
      induction m0 using Nat.strongRecOn with
      | ind m0 ih =>
        by_cases h : ∃ k, k < m0 ∧ FreeAt T (geoN n) k
        · obtain ⟨k, h1, h2⟩ := h
          exact ih k h1 h2
        · exact ⟨m0, hm0, fun k h1 h2 => h ⟨k, h1, h2⟩⟩
    have hle : m ≤ m0 := by
      rcases Nat.lt_or_ge m0 m with h | h
      · exact absurd hm0 (hl _ h)
      · exact h
    have hge : 4096 * (k - 98) ≤ m := by
      rcases Nat.lt_or_ge m (4096 * (k - 98)) with h | h
      · exact absurd hm (hno m h)
      · exact h
    have ea : (geoN n).at_ m = (k : Int) := by rw [at_eq]; omega
    rw [takeM_low hm hl]
    unfold takeAt Spc.setBit
    rw [ea, if_pos he, if_pos he]
  · have h3 := hk.2.2
    exact hno k (by omega) hk
  · rw [takeM_low hfree hlow] at hK
    exact hK h' F' f g x'
end Go.Proofs.YtjdcbblgaoogmaaGreatDoor.Av
namespace Go.Proofs.YtjdcbblgaoogmaaGreatDoor.Ry
open Go Go.Proofs Go.Proofs.YtjdcbblgaoogmaaGreatDoor.Wx Go.Proofs.YtjdcbblgaoogmaaGreatDoor.Hp Go.Proofs.YtjdcbblgaoogmaaGreatDoor.W Go.Proofs.YtjdcbblgaoogmaaGreatDoor.Ad Go.Proofs.YtjdcbblgaoogmaaGreatDoor.Tm Go.Proofs.YtjdcbblgaoogmaaGreatDoor.Bt Go.Proofs.YtjdcbblgaoogmaaGreatDoor.Spc Go.Proofs.YtjdcbblgaoogmaaGreatDoor.Re Go.Proofs.YtjdcbblgaoogmaaGreatDoor.Av Go.Proofs.YtjdcbblgaoogmaaGreatDoor.Rx
theorem _root_.Go.Proofs.YtjdcbblgaoogmaaGreatDoor.Rx.RxS.rlen {h : Heap} {F : Nat → Prop} {r e : Option Addr} {T : TM} (x : RxS h F r e T) {i : Int} (e0 : (T.read i).2 = 0) : (T.read i).1.length = 512 := by
  exact x.readLen e0
theorem half_bit : ∀ n : Fin 256, ∀ s : Fin 8, (Int.tmod ((n.val / 2 ^ s.val : Nat) : Int) 2 == 1) = n.val.testBit s.val := by decide +kernel
theorem xor_bit : ∀ n : Fin 256, ∀ s : Fin 8, bitsI .xor .u8 (n.val : Int) ((2 ^ s.val : Nat) : Int) = (setB n.val s.val (!n.val.testBit s.val) : Nat) := by decide +kernel
theorem pow_step : ∀ s : Fin 7, IntKind.wrap .u8 (((2 ^ s.val : Nat) : Int) * 2) = ((2 ^ (s.val + 1) : Nat) : Int) := by decide +kernel
theorem at_wrap {n i : Nat} (d : Dim n) (hi : i < n) : IntKind.wrap .i64 (((geoN n).bitmap : Int) + (IntKind.wrap .i64 (Int.tdiv (i : Int) 4096))) = (geoN n).at_ i := by
  have := d.hi
  have e : Int.tdiv (i : Int) 4096 = ((i / 4096 : Nat) : Int) := rfl
  have e2 : (geoN n).bitmap = 98 := rfl
  rw [e, e2, wrap_i64 (n := ((i / 4096 : Nat) : Int)) (by omega) (by omega), wrap_i64 (by omega) (by omega), at_eq]
  omega
theorem byte_wrap (i : Nat) : IntKind.wrap .i64 (Int.tdiv (Int.tmod (i : Int) 4096) 8) = ((i % 4096 / 8 : Nat) : Int) := by
  have e : Int.tdiv (Int.tmod (i : Int) 4096) 8 = ((i % 4096 / 8 : Nat) : Int) := rfl
  rw [e, wrap_i64 (by omega) (by omega)]
theorem bit_spec {h : Heap} {F : Nat → Prop} {r e : Option Addr} {T : TM} {n i : Nat} {K : Value → Heap → Prop} (x : RxS h F r e T) (d : Dim n) (hi : i < n)
    (hK : ∀ h', Fr No h h' → K (.tuple #[.bool (bitAt (T.read ((geoN n).at_ i)).1 (i % 4096)), .int .i64 (T.read ((geoN n).at_ i)).2]) h') : C.boleref09_bit r (geoN n).v i h K := by
  refine boleref09_bit.ok (New.intro fun h2 n2 => ⟨_, rda n2.rd rfl, ?_⟩)
  rw [at_wrap d hi, byte_wrap]
  refine Rx.Read_spec (x.no n2.fr) fun a l c h3 f3 hl s => ⟨_, _, _, _, rfl, cn (fun he => ?_) fun he => ?_⟩
  · have := hK h3 (n2.fr.no f3)
    rw [read_fail he, bitAt_nil] at this; exact this
  · have hlen := x.rlen he
    generalize (T.read ((geoN n).at_ i)).1 = bs at hl s hlen hK
    obtain ⟨p, rfl, cp⟩ := cell_at s.str (j := i % 4096 / 8) (by omega)
    refine ⟨by omega, os ⟨((bs.getD (i % 4096 / 8) 0).toNat : Int), by rw [Int.toNat_natCast]; exact cp, ?_⟩⟩
    have hb : (bs.getD (i % 4096 / 8) 0).toNat < 256 := UInt8.toNat_lt _
    have em : Int.tmod (i : Int) 8 = ((i % 8 : Nat) : Int) := rfl
    rw [wrap_i64 (n := ((bs.getD (i % 4096 / 8) 0).toNat : Int)) (by omega) (by omega), em]
    have eb : bitAt bs (i % 4096) = (bs.getD (i % 4096 / 8) 0).toNat.testBit (i % 8) := by unfold bitAt; rw [Nat.mod_mod_of_dvd i (by decide : 8 ∣ 4096)]
    rw [eb, he] at hK
    generalize (bs.getD (i % 4096 / 8) 0).toNat = b at hb hK
    refine ⟨fun v k hh => ∃ j : Nat, k = j ∧ j ≤ i % 8 ∧ v = ((b / 2 ^ j : Nat) : Int) ∧ hh = h3, fun _ k _ => (((i % 8 : Nat) : Int) - k).toNat, ⟨0, rfl, Nat.zero_le _, by rw [Nat.pow_zero, Nat.div_one], rfl⟩, ?_⟩
    rintro v k hh ⟨j, rfl, hj, rfl, rfl⟩
    refine cd (fun hlt => ?_) fun hlt => ?_
    · have hle : b / 2 ^ j / 2 ≤ 255 := Nat.le_trans (Nat.div_le_self _ _) (Nat.le_trans (Nat.div_le_self _ _) (by omega))
      have e1 : IntKind.wrap .i64 (Int.tdiv ((b / 2 ^ j : Nat) : Int) 2) = ((b / 2 ^ j / 2 : Nat) : Int) := by
        rw [show Int.tdiv ((b / 2 ^ j : Nat) : Int) 2 = ((b / 2 ^ j / 2 : Nat) : Int) from rfl]
        generalize b / 2 ^ j / 2 = y at hle ⊢
        exact wrap_i64 (by omega) (by omega)
      rw [e1, wrap_i64 (n := (j : Int) + 1) (by omega) (by omega)]
      exact ⟨⟨j + 1, by omega, by omega, by rw [Nat.pow_succ, Nat.div_div_eq_div_mul], rfl⟩, by show (((i % 8 : Nat) : Int) - ((j : Int) + 1)).toNat < (((i % 8 : Nat) : Int) - (j : Int)).toNat; omega⟩
    · have ej : j = i % 8 := by omega
      subst ej
      have := half_bit ⟨b, hb⟩ ⟨i % 8, Nat.mod_lt _ (by decide)⟩
      simp only at this
      rw [this]
      exact hK hh (n2.fr.no f3)
theorem set_spec {h : Heap} {F : Nat → Prop} {r e : Option Addr} {T : TM} {n i : Nat} {on : Bool} {K : Value → Heap → Prop} (x : RxS h F r e T) (d : Dim n) (hN : 98 ≤ T.N) (hi : i < n) (hu : T.undo.length < 1000000000) (hb : (T.read ((geoN n).at_ i)).2 = 0 → bitAt (T.read ((geoN n).at_ i)).1 (i % 4096) = !on)
    (hK : ∀ h' F', Fr F h h' → Gw h F h' F' → RxS h' F' r e (setBit T (geoN n) i on).1 → K (.int .i64 (setBit T (geoN n) i on).2) h') : C.boleref09_set r (geoN n).v i h K := by
  have Flt := fun b (hb : F b) => x.lt hb
  refine boleref09_set.ok (New.intro fun h2 n2 => ⟨_, rda n2.rd rfl, ?_⟩)
  rw [at_wrap d hi, byte_wrap]
  refine Rx.Read_spec (x.no n2.fr) fun a l c h3 f3 hl s => ⟨_, _, _, _, rfl, cn (fun he => ?_) fun he => ?_⟩
  · have e0 : setBit T (geoN n) i on = (T, (T.read ((geoN n).at_ i)).2) := by unfold Spc.setBit; rw [if_pos he]
    rw [e0] at hK
    have f := n2.fr.no f3
    exact hK h3 F (f.mono fun _ _ y => y.elim) (Gw.refl f.size Flt) (x.no f)
  · have hlen := x.rlen he
    have hb := hb he
    have e0 : setBit T (geoN n) i on = T.write ((geoN n).at_ i) (putBit (T.read ((geoN n).at_ i)).1 (i % 4096) on) := by unfold Spc.setBit; rw [if_neg (fun y => y he)]
    rw [e0] at hK
    generalize (T.read ((geoN n).at_ i)).1 = bs at hl s hlen hK hb
    have em : Int.tmod (i : Int) 8 = ((i % 8 : Nat) : Int) := rfl
    rw [em]
    have z2 := n2.size
    have z3 := f3.size
    refine ⟨fun v k hh => ∃ j : Nat, k = j ∧ j ≤ i % 8 ∧ v = ((2 ^ j : Nat) : Int) ∧ hh = h3, fun _ k _ => (((i % 8 : Nat) : Int) - k).toNat, ⟨0, rfl, Nat.zero_le _, rfl, rfl⟩, ?_⟩
    rintro v k hh ⟨j, rfl, hj, rfl, rfl⟩
    refine cd (fun hlt => ?_) fun hlt => ?_
    · have := pow_step ⟨j, by omega⟩
      simp only at this
      rw [this, wrap_i64 (by omega) (by omega)]
      exact ⟨⟨j + 1, by omega, by omega, rfl, rfl⟩, by show (((i % 8 : Nat) : Int) - ((j : Int) + 1)).toNat < (((i % 8 : Nat) : Int) - (j : Int)).toNat; omega⟩
    · have ej : j = i % 8 := by omega
      subst ej
      obtain ⟨p, rfl, cp⟩ := cell_at s.str (j := i % 4096 / 8) (by omega)
      obtain ⟨pb, po, sp⟩ := p
      have esp : sp = none := s.2.1
      subst esp
      have hfrom : h2.size ≤ pb := s.2.2.1
      obtain ⟨w6, l6⟩ := s.wr
      have hbb : (bs.getD (i % 4096 / 8) 0).toNat < 256 := UInt8.toNat_lt _
      have eb : (bs.getD (i % 4096 / 8) 0).toNat.testBit (i % 8) = !on := by rw [← hb]; unfold bitAt; rw [Nat.mod_mod_of_dvd i (by decide : 8 ∣ 4096)]
      refine ⟨by omega, os ⟨((bs.getD (i % 4096 / 8) 0).toNat : Int), by rw [Int.toNat_natCast]; exact cp, by omega, os (Put.add w6 (by rw [Int.toNat_natCast]; omega) fun h5 d5 => ?_)⟩⟩
      rw [Int.toNat_natCast] at d5
      have ex := xor_bit ⟨_, hbb⟩ ⟨i % 8, Nat.mod_lt _ (by decide)⟩
      simp only at ex
      rw [ex, eb, Bool.not_not] at d5
      have z5 := d5.size
      have e5 : (Value.int .u8 ((setB (bs.getD (i % 4096 / 8) 0).toNat (i % 8) on : Nat) : Int)) = bv (UInt8.ofNat (setB (bs.getD (i % 4096 / 8) 0).toNat (i % 8) on)) := by
        unfold bv
        rw [UInt8.toNat_ofNat_of_lt' (setB_lt' hbb (Nat.mod_lt _ (by decide)) on)]
      rw [e5] at d5
      have s5 := s.putAt (new := [bv (UInt8.ofNat (setB (bs.getD (i % 4096 / 8) 0).toNat (i % 8) on))]) (j := i % 4096 / 8) (by show _ + 1 ≤ _; omega) d5
      have e7 : put (bs.map bv) (i % 4096 / 8) [bv (UInt8.ofNat (setB (bs.getD (i % 4096 / 8) 0).toNat (i % 8) on))] = (putBit bs (i % 4096) on).map bv := by
        show (bs.map bv).set _ _ = _
        unfold putBit
        rw [List.map_set, Nat.mod_mod_of_dvd i (by decide : 8 ∣ 4096)]
      rw [e7] at s5
      refine ⟨_, rda ((d5.at_ (by omega) (by omega)).trans ((f3.rd (by omega) fun y => y).trans n2.rd)) rfl, ?_⟩
      rw [at_wrap d hi]
      have f5 : Fr No h h5 := (n2.fr.no f3).did d5 fun y => by omega
      refine Rx.Write_spec (x.no f5) hN s5.str hu fun h6 F6 f6 g6 x6 => ⟨_, rfl, hK h6 F6 ((f5.mono fun _ _ y => y.elim).trans f6 fun _ _ y => y) ((Gw.refl f5.size Flt).trans g6 f5.size) x6⟩
theorem setBit_ext {T0 T : TM} {g : G} {i : Nat} {on : Bool} (x : Ext T0 T) : Ext T0 (setBit T g i on).1 := by
  unfold Spc.setBit
  split
  · exact x
  · exact x.write _ _
theorem setBit_un {T : TM} {g : G} {i : Nat} {on : Bool} : (setBit T g i on).1.undo.length ≤ T.undo.length + 1 := by
  unfold Spc.setBit
  split
  · exact Nat.le_add_right _ _
  · unfold TM.write
    split
    · exact Nat.le_add_right _ _
    · split
      · exact Nat.le_add_right _ _
      · split
        · exact Nat.le_add_right _ _
        · split
          · exact Nat.le_add_right _ _
          · show (T.undo ++ [_]).length ≤ _
            rw [List.length_append]; exact Nat.le_refl _
theorem live_of {T : TM} {i : Int} (h : (T.read i).2 = 0) : T.over = false := by
  unfold TM.read at h
  split at h
  · cases h
  · rename_i y; cases e : T.over <;> simp_all
theorem mark_of {T : TM} (h : T.over = false) : T.mark.1 = (T.undo.length : Int) := by unfold TM.mark; rw [h]; rfl
theorem Take_spec {h : Heap} {F : Nat → Prop} {r e : Option Addr} {T : TM} {n : Nat} {K : Value → Heap → Prop} (x : RxS h F r e T) (d : Dim n) (hN : 98 ≤ T.N) (hu : T.undo.length < 900000000)
    (hK : ∀ h' F', Fr F h h' → Gw h F h' F' → RxS h' F' r e (takeM T (geoN n)).1 → K (.tuple #[.int .i64 (takeM T (geoN n)).2.1, .int .i64 (takeM T (geoN n)).2.2]) h') : C.boleref09_Take r (geoN n).v h K := by
  have Flt := fun b (hb : F b) => x.lt hb
  have hd := d.data
  have hhi := d.hi
  have same : ∀ er h', Fr No h h' → takeM T (geoN n) = (T, 0, er) → K (.tuple #[.int .i64 0, .int .i64 er]) h' := fun er h' f e0 => by
    rw [e0] at hK
    exact hK h' F (f.mono fun _ _ y => y.elim) (Gw.refl f.size Flt) (x.no f)
  -- a block of the map that can't be read
  have bad : ∀ m, (geoN n).data ≤ m → m < n → (∀ k, k < m → ¬ FreeAt T (geoN n) k) → (T.read ((geoN n).at_ m)).2 ≠ 0 → takeM T (geoN n) = (T, 0, (T.read ((geoN n).at_ m)).2) := fun m h1 h2 hl he => by
    rw [takeM_low ⟨by rw [read_fail he]; exact bitAt_nil _, h1, h2⟩ hl]
    unfold takeAt Spc.setBit
    rw [if_pos he, if_pos he]
  refine boleref09_Take.ok (New.intro fun h2 n2 => ⟨_, rda n2.rd rfl, ?_⟩)
  have z2 := n2.size
  have a0 : (geoN n).at_ (geoN n).data = ((geoN n).bitmap : Int) := by rw [at_eq]; show ((98 + (geoN n).data / 4096 : Nat) : Int) = ((98 : Nat) : Int); omega
  have nolow : ∀ k, k < (geoN n).data → ¬ FreeAt T (geoN n) k := fun k hk y => by have := y.2.1; omega
  refine Rx.Read_spec (x.no n2.fr) fun a l c h3 f3 hl s => ⟨_, _, _, _, rfl, cn (fun he => ?_) fun he => ?_⟩
  · have := bad (geoN n).data (Nat.le_refl _) hd.2.1 nolow (by rw [a0]; exact he)
    rw [a0] at this
    exact same _ h3 (n2.fr.no f3) this
  have live := live_of he
  have F3 := n2.fr.no f3
  refine ⟨_, rda ((f3.rd (by omega) fun y => y).trans n2.rd) rfl, ?_⟩
  refine ⟨fun ba bl bc i hh => ∃ m : Nat, i = m ∧ (geoN n).data ≤ m ∧ m ≤ n ∧ Fr No h hh ∧ h.size < hh.size ∧ rd hh h.size = (geoN n).v ∧ (∀ k, k < m → ¬ FreeAt T (geoN n) k) ∧ (m % 4096 ≠ 0 → m ≠ (geoN n).data → (T.read ((geoN n).at_ m)).2 = 0 ∧ bl = 512 ∧ Sl hh 1 ba bl bc ((T.read ((geoN n).at_ m)).1.map bv) (From h.size)), fun _ _ _ i _ => ((n : Int) - i).toNat,
    ⟨(geoN n).data, rfl, Nat.le_refl _, by omega, F3, by have := f3.size; omega, (f3.rd (by omega) fun y => y).trans n2.rd, nolow, fun _ y => absurd rfl y⟩, ?_⟩
  rintro ba bl bc i h4 ⟨m, rfl, hm1, hm2, F4, z4, r4, low, hb⟩
  refine ⟨_, rda r4 rfl, cd (fun hlt => ?_) fun hlt => same 90 h4 F4 (takeM_none fun k y => ?_)⟩
  rotate_left
  · have := y.2.2
    have hbl : (geoN n).blocks = n := rfl
    rw [hbl] at this
    have hlt : ¬ (m : Int) < ((geoN n).blocks : Int) := hlt
    rw [hbl] at hlt
    exact low k (by omega) y
  have hlt : m < n := by have hlt : (m : Int) < ((geoN n).blocks : Int) := hlt; have hbl : (geoN n).blocks = n := rfl; rw [hbl] at hlt; omega
  -- the block's bytes are at hand
  have go : ∀ {b2 : Option Addr} {l2 c2 : Nat} {h6 : Heap}, Fr No h4 h6 → (T.read ((geoN n).at_ m)).2 = 0 → l2 = 512 → Sl h6 1 b2 l2 c2 ((T.read ((geoN n).at_ m)).1.map bv) (From h.size) → boleref09_Take.k1 r h ba bl bc (m : Int) h4 (fun ba bl bc i hh => ∃ m : Nat, i = m ∧ (geoN n).data ≤ m ∧ m ≤ n ∧ Fr No h hh ∧ h.size < hh.size ∧ rd hh h.size = (geoN n).v ∧ (∀ k, k < m → ¬ FreeAt T (geoN n) k) ∧ (m % 4096 ≠ 0 → m ≠ (geoN n).data → (T.read ((geoN n).at_ m)).2 = 0 ∧ bl = 512 ∧ Sl hh 1 ba bl bc ((T.read ((geoN n).at_ m)).1.map bv) (From h.size))) (fun _ _ _ i _ => ((n : Int) - i).toNat) b2 l2 c2 h6 K := fun {b2} {l2} {c2} {h6} f6 he6 el s6 => by
    subst el
    have hlen := x.rlen he6
    have F6 := F4.no f6
    have r6 : rd h6 h.size = (geoN n).v := (f6.rd z4 fun y => y).trans r4
    have z6 : h.size < h6.size := by have := f6.size; omega
    have next : ∀ h7, Fr No h6 h7 → bitAt (T.read ((geoN n).at_ m)).1 (m % 4096) = true → (∃ m_1 : Nat, IntKind.wrap .i64 ((m : Int) + 1) = m_1 ∧ (geoN n).data ≤ m_1 ∧ m_1 ≤ n ∧ Fr No h h7 ∧ h.size < h7.size ∧ rd h7 h.size = (geoN n).v ∧ (∀ k, k < m_1 → ¬ FreeAt T (geoN n) k) ∧ (m_1 % 4096 ≠ 0 → m_1 ≠ (geoN n).data → (T.read ((geoN n).at_ m_1)).2 = 0 ∧ (512 : Nat) = 512 ∧ Sl h7 1 b2 512 c2 ((T.read ((geoN n).at_ m_1)).1.map bv) (From h.size))) ∧ ((n : Int) - IntKind.wrap .i64 ((m : Int) + 1)).toNat < ((n : Int) - (m : Int)).toNat := fun h7 f7 hon => by
      rw [wrap_i64 (by omega) (by omega)]
      refine ⟨⟨m + 1, by omega, by omega, by omega, F6.no f7, by have := f7.size; omega, (f7.rd z6 fun y => y).trans r6, fun k hk y => ?_, fun h1 _ => ?_⟩, by omega⟩
      · by_cases ek : k = m
        · rw [ek] at y; have := y.1; rw [hon] at this; cases this
        · exact low k (by omega) y
      · have : (geoN n).at_ (m + 1) = (geoN n).at_ m := by rw [at_eq, at_eq]; omega
        rw [this]
        exact ⟨he6, rfl, s6.fr f7 fun _ _ _ y => y⟩
    unfold boleref09_Take.k1
    rw [byte_wrap]
    generalize hbs : (T.read ((geoN n).at_ m)).1 = bs at s6 hlen next
    obtain ⟨p, rfl, cp⟩ := cell_at s6.str (j := m % 4096 / 8) (by omega)
    refine ⟨by omega, os ⟨((bs.getD (m % 4096 / 8) 0).toNat : Int), by rw [Int.toNat_natCast]; exact cp, ce (fun h255 => ?_) fun _ => ?_⟩⟩
    · refine next h6 (Fr.refl _ _) ?_
      unfold bitAt
      have : (bs.getD (m % 4096 / 8) 0).toNat = 255 := by omega
      rw [this]
      have : ∀ s : Fin 8, Nat.testBit 255 s.val = true := by decide
      exact this ⟨m % 4096 % 8, Nat.mod_lt _ (by decide)⟩
    · refine ⟨(geoN n).v, rfl, cellsAll r6, bit_spec (x.no F6) d hlt fun h7 f7 => ⟨_, _, rfl, cn (fun y => absurd he6 y) fun _ => cs (fun hon => next h7 f7 (by rw [← hbs]; exact hon)) fun hoff => ?_⟩⟩
      -- free: it is taken
      have tk := takeM_low (T := T) (g := geoN n) (m := m) ⟨hoff, hm1, hlt⟩ low
      have F7 := F6.no f7
      have r7 : rd h7 h.size = (geoN n).v := (f7.rd z6 fun y => y).trans r6
      have x7 := x.no F7
      have hmk := mark_of live
      have fin : ∀ (T2 : TM × Int) h' F', Fr F h7 h' → Gw h7 F h' F' → Ext T T2.1 → RxS h' F' r e T2.1 → (T2.2 ≠ 0 → takeM T (geoN n) = (T, 0, T2.2)) → (T2.2 = 0 → takeM T (geoN n) = (T2.1, (m : Int), 0)) → boleref09_Take.k2 r (m : Int) T.mark.1 T2.2 h' K := fun T2 h' F' f g ex xx h1 h2 => by
        unfold boleref09_Take.k2
        have Fh : Fr F h h' := (F7.mono fun _ _ y => y.elim).trans f fun _ _ y => y
        have Gh : Gw h F h' F' := (Gw.refl F7.size Flt).trans g F7.size
        refine cn (fun hne => ?_) fun he0 => ?_
        · rw [hmk]
          refine Rx.Back_spec xx fun h'' F'' f'' g'' x'' => ⟨_, rfl, ?_⟩
          rw [ex.back live] at x''
          have := h1 hne
          rw [this] at hK
          exact hK h'' F'' (Fh.trans f'' fun b hb y => (Gh.old b hb).mp y) (Gh.trans g'' Fh.size) x''
        · rw [h2 he0] at hK
          exact hK h' F' Fh Gh xx
      refine Rx.Mark_spec x7 ⟨_, _, rfl, (geoN n).v, rfl, cellsAll r7, set_spec (on := true) x7 d hN hlt (by omega) (fun _ => hoff) fun h9 F9 f9 g9 x9 => ⟨_, rfl, ce (fun h0 => ⟨by decide, New.intro fun h10 n10 => ?_⟩) fun h0 => ?_⟩⟩
      · have z9 := f9.size
        have z10 := n10.size
        have un := setBit_un (T := T) (g := geoN n) (i := m) (on := true)
        have ex := setBit_ext (g := geoN n) (i := m) (on := true) (Ext.refl T)
        have hN9 : 98 ≤ (setBit T (geoN n) m true).1.N := by unfold TM.N; rw [ex.disk]; exact hN
        refine Rx.Write_spec (bs := zeros512) (x9.no n10.fr) hN9 (strAll (n10.rd.trans Spc.rep_zeros) List.length_replicate) (by omega) fun h11 F11 f11 g11 x11 => ⟨_, rfl, ?_⟩
        have G10 : Gw h7 F h10 F9 := ⟨g9.old, fun b hb => by have := g9.lt b hb; omega⟩
        have G11 : Gw h7 F h11 F11 := G10.trans g11 (by omega)
        have f711 : Fr F h7 h11 := (f9.no n10.fr).trans f11 fun b hb y => (g9.old b hb).mp y
        refine fin _ h11 F11 f711 G11 (ex.write _ _) x11 (fun h1 => ?_) fun h1 => ?_
        · rw [tk]; unfold takeAt; rw [if_neg (fun y => y h0), if_pos h1]
        · rw [tk]; unfold takeAt; rw [if_neg (fun y => y h0), if_neg (fun y => y h1)]
      · refine fin _ h9 F9 f9 g9 (setBit_ext (Ext.refl T)) x9 (fun h1 => ?_) fun h1 => absurd h1 h0
        rw [tk]; unfold takeAt; rw [if_pos h1]
  by_cases h0 : m % 4096 = 0
  · refine ct (by rw [beq_iff_eq]; show Int.tmod (m : Int) 4096 = 0; have : Int.tmod (m : Int) 4096 = ((m % 4096 : Nat) : Int) := rfl; omega) ⟨_, rda r4 rfl, ?_⟩
    rw [at_wrap d hlt]
    exact Rx.Read_spec (x.no F4) fun a l c h5 f5 hl s => ⟨_, _, _, _, rfl, cn (fun he => same _ h5 (F4.no f5) (bad m hm1 hlt low he)) fun he => go f5 he (by rw [hl]; exact x.rlen he) (s.mono fun b hb => Nat.le_trans F4.size hb)⟩
  · refine cf (by rw [beq_eq_false_iff_ne]; show Int.tmod (m : Int) 4096 ≠ 0; have : Int.tmod (m : Int) 4096 = ((m % 4096 : Nat) : Int) := rfl; omega) ⟨_, rda r4 rfl, ce (fun hdm => ⟨_, rda r4 rfl, ?_⟩) fun hdm => ?_⟩
    · rw [at_wrap d hlt]
      exact Rx.Read_spec (x.no F4) fun a l c h5 f5 hl s => ⟨_, _, _, _, rfl, cn (fun he => same _ h5 (F4.no f5) (bad m hm1 hlt low he)) fun he => go f5 he (by rw [hl]; exact x.rlen he) (s.mono fun b hb => Nat.le_trans F4.size hb)⟩
    · obtain ⟨he, el, s⟩ := hb h0 fun y => hdm (by rw [y])
      exact go (Fr.refl _ _) he el s
theorem Give_spec {h : Heap} {F : Nat → Prop} {r e : Option Addr} {T : TM} {n : Nat} {i : Int} {K : Value → Heap → Prop} (x : RxS h F r e T) (d : Dim n) (hN : 98 ≤ T.N) (hu : T.undo.length < 900000000)
    (hK : ∀ h' F', Fr F h h' → Gw h F h' F' → RxS h' F' r e (Spc.give T (geoN n) i).1 → K (.int .i64 (Spc.give T (geoN n) i).2) h') : C.boleref09_Give r (geoN n).v i h K := by
  have Flt := fun b (hb : F b) => x.lt hb
  have same : ∀ er h', Fr No h h' → Spc.give T (geoN n) i = (T, er) → K (.int .i64 er) h' := fun er h' f e0 => by
    rw [e0] at hK
    exact hK h' F (f.mono fun _ _ y => y.elim) (Gw.refl f.size Flt) (x.no f)
  have hbl : ((geoN n).blocks : Int) = n := rfl
  refine boleref09_Give.ok (New.intro fun h2 n2 => ⟨_, rda n2.rd rfl, cd (fun h0 => same 91 h2 n2.fr (by unfold Spc.give; rw [if_pos (.inl h0)])) fun h0 => ⟨_, rda n2.rd rfl, cd (fun h1 => same 91 h2 n2.fr (by unfold Spc.give; rw [if_pos (.inr h1)])) fun h1 => ?_⟩⟩)
  obtain ⟨m, rfl⟩ : ∃ m : Nat, i = m := ⟨i.toNat, by omega⟩
  have hlt : m < n := by omega
  have e1 : Spc.give T (geoN n) m = if (T.read ((geoN n).at_ m)).2 ≠ 0 then (T, (T.read ((geoN n).at_ m)).2) else if bitAt (T.read ((geoN n).at_ m)).1 (m % 4096) = false then (T, 91) else setBit T (geoN n) m false := by
    unfold Spc.give
    rw [if_neg (by omega), Int.toNat_natCast]
  unfold boleref09_Give.k1
  refine ⟨_, rfl, cellsAll n2.rd, bit_spec (x.no n2.fr) d hlt fun h3 f3 => ⟨_, _, rfl, cn (fun he => same _ h3 (n2.fr.no f3) (by rw [e1, if_pos he])) fun he => ?_⟩⟩
  rw [if_neg (fun y => y he)] at e1
  have z2 := n2.size
  refine cnot (cs (fun hb => ?_) fun hb => same _ h3 (n2.fr.no f3) (by rw [e1, if_pos hb]))
  rw [if_neg (by rw [hb]; simp)] at e1
  rw [e1] at hK
  have f := n2.fr.no f3
  refine ⟨_, rfl, cellsAll ((f3.rd (by omega) fun y => y).trans n2.rd), set_spec (on := false) (x.no f) d hN hlt (by omega) (fun _ => hb) fun h4 F4 f4 g4 x4 => ⟨_, rfl, hK h4 F4 ((f.mono fun _ _ y => y.elim).trans f4 fun _ _ y => y) ((Gw.refl f.size Flt).trans g4 f.size) x4⟩⟩
end Go.Proofs.YtjdcbblgaoogmaaGreatDoor.Ry
namespace Go.Proofs.YtjdcbblgaoogmaaGreatDoor.Sy
open Go Go.Proofs Go.Proofs.YtjdcbblgaoogmaaGreatDoor.Wx Go.Proofs.YtjdcbblgaoogmaaGreatDoor.Hp Go.Proofs.YtjdcbblgaoogmaaGreatDoor.W Go.Proofs.YtjdcbblgaoogmaaGreatDoor.Ad Go.Proofs.YtjdcbblgaoogmaaGreatDoor.Tm Go.Proofs.YtjdcbblgaoogmaaGreatDoor.Bt Go.Proofs.YtjdcbblgaoogmaaGreatDoor.Spc Go.Proofs.YtjdcbblgaoogmaaGreatDoor.Av
def usedM (T : TM) (g : G) (i : Int) : Bool × Int :=
  if ¬ (0 ≤ i ∧ i < g.blocks) then (false, 31) else if (T.read (g.at_ i.toNat)).2 ≠ 0 then (false, (T.read (g.at_ i.toNat)).2) else (bitAt (T.read (g.at_ i.toNat)).1 (i.toNat % 4096), 0)
theorem Used_any {h : Heap} {F : Nat → Prop} {t d : Option Addr} {T : TM} {g : G} {i : Int} {K : Value → Heap → Prop} (x : Tx h F t d T) (ok : g.ok)
    (hK : ∀ h', Fr No h h' → K (.tuple #[.bool (usedM T g i).1, .int .i64 (usedM T g i).2]) h') : C.space_Used t g.v i h K := by
  unfold usedM at hK
  refine Spc.Used_spec x ok (fun hb => ?_) (fun h0 h1 he => ?_) fun h0 h1 he => ?_
  · rw [if_pos hb] at hK; exact hK
  · rw [if_neg (fun y => y ⟨h0, h1⟩), if_pos he] at hK; exact hK
  · rw [if_neg (fun y => y ⟨h0, h1⟩), if_neg (fun y => y he)] at hK; exact hK
theorem Used6_spec {h : Heap} {F : Nat → Prop} {r e : Option Addr} {T : TM} {n : Nat} {i : Int} {K : Value → Heap → Prop} (x : Rx.RxS h F r e T) (d : Dim n)
    (hK : ∀ h', Fr No h h' → K (.tuple #[.bool (usedM T (geoN n) i).1, .int .i64 (usedM T (geoN n) i).2]) h') : C.boleref09_Used r (geoN n).v i h K := by
  unfold usedM at hK
  have hbl : ((geoN n).blocks : Int) = n := rfl
  refine boleref09_Used.ok (New.intro fun h2 n2 => cd (fun h0 => ?_) fun h0 => ⟨_, rda n2.rd rfl, cd (fun h1 => ?_) fun h1 => ?_⟩)
  · rw [if_pos (fun y => absurd y.1 (by omega))] at hK; exact hK h2 n2.fr
  · rw [if_pos (fun y => absurd y.2 (by omega))] at hK; exact hK h2 n2.fr
  · obtain ⟨m, rfl⟩ : ∃ m : Nat, i = m := ⟨i.toNat, by omega⟩
    rw [if_neg (fun y => y ⟨by omega, by omega⟩), Int.toNat_natCast] at hK
    unfold boleref09_Used.k1
    refine ⟨_, rfl, cellsAll n2.rd, Ry.bit_spec (x.no n2.fr) d (by omega) fun h3 f3 => ⟨_, _, rfl, ?_⟩⟩
    have hK := hK h3 (n2.fr.no f3)
    split at hK
    · rename_i he
      rw [read_fail he, bitAt_nil]; exact hK
    · rename_i he
      have he : (T.read ((geoN n).at_ m)).2 = 0 := by simpa using he
      rw [he]; exact hK
/-- what Free answers -/
def FreeR (T : TM) (g : G) (r : Int × Int) : Prop :=
  (∃ k : Nat, g.bitmap ≤ k ∧ k < g.inodes ∧ (∀ k' : Nat, g.bitmap ≤ k' → k' < k → (T.read k').2 = 0) ∧ (T.read k).2 ≠ 0 ∧ r = (0, (T.read k).2)) ∨
  ((∀ k : Nat, g.bitmap ≤ k → k < g.inodes → (T.read k).2 = 0) ∧ r = (((cntTo T g (4096 * (g.inodes - g.bitmap)) : Nat) : Int), 0))
theorem FreeR.one {T : TM} {g : G} {r s : Int × Int} (a : FreeR T g r) (b : FreeR T g s) : r = s := by
  rcases a with ⟨k, k0, k1, k2, k3, rfl⟩ | ⟨k2, rfl⟩
  · rcases b with ⟨l, l0, l1, l2, l3, rfl⟩ | ⟨l2, rfl⟩
    · rcases Nat.lt_trichotomy k l with e | e | e
      · exact absurd (l2 k k0 e) k3
      · rw [e]
      · exact absurd (k2 l l0 e) l3
    · exact absurd (l2 k k0 k1) k3
  · rcases b with ⟨l, l0, l1, l2, l3, rfl⟩ | ⟨l2, rfl⟩
    · exact absurd (k2 l l0 l1) l3
    · rfl
theorem Free_any {h : Heap} {F : Nat → Prop} {t d : Option Addr} {T : TM} {g : G} {K : Value → Heap → Prop} (x : Tx h F t d T) (ok : g.ok) (hbi : g.bitmap ≤ g.inodes)
    (hK : ∀ r h', FreeR T g r → Fr No h h' → K (.tuple #[.int .i64 r.1, .int .i64 r.2]) h') : C.space_Free t g.v h K := by
  refine space_Free.ok (New.intro fun h2 n2 => New.intro fun h3 n3 => ?_)
  have z2 := n2.size
  have z3 := n3.size
  have e2 : h2.size = h.size + 1 := z2
  have b2 := ok.m
  have b3 := ok.i
  refine Put.intro n3.own (by rw [n3.rd]; exact Nat.one_pos) fun h4 d4 => ?_
  have z4 := d4.size
  have k4 : Fk h.size h g 0 h4 := by
    have r := d4.rd
    have o := d4.own
    rw [n3.rd] at r
    rw [e2] at r o
    exact ⟨(n2.fr.new n3).did d4 fun hb => by omega, rfl, by omega, (d4.at_ (by omega) (by omega)).trans ((n3.at_ (by omega)).trans n2.rd), o, r⟩
  rw [e2]
  refine ⟨g.v, rfl, cellsAll k4.r1, ?_⟩
  refine each_spec (T := T) (F := F) (d := d) ok hbi (fun k hh => (∀ k', g.bitmap ≤ k' → k' < k → (T.read k').2 = 0) ∧ Fk h.size h g (cntTo T g (4096 * (k - g.bitmap)) : Nat) hh) (fun _ => False) (fun k hh j => x.no j.2.f) (fun k hh hh' j f => ⟨j.1, j.2.step f fun b hb => by have hb : h4.size ≤ b := hb; omega⟩) (fun k hh A l c j hk0 hk1 he B => ?_) ?_
    (fun hh j => ⟨_, rfl, cf rfl ⟨_, rdc j.2.r2 rfl, hK _ hh (.inr ⟨j.1, rfl⟩) j.2.f⟩⟩) (fun hh e => e.elim) fun k hh j hk0 hk1 he => ⟨_, rfl, cn (fun _ => hK _ hh (.inl ⟨k, hk0, hk1, j.1, he, rfl⟩) j.2.f) fun e => absurd e he⟩
  · obtain ⟨j0, j⟩ := j
    have hlen := Tx.readLen x he
    have hl : l = 512 := by rw [← B.1]; exact hlen
    subst hl
    have sz := j.size
    show C.space_Free_c1 _ A 512 c (some ⟨h.size, 0, none⟩) (some ⟨h.size + 1, 0, none⟩) hh _
    refine space_Free_c1.ok (os ⟨g.v, rfl, cellsAll j.r1, ?_⟩)
    refine rows_spec B (by omega) (by omega) ok (by omega) rfl (fun i hx => Fk h.size h g (cntTo T g (4096 * (k - g.bitmap) + i) : Nat) hx ∧ Fr (fun b => b = h.size + 1) hh hx) (fun _ => False) (fun i hx hx' q f => ⟨q.1.step f fun b hb => by have hb : hh.size ≤ b := hb; omega, q.2.trans f fun b hb y => by have y : hh.size ≤ b := y; omega⟩)
      (fun _ _ e _ => e.elim) (fun i j' hx q h1 h2 h3 => ?_) (fun i j' a b hx q h1 h2 h3 h4 h5 h6 => ?_) ⟨by rw [Nat.add_zero]; exact j, Fr.refl _ _⟩ fun hx q => ⟨rfl, true, rfl, ?_, ?_, fun x => by cases x⟩
    · have := cnt_zero (T := T) (g := g) (i := 4096 * (k - g.bitmap) + i) (j' - i) fun t x y z => by
        refine h3 (t - 4096 * (k - g.bitmap)) (by omega) (by omega) ((isF_iff hk0 (by omega)).mpr ?_)
        rw [show 4096 * (k - g.bitmap) + (t - 4096 * (k - g.bitmap)) = t by omega]; exact z
      rw [show 4096 * (k - g.bitmap) + i + (j' - i) = 4096 * (k - g.bitmap) + j' by omega] at this
      show Fk _ _ _ (cntTo T g (4096 * (k - g.bitmap) + j') : Nat) hx ∧ _
      rw [this]; exact q
    · show C.space_Free_c1_c1 _ _ (some ⟨h.size + 1, 0, none⟩) hx _
      have cl := cnt_le T g (4096 * (k - g.bitmap) + j')
      have := cnt_run (T := T) (g := g) (i := 4096 * (k - g.bitmap) + i) (j := 4096 * (k - g.bitmap) + j') (a := a) (b := b) (by omega) (by omega) (by omega) fun t x y => by
        have := h6 (t - 4096 * (k - g.bitmap)) (by omega) (by omega)
        rw [isF_iff hk0 (by omega), show 4096 * (k - g.bitmap) + (t - 4096 * (k - g.bitmap)) = t by omega] at this
        exact this
      refine space_Free_c1_c1.ok (os ⟨_, rdc q.1.r2 rfl, os (Put.intro q.1.o2 (by rw [q.1.r2]; exact Nat.one_pos) fun h7 d7 => ⟨true, rfl, d7.fr.mono fun b _ e => by show b < hh.size; omega, fun _ => ⟨?_, ?_⟩, fun e => by cases e⟩)⟩)
      · rw [wrap_i64 (n := (b : Int) - a) (by omega) (by omega), wrap_i64 (by omega) (by omega)] at d7
        have := q.1.put d7
        rw [show ((cntTo T g (4096 * (k - g.bitmap) + i) : Nat) : Int) + ((b : Int) - a) = ((cntTo T g (4096 * (k - g.bitmap) + j') : Nat) : Int) by omega] at this
        exact this
      · exact q.2.trans d7.fr fun _ _ e => e
    · rcases q with q | q
      · exact q.2.mono fun b _ e => by show b < h4.size; omega
      · exact q.elim
    · intro _
      rcases q with q | q
      · have := q.1
        rw [show 4096 * (k - g.bitmap) + 8 * 512 = 4096 * (k + 1 - g.bitmap) by omega] at this
        refine ⟨fun k' a b => ?_, this⟩
        by_cases e : k' = k
        · rw [e]; exact he
        · exact j0 k' a (by omega)
      · exact q.elim
  · refine ⟨fun k' a b => by omega, ?_⟩
    show Fk _ _ _ (cntTo T g (4096 * (g.bitmap - g.bitmap)) : Nat) h4
    rw [Nat.sub_self]; exact k4
theorem even_bit : ∀ n : Fin 256, ∀ s : Fin 8, (Int.tmod ((n.val / 2 ^ s.val : Nat) : Int) 2 == 0) = !n.val.testBit s.val := by decide +kernel
theorem cnt_succ (T : TM) (g : G) (m : Nat) : cntTo T g (m + 1) = cntTo T g m + @ite _ (FreeAt T g m) (Classical.propDecidable _) 1 0 := by
  by_cases h : FreeAt T g m
  · rw [if_pos h]
    exact cnt_full (T := T) (g := g) (i := m) 1 fun t a b => by rw [show t = m by omega]; exact h
  · rw [if_neg h]
    exact cnt_zero (T := T) (g := g) (i := m) 1 fun t a b => by rw [show t = m by omega]; exact h
theorem Free6_spec {h : Heap} {F : Nat → Prop} {r e : Option Addr} {T : TM} {n : Nat} {K : Value → Heap → Prop} (x : Rx.RxS h F r e T) (d : Dim n)
    (hK : ∀ r h', FreeR T (geoN n) r → Fr No h h' → K (.tuple #[.int .i64 r.1, .int .i64 r.2]) h') : C.boleref09_Free r (geoN n).v h K := by
  have hhi := d.hi
  have hino : (geoN n).inodes = 98 + (n + 4095) / 4096 := rfl
  have hbm : (geoN n).bitmap = 98 := rfl
  have hbl : (geoN n).blocks = n := rfl
  have hda : (geoN n).data = 98 + (n + 4095) / 4096 + n / 64 := rfl
  refine boleref09_Free.ok (New.intro fun h2 n2 => ⟨_, rda n2.rd rfl, ?_⟩)
  have z2 := n2.size
  refine ⟨fun m k hh => ∃ q : Nat, k = q ∧ 98 ≤ q ∧ q ≤ (geoN n).inodes ∧ m = ((cntTo T (geoN n) (4096 * (q - 98)) : Nat) : Int) ∧ Fr No h2 hh ∧ ∀ k' : Nat, 98 ≤ k' → k' < q → (T.read k').2 = 0, fun _ k _ => (((geoN n).inodes : Int) - k).toNat, ⟨98, rfl, Nat.le_refl _, by omega, by rw [Nat.sub_self]; rfl, Fr.refl _ _, fun k' a b => by omega⟩, ?_⟩
  rintro _ _ h3 ⟨q, rfl, q0, q1, rfl, f3, okq⟩
  have r3 : rd h3 h.size = (geoN n).v := (f3.rd (by omega) fun y => y).trans n2.rd
  have z3 := f3.size
  refine ⟨_, rda r3 rfl, cd (fun hlt => ?_) fun hlt => ?_⟩
  · refine Rx.Read_spec ((x.no n2.fr).no f3) fun a l c h4 f4 hl s => ⟨_, _, _, _, rfl, cn (fun he => ?_) fun he => ?_⟩
    · exact hK (0, (T.read q).2) h4 (.inl ⟨q, q0, by omega, okq, he, rfl⟩) ((n2.fr.no f3).no f4)
    · have hlen := x.readLen he
      have hl5 : l = 512 := by omega
      subst hl5
      have z4 := f4.size
      have r4 : rd h4 h.size = (geoN n).v := (f4.rd (by omega) fun y => y).trans r3
      refine ⟨fun m i hh => ∃ j : Nat, i = j ∧ j ≤ 4096 ∧ m = ((cntTo T (geoN n) (4096 * (q - 98) + j) : Nat) : Int) ∧ h4 = hh, fun _ i _ => (((4096 : Nat) : Int) - i).toNat, ⟨0, rfl, Nat.zero_le _, rfl, rfl⟩, ?_⟩
      intro m5 i5 h5 I5
      obtain ⟨j, ei, hj, em, eh⟩ := I5
      subst ei
      subst em
      subst eh
      have cl := cnt_le T (geoN n) (4096 * (q - 98) + j)
      generalize hq : decide ((j : Int) < 4096) = b
      refine cs (fun hlt2 => ?_) fun hlt2 => ?_
      · have hlt2 := of_decide_eq_true (hq.trans hlt2)
        have hj' : j < 4096 := by omega
        have e8 : IntKind.wrap .i64 (Int.tdiv (j : Int) 8) = ((j / 8 : Nat) : Int) := by rw [show Int.tdiv (j : Int) 8 = ((j / 8 : Nat) : Int) from rfl]; exact wrap_i64 (by omega) (by omega)
        have em8 : Int.tmod (j : Int) 8 = ((j % 8 : Nat) : Int) := rfl
        have ej8 : j / 8 < 512 := by omega
        rw [e8, em8, Int.toNat_natCast, wrap_i64 (n := (j : Int) + 1) (by omega) (by omega)]
        have eb : bitAt (T.read q).1 j = ((T.read q).1.getD (j / 8) 0).toNat.testBit (j % 8) := rfl
        have hfree : FreeAt T (geoN n) (4096 * (q - 98) + j) ↔ bitAt (T.read q).1 j = false ∧ (geoN n).data ≤ 4096 * (q - 98) + j ∧ 4096 * (q - 98) + j < n := by
          unfold FreeAt
          have ea : (geoN n).at_ (4096 * (q - 98) + j) = (q : Int) := by rw [at_eq]; omega
          rw [ea, show (4096 * (q - 98) + j) % 4096 = j by omega, hbl]
        have cs1 := cnt_succ T (geoN n) (4096 * (q - 98) + j)
        obtain ⟨p, rfl, cp⟩ := cell_at s.str (j := j / 8) (by omega)
        refine ⟨_, rda r4 rfl, ⟨by omega, by omega⟩, os ⟨(((T.read q).1.getD (j / 8) 0).toNat : Int), cp, ?_⟩⟩
        have hb : ((T.read q).1.getD (j / 8) 0).toNat < 256 := UInt8.toNat_lt _
        generalize ((T.read q).1.getD (j / 8) 0).toNat = y at hb eb
        rw [wrap_i64 (n := (y : Int)) (by omega) (by omega)]
        refine ⟨fun v k hh => ∃ w : Nat, k = w ∧ w ≤ j % 8 ∧ v = ((y / 2 ^ w : Nat) : Int) ∧ h4 = hh, fun _ k _ => (((j % 8 : Nat) : Int) - k).toNat, ⟨0, rfl, Nat.zero_le _, by rw [Nat.pow_zero, Nat.div_one], rfl⟩, ?_⟩
        rintro _ _ _ ⟨w, rfl, hw, rfl, rfl⟩
        refine cd (fun hlt3 => ?_) fun hlt3 => ?_
        · have hle : y / 2 ^ w / 2 ≤ 255 := Nat.le_trans (Nat.div_le_self _ _) (Nat.le_trans (Nat.div_le_self _ _) (by omega))
          have e1 : IntKind.wrap .i64 (Int.tdiv ((y / 2 ^ w : Nat) : Int) 2) = ((y / 2 ^ w / 2 : Nat) : Int) := by
            rw [show Int.tdiv ((y / 2 ^ w : Nat) : Int) 2 = ((y / 2 ^ w / 2 : Nat) : Int) from rfl]
            generalize y / 2 ^ w / 2 = z at hle ⊢
            exact wrap_i64 (by omega) (by omega)
          rw [e1, wrap_i64 (n := (w : Int) + 1) (by omega) (by omega)]
          exact ⟨⟨w + 1, rfl, by omega, by rw [Nat.pow_succ, Nat.div_div_eq_div_mul], rfl⟩, by show (((j % 8 : Nat) : Int) - ((w : Int) + 1)).toNat < (((j % 8 : Nat) : Int) - (w : Int)).toNat; omega⟩
        · have ew : w = j % 8 := by omega
          subst ew
          have ev := even_bit ⟨y, hb⟩ ⟨j % 8, Nat.mod_lt _ (by decide)⟩
          simp only at ev
          rw [ev]
          have hbase : IntKind.wrap .i64 (IntKind.wrap .i64 (IntKind.wrap .i64 ((q : Int) - 98) * 4096) + (j : Int)) = ((4096 * (q - 98) + j : Nat) : Int) := by
            rw [wrap_i64 (n := (q : Int) - 98) (by omega) (by omega), wrap_i64 (n := ((q : Int) - 98) * 4096) (by omega) (by omega), wrap_i64 (by omega) (by omega)]; omega
          have nxt : ∀ {m : Int}, m = ((cntTo T (geoN n) (4096 * (q - 98) + (j + 1)) : Nat) : Int) → (∃ j' : Nat, (j : Int) + 1 = j' ∧ j' ≤ 4096 ∧ m = ((cntTo T (geoN n) (4096 * (q - 98) + j') : Nat) : Int) ∧ h4 = h4) ∧ (((4096 : Nat) : Int) - ((j : Int) + 1)).toNat < (((4096 : Nat) : Int) - (j : Int)).toNat := fun e => ⟨⟨j + 1, rfl, hj', e, rfl⟩, falls (n := (j : Int)) (m := 4096) (by omega)⟩
          have cs1 : cntTo T (geoN n) (4096 * (q - 98) + (j + 1)) = _ := cs1
          have stay : ¬ FreeAt T (geoN n) (4096 * (q - 98) + j) → ((cntTo T (geoN n) (4096 * (q - 98) + j) : Nat) : Int) = ((cntTo T (geoN n) (4096 * (q - 98) + (j + 1)) : Nat) : Int) := fun y => by rw [cs1, if_neg y]; omega
          refine cnot (cs (fun hbit => ?_) fun hbit => ?_)
          · exact nxt (stay fun z => by have := (hfree.mp z).1; rw [eb, hbit] at this; cases this)
          · refine ⟨_, rda r4 rfl, ?_⟩
            rw [show (((geoN n).bitmap : Nat) : Int) = 98 from rfl, hbase]
            refine cd (fun h1 => ⟨_, rda r4 rfl, cd (fun h2' => ?_) fun h2' => ?_⟩) fun h1 => ?_
            · have hf : FreeAt T (geoN n) (4096 * (q - 98) + j) := hfree.mpr ⟨by rw [eb]; exact hbit, by omega, by omega⟩
              rw [wrap_i64 (n := ((cntTo T (geoN n) (4096 * (q - 98) + j) : Nat) : Int) + 1) (by omega) (by omega)]
              exact nxt (by rw [cs1, if_pos hf]; omega)
            · exact nxt (stay fun z => by have := (hfree.mp z).2.2; omega)
            · exact nxt (stay fun z => by have := (hfree.mp z).2.1; omega)
      · have hlt2 := of_decide_eq_false (hq.trans hlt2)
        have hj' : j = 4096 := by omega
        subst hj'
        rw [wrap_i64 (n := (q : Int) + 1) (by omega) (by omega)]
        refine ⟨⟨q + 1, rfl, by omega, by omega, by rw [show 4096 * (q + 1 - 98) = 4096 * (q - 98) + 4096 by omega], f3.no f4, fun k' a b => ?_⟩, by show (((geoN n).inodes : Int) - ((q : Int) + 1)).toNat < (((geoN n).inodes : Int) - (q : Int)).toNat; omega⟩
        by_cases e : k' = q
        · rw [e]; exact he
        · exact okq k' a (by omega)
  · have eq : q = (geoN n).inodes := by omega
    subst eq
    exact hK (_, 0) h3 (.inr ⟨fun k a b => okq k a b, rfl⟩) (n2.fr.no f3)
end Go.Proofs.YtjdcbblgaoogmaaGreatDoor.Sy
namespace Go.Proofs.YtjdcbblgaoogmaaGreatDoor.Cr
open Go Go.Proofs Go.Proofs.YtjdcbblgaoogmaaGreatDoor.Wx Go.Proofs.YtjdcbblgaoogmaaGreatDoor.Hp Go.Proofs.YtjdcbblgaoogmaaGreatDoor.W Go.Proofs.YtjdcbblgaoogmaaGreatDoor.Su Go.Proofs.YtjdcbblgaoogmaaGreatDoor.Re Go.Proofs.YtjdcbblgaoogmaaGreatDoor.Hd
open Go.Proofs.YtjdcbblgaoogmaaGreatDoor.Wc (Rs nb cellsR Row hdrOf)
theorem one6 {w : BitVec 32} {k : Int → Prop} (hK : k ((T w).toNat : Int)) : bif (Int.tmod (w.toNat : Int) 2) == 1 then k (bitsI .xor .u32 (IntKind.wrap .u32 (Int.tdiv (w.toNat : Int) 2)) 3988292384) else k (IntKind.wrap .u32 (Int.tdiv (w.toNat : Int) 2)) := by
  have hw := w.isLt
  have ed : Int.tdiv (w.toNat : Int) 2 = (((w >>> 1).toNat : Nat) : Int) := by
    rw [BitVec.toNat_ushiftRight, Nat.shiftRight_eq_div_pow, Int.tdiv_eq_ediv_of_nonneg (by omega)]; omega
  have em : Int.tmod (w.toNat : Int) 2 = ((w.toNat % 2 : Nat) : Int) := by rw [Int.tmod_eq_emod_of_nonneg (by omega)]; omega
  have hs := (w >>> 1).isLt
  have wr : IntKind.wrap .u32 (Int.tdiv (w.toNat : Int) 2) = (((w >>> 1).toNat : Nat) : Int) := by rw [ed, wrap_u32 ⟨by omega, by omega⟩]
  have bt : w.getLsbD 0 = decide (w.toNat % 2 = 1) := by rw [BitVec.getLsbD, Nat.testBit_zero]
  refine ce (fun hb => ?_) fun hb => ?_
  · rw [em] at hb
    have hb' : w.getLsbD 0 = true := by rw [bt]; exact decide_eq_true (by omega)
    rw [T, hb', cond_true] at hK
    have eP : (3988292384 : Int) = (P.toNat : Int) := by decide
    rw [wr, eP, xor_int]; exact hK
  · rw [em] at hb
    have hb' : w.getLsbD 0 = false := by rw [bt]; exact decide_eq_false (by omega)
    rw [T, hb', cond_false, BitVec.xor_zero] at hK
    rw [wr]; exact hK
theorem crc6_spec {a : Option Addr} {l c : Nat} {bs : List UInt8} {h : Heap} {K : Value → Heap → Prop} (B : StrAt h a l bs) (hl : l ≤ 140737488355328) (hK : K (.int .u32 (ofM bs)) h) : C.boleref06_crc a l c h K := by
  have hb := B.1
  refine boleref06_crc.ok ⟨fun v n hh => 0 ≤ n ∧ n ≤ l ∧ h = hh ∧ v = ((fb (bs.take n.toNat) M).toNat : Int), fun _ n _ => ((l : Int) - n).toNat, ⟨by omega, by omega, rfl, rfl⟩, ?_⟩
  rintro v n _ ⟨n0, n1, rfl, rfl⟩
  refine cd (fun hn => ?_) fun hn => ?_
  · have hn' : n.toNat < bs.length := by omega
    obtain ⟨p, rfl, c5⟩ : ∃ p, a = some p ∧ cellOf h (p.add n.toNat) = some (bv bs[n.toNat]) := by
      have c := B.2
      cases a with
      | none => have c : bs.map bv = [] := c; have := List.map_eq_nil_iff.mp c; rw [this] at hn'; exact absurd hn' (by simp)
      | some p => exact ⟨p, rfl, c n.toNat _ (by rw [List.getElem?_map, List.getElem?_eq_getElem hn']; rfl)⟩
    refine ⟨⟨n0, hn⟩, os ⟨_, c5, ?_⟩⟩
    have hbl : bs[n.toNat].toNat < 256 := bs[n.toNat].toNat_lt
    have e1 : IntKind.wrap .u32 (bs[n.toNat].toNat : Int) = ((BitVec.ofNat 32 bs[n.toNat].toNat).toNat : Int) := by
      rw [wrap_u32 ⟨by omega, by omega⟩, BitVec.toNat_ofNat, Nat.mod_eq_of_lt (by omega)]
    rw [e1, xor_int]
    refine ⟨fun w k hh => 0 ≤ k ∧ k ≤ ((8 : Nat) : Int) ∧ h = hh ∧ w = ((Tn k.toNat (fb (bs.take n.toNat) M ^^^ BitVec.ofNat 32 bs[n.toNat].toNat)).toNat : Int), fun _ k _ => (((8 : Nat) : Int) - k).toNat, ⟨by omega, by omega, rfl, rfl⟩, ?_⟩
    rintro w k _ ⟨k0, k1, rfl, rfl⟩
    refine cd (fun hk => ?_) fun hk => ?_
    · rw [wrap_i64 (n := k + 1) (by omega) (by omega)]
      refine one6 (k := fun x => (_ ∧ _ ∧ _ ∧ x = _) ∧ (((8 : Nat) : Int) - (k + 1)).toNat < (((8 : Nat) : Int) - k).toNat) ?_
      rw [Tn_succ, show k.toNat + 1 = (k + 1).toNat by omega]
      exact ⟨⟨by omega, by omega, rfl, rfl⟩, falls (m := 8) hk⟩
    · have e8 : k.toNat = 8 := by omega
      rw [e8, wrap_i64 (by omega) (by omega)]
      refine ⟨⟨by omega, by omega, rfl, ?_⟩, falls hn⟩
      rw [show (n + 1).toNat = n.toNat + 1 by omega, List.take_succ_eq_append_getElem hn', fb_append]
      have := step_bits (fb (bs.take n.toNat) M) bs[n.toNat]
      rw [step_word] at this
      rw [this]
      have e : allBits [bs[n.toNat]] = bitsOf bs[n.toNat] := by rw [allBits, List.flatMap_cons, List.flatMap_nil, List.append_nil]
      have e2 : ∀ x, fb [bs[n.toNat]] x = (bitsOf bs[n.toNat]).foldl g x := fun x => by rw [fb, e]
      rw [e2]
  · rw [List.take_of_length_le (by omega)]
    have em : (IntKind.max .u32) = (M.toNat : Int) := by decide
    rw [em, xor_int, ← of_fb]
    exact hK
theorem leB_snoc (n v : Nat) : Re.leBs (n + 1) v = Re.leBs n v ++ [UInt8.ofNat (v / 256 ^ n)] := by unfold Re.leBs; rw [List.range_succ, List.map_append]; rfl
theorem tm256 (x : Nat) : Int.tmod (x : Int) 256 = ((x % 256 : Nat) : Int) := by rw [Int.tmod_eq_emod_of_nonneg (by omega)]; omega
theorem td256 (x : Nat) : Int.tdiv (x : Int) 256 = ((x / 256 : Nat) : Int) := by rw [Int.tdiv_eq_ediv_of_nonneg (by omega)]; omega
theorem byte256 (x : Nat) : UInt8.ofNat (x % 256) = UInt8.ofNat x := by
  apply UInt8.toNat_inj.mp
  rw [UInt8.toNat_ofNat', UInt8.toNat_ofNat']; omega
theorem wrap_nat {x : Nat} (h : x ≤ 9223372036854775807) : IntKind.wrap .i64 (x : Int) = (x : Int) := wrap_i64 (by omega) (by omega)
theorem low6_spec {v m : Nat} {h : Heap} {K : Value → Heap → Prop} (hv : v ≤ 9223372036854775807) (hm : m ≤ 1000)
    (hK : ∀ a c h', Fr No h h' → Sl h' 1 a m c ((Re.leBs m v).map bv) (From h.size) → K (.slice a m c) h') : C.boleref06_low (v : Int) (m : Int) h K := by
  refine boleref06_low.ok ⟨fun n a l c i hh => ∃ k : Nat, i = k ∧ k ≤ m ∧ n = ((v / 256 ^ k : Nat) : Int) ∧ k = l ∧ Fr No h hh ∧ Sl hh 1 a k c ((Re.leBs k v).map bv) (From h.size), fun _ _ _ _ i _ => ((m : Int) - i).toNat,
    ⟨0, rfl, Nat.zero_le _, by rw [Nat.pow_zero, Nat.div_one], rfl, Fr.refl _ _, Sl.nil _ _ _⟩, ?_⟩
  rintro _ a _ c _ h2 ⟨k, rfl, hk, rfl, rfl, f, s⟩
  have hle : v / 256 ^ k ≤ v := Nat.div_le_self _ _
  refine cd (fun hlt => ?_) fun hlt => ?_
  · have ed : Int.tdiv ((v / 256 ^ k : Nat) : Int) 256 = ((v / 256 ^ (k + 1) : Nat) : Int) := by rw [td256, Nat.pow_succ, ← Nat.div_div_eq_div_mul]
    have hle2 : v / 256 ^ (k + 1) ≤ v := Nat.div_le_self _ _
    refine New.intro fun h3 n3 => ⟨[bv (UInt8.ofNat (v / 256 ^ k))], rfl, cellsAll (by rw [n3.rd, tm256, bv_nat, byte256]), bv_one [UInt8.ofNat (v / 256 ^ k)], append_from (f.new n3) (s.fr n3.fr fun _ _ _ y => y) rfl rfl (by show (k + 1) * 1 ≤ _; omega) (by omega) fun a' c' h4 f4 s4 => ?_⟩
    rw [ed, wrap_nat (Nat.le_trans hle2 hv), wrap_i64 (n := (k : Int) + 1) (by omega) (by omega)]
    refine ⟨⟨k + 1, rfl, by omega, rfl, rfl, f4, ?_⟩, falls hlt⟩
    rw [leB_snoc, List.map_append]; exact s4
  · have : k = m := by omega
    subst this
    exact hK a c h2 f s
theorem low6I {n : Int} {m : Nat} {h : Heap} {K : Value → Heap → Prop} (h0 : 0 ≤ n) (hv : n ≤ 9223372036854775807) (hm : m ≤ 1000)
    (hK : ∀ a c h', Fr No h h' → Sl h' 1 a m c ((Re.leBs m n.toNat).map bv) (From h.size) → K (.slice a m c) h') : C.boleref06_low n (m : Int) h K := by
  obtain ⟨v, rfl⟩ := Int.eq_ofNat_of_zero_le h0
  exact low6_spec (by omega) hm hK
theorem flat4_length (ns : List Int) : (flat4 ns).length = 4 * ns.length := by
  induction ns with
  | nil => rfl
  | cons a r ih =>
    have e : flat4 (a :: r) = Re.leBs 4 a.toNat ++ flat4 r := rfl
    rw [e, List.length_append, leB_length, ih, List.length_cons]; omega
theorem row_keep {n0 : Nat} {h h' : Heap} {a : Option Addr} {l c : Nat} {xs : List Value} (s : Sl h 1 a l c xs (From n0)) : Row n0 h (fun b => n0 ≤ b ∧ b < h.size) 1 a l c xs := by
  refine ⟨(Rx.sl_rng s).mono fun b hb => hb, fun b hb => hb⟩
def front12 (l : Nat) : List UInt8 := magicL ++ Re.leBs 2 l ++ zeros 2
theorem front12_len (l : Nat) : (front12 l).length = 12 := by simp only [front12, List.length_append, leB_length, zeros_length]; rfl
theorem Header6_spec {h : Heap} {a : Option Addr} {c : Nat} {rs : Rs} {K : Value → Heap → Prop} (b : Wd.Bx h a rs) (hl : rs.length ≤ 96) (hx : ∀ r ∈ rs, 0 ≤ r.1 ∧ r.1 < 4294967296) (h5 : ∀ r ∈ rs, r.2.2.length = 512)
    (hK : ∀ a' c' h', Fr No h h' → Sl h' 1 a' 512 c' ((hdrOf (nb rs)).map bv) (From h.size) → K (.slice a' 512 c') h') : C.boleref06_Header a rs.length c h K := by
  refine boleref06_Header.ok (New.intro fun h2 n2 => ?_)
  have hs2 := n2.size
  refine MarkAt.intro (low6_spec (v := rs.length) (m := 2) (by omega) (by decide) fun la lc h4 f4 s4 => ⟨_, _, _, rfl, ?_⟩)
  have hs3 : (markH h2 (Addr.block ⟨h.size, 0, none⟩)).size = h.size + 1 := by rw [markH_size, hs2]
  have F3 : Fr No h (markH h2 (Addr.block ⟨h.size, 0, none⟩)) := Fr.markH n2.fr (Or.inr (Nat.le_refl _))
  have F4 := F3.no f4
  have z4 := f4.size
  have r4 : rd h4 h.size = magicL.map bv := by
    rw [f4.rd (by omega) fun y => y, markH_rd, n2.rd]; rfl
  have m8 : SlCells h4 (some ⟨h.size, 0, none⟩) (magicL.map bv) := cellsAll r4
  refine ⟨(Re.leBs 2 rs.length).map bv, by rw [List.length_map, leB_length], s4.cells, bv_one _, append_grow (old := magicL.map bv) rfl m8 (by rw [List.length_map, leB_length]; rfl) rfl (by decide) (by decide) (by decide) fun c5 h5' f5 s5 => ?_⟩
  have F5 := F4.no f5
  refine New.intro fun h6 n6 => ?_
  have F6 := F5.new n6
  have s5' : Sl h5' 1 (some ⟨h4.size, 0, none⟩) 10 c5 ((magicL ++ Re.leBs 2 rs.length).map bv) (From h.size) := by
    have := s5.mono (G := From h.size) fun b hb => by show h.size ≤ b; omega
    rw [← List.map_append] at this; exact this
  refine ⟨(zeros 2).map bv, rfl, cellsAll n6.rd, bv_one _, append_from F6 (s5'.fr n6.fr fun _ _ _ y => y) rfl rfl (by decide) (by decide) fun fa fc h7 F7 s7 => ?_⟩
  rw [← List.map_append] at s7
  have s7 : Sl h7 1 fa 12 fc ((front12 rs.length).map bv) (From h.size) := s7
  clear s5 s5' s4 m8 r4 F3 F4 F5 F6 f4 f5 n6 n2
  have z7 := F7.size
  have RFr : Row h.size h7 (fun b => h.size ≤ b ∧ b < h7.size) 1 fa 12 fc ((front12 rs.length).map bv) := row_keep (h' := h7) s7
  refine ⟨fun ba bl bc da dl dc n hh => ∃ i : Nat, n = i ∧ i ≤ rs.length ∧ 4 * i = bl ∧ 512 * i = dl ∧ Fr No h7 hh ∧ ∃ F G, Row h7.size hh F 1 ba (4 * i) bc ((flat4 ((rs.take i).map (·.1))).map bv) ∧ Row h7.size hh G 1 da (512 * i) dc ((((rs.take i).map (·.2.2)).flatten).map bv) ∧ ∀ b, F b → ¬ G b, fun _ _ _ _ _ _ n _ => ((rs.length : Int) - n).toNat,
    ⟨0, rfl, Nat.zero_le _, rfl, rfl, Fr.refl _ _, No, No, Row.nil _ _ _, Row.nil _ _ _, fun _ y => y.elim⟩, ?_⟩
  rintro ba _ bc da _ dc _ h8 ⟨i, rfl, hi, rfl, rfl, f8, F, G, RF, RG, dis⟩
  have z8 := f8.size
  refine cd (fun hlt => ?_) fun hlt => ?_
  · have hi' : i < rs.length := by omega
    obtain ⟨p, ep, cp⟩ := ((b.no F7).no f8).get hi'
    have B0 := (b.ok _ (List.getElem_mem hi'))
    have x0 := hx _ (List.getElem_mem hi')
    have x5 := h5 _ (List.getElem_mem hi')
    have el : rs[i].2.1.l = 512 := by have := B0.1; omega
    rw [Int.toNat_natCast, wrap_i64 (n := (i : Int) + 1) (by omega) (by omega)]
    refine ⟨⟨by omega, hlt⟩, Rz.oe ep ⟨_, rfl, cp, NewRow.intro rfl (Wc.cellsR_one _) rfl fun h10 n10 => ⟨_, cellsAll n10.rd 0 _ rfl, ?_⟩⟩⟩
    have z10 := n10.size
    refine low6I (n := rs[i].1) (m := 4) x0.1 (by omega) (by decide) fun la lc h11 f11 s11 => ⟨_, _, _, rfl, _, by rw [List.length_map, leB_length], s11.cells, bv_one _, ?_⟩
    have z11 := f11.size
    have q := n10.fr.no f11
    have R1 := RF.keep q fun _ _ y => y
    refine Wd.row_bytes R1 (n := 4) (by rw [List.length_map, leB_length]) rfl rfl rfl (by omega) (by omega) fun ba' bc' h12 F12 f12 g12 R12 => ?_
    have z12 := f12.size
    have G2 := (RG.keep q fun _ _ y => y).keep f12 fun x hx y => dis x y hx
    have f12' : Fr No h7 h12 := (f8.no q).trans f12 fun x hx y => by have := (R1.ge x y).1; omega
    have x12 : cellOf h12 (Addr.add ⟨h8.size, 0, none⟩ 1) = some rs[i].2.1.v := by
      have e : rd h12 h8.size = cellsR rs[i] := by
        rw [f12.rd (by omega) (fun y => by have := (RF.ge _ y).2; omega), f11.rd (by omega) fun y => y]; exact n10.rd
      exact cellsAll e 1 _ rfl
    have B12 := ((b.no F7).no f12').ok _ (List.getElem_mem hi')
    obtain ⟨q1, q2, q3⟩ := StrAt.src B12
    have dis2 : ∀ x, F12 x → ¬ G x := fun x hx y => by
      rcases g12 x hx with w | w
      · exact dis x w y
      · have := (RG.ge x y).2; omega
    refine ⟨_, _, _, x12, _, q1, q2, q3, Wd.row_bytes G2 (by rw [q1, Nat.mul_one]) rfl rfl rfl (by omega) (by omega) fun da' dc' h13 G13 f13 g13 R13 => ?_⟩
    have z13 := f13.size
    have f13' : Fr No h7 h13 := f12'.trans f13 fun x hx y => by have := (RG.ge x y).1; omega
    refine ⟨⟨i + 1, rfl, by omega, by omega, by omega, f13', F12, G13, ?_, ?_, fun x hx y => ?_⟩, falls hlt⟩
    · have e2 : flat4 ((rs.take (i + 1)).map (·.1)) = flat4 ((rs.take i).map (·.1)) ++ Re.leBs 4 rs[i].1.toNat := by
        rw [Ad.take_snoc _ _ hi', List.map_append]
        simp only [flat4, List.flatMap_append, List.map_cons, List.map_nil, List.flatMap_cons, List.flatMap_nil, List.append_nil]
      rw [e2, List.map_append, show 4 * (i + 1) = 4 * i + 4 by omega]
      exact R12.keep f13 fun x hx y => dis2 x hx y
    · have e2 : ((rs.take (i + 1)).map (·.2.2)).flatten = ((rs.take i).map (·.2.2)).flatten ++ rs[i].2.2 := by
        rw [Ad.take_snoc _ _ hi', List.map_append, List.flatten_append]
        simp only [List.map_cons, List.map_nil, List.flatten_cons, List.flatten_nil, List.append_nil]
      rw [e2, List.map_append, show 512 * (i + 1) = 512 * i + rs[i].2.1.l by omega]
      exact R13
    · rcases g13 x y with w | w
      · exact dis2 x hx w
      · have := (R12.ge x hx).2; omega
  have ei : i = rs.length := by omega
  subst ei
  rw [List.take_length] at RF RG
  obtain ⟨ns, ens⟩ : ∃ ns, ns = rs.map (·.1) := ⟨_, rfl⟩
  obtain ⟨ds, eds⟩ : ∃ ds, ds = rs.map (·.2.2) := ⟨_, rfl⟩
  have nl : ns.length = rs.length := by rw [ens, List.length_map]
  have dsl : ds.length = rs.length := by rw [eds, List.length_map]
  rw [← ens] at RF
  rw [← eds] at RG
  have dfl : ds.flatten.length = 512 * rs.length := by
    rw [Wd.flat_512 _ fun y hy => by
      rw [eds] at hy
      obtain ⟨r, hr, rfl⟩ := List.mem_map.mp hy
      exact h5 r hr, dsl]; omega
  refine ⟨fun b9 l9 c9 hh => 4 * rs.length ≤ l9 ∧ l9 ≤ 496 ∧ Fr No h7 hh ∧ ∃ F, Row h7.size hh F 1 b9 l9 c9 ((flat4 ns ++ zeros (l9 - 4 * rs.length)).map bv) ∧ Row h7.size hh G 1 da (512 * rs.length) dc (ds.flatten.map bv) ∧ ∀ b, F b → ¬ G b, fun _ l9 _ _ => 496 - l9, ⟨by omega, by omega, f8, F, ?_, RG, dis⟩, ?_⟩
  · rw [Nat.sub_self]
    rw [show zeros 0 = [] from rfl, List.append_nil]; exact RF
  clear RF RG dis
  intro b9 l9 c9 h9 I9
  obtain ⟨k0, k1, f9, F9, RF, RG, dis⟩ := I9
  have z9 := f9.size
  have ew : IntKind.wrap .i64 (IntKind.wrap .i64 (((12 : Nat) : Int) + 4) + (l9 : Int)) = 16 + (l9 : Int) := by
    rw [wrap_i64 (n := ((12 : Nat) : Int) + 4) (by omega) (by omega), wrap_i64 (by omega) (by omega)]; omega
  rw [ew]
  generalize hq : decide (16 + (l9 : Int) < 512) = q
  refine cs (fun hk => ?_) fun hk => ?_
  · have hk := of_decide_eq_true (hq.trans hk)
    refine New.intro fun h10 n10 => ⟨[bv 0], rfl, cellsAll n10.rd, bv_one [0], ?_⟩
    have z10 := n10.size
    have R1 := RF.keep n10.fr fun _ _ y => y
    have G1 := RG.keep n10.fr fun _ _ y => y
    refine Wd.row_bytes R1 (n := 1) rfl rfl rfl rfl (by omega) (by omega) fun b11 c11 h11 F11 f11 g11 R11 => ?_
    have z11 := f11.size
    refine ⟨⟨by omega, by omega, (f9.new n10).trans f11 fun x hx y => by have := (R1.ge x y).1; omega, F11, ?_, G1.keep f11 fun x hx y => dis x y hx, fun x hx y => ?_⟩, by show 496 - (l9 + 1) < 496 - l9; omega⟩
    · rw [show l9 + 1 - 4 * rs.length = (l9 - 4 * rs.length) + 1 by omega, zeros_add, ← List.append_assoc, List.map_append]
      exact R11
    · rcases g11 x hx with w | w
      · exact dis x w y
      · have := (G1.ge x y).2; omega
  have hk := of_decide_eq_false (hq.trans hk)
  have e9 : l9 = 496 := by omega
  subst e9
  obtain ⟨back, eb⟩ : ∃ back, back = flat4 ns ++ zeros (496 - 4 * rs.length) := ⟨_, rfl⟩
  rw [← eb] at RF
  have bl : back.length = 496 := by rw [eb, List.length_append, flat4_length, zeros_length, nl]; omega
  have RF0 := (RFr.keep f9 fun _ _ y => y).s
  refine ⟨_, by rw [List.length_map, front12_len], RF0.cells, bv_one _, append_nil (by rw [List.length_map, front12_len]; rfl) rfl (by decide) (by decide) fun a10 c10 h10 f10 s10 => ?_⟩
  refine New.intro fun h11 n11 => ⟨(zeros 4).map bv, rfl, cellsAll n11.rd, bv_one _, append_from (f10.new n11) (s10.fr n11.fr fun _ _ _ y => y) rfl rfl (by decide) (by decide) fun a12 c12 h12 f12 s12 => ?_⟩
  have RB12 := (RF.keep f12 fun _ _ y => y).s
  refine ⟨_, by rw [List.length_map, bl], RB12.cells, bv_one _, append_from f12 s12 (by rw [List.length_map, bl]; rfl) rfl (by decide) (by decide) fun a13 c13 h13 f13 s13 => ?_⟩
  have RD13 := (RG.keep f13 fun _ _ y => y).s
  refine ⟨_, by rw [List.length_map, dfl, Nat.mul_one], RD13.cells, bv_one _, append_from f13 s13 (by rw [List.length_map, dfl]; show _ = _ * 1; omega) rfl (by show (512 + 512 * rs.length) * 1 ≤ _; omega) (by omega) fun a14 c14 h14 f14 s14 => ?_⟩
  have eall : front12 rs.length ++ zeros 4 ++ back ++ ds.flatten = laidM ns 0 ++ ds.flatten := by
    rw [eb, ← leB_zero]
    unfold front12 laidM
    rw [nl]
    simp only [List.append_assoc]
  rw [← List.map_append, ← List.map_append, ← List.map_append, eall] at s14
  have esum : ofM (laidM ns 0 ++ ds.flatten) = sumM (laidM ns 0) ds := by
    have e := sum_flat (laidM ns 0) ds (fun d hd => by
      rw [eds] at hd
      obtain ⟨r, hr, rfl⟩ := List.mem_map.mp hd
      rw [h5 r hr]; decide)
    rw [laid_put] at e
    exact e.symm
  have us := sum_range (laidM ns 0) ds
  obtain ⟨u0, u1⟩ := us
  refine crc6_spec s14.str (by omega) ⟨_, rfl, ?_⟩
  rw [esum, wrap_i64 (n := sumM (laidM ns 0) ds) (by omega) (by omega)]
  refine low6I (m := 4) u0 (by omega) (by decide) fun a15 c15 h15 f15 s15 => ⟨_, _, _, rfl, _, by rw [List.length_map, leB_length], s15.cells, bv_one _, ?_⟩
  have z14 := f14.size
  have z15 := f15.size
  have f9' : Fr No h h15 := ((F7.no f9).no f14).no f15
  have RB15 := ((RF.keep f14 fun _ _ y => y).keep f15 fun _ _ y => y)
  have RF15 := ((RFr.keep f9 fun _ _ y => y).keep f14 fun _ _ y => y).keep f15 fun _ _ y => y
  refine Wd.row_bytes RF15 (n := 4) (by rw [List.length_map, leB_length]) rfl rfl rfl (by omega) (by have := F7.size; omega) fun a16 c16 h16 F16 f16 g16 R16 => ?_
  have z16 := f16.size
  have RB16 := (RB15.keep f16 fun x hx y => by have := (RF15.ge x y).2; have := (RF.ge x hx).1; omega).s
  refine ⟨_, by rw [List.length_map, bl], RB16.cells, bv_one _, ?_⟩
  refine Wd.row_bytes R16 (n := 496) (by rw [List.length_map, bl]) rfl rfl rfl (by omega) (by have := F7.size; omega) fun a17 c17 h17 F17 f17 g17 R17 => ?_
  have F16' : Fr No h h16 := f9'.trans f16 fun x hx y => by have := (RF15.ge x y).1; omega
  refine hK a17 c17 h17 (F16'.trans f17 fun x hx y => by have := (R16.ge x y).1; omega) ?_
  have eh : hdrOf (nb rs) = front12 rs.length ++ Re.leBs 4 (sumM (laidM ns 0) ds).toNat ++ back := by
    unfold hdrOf
    rw [Wd.rs_ns, Wd.rs_ds, ← ens, ← eds, eb]
    have e : ∀ s, laidM ns s = front12 ns.length ++ Re.leBs 4 s ++ (flat4 ns ++ zeros (496 - 4 * ns.length)) := fun s => by
      unfold laidM front12
      simp only [List.append_assoc]
    refine (e _).trans ?_
    rw [nl]
  rw [eh, List.map_append, List.map_append]
  exact R17.s.mono fun x hx => (R17.ge x hx).1
end Go.Proofs.YtjdcbblgaoogmaaGreatDoor.Cr
namespace Go.Proofs.YtjdcbblgaoogmaaGreatDoor.Wd
open Go Go.Proofs Go.Proofs.YtjdcbblgaoogmaaGreatDoor.Wx Go.Proofs.YtjdcbblgaoogmaaGreatDoor.Hp Go.Proofs.YtjdcbblgaoogmaaGreatDoor.W Go.Proofs.YtjdcbblgaoogmaaGreatDoor.Ad Go.Proofs.YtjdcbblgaoogmaaGreatDoor.Wc Go.Proofs.YtjdcbblgaoogmaaGreatDoor.Rf
open Go.Proofs.YtjdcbblgaoogmaaGreatDoor.L3 (Tt)
theorem EsT.grow {h h' : Heap} {E F F' : Nat → Prop} {es : List Ent} {ts : List Tt} (T : EsT h (fun b => E b ∨ F b) es ts) (f : Fr F h h') (g : ∀ b, F' b → F b ∨ h.size ≤ b) : EsT h' (fun b => E b ∨ F' b) es ts := by
  refine ⟨T.len, fun i h1 h2 => ?_⟩
  obtain ⟨a, b, c, d⟩ := T.at_ i h1 h2
  refine ⟨a, b, str_keep c f fun p e hl _ y => d p e hl (.inr y), fun p e hl y => ?_⟩
  rcases y with y | y
  · exact d p e hl (.inl y)
  · rcases g _ y with w | w
    · exact d p e hl (.inr w)
    · rw [e] at c; have := str_lt c hl; omega
theorem rep8 (m : Nat) : repCells z5 m = (Hd.zeros m).map bv := by
  unfold Hd.zeros
  rw [List.map_replicate, repCells_eq]
  show (List.replicate m [Value.int .u8 0]).flatten = List.replicate m (bv 0)
  induction m with
  | zero => rfl
  | succ m ih => rw [List.replicate_succ, List.flatten_cons, ih, List.replicate_succ]; rfl
theorem nb_at (rs : Rs) {i : Nat} (h : i < rs.length) : (nb rs).take (i + 1) = (nb rs).take i ++ [(rs[i].1, rs[i].2.2)] := by
  rw [take_snoc _ _ (by unfold nb; rw [List.length_map]; exact h), nb_get rs h]
/-- acts, one behind the other, each looked at in a copy of its own -/
theorem take6_spec {h : Heap} {E : Nat → Prop} {r : Option Addr} {D : RD} {a : Option Addr} {es : List Ent} {ts : List Tt} {K : Value → Heap → Prop} (x : RfS h E r D) (R : SlCells h a (es.flatMap Ent.cells)) (off : ∀ p, a = some p → p.block < h.size ∧ ¬ E p.block) (t : EsT h E es ts)
    (hl : es.length < 100000) (hbl : ∀ i (hi : i < es.length), es[i].l ≤ 140737488355328) (ht : D.tape.length + es.length < 1000000000)
    (hK : ∀ h' E', Fr E h h' → Gw h E h' E' → RfS h' E' r (runS (ts.map stp) D).1 → K (.int .i64 (runS (ts.map stp) D).2) h') :
    ∃ (I3 : Int → Heap → Prop) (M3 : Int → Heap → Nat), I3 0 h ∧
      ∀ (n4 : Int), ∀ h20 : Heap, I3 n4 h20 →
      bif (decide (n4 < (es.length : Int))) then (
      (0 ≤ n4 ∧ n4 < (es.length : Int)) ∧
      onSome a fun p3 =>
      ∃ cs7 : List Value, List.length cs7 = 3 ∧ Cells h20 (Addr.add p3 ((Int.toNat n4) * 3)) cs7 ∧
      NewRow z122 122 cs7 3 h20 fun h22 =>
      ∃ (n5 : Int), cellOf h22 (Addr.add ⟨h20.size, 0, none⟩ 0) = some (.int .i64 n5) ∧
      bif (n5 == 1) then (
      ∃ (n6 : Int), cellOf h22 (Addr.add ⟨h20.size, 0, none⟩ 1) = some (.int .i64 n6) ∧
      ∃ (sA8 : Option Addr) (sL8 : Nat) (sC8 : Nat), cellOf h22 (Addr.add ⟨h20.size, 0, none⟩ 2) = some (.slice sA8 sL8 sC8) ∧
      C.boleref03_Disk_Write r n6 sA8 sL8 sC8 h22 fun r2 h23 =>
      ∃ (n7 : Int), r2 = .int .i64 n7 ∧
      bif (n7 != 0) then (
      K (.int .i64 n7) h23) else (
      I3 (IntKind.wrap .i64 (n4 + 1)) h23 ∧ M3 (IntKind.wrap .i64 (n4 + 1)) h23 < M3 n4 h20)) else (
      C.boleref03_Disk_Flush r h22 fun r3 h24 =>
      ∃ (n8 : Int), r3 = .int .i64 n8 ∧
      bif (n8 != 0) then (
      K (.int .i64 n8) h24) else (
      I3 (IntKind.wrap .i64 (n4 + 1)) h24 ∧ M3 (IntKind.wrap .i64 (n4 + 1)) h24 < M3 n4 h20))) else (
      K (.int .i64 0) h20) := by
  refine ⟨fun m hh => ∃ n : Nat, m = n ∧ n ≤ es.length ∧ ∃ E' D', RfS hh E' r D' ∧ Fr E h hh ∧ Gw h E hh E' ∧ D'.tape.length ≤ D.tape.length + n ∧ runS (ts.map stp) D = runS ((ts.drop n).map stp) D', fun m _ => ((es.length : Int) - m).toNat,
    ⟨0, rfl, Nat.zero_le _, E, D, x, Fr.refl _ _, Gw.refl (Nat.le_refl _) (fun b hb => x.lt hb), Nat.le_refl _, rfl⟩, ?_⟩
  rintro _ h2 ⟨n, rfl, hn, E', D', x', f, g, t1, e⟩
  refine cd (fun hlt => ?_) fun hlt => ?_
  · have hi : n < es.length := by omega
    have hi2 : n < ts.length := by rw [← t.len]; exact hi
    obtain ⟨p, ep, cp⟩ := ent_cell (SlCells.fr f R fun p e => (off p e).2) hi
    have hb := hbl n hi
    rw [Int.toNat_natCast, wrap_i64 (n := (n : Int) + 1) (by omega) (by omega)]
    have hd : (ts.drop n).map stp = stp ts[n] :: (ts.drop (n + 1)).map stp := by rw [List.drop_eq_getElem_cons hi2]; rfl
    have er : runS (ts.map stp) D = if ((stp ts[n]).on D').2 = 0 then runS ((ts.drop (n + 1)).map stp) ((stp ts[n]).on D').1 else (stp ts[n]).on D' := by rw [e, hd]; rfl
    refine ⟨⟨by omega, hlt⟩, Rz.oe ep ⟨_, rfl, cp, NewRow.intro rfl (fun v hv => by
      unfold Ent.cells at hv
      simp only [List.mem_cons, List.not_mem_nil, or_false] at hv
      rcases hv with rfl | rfl | rfl <;> rfl) rfl fun h4 n4 => ⟨_, cellsAll n4.rd 0 _ rfl, ?_⟩⟩⟩
    have z4 := n4.size
    have x4 := x'.no n4.fr
    have f4 : Fr E h h4 := f.new n4
    have g4 : Gw h E h4 E' := ⟨g.old, fun b y => by have := g.lt b y; omega⟩
    obtain ⟨k1, k2, k3, k4⟩ := (t.step f4 g4).at_ n hi hi2
    refine ce (fun h1 => ⟨_, cellsAll n4.rd 1 _ rfl, _, _, _, cellsAll n4.rd 2 _ rfl, ?_⟩) fun h1 => ?_
    · have es1 : stp ts[n] = .w ts[n].2.1 ts[n].2.2 := by unfold stp; rw [if_pos (by rw [← k1]; exact h1)]
      rw [es1] at er
      rw [k2]
      refine x4.write k3 hb (by omega) fun h3 E3 f3 g3 x3 => ⟨_, rfl, ?_⟩
      have F3 : Fr E h h3 := f4.trans f3 fun b hb y => (g.old b hb).mp y
      have G3 := g4.trans g3 f4.size
      refine cn (fun hne => ?_) fun h0 => ⟨⟨n + 1, rfl, by omega, E3, _, x3, F3, G3, ?_, ?_⟩, falls hlt⟩
      · have er : runS (ts.map stp) D = D'.write ts[n].2.1 ts[n].2.2 := er.trans (if_neg hne)
        rw [er] at hK
        exact hK h3 E3 F3 G3 x3
      · have := (write_len D' (.w ts[n].2.1 ts[n].2.2)).1
        have this : (D'.write ts[n].2.1 ts[n].2.2).1.tape.length ≤ D'.tape.length + 1 := this
        omega
      · exact er.trans (if_pos h0)
    · have es1 : stp ts[n] = .f := by unfold stp; rw [if_neg (by rw [← k1]; exact h1)]
      rw [es1] at er
      refine x4.flush (by omega) fun h3 E3 f3 g3 x3 => ⟨_, rfl, ?_⟩
      have F3 : Fr E h h3 := f4.trans f3 fun b hb y => (g.old b hb).mp y
      have G3 := g4.trans g3 f4.size
      refine cn (fun hne => ?_) fun h0 => ⟨⟨n + 1, rfl, by omega, E3, _, x3, F3, G3, ?_, ?_⟩, falls hlt⟩
      · have er : runS (ts.map stp) D = D'.flush := er.trans (if_neg hne)
        rw [er] at hK
        exact hK h3 E3 F3 G3 x3
      · have := (write_len D' .f).1
        have this : D'.flush.1.tape.length ≤ D'.tape.length + 1 := this
        omega
      · exact er.trans (if_pos h0)
  · have en : n = ts.length := by have := t.len; omega
    rw [en, List.drop_length] at e
    have e : runS (ts.map stp) D = (D', 0) := e
    rw [e] at hK
    exact hK h2 E' f g x'
theorem Commit6_spec {h : Heap} {E : Nat → Prop} {r : Option Addr} {D : RD} {a : Option Addr} {c : Nat} {rs : Rs} {K : Value → Heap → Prop} (x : RfS h E r D) (b : Bx h a rs) (off : ∀ r ∈ rs, ∀ p, r.2.1.a = some p → r.2.1.l ≠ 0 → ¬ E p.block)
    (hm : rs ≠ [] → mayW (nb rs) D.lasts.length = true) (h5 : ∀ r ∈ rs, r.2.2.length = 512) (hx : ∀ r ∈ rs, 0 ≤ r.1 ∧ r.1 < 4294967296) (ht : D.tape.length < 100000000)
    (hK : ∀ h' E', Fr E h h' → Gw h E h' E' → RfS h' E' r (wal D (nb rs)).1 → K (.int .i64 (wal D (nb rs)).2) h') : C.boleref06_Commit r a rs.length c h K := by
  have hE : ∀ b, E b → b < h.size := fun b y => x.lt y
  have hb : (ti122).bytes ≤ 64 := by decide
  refine boleref06_Commit.ok (ce (fun h0 => ?_) fun h0 => ?_)
  · have e : rs = [] := List.eq_nil_of_length_eq_zero (by omega)
    have ew : wal D (nb rs) = (D, 0) := by rw [e]; exact if_pos rfl
    rw [ew] at hK
    exact hK h E (Fr.refl _ _) (Gw.refl (Nat.le_refl _) hE) x
  have hne : rs ≠ [] := fun e => by subst e; exact h0 rfl
  have hm := hm hne
  have hl := mayW_len hm
  have nbl : (nb rs).length = rs.length := by unfold nb; rw [List.length_map]
  rw [nbl] at hl
  have dl : (rs.map (·.2.2)).length = rs.length := List.length_map ..
  refine NewRow.intro rfl (fun v hv => by
    simp only [List.mem_cons, List.not_mem_nil, or_false] at hv
    rcases hv with rfl | rfl | rfl <;> rfl) rfl fun h3 n3 => ?_
  have z3 := n3.size
  have b3 := b.no n3.fr
  have fl : ∀ {hh : Heap}, Fr No h3 hh → rd hh h.size = [.int .i64 2, .int .i64 0, .slice none 0 0] := fun {hh} f => (f.rd (by omega) fun y => y).trans n3.rd
  -- what the caller's blocks are
  have dat : ∀ {hh : Heap} {F : Nat → Prop} (i : Nat) (hi : i < rs.length), Fr No h3 hh → (∀ b, F b → h3.size ≤ b) → StrAt hh rs[i].2.1.a rs[i].2.1.l rs[i].2.2 ∧ ∀ p, rs[i].2.1.a = some p → rs[i].2.1.l ≠ 0 → ¬ (E p.block ∨ F p.block) := fun {hh F} i hi f g => by
    have B := b3.ok _ (List.getElem_mem hi)
    refine ⟨StrAt.fr f B fun _ _ y => y, fun p e hl y => ?_⟩
    rcases y with y | y
    · exact off _ (List.getElem_mem hi) p e hl y
    · rw [e] at B; have := str_lt B hl; have := g _ y; omega
  refine ⟨fun a l c m hh => ∃ es F, m = (List.length es : Int) ∧ es.length ≤ rs.length ∧ es.length = l ∧ Fr No h3 hh ∧ Row h3.size hh F 3 a es.length c (es.flatMap Ent.cells) ∧ EsT hh (fun b => E b ∨ F b) es (logT (rs.map (·.2.2)) es.length), fun _ _ _ m _ => ((rs.length : Int) - m).toNat,
    ⟨[], No, rfl, Nat.zero_le _, rfl, Fr.refl _ _, Row.nil _ _ _, EsT.nil _ _⟩, ?_⟩
  rintro aa _ ac _ h4 ⟨es, F, rfl, hi, rfl, f, R, T⟩
  have z4 := f.size
  refine cd (fun hlt => ?_) fun hlt => ?_
  · have hi' : es.length < rs.length := by omega
    have hd : es.length < (rs.map (·.2.2)).length := by omega
    obtain ⟨p, ep, cp⟩ := (b3.no f).get hi'
    rw [Int.toNat_natCast, wrap_i64 (n := (es.length : Int) + 1) (by omega) (by omega), wrap_i64 (n := 2 + (es.length : Int)) (by omega) (by omega)]
    refine ⟨⟨by omega, hlt⟩, Rz.oe ep ⟨_, rfl, cp, NewRow.intro rfl (cellsR_one _) rfl fun h6 n6 => ⟨_, _, _, cellsAll n6.rd 1 _ rfl, rfl, ?_⟩⟩⟩
    have z6 := n6.size
    have R6 := R.keep n6.fr fun _ _ y => y
    obtain ⟨B, O⟩ := dat (F := F) es.length hi' (f.new n6) fun b y => (R.ge b y).1
    refine row_app R6 (vs := (entW (2 + (es.length : Int)) rs[es.length].2.1.a rs[es.length].2.1.l rs[es.length].2.1.c).cells) rfl (fun v hv => ent_one' [entW (2 + (es.length : Int)) rs[es.length].2.1.a rs[es.length].2.1.l rs[es.length].2.1.c] v (by rw [List.flatMap_cons, List.flatMap_nil, List.append_nil]; exact hv)) rfl rfl hb (by omega) (by omega) fun a' c' h8 F8 f8 g8 R8 => ?_
    have el : (es ++ [entW (2 + (es.length : Int)) rs[es.length].2.1.a rs[es.length].2.1.l rs[es.length].2.1.c]).length = es.length + 1 := by rw [List.length_append]; rfl
    refine ⟨⟨es ++ [entW (2 + (es.length : Int)) rs[es.length].2.1.a rs[es.length].2.1.l rs[es.length].2.1.c], F8, by rw [el]; rfl, by omega, el, row_no R6 (f.new n6) rfl f8, by rw [el, flat_snoc]; exact R8, ?_⟩, falls hlt⟩
    rw [el, logT_succ]
    have eg : (rs.map (·.2.2)).getD es.length [] = rs[es.length].2.2 := by rw [List.getD_eq_getElem?_getD, List.getElem?_eq_getElem hd, List.getElem_map]; rfl
    rw [eg]
    exact ((T.no n6.fr).app (EsT.entW B O)).grow f8 g8
  have ei : es.length = rs.length := by omega
  refine ⟨_, rfl, cellsAll (fl f), _, rfl, cellsAll (fl f), Cr.Header6_spec (b3.no f) hl hx h5 fun ha hc h9 f9 sh => ⟨_, _, _, rfl, ⟨rfl, cellsAll (fl (f.no f9))⟩, ⟨rfl, cellsAll (fl (f.no f9))⟩, rfl, rfl, rfl, New.intro fun h10 n10 => ⟨[entF, entW 1 ha 512 hc, entF].flatMap Ent.cells, rfl, cellsAll n10.rd, ent_one' _, ?_⟩⟩⟩
  have q := f9.new n10
  have z9 := f9.size
  have z10 := q.size
  have R10 := R.keep q fun _ _ y => y
  have hlen : (hdrOf (nb rs)).length = 512 := by have := sh.1; rw [List.length_map] at this; omega
  have offG : ∀ {hh : Heap} {F : Nat → Prop} {p : Addr}, hh.size ≤ p.block → (∀ b, F b → b < hh.size) → h3.size ≤ hh.size → ¬ (E p.block ∨ F p.block) := fun {hh F p} g l z y => by
    rcases y with y | y
    · have := hE _ y; omega
    · have := l _ y; omega
  have Th : EsT h10 (fun b => E b ∨ F b) [entF, entW 1 ha 512 hc, entF] [(2, 0, []), (1, 1, hdrOf (nb rs)), (2, 0, [])] :=
    (EsT.entF _ _).app ((EsT.entW ⟨hlen, SlCells.fr n10.fr sh.cells fun _ _ y => y⟩ fun p e _ => by
      subst e
      exact offG (hh := h4) sh.2.2.1 (fun b y => (R.ge b y).2) z4).app (EsT.entF _ _))
  have T10 := (T.no q).app Th
  have el2 : (es ++ [entF, entW 1 ha 512 hc, entF]).length = es.length + 3 := by rw [List.length_append]; rfl
  refine row_more R10 (n := 3) rfl rfl rfl hb (by omega) (by omega) fun a11 c11 h11 F11 f11 g11 R11 => ?_
  have T11 := T10.grow f11 g11
  have F3' : Fr No h3 h11 := row_no R10 (f.no q) rfl f11
  obtain ⟨es2, ees2⟩ : ∃ es2, es2 = es ++ [entF, entW 1 ha 512 hc, entF] := ⟨_, rfl⟩
  obtain ⟨t2, et2⟩ : ∃ t2, t2 = logT (rs.map (·.2.2)) es.length ++ [(2, 0, []), (1, 1, hdrOf (nb rs)), (2, 0, [])] := ⟨_, rfl⟩
  rw [← ees2, ← et2] at T11
  rw [← ees2] at el2
  have R11 : Row h3.size h11 F11 3 a11 (es.length + 3) c11 (es2.flatMap Ent.cells) := by rw [ees2, List.flatMap_append]; exact R11
  clear R10 T10 Th sh n10 q f9 R T f hlt
  refine ⟨fun a l c m hh => ∃ fs F, m = (List.length fs : Int) ∧ fs.length ≤ rs.length ∧ es.length + 3 + fs.length = l ∧ Fr No h3 hh ∧ Row h3.size hh F 3 a (es.length + 3 + fs.length) c ((es2 ++ fs).flatMap Ent.cells) ∧ EsT hh (fun b => E b ∨ F b) (es2 ++ fs) (t2 ++ wT ((nb rs).take fs.length)), fun _ _ _ m _ => ((rs.length : Int) - m).toNat,
    ⟨[], F11, rfl, Nat.zero_le _, rfl, F3', by rw [List.append_nil]; exact R11, by rw [List.append_nil, List.length_nil, List.take_zero]; unfold wT; rw [List.map_nil, List.append_nil]; exact T11⟩, ?_⟩
  rintro aa2 _ ac2 _ h12 ⟨fs, F, rfl, hi2, rfl, f, R, T⟩
  have z12 := f.size
  refine cd (fun hlt => ?_) fun hlt => ?_
  · have hi' : fs.length < rs.length := by omega
    obtain ⟨p, ep, cp⟩ := (b3.no f).get hi'
    rw [Int.toNat_natCast, wrap_i64 (n := (fs.length : Int) + 1) (by omega) (by omega)]
    refine ⟨⟨by omega, hlt⟩, Rz.oe ep ⟨_, rfl, cp, NewRow.intro rfl (cellsR_one _) rfl fun h14 n14 => ⟨_, cellsAll n14.rd 0 _ rfl, _, _, _, cellsAll n14.rd 1 _ rfl, rfl, ?_⟩⟩⟩
    have z14 := n14.size
    have R14 := R.keep n14.fr fun _ _ y => y
    obtain ⟨B, O⟩ := dat (F := F) fs.length hi' (f.new n14) fun b y => (R.ge b y).1
    refine row_app R14 (vs := (entW rs[fs.length].1 rs[fs.length].2.1.a rs[fs.length].2.1.l rs[fs.length].2.1.c).cells) rfl (fun v hv => ent_one' [entW rs[fs.length].1 rs[fs.length].2.1.a rs[fs.length].2.1.l rs[fs.length].2.1.c] v (by rw [List.flatMap_cons, List.flatMap_nil, List.append_nil]; exact hv)) rfl rfl hb (by omega) (by omega) fun a' c' h16 F16 f16 g16 R16 => ?_
    have el : (fs ++ [entW rs[fs.length].1 rs[fs.length].2.1.a rs[fs.length].2.1.l rs[fs.length].2.1.c]).length = fs.length + 1 := by rw [List.length_append]; rfl
    refine ⟨⟨fs ++ [entW rs[fs.length].1 rs[fs.length].2.1.a rs[fs.length].2.1.l rs[fs.length].2.1.c], F16, by rw [el]; rfl, by omega, by omega, row_no R14 (f.new n14) rfl f16, by rw [el, ← List.append_assoc, flat_snoc]; exact R16, ?_⟩, falls hlt⟩
    rw [el, nb_at rs hi', wT_snoc, ← List.append_assoc, ← List.append_assoc]
    exact ((T.no n14.fr).app (EsT.entW B O)).grow f16 g16
  have ef : fs.length = rs.length := by omega
  rw [List.take_of_length_le (by omega)] at T
  refine ⟨_, rfl, cellsAll (fl f), _, rfl, cellsAll (fl f), ⟨by decide, by decide, by decide, by decide⟩, New.intro fun h17 n17 => ⟨⟨rfl, cellsAll (fl (f.new n17))⟩, ⟨rfl, cellsAll (fl (f.new n17))⟩, rfl, rfl, rfl, New.intro fun h18 n18 => ⟨[entF, entW 1 (some ⟨h12.size, 0, none⟩) 512 512, entF].flatMap Ent.cells, rfl, cellsAll n18.rd, ent_one' _, ?_⟩⟩⟩
  have z17 := n17.size
  have z18 := n18.size
  have q := n17.fr.new n18
  have R18 := R.keep q fun _ _ y => y
  have er17 : rd h17 h12.size = (Hd.zeros 512).map bv := n17.rd.trans (rep8 _)
  have Tz : EsT h18 (fun b => E b ∨ F b) [entF, entW 1 (some ⟨h12.size, 0, none⟩) 512 512, entF] [(2, 0, []), (1, 1, Hd.zeros 512), (2, 0, [])] :=
    (EsT.entF _ _).app ((EsT.entW (strAll (by rw [n18.at_ (by omega)]; exact er17) (Hd.zeros_length _)) fun p e _ => by
      cases e
      exact offG (hh := h12) (Nat.le_refl _) (fun b y => (R.ge b y).2) z12).app (EsT.entF _ _))
  have T18 := (T.no q).app Tz
  refine row_more R18 (n := 3) rfl rfl rfl hb (by omega) (by omega) fun a19 c19 h19 F19 f19 g19 R19 => ?_
  have T19 := T18.grow f19 g19
  have F3' : Fr No h3 h19 := row_no R18 (f.no q) rfl f19
  have Fh : Fr No h h19 := n3.fr.no F3'
  have z19 := Fh.size
  obtain ⟨es3, ees3⟩ : ∃ es3, es3 = (es2 ++ fs) ++ [entF, entW 1 (some ⟨h12.size, 0, none⟩) 512 512, entF] := ⟨_, rfl⟩
  have el3 : es3.length = es.length + 3 + fs.length + 3 := by rw [ees3, List.length_append, List.length_append, el2]; rfl
  have ets : (t2 ++ wT (nb rs)) ++ [(2, 0, []), (1, 1, Hd.zeros 512), (2, 0, [])] = commitT (nb rs) (hdrOf (nb rs)) := by
    rw [et2, ei]
    unfold commitT homeT
    rw [rs_ds, nbl]
    simp only [List.append_assoc]
  rw [← ees3, ets] at T19
  have R19 : Row h3.size h19 F19 3 a19 (es.length + 3 + fs.length + 3) c19 (es3.flatMap Ent.cells) := by rw [ees3, List.flatMap_append]; exact R19
  have Tf : EsT h19 E es3 (commitT (nb rs) (hdrOf (nb rs))) := T19.weak fun b y => .inl y
  have h5n : ∀ p ∈ nb rs, p.2.length ≤ 512 := fun p hp => by
    obtain ⟨r, hr, rfl⟩ := List.mem_map.mp hp
    have := h5 r hr
    show r.2.2.length ≤ 512
    omega
  have ew := wal_run (S := D) (l := nb rs) (fun e => hne (by unfold nb at e; exact List.map_eq_nil_iff.mp e)) hm (List.all_eq_true.mpr fun d hd => by
    rw [rs_ds] at hd
    obtain ⟨r, hr, rfl⟩ := List.mem_map.mp hd
    exact beq_iff_eq.mpr (h5 r hr))
  rw [← el3]
  refine take6_spec (x.no Fh) R19.s.cells (fun p e => by
    subst e
    refine ⟨R19.s.lt, fun y => ?_⟩
    have := hE _ y
    have := (R19.ge _ R19.s.2.2.1).1
    omega) Tf (by omega) (Tf.small fun t ht => ?_) (by omega) fun h5' E5 f5 g5 x5 => ?_
  · unfold commitT at ht
    rcases List.mem_append.mp ht with ht | ht
    · rcases List.mem_append.mp ht with ht | ht
      · unfold logT at ht
        obtain ⟨k, hk, rfl⟩ := List.mem_map.mp ht
        show (((nb rs).map (·.2)).getD k []).length ≤ 512
        rw [List.getD_eq_getElem?_getD]
        rcases Nat.lt_or_ge k ((nb rs).map (·.2)).length with h | h
        · rw [List.getElem?_eq_getElem h, List.getElem_map]
          exact h5n _ (List.getElem_mem _)
        · rw [List.getElem?_eq_none h]; exact Nat.zero_le _
      · exact three_small (by omega) t ht
    · exact homeT_small h5n t ht
  · rw [stp_commit, ← ew] at x5 ⊢
    exact hK h5' E5 ((Fh.mono fun _ _ y => y.elim).trans f5 fun _ _ y => y) ⟨fun b hb => g5.old b (by omega), g5.lt⟩ x5
end Go.Proofs.YtjdcbblgaoogmaaGreatDoor.Wd
namespace Go.Proofs.YtjdcbblgaoogmaaGreatDoor.Tm
open Go Go.Proofs Go.Proofs.YtjdcbblgaoogmaaGreatDoor.Wx Go.Proofs.YtjdcbblgaoogmaaGreatDoor.Hp Go.Proofs.YtjdcbblgaoogmaaGreatDoor.W Go.Proofs.YtjdcbblgaoogmaaGreatDoor.Ad
def TM.ended (S : RD) : TM := ⟨S, [], [], true⟩
theorem end_body {h : Heap} {b : Nat} {q x y z : Value} {K : Value → Heap → Prop} (o : Own h b) (e : rd h b = [q, x, y, z]) (hK : ∀ h', Did b h h' [q, .map none, .slice none 0 0, .bool true] → K (.tuple #[]) h') : txn_Txn_end (some ⟨b, 0, none⟩) K h := by
  refine os (Put.add o (by rw [e]; show 1 < 4; omega) fun h2 d2 => ?_)
  rw [e] at d2
  refine os (Put.add d2.own (by rw [d2.rd]; show 2 < 4; omega) fun h3 d3 => ?_)
  rw [d2.rd] at d3
  refine os (Put.add d3.own (by rw [d3.rd]; show 3 < 4; omega) fun h4 d4 => ?_)
  rw [d3.rd] at d4
  exact hK h4 ⟨by rw [d4.size, d3.size, d2.size], (d2.fr.trans d3.fr fun _ _ x => x).trans d4.fr fun _ _ x => x, d4.own, d4.rd⟩
/-- a transaction lets go of what it holds -/
theorem TxC.shut {h h7 h8 : Heap} {F : Nat → Prop} {col : Nat → Nat} {d : Option Addr} {r : TR} {T : TM} {S : RD} {D : Nat → Prop} (X : TxC h col d r T) (hF : ∀ b, F b ↔ 1 ≤ col b ∧ col b ≤ 5) (f : Fr (fun b => col b = 5) h h7) (g : Gw h (fun b => col b = 5) h7 D) (A : DiskF h7 D d S)
    (d8 : Did r.tb h7 h8 [.pointer d, .map none, .slice none 0 0, .bool true]) : ∃ F', Fr F h h8 ∧ Gw h F h8 F' ∧ Tx h8 F' (some ⟨r.tb, 0, none⟩) d (TM.ended S) := by
  have tl := X.own.lt
  have s1 := X.sc
  have z7 := f.size
  have z8 := d8.size
  obtain ⟨col', k1, k2⟩ : ∃ col' : Nat → Nat, (∀ b, D b → col' b = 5) ∧ ∀ b, ¬ D b → col' b = if b < h.size ∧ col b ≠ 5 then col b else 0 :=
    ⟨fun b => @ite _ (D b) (Classical.propDecidable _) 5 (if b < h.size ∧ col b ≠ 5 then col b else 0), fun b x => if_pos x, fun b x => if_neg x⟩
  have old : ∀ b, b < h.size → col' b = col b := fun b hb => by
    by_cases x : D b
    · rw [k1 b x]; exact ((g.old b hb).mp x).symm
    · have : col b ≠ 5 := fun e => x ((g.old b hb).mpr e)
      rw [k2 b x, if_pos ⟨hb, this⟩]
  have five : ∀ b, col' b = 5 ↔ D b := fun b => ⟨fun e => by
    by_cases x : D b
    · exact x
    · rw [k2 b x] at e
      split at e
      · rename_i y; exact absurd e y.2
      · exact absurd e (by decide), k1 b⟩
  have big : ∀ b, h8.size ≤ b → col' b = 0 := fun b hb => by
    have x : ¬ D b := fun x => by have := A.lt x; omega
    rw [k2 b x, if_neg (by omega)]
  refine ⟨fun b => 1 ≤ col' b ∧ col' b ≤ 5, ?_, ⟨fun b hb => by rw [old b hb]; exact (hF b).symm, fun b hb => ?_⟩, .inr ⟨col', r.tb, rfl, ⟨big, (old _ tl).trans s1, d8.own, d8.rd, ⟨rfl, rfl⟩, rfl, ?_⟩, fun b => Iff.rfl⟩⟩
  · refine (f.mono fun b _ e => (hF b).mpr ?_).trans d8.fr fun b _ e => (hF b).mpr ?_
    · have e : col b = 5 := e; omega
    · have e : b = r.tb := e; subst e; omega
  · rcases Nat.lt_or_ge b h8.size with x | x
    · exact x
    · rw [big b x] at hb; omega
  · refine (A.fr d8.fr fun b hb e => ?_).iff five
    have e : b = r.tb := e
    subst e
    have := (g.old _ tl).mp hb
    have this : col r.tb = 5 := this
    omega
theorem Abort_spec {h : Heap} {F : Nat → Prop} {t d : Option Addr} {T : TM} {K : Value → Heap → Prop} (x : Tx h F t d T) (hK : ∀ h' F', Fr F h h' → Gw h F h' F' → Tx h' F' t d (TM.ended T.disk) → K (.tuple #[]) h') : C.txn_Txn_Abort t h K := by
  have hlt := fun b hb => x.lt (b := b) hb
  rcases x with ⟨col, r, rfl, X, hF⟩ | ⟨col, tb, rfl, X, hF⟩
  · refine txn_Txn_Abort.ok (txn_Txn_end.ok (end_body X.own X.cell fun h2 d2 => ⟨rfl, ?_⟩))
    obtain ⟨F', f, g, y⟩ := X.shut hF (Fr.refl _ _) (Gw.refl (Nat.le_refl _) fun b hb => X.dk.lt hb) X.dk d2
    exact hK h2 F' f g y
  · refine txn_Txn_Abort.ok (txn_Txn_end.ok (end_body X.own X.cell fun h2 d2 => ⟨rfl, ?_⟩))
    have s1 := X.sc
    have f2 : Fr F h h2 := d2.fr.mono fun b _ e => by have e : b = tb := e; subst e; exact (hF _).mpr (by omega)
    have z2 := d2.size
    exact hK h2 F f2 (Gw.refl f2.size hlt) (.inr ⟨col, tb, rfl, ⟨fun b hb => X.nrm b (by omega), s1, d2.own, d2.rd, ⟨rfl, rfl⟩, rfl, X.dk.fr d2.fr fun b hb e => by
      have e : b = tb := e
      subst e
      have hb : col b = 5 := hb
      omega⟩, hF⟩)
end Go.Proofs.YtjdcbblgaoogmaaGreatDoor.Tm
namespace Go.Proofs.YtjdcbblgaoogmaaGreatDoor.Tm
open Go Go.Proofs Go.Proofs.YtjdcbblgaoogmaaGreatDoor.Wx Go.Proofs.YtjdcbblgaoogmaaGreatDoor.Hp Go.Proofs.YtjdcbblgaoogmaaGreatDoor.W Go.Proofs.YtjdcbblgaoogmaaGreatDoor.Ad Go.Proofs.YtjdcbblgaoogmaaGreatDoor.Spc
def TM.blocks (T : TM) : Wc.Nb := T.written.map fun i => (i, (aget T.put i).getD [])
def TM.commit (T : TM) : TM × Int :=
  if T.over = true then (T, 61) else if T.put = [] then (TM.ended T.disk, 0) else (TM.ended (Wc.wal T.disk T.blocks).1, (Wc.wal T.disk T.blocks).2)
theorem sortZ_perm (l : List Int) : (sortZ l).Perm l := List.mergeSort_perm l _
theorem okGo_of {n : Int} : ∀ (l : List Int) (last : Int), l.Pairwise (· < ·) → (∀ x ∈ l, last < x ∧ x < n) → Hd.okGo n last l = true
  | [], _, _, _ => rfl
  | a :: r, last, hp, h => by
    rw [List.pairwise_cons] at hp
    have h1 := h a (List.mem_cons_self ..)
    show (!(decide (a ≤ last) || decide (a ≥ n)) && Hd.okGo n a r) = true
    rw [okGo_of r a hp.2 fun x hx => ⟨hp.1 x hx, (h x (List.mem_cons_of_mem _ hx)).2⟩, decide_eq_false (by omega), decide_eq_false (by omega)]; rfl
theorem aget_some {α : Type} {i : Int} {m : List (Int × α)} (h : i ∈ m.map (·.1)) : ∃ b, aget m i = some b := by
  cases e : aget m i with
  | some b => exact ⟨b, rfl⟩
  | none =>
    obtain ⟨p, hp, ep⟩ := List.mem_map.mp h
    exact absurd ep (aget_none.mp e p hp)
end Go.Proofs.YtjdcbblgaoogmaaGreatDoor.Tm
