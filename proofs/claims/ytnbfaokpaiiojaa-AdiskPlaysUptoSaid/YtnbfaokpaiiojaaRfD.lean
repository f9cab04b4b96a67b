/-
  THE DISK of package boleref03 under any acts: Read, Image, Pending, Tape.
-/
import Derived.Test.YtnbfaokpaiiojaaRfC
namespace Go.Proofs.Ytnbfaokpaiiojaa.Rf
open Go Go.Proofs Go.Proofs.Ytnbfaokpaiiojaa.Wx Go.Proofs.Ytnbfaokpaiiojaa.Hp Go.Proofs.Ytnbfaokpaiiojaa.W Go.Proofs.Ytnbfaokpaiiojaa.Ad Go.Proofs.Ytnbfaokpaiiojaa.L3

def lastW (i : Int) (z : List UInt8) (ts : List Tt) : List UInt8 := ts.foldl (fun b t => if t.1 = 1 ∧ t.2.1 = i then t.2.2 else b) z
theorem lastW_snoc (i : Int) (z : List UInt8) (ts : List Tt) (t : Tt) : lastW i z (ts ++ [t]) = if t.1 = 1 ∧ t.2.1 = i then t.2.2 else lastW i z ts := by unfold lastW; rw [List.foldl_append]; rfl
def pendF (ts : List Tt) : List Int := ts.foldl (fun l t => if t.1 = 2 then [] else l ++ [t.2.1]) []
theorem pendF_snoc (ts : List Tt) (t : Tt) : pendF (ts ++ [t]) = if t.1 = 2 then [] else pendF ts ++ [t.2.1] := by unfold pendF; rw [List.foldl_append]; rfl
theorem pendF_len (ts : List Tt) : ∀ k, (pendF (ts.take k)).length ≤ k := by
  intro k
  induction k with
  | zero => rw [List.take_zero]; exact Nat.le_refl _
  | succ k ih =>
    by_cases h : k < ts.length
    · rw [take_snoc _ _ h, pendF_snoc]
      split
      · exact Nat.zero_le _
      · rw [List.length_append]; exact Nat.succ_le_succ ih
    · rw [List.take_of_length_le (by omega)] at ih ⊢; omega
def FD.first' (S : FD) (i : Int) : List UInt8 := (S.first.drop (i.toNat * 512)).take 512
/-- what holds of a disk's values -/
structure FD.Ok (S : FD) : Prop where
  len : S.first.length = S.N * 512
  max : S.N ≤ 16384
  may : ∀ t ∈ S.acts, May (S.N : Nat) t
theorem str_cut {h : Heap} {a : Option Addr} {l c i j : Nat} {bs : List UInt8} (B : StrAt h a l bs) (hlc : l ≤ c) (hij : i ≤ j) (hj : j ≤ l) : StrAt h (if c = i then a else Option.map (Addr.add · i) a) (j - i) ((bs.drop i).take (j - i)) := by
  by_cases e : c = i
  · rw [if_pos e]
    have : j - i = 0 := by omega
    rw [this, List.take_zero]; exact StrAt.nil _ _
  · rw [if_neg e]
    exact StrAt.take (StrAt.drop B i) (by omega)
section
variable {h : Heap} {d : Option Addr} {S : FD} {col : Nat → Nat} {m : Nat} {b : Nat} {r : FRaw} {es : List Ent}
theorem Ref.rot (D : Ref h b S col m r es) : Rot h r.aa r.an es S.acts :=
  ⟨D.a.cells, (Ents.length D.ts).symm.trans D.an.symm, Ents.length D.ts, fun i h1 h2 => by obtain ⟨x1, x2, x3, _⟩ := Ents.at_ D.ts i h1 h2; exact ⟨x1, x2, x3⟩⟩
theorem Ref.str (D : Ref h b S col m r es) : StrAt h r.fa r.fn S.first := D.f.str
theorem Read_spec {i : Int} {K : Value → Heap → Prop} (D : RefAt h d S col m) (ok : S.Ok) (hw : ∀ t ∈ S.acts, t.2.2.length ≤ 140737488355328)
    (h1 : S.out = true → K (.tuple #[.slice none 0 0, .int .i64 30]) h) (h2 : S.out = false → ¬ (0 ≤ i ∧ i < (S.N : Nat)) → K (.tuple #[.slice none 0 0, .int .i64 31]) h)
    (h3 : S.out = false → 0 ≤ i → i < (S.N : Nat) → ∀ a c h', Fr No h h' → Sl h' 1 a (lastW i (S.first' i) S.acts).length c ((lastW i (S.first' i) S.acts).map bv) (From h.size) → K (.tuple #[.slice a (lastW i (S.first' i) S.acts).length c, .int .i64 0]) h') : C.boleref03_Disk_Read d i h K := by
  obtain ⟨b, r, es, rfl, D⟩ := D
  have R := D.rot
  refine boleref03_Disk_Read.ok (os ⟨_, D.field 4, ?_⟩)
  rw [D.out]
  refine cs (fun ho => h1 ho) fun ho => cd (fun hi => h2 ho (by omega)) fun hi => Blocks_spec ⟨b, r, es, rfl, D⟩ ⟨_, rfl, cd (fun hj => h2 ho (by have hj : i ≥ ((S.N : Nat) : Int) := hj; omega)) fun hj => ?_⟩
  have hj : ¬ i ≥ ((S.N : Nat) : Int) := hj
  have h3 := h3 ho (by omega) (by omega)
  have hnum := R.num
  have hmx := ok.max
  have hln := ok.len
  have hfn := D.fn
  have hamax := D.amax
  have hel := R.len
  unfold boleref03_Disk_Read.k1
  refine os ⟨_, _, _, D.field 1, fun j hh => -1 ≤ j ∧ j < S.acts.length ∧ hh = h ∧ lastW i (S.first' i) S.acts = lastW i (S.first' i) (S.acts.take (j + 1).toNat), fun j _ => (j + 1).toNat, ⟨?_, ?_, rfl, ?_⟩, ?_⟩
  · rw [wrap_i64 (by omega) (by omega)]; omega
  · rw [wrap_i64 (by omega) (by omega)]; omega
  · rw [wrap_i64 (by omega) (by omega), List.take_of_length_le (by omega)]
  rintro j hh ⟨j0, j1, rfl, e⟩
  refine cd (fun hlt => ?_) fun hlt => ?_
  · obtain ⟨p, en, ep, c, x1, x2, x3, hjl, _⟩ := R.cell (i := j.toNat) (by omega)
    have ek : (S.acts.getD j.toNat (0, 0, [])) = S.acts[j.toNat] := by rw [List.getD_eq_getElem?_getD, List.getElem?_eq_getElem hjl]; rfl
    rw [ek] at x1 x2 x3
    have et : (j + 1).toNat = j.toNat + 1 := by omega
    rw [et, take_snoc _ _ hjl, lastW_snoc] at e
    have nxt : ¬ (S.acts[j.toNat].1 = 1 ∧ S.acts[j.toNat].2.1 = i) → ((-1 ≤ j - 1 ∧ j - 1 < S.acts.length ∧ hh = hh ∧ lastW i (S.first' i) S.acts = lastW i (S.first' i) (S.acts.take (j - 1 + 1).toNat)) ∧ (j - 1 + 1).toNat < (j + 1).toNat) := fun y => by
      rw [if_neg y] at e
      exact ⟨⟨by omega, by omega, rfl, by rw [show (j - 1 + 1).toNat = j.toNat by omega]; exact e⟩, by omega⟩
    have bd : (0 : Int) ≤ j ∧ j < (r.an : Int) := ⟨by omega, by omega⟩
    refine os ⟨_, _, _, D.field 1, bd, ?_⟩
    rw [ep]
    refine os ⟨_, Cells.cell c (i := 0) rfl, ce (fun hk => ?_) fun hk => ?_⟩
    · refine os ⟨_, _, _, D.field 1, bd, ?_⟩
      rw [ep]
      refine os ⟨_, Cells.cell c (i := 1) rfl, ce (fun ha => ?_) fun ha => ?_⟩
      · rw [if_pos ⟨by omega, by omega⟩] at e
        rw [e] at h3
        have l3 := hw _ (List.getElem_mem hjl)
        have hx3 := x3.1
        refine os ⟨_, _, _, D.field 1, bd, ?_⟩
        rw [ep]
        refine os ⟨_, _, _, Cells.cell c (i := 2) rfl, copied_spec x3 (by omega) fun a5 c5 h5 f5 s5 => ⟨_, _, _, rfl, ?_⟩⟩
        rw [← hx3] at s5 ⊢
        exact h3 a5 c5 h5 f5 s5
      · rw [wrap_i64 (by omega) (by omega)]
        exact nxt fun y => ha (by omega)
    · rw [wrap_i64 (by omega) (by omega)]
      exact nxt fun y => hk (by omega)
  · have ej : (j + 1).toNat = 0 := by omega
    rw [ej, List.take_zero] at e
    have e : lastW i (S.first' i) S.acts = S.first' i := e
    rw [e] at h3
    have lc := D.f.le
    have w1 : IntKind.wrap .i64 (i * 512) = i * 512 := wrap_i64 (by omega) (by omega)
    have w2 : IntKind.wrap .i64 (i * 512 + 512) = i * 512 + 512 := wrap_i64 (by omega) (by omega)
    refine os ⟨_, _, _, D.field 0, ?_⟩
    rw [w1, w2]
    have n1 : (i * 512).toNat = i.toNat * 512 := by omega
    have n2 : (i * 512 + 512).toNat = i.toNat * 512 + 512 := by omega
    have hf : (S.first' i).length = 512 := by unfold FD.first'; rw [List.length_take, List.length_drop]; omega
    rw [n1, n2]
    refine ⟨⟨by omega, by omega, by omega⟩, ?_⟩
    have B := str_cut (i := i.toNat * 512) (j := i.toNat * 512 + 512) D.str lc (by omega) (by omega)
    have hd : i.toNat * 512 + 512 - i.toNat * 512 = 512 := by omega
    rw [hd] at B ⊢
    refine copied_spec B (by decide) fun a5 c5 h5 f5 s5 => ⟨_, _, _, rfl, ?_⟩
    rw [hf] at h3
    exact h3 a5 c5 h5 f5 s5
/-- what lasts, if the power goes -/
def FD.image (S : FD) : List (List UInt8) := leftR (if S.out = true then S.keep else []) (chunks S.first) S.acts 0
theorem Image_spec {K : Value → Heap → Prop} (D : RefAt h d S col m) (ok : S.Ok) 
    (hK : ∀ a c h', Fr No h h' → Sl h' 1 a (S.N * 512) c (S.image.flatten.map bv) (From h.size) → K (.slice a (S.N * 512) c) h') : C.boleref03_Disk_Image d h K := by
  obtain ⟨b, r, es, rfl, D⟩ := D
  have R := D.rot
  have el : r.fn = S.N * 512 := D.fn.trans ok.len
  have hnum := R.num
  have hamax := D.amax
  have han := D.an
  unfold FD.image at hK
  refine boleref03_Disk_Image.ok (os ⟨_, D.field 4, ?_⟩)
  rw [D.out]
  refine cs (fun ho => ?_) fun ho => ?_
  · rw [if_pos ho] at hK
    refine os ⟨_, _, _, D.field 0, os ⟨_, _, _, D.field 1, os ⟨_, _, _, D.field 2, ?_⟩⟩⟩
    refine left_spec D.str ok.max el R (by omega) ok.may D.k.cells D.kn.symm fun a c h' f s => ⟨_, _, _, rfl, ?_⟩
    rw [el] at s ⊢
    exact hK a c h' f s
  · rw [if_neg (by rw [ho]; simp)] at hK
    refine os ⟨_, _, _, D.field 0, os ⟨_, _, _, D.field 1, ?_⟩⟩
    refine left_spec (keep := []) D.str ok.max el R (by omega) ok.may rfl rfl fun a c h' f s => ⟨_, _, _, rfl, ?_⟩
    rw [el] at s ⊢
    exact hK a c h' f s
def FD.pending (S : FD) : List Int := if S.out = true then [] else pendF S.acts
theorem Pending_spec {K : Value → Heap → Prop} (D : RefAt h d S col m) (hn : S.acts.length < 1000000000)
    (hK : ∀ a c h', Fr No h h' → Sl h' 1 a S.pending.length c (S.pending.map (.int .i64)) (From h.size) → K (.slice a S.pending.length c) h') : C.boleref03_Disk_Pending d h K := by
  obtain ⟨b, r, es, rfl, D⟩ := D
  have R0 := D.rot
  have hnum := R0.num
  unfold FD.pending at hK
  refine boleref03_Disk_Pending.ok ⟨fun a l c i hh => 0 ≤ i ∧ i ≤ S.acts.length ∧ Fr No h hh ∧ l = (pendF (S.acts.take i.toNat)).length ∧ Sl hh 1 a l c ((pendF (S.acts.take i.toNat)).map (.int .i64)) (From h.size) ∧ (S.out = true → i = 0), fun _ _ _ i _ => ((S.acts.length : Int) - i).toNat,
    ⟨Int.le_refl _, by omega, Fr.refl _ _, rfl, Sl.nil _ _ _, fun _ => rfl⟩, ?_⟩
  rintro a l c i h2 ⟨i0, i1, f2, el, s2, ho⟩
  have D2 := D.keep' f2 (Ag.refl _ _) fun _ _ _ y => y
  have R := D2.rot
  refine os ⟨_, _, _, D2.field 1, cd (fun hlt => os ⟨_, D2.field 4, ?_⟩) fun hlt => ?_⟩
  rotate_left
  · cases hout : S.out with
    | true =>
      have := ho hout
      rw [hout, if_pos rfl] at hK
      rw [this] at el s2
      rw [el] at s2 ⊢
      exact hK a c h2 f2 s2
    | false =>
      rw [hout, if_neg (by decide)] at hK
      rw [List.take_of_length_le (by omega)] at el s2
      rw [el] at s2 ⊢
      exact hK a c h2 f2 s2
  rw [D.out]
  refine cnot (cs (fun hout => ?_) fun hout => ?_)
  · have := ho hout
    rw [if_pos hout] at hK
    rw [this] at el s2
    rw [el] at s2 ⊢
    exact hK a c h2 f2 s2
  obtain ⟨p, en, ep, cc, x1, x2, x3, hjl, _⟩ := R.cell (i := i.toNat) (by omega)
  have ek : (S.acts.getD i.toNat (0, 0, [])) = S.acts[i.toNat] := by rw [List.getD_eq_getElem?_getD, List.getElem?_eq_getElem hjl]; rfl
  rw [ek] at x1 x2
  have et : (i + 1).toNat = i.toNat + 1 := by omega
  have bd : (0 : Int) ≤ i ∧ i < (r.an : Int) := ⟨by omega, by omega⟩
  have ps : pendF (S.acts.take (i + 1).toNat) = if S.acts[i.toNat].1 = 2 then [] else pendF (S.acts.take i.toNat) ++ [S.acts[i.toNat].2.1] := by rw [et, take_snoc _ _ hjl, pendF_snoc]
  have hle := pendF_len S.acts i.toNat
  unfold boleref03_Disk_Pending.k1
  rw [wrap_i64 (n := i + 1) (by omega) (by omega)]
  refine os ⟨_, _, _, D2.field 1, bd, ?_⟩
  rw [ep]
  refine os ⟨_, Cells.cell cc (i := 0) rfl, ce (fun hk => ?_) fun hk => ?_⟩
  · rw [if_pos (by omega)] at ps
    exact ⟨⟨by omega, by omega, f2, by rw [ps]; rfl, by rw [ps]; exact Sl.nil _ _ _, fun y => by rw [hout] at y; cases y⟩, by show ((S.acts.length : Int) - (i + 1)).toNat < ((S.acts.length : Int) - i).toNat; omega⟩
  · rw [if_neg (by omega)] at ps
    refine os ⟨_, _, _, D2.field 1, bd, ?_⟩
    rw [ep]
    refine os ⟨_, Cells.cell cc (i := 1) rfl, New.intro fun h3 n3 => ⟨_, rfl, cellsAll n3.rd, by intro v hv; rw [List.mem_singleton.mp hv]; rfl, ?_⟩⟩
    refine append_own (elem := ti3) (s2.fr n3.fr fun _ _ _ y => y) rfl rfl (by show (l + 1) * 8 ≤ _; omega) (by omega) fun a' c' h4 f4 s4 => ?_
    have z2 := f2.size
    have z3 := n3.size
    refine ⟨⟨by omega, by omega, (f2.new n3).trans f4 fun x hx y => by have y : h.size ≤ x := y; omega, by rw [ps, List.length_append, el]; rfl, ?_, fun y => by rw [hout] at y; cases y⟩, by show ((S.acts.length : Int) - (i + 1)).toNat < ((S.acts.length : Int) - i).toNat; omega⟩
    rw [ps, List.map_append, ← x2]
    exact s4.mono fun x hx => hx.elim id fun y => by show h.size ≤ x; omega
end
end Go.Proofs.Ytnbfaokpaiiojaa.Rf
