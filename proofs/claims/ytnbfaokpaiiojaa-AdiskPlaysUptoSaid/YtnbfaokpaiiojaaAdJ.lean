import Derived.Test.YtnbfaokpaiiojaaAdH
import Derived.Test.YtnbfaokpaiiojaaAdT
/-
  PACKAGE adisk: what is refused of an act.
-/
namespace Go.Proofs.Ytnbfaokpaiiojaa.Ad
open Go Go.Proofs Go.Proofs.Ytnbfaokpaiiojaa.Wx Go.Proofs.Ytnbfaokpaiiojaa.Hp Go.Proofs.Ytnbfaokpaiiojaa.W

def refusedOf (e : Ent) (N : Int) : Int := if e.kind = 2 then 0 else if e.kind ≠ 1 then 1 else if e.at_ < 0 then 31 else if e.at_ ≥ N then 31 else if e.l ≠ 512 then 32 else 0
theorem refused_spec {e : Ent} {N : Int} {h : Heap} {K : Value → Heap → Prop} (hK : ∀ h', Fr No h h' → K (.int .i64 (refusedOf e N)) h') : C.adisk_refused e.cells N h K := by
  refine adisk_refused.ok (New.intro fun h2 n2 => ⟨_, rda n2.rd rfl, ?_⟩)
  have k := hK h2 n2.fr
  unfold refusedOf at k
  refine ce (fun a => by rw [if_pos a] at k; exact k) fun a => ⟨_, rda n2.rd rfl, ?_⟩
  rw [if_neg a] at k
  refine cn (fun b => by rw [if_pos b] at k; exact k) fun b => ⟨_, rda n2.rd rfl, ?_⟩
  rw [if_neg (fun x => x b)] at k
  refine cd (fun c => by rw [if_pos c] at k; exact k) fun c => ⟨_, rda n2.rd rfl, ?_⟩
  rw [if_neg c] at k
  refine cd (fun d => by rw [if_pos d] at k; exact k) fun d => ⟨_, _, _, rda n2.rd rfl, ?_⟩
  rw [if_neg d] at k
  refine cn (fun f => by rw [if_pos (by omega)] at k; exact k) fun f => by rw [if_neg (by omega)] at k; exact k
end Go.Proofs.Ytnbfaokpaiiojaa.Ad
/-
  PACKAGE adisk: After.
-/
namespace Go.Proofs.Ytnbfaokpaiiojaa.Ad
open Go Go.Proofs Go.Proofs.Ytnbfaokpaiiojaa.Wx Go.Proofs.Ytnbfaokpaiiojaa.Hp Go.Proofs.Ytnbfaokpaiiojaa.W

/-- acts with their bytes -/
def Bytes (h : Heap) (es : List Ent) (ds : List (List UInt8)) : Prop := es.length = ds.length ∧ ∀ i (h1 : i < es.length) (h2 : i < ds.length), StrAt h es[i].a es[i].l ds[i]
theorem Bytes.fr {h h' : Heap} {es : List Ent} {ds : List (List UInt8)} (f : Fr No h h') (b : Bytes h es ds) : Bytes h' es ds :=
  ⟨b.1, fun i h1 h2 => StrAt.fr f (b.2 i h1 h2) fun _ _ x => x⟩
def one (S : RD) (x : Ent × List UInt8) : RD := if x.1.kind = 2 then S.flush.1 else (S.write x.1.at_ x.2).1
def runs (S : RD) (xs : List (Ent × List UInt8)) : RD := xs.foldl one S
/-- the first act that is refused -/
def faults (N : Int) : List Ent → Int
  | [] => 0
  | e :: r => if refusedOf e N ≠ 0 then refusedOf e N else faults N r
theorem step_keeps (S : RD) (f : RD → RD) (P : RD → Prop) (h1 : ∀ S', S'.lasts.length = S.lasts.length → S'.pend.length ≤ S.pend.length → S'.tape.length ≤ S.tape.length + 1 → P S') (hf : ∀ S' : RD, S'.lasts = S.lasts → S'.pend = S.pend → S'.tape = S.tape → (f S').lasts.length = S.lasts.length ∧ (f S').pend.length ≤ S.pend.length ∧ (f S').tape.length ≤ S.tape.length + 1) : P (S.step f).1 := by
  unfold RD.step
  split
  · split
    · exact h1 _ (applyTo_length _ _) (Nat.zero_le _) (Nat.le_succ _)
    · obtain ⟨a, b, c⟩ := hf { S with left := S.left - 1 } rfl rfl rfl
      exact h1 _ a b c
  · obtain ⟨a, b, c⟩ := hf S rfl rfl rfl
    exact h1 _ a b c
theorem one_keeps (S : RD) (x : Ent × List UInt8) : (one S x).lasts.length = S.lasts.length ∧ (one S x).pend.length ≤ S.pend.length + 1 ∧ (one S x).tape.length ≤ S.tape.length + 2 := by
  unfold one
  split
  · unfold RD.flush
    split
    · exact ⟨rfl, Nat.le_succ _, Nat.le_add_right _ 2⟩
    · refine step_keeps _ _ (fun S' => S'.lasts.length = S.lasts.length ∧ S'.pend.length ≤ S.pend.length + 1 ∧ S'.tape.length ≤ S.tape.length + 2) (fun S' a b c => ⟨a, by have b : S'.pend.length ≤ S.pend.length := b; omega, by have c : S'.tape.length ≤ S.tape.length + 1 := c; omega⟩) ?_
      intro S' e1 e2 e3
      refine ⟨?_, Nat.zero_le _, ?_⟩
      · show (applyTo S'.lasts S'.pend).length = _
        rw [applyTo_length, e1]
      · show (S'.tape ++ [_]).length ≤ _
        rw [e3, List.length_append, List.length_singleton]; exact Nat.le_refl _
  · unfold RD.write
    split
    · exact ⟨rfl, Nat.le_succ _, Nat.le_add_right _ 2⟩
    · split
      · exact ⟨rfl, Nat.le_succ _, Nat.le_add_right _ 2⟩
      · split
        · exact ⟨rfl, Nat.le_succ _, Nat.le_add_right _ 2⟩
        · refine step_keeps _ _ (fun S' => S'.lasts.length = S.lasts.length ∧ S'.pend.length ≤ S.pend.length + 1 ∧ S'.tape.length ≤ S.tape.length + 2) (fun S' a b c => ⟨a, ?_, ?_⟩) ?_
          · have b : S'.pend.length ≤ (S.pend ++ [_]).length := b
            rw [List.length_append, List.length_singleton] at b; exact b
          · have c : S'.tape.length ≤ (S.tape ++ [_]).length + 1 := c
            rw [List.length_append, List.length_singleton] at c; omega
          · intro S' e1 e2 e3
            exact ⟨by show S'.lasts.length = _; rw [e1], by show S'.pend.length ≤ _; rw [e2]; exact Nat.le_refl _, by show S'.tape.length ≤ _; rw [e3]; exact Nat.le_succ _⟩
theorem kind_keeps (N : Int) (es : List Ent) (i : Nat) (h : i < es.length) : faults N (es.drop i) = if refusedOf es[i] N ≠ 0 then refusedOf es[i] N else faults N (es.drop (i + 1)) := by
  rw [List.drop_eq_getElem_cons h]; rfl
theorem strAt_lt {h : Heap} {p : Addr} {l : Nat} {bs : List UInt8} (c : StrAt h (some p) l bs) (hx : bs ≠ []) : p.block < h.size := by
  cases bs with
  | nil => exact absurd rfl hx
  | cons x r =>
    have := (cellOf_some (c.2 0 (bv x) rfl)).2
    have hb : (p.add 0).block = p.block := by rw [Addr.add_zero]
    rw [hb] at this
    exact rd_lt this
theorem After_spec {ia : Option Addr} {il ic : Nat} {ibs : List UInt8} {aa : Option Addr} {al ac : Nat} {es : List Ent} {ds : List (List UInt8)} {ka : Option Addr} {kl kc : Nat} {keep : List Bool} {h : Heap} {K : Value → Heap → Prop}
    (B : StrAt h ia il ibs) (hlc : il ≤ ic) (hil : il ≤ 140737488355328) (A : SlCells h aa (es.flatMap Ent.cells)) (hal : es.length = al) (hmax : es.length ≤ 100000000) (T : Bytes h es ds)
    (Kp : SlCells h ka (keep.map .bool)) (hkl : keep.length = kl)
    (h1 : il % 512 ≠ 0 ∨ il = 0 ∨ 16384 < il / 512 → K (.tuple #[.slice none 0 0, .int .i64 32]) h)
    (h2 : il % 512 = 0 → 0 < il → il / 512 ≤ 16384 → faults (il / 512 : Nat) es ≠ 0 → ∀ h', Fr No h h' → K (.tuple #[.slice none 0 0, .int .i64 (faults (il / 512 : Nat) es)]) h')
    (h3 : il % 512 = 0 → 0 < il → il / 512 ≤ 16384 → faults (il / 512 : Nat) es = 0 → ∀ a c h', Fr No h h' →
      Sl h' 1 a (il / 512 * 512) c (((runs (fresh (chunks ibs)) (es.zip ds)).cut keep).lasts.flatten.map bv) (From h.size) → K (.tuple #[.slice a (il / 512 * 512) c, .int .i64 0]) h') :
    C.adisk_After ia il ic aa al ac ka kl kc h K := by
  have hbl := B.1
  refine adisk_After.ok (Open_spec (fun _ => 0) 10 (fun b _ c1 _ => by have c1 : (10 : Nat) ≤ 0 := c1; omega) B hlc hil (fun bad => ⟨_, _, rfl, cn (fun _ => h1 bad) (fun x => absurd x (by decide))⟩) fun y1 y2 y3 q h2' col2 f2 g2 D2 => ⟨_, _, rfl, cn (fun x => absurd rfl x) fun _ => ?_⟩)
  have hN : (fresh (chunks ibs)).lasts.length = il / 512 := by rw [← hbl]; exact chunks_length _
  have hcell : ∀ hh, Fr No h hh → ∀ i (hi : i < es.length), ∃ p, aa = some p ∧ Cells hh (p.add (i * 3)) (Ent.cells es[i]) := by
    intro hh f i hi
    cases aa with
    | none =>
      have A : es.flatMap Ent.cells = [] := A
      have := flat_length Ent.cells 3 es (fun _ _ => rfl)
      rw [A] at this; simp at this; omega
    | some p =>
      have := Cells.part (SlCells.fr f A (fun _ _ x => x)) (i * 3) 3
      rw [flat_part Ent.cells 3 es (fun _ _ => rfl) _ hi] at this
      exact ⟨p, rfl, this⟩
  refine ⟨fun n hh => 0 ≤ n ∧ n ≤ al ∧ Fr No h2' hh ∧ faults (il / 512 : Nat) es = faults (il / 512 : Nat) (es.drop n.toNat), fun n _ => ((al : Nat) - n).toNat, ⟨by omega, by omega, Fr.refl _ _, rfl⟩, ?_⟩
  rintro n h3' ⟨n0, n1, f3, e3⟩
  refine cd (fun hn => ?_) fun hn => ?_
  · have hn' : n.toNat < es.length := by omega
    obtain ⟨p, rfl, c⟩ := hcell h3' (f2.no f3) n.toNat hn'
    refine ⟨⟨n0, hn⟩, os ⟨_, rfl, c, NewRow.intro rfl (ent_one _) rfl fun h5 n5 => ⟨_, rfl, cellsAll n5.rd, Blocks_spec (D2.keep (f3.new n5) (Ag.refl _ _) (fun _ _ _ x => x)) ⟨_, rfl, ⟨rfl, cellsAll n5.rd⟩, ?_⟩⟩⟩⟩
    rw [hN]
    refine refused_spec fun h7 f7 => ⟨_, rfl, ?_⟩
    have e := kind_keeps (il / 512 : Nat) es n.toNat hn'
    refine cn (fun x => ?_) fun x => ?_
    · rw [if_pos x] at e
      have := h2 y1 y2 y3 (by rw [e3, e]; exact x) h7 ((((f2.no f3).new n5).no f7))
      rw [e3, e] at this; exact this
    · rw [if_neg (fun y => y x)] at e
      rw [wrap_i64 (by omega) (by omega)]
      exact ⟨⟨by omega, by omega, (f3.new n5).no f7, by rw [e3, e, show (n + 1).toNat = n.toNat + 1 by omega]⟩, falls hn⟩
  rw [List.drop_of_length_le (by omega)] at e3
  have free2 : Free h col2 10 := fun b hb c1 _ => by
    rw [g2 b hb] at c1
    have c1 : (10 : Nat) ≤ 0 := c1
    omega
  have e3 : faults (il / 512 : Nat) es = 0 := e3
  refine ⟨fun n hh => 0 ≤ n ∧ n ≤ al ∧ Fr No h hh ∧ ∃ S col, DiskAt hh q S col 10 ∧ S = runs (fresh (chunks ibs)) ((es.zip ds).take n.toNat) ∧ S.lasts.length = il / 512 ∧ S.pend.length ≤ n.toNat ∧ S.tape.length ≤ 2 * n.toNat ∧ Free h col 10, fun n _ => ((al : Nat) - n).toNat,
    ⟨by omega, by omega, f2.no f3, _, col2, D2.keep f3 (Ag.refl _ _) (fun _ _ _ x => x), rfl, hN, Nat.zero_le _, Nat.zero_le _, free2⟩, ?_⟩
  rintro j h8 ⟨j0, j1, f8, S, col, D8, hS, hSl, hSp, hSt, fr8⟩
  refine cd (fun hj => ?_) fun hj => ?_
  · have hj' : j.toNat < es.length := by omega
    have hjd : j.toNat < ds.length := by rw [← T.1]; exact hj'
    obtain ⟨p, rfl, c⟩ := hcell h8 f8 j.toNat hj'
    have hz : j.toNat < (es.zip ds).length := by rw [List.length_zip]; omega
    have hk1 : (j + 1).toNat = j.toNat + 1 := by omega
    have hrun : runs (fresh (chunks ibs)) ((es.zip ds).take (j + 1).toNat) = one S (es[j.toNat], ds[j.toNat]) := by
      rw [hk1, take_snoc _ _ hz, runs, List.foldl_append, hS, List.getElem_zip]; rfl
    obtain ⟨ka1, ka2, ka3⟩ := one_keeps S (es[j.toNat], ds[j.toNat])
    refine ⟨⟨j0, hj⟩, os ⟨_, rfl, c, NewRow.intro rfl (ent_one _) rfl fun h10 n10 => ⟨_, rda n10.rd rfl, ?_⟩⟩⟩
    rw [wrap_i64 (by omega) (by omega)]
    have D10 := D8.keep n10.fr (Ag.refl _ _) (fun _ _ _ x => x)
    have f10 := f8.new n10
    have close : ∀ h' col', Fr (Dk col 10) h10 h' → Ag h10.size col col' → DiskAt h' q (one S (es[j.toNat], ds[j.toNat])) col' 10 →
        (0 ≤ j + 1 ∧ j + 1 ≤ al ∧ Fr No h h' ∧ ∃ S col, DiskAt h' q S col 10 ∧ S = runs (fresh (chunks ibs)) ((es.zip ds).take (j + 1).toNat) ∧ S.lasts.length = il / 512 ∧ S.pend.length ≤ (j + 1).toNat ∧ S.tape.length ≤ 2 * (j + 1).toNat ∧ Free h col 10) := by
      intro h' col' f' g' D'
      refine ⟨by omega, by omega, f10.trans f' (fun b hb x => fr8 b hb x.1 x.2), _, col', D', hrun.symm, ka1.trans hSl, by omega, by omega, fun b hb c1 c2 => ?_⟩
      rw [g' b (Nat.lt_of_lt_of_le hb f10.size)] at c1 c2
      exact fr8 b hb c1 c2
    refine ce (fun hk => ?_) fun hk => ?_
    · refine Flush_spec D10 (by omega) fun h' col' f' g' D' => ⟨_, rfl, close h' col' f' g' ?_, falls hj⟩
      rw [one, if_pos hk]; exact D'
    · have T10 := (T.fr f10).2 j.toNat hj' hjd
      refine ⟨_, rda n10.rd rfl, _, _, _, rda n10.rd rfl, Write_spec D10 T10 (fun p hp hne x => ?_) (by omega) (by omega) fun h' col' f' g' D' => ⟨_, rfl, close h' col' f' g' ?_, falls hj⟩⟩
      · have T0 := T.2 j.toNat hj' hjd
        rw [hp] at T0
        exact fr8 _ (strAt_lt T0 hne) x.1 x.2
      · rw [one, if_neg hk]; exact D'
  have ej : j.toNat = al := by omega
  rw [List.take_of_length_le (by rw [List.length_zip]; omega)] at hS
  refine cut_spec D8 hkl (SlCells.fr f8 Kp fun _ _ x => x) (fun p hp hne x => ?_) fun h13 f13 D13 => ⟨rfl, ?_⟩
  · subst hp
    cases keep with
    | nil => exact hne rfl
    | cons k r =>
      have := (cellOf_some (Kp 0 (.bool k) rfl)).2
      have hb : (p.add 0).block = p.block := by rw [Addr.add_zero]
      rw [hb] at this
      exact fr8 _ (rd_lt this) (by omega) (by omega)
  refine Image_spec D13 fun a c h14 f14 s14 => ⟨_, _, _, rfl, ?_⟩
  have hl : (S.cut keep).lasts.length = il / 512 := (applyTo_length _ _).trans hSl
  rw [hl] at s14 ⊢
  have F13 : Fr No h h13 := f8.trans f13 (fun b hb x => fr8 b hb x.1 x.2)
  rw [hS] at s14
  exact h3 y1 y2 y3 e3 a c h14 (F13.no f14) (s14.mono fun b hb => Nat.le_trans F13.size hb)
end Go.Proofs.Ytnbfaokpaiiojaa.Ad
