/-
  PACKAGE boleref03: fault, lasts, left, After; and what adisk.After answers, said the same way.
-/
import Derived.Test.YtnbfaokpaiiojaaCuC
namespace Go.Proofs.Ytnbfaokpaiiojaa.L3
open Go Go.Proofs Go.Proofs.Ytnbfaokpaiiojaa.Wx Go.Proofs.Ytnbfaokpaiiojaa.Hp Go.Proofs.Ytnbfaokpaiiojaa.W Go.Proofs.Ytnbfaokpaiiojaa.Ad

abbrev Tt := Int × Int × List UInt8
def hasFlush (ts : List Tt) : Bool := ts.any fun t => t.1 == 2
def trail (ts : List Tt) : Nat := ts.foldl (fun n t => if t.1 = 1 then n + 1 else 0) 0
theorem trail_snoc (ts : List Tt) (t : Tt) : trail (ts ++ [t]) = if t.1 = 1 then trail ts + 1 else 0 := by rw [trail, List.foldl_append]; rfl
def stays (ts : List Tt) (i : Nat) (keep : List Bool) : Bool := hasFlush (ts.drop (i + 1)) || keep.getD (trail (ts.take i)) false
/-- what is left of acts and a power cut; k: so many writes stand ahead of them without a flush -/
def leftR (keep : List Bool) : List (List UInt8) → List Tt → Nat → List (List UInt8)
  | ls, [], _ => ls
  | ls, t :: r, k => if t.1 = 1 then leftR keep (if hasFlush r || keep.getD k false then ls.set t.2.1.toNat t.2.2 else ls) r (k + 1) else leftR keep ls r 0
/-- an act that may be; of a flush nothing more is asked -/
def May (N : Int) (t : Tt) : Prop := t.1 = 2 ∨ (t.1 = 1 ∧ 0 ≤ t.2.1 ∧ t.2.1 < N ∧ t.2.2.length = 512)
theorem applyTo_snoc (ls : List (List UInt8)) (ps : List (Int × List UInt8)) (p : Int × List UInt8) : applyTo ls (ps ++ [p]) = (applyTo ls ps).set p.1.toNat p.2 := by rw [applyTo, List.foldl_append]; rfl
theorem left_plain (keep : List Bool) (N : Nat) : ∀ (ts : List Tt) (S : RD), Calm S → S.lasts.length = N → (∀ t ∈ ts, May N t) →
    ((replay S ts).cut keep).lasts = leftR keep (if hasFlush ts then applyTo S.lasts S.pend else applyTo S.lasts (chosen S.pend keep)) ts S.pend.length := by
  intro ts
  induction ts with
  | nil => intro S _ _ _; rfl
  | cons t r ih =>
    intro S c hN hm
    have hr : ∀ t ∈ r, May N t := fun t ht => hm t (List.mem_cons_of_mem _ ht)
    have hst : replay S (t :: r) = replay (again S t) r := rfl
    rw [hst]
    rcases hm t (List.mem_cons_self ..) with h2 | ⟨h1, e0, e1, e2⟩
    · have ea : again S t = RD.flushed { S with flushes := IntKind.wrap .i64 (S.flushes + 1) } := by rw [again, if_pos h2, c.flush]
      have cf : Calm (again S t) := by
        rw [ea]; exact ⟨c.down, c.left, applyTo_len _ _ c.lw c.pw, fun x hx => by simp [RD.flushed] at hx⟩
      rw [ih _ cf (by rw [ea]; exact (applyTo_length _ _).trans hN) hr]
      have hf : hasFlush (t :: r) = true := by rw [hasFlush, List.any_cons, h2]; rfl
      rw [hf, if_pos rfl, leftR, if_neg (show ¬ t.1 = 1 by rw [h2]; decide)]
      have el : (again S t).lasts = applyTo S.lasts S.pend := by rw [ea]; rfl
      have ep : (again S t).pend = [] := by rw [ea]; rfl
      rw [el, ep, chosen_nil]
      show leftR keep (if hasFlush r = true then applyTo S.lasts S.pend else applyTo S.lasts S.pend) r 0 = _
      rw [ite_self]
    · have ea : again S t = S.putW t.2.1 t.2.2 := by
        rw [again, if_neg (by rw [h1]; decide), RD.write, if_neg (by rw [c.down]; exact Bool.false_ne_true), if_neg (fun x => x ⟨e0, by rw [hN]; exact e1⟩), if_neg (fun x => x e2), RD.step, if_neg (by show ¬ 0 < S.left; rw [c.left]; omega)]
        rfl
      rw [ea, ih _ (c.putW _ e2) hN hr]
      have hf : hasFlush (t :: r) = hasFlush r := by rw [hasFlush, List.any_cons, h1]; rfl
      rw [hf, leftR, if_pos (show t.1 = 1 from h1)]
      have el : (S.putW t.2.1 t.2.2).pend = S.pend ++ [(t.2.1, t.2.2)] := rfl
      have ell : (S.putW t.2.1 t.2.2).lasts = S.lasts := rfl
      rw [el, ell, List.length_append, List.length_singleton]
      cases hh : hasFlush r with
      | true => simp only [if_true, Bool.true_or, applyTo_snoc]
      | false =>
        simp only [Bool.false_eq_true, if_false, Bool.false_or]
        rw [chosen_add, List.getD_eq_getElem?_getD]
        cases hk : keep[S.pend.length]? with
        | none => simp
        | some b => cases b <;> simp [applyTo_snoc]
theorem left_fresh (keep : List Bool) {N : Nat} {ls : List (List UInt8)} (h : ∀ x ∈ ls, x.length = 512) (hl : ls.length = N) (ts : List Tt) (hm : ∀ t ∈ ts, May N t) : ((replay (Ad.fresh ls) ts).cut keep).lasts = leftR keep ls ts 0 := by
  rw [left_plain keep N ts _ (Calm.fresh h) hl hm]
  show leftR keep (if hasFlush ts = true then ls else applyTo ls (chosen [] keep)) ts 0 = _
  rw [chosen_nil]
  show leftR keep (if hasFlush ts = true then ls else ls) ts 0 = _
  rw [ite_self]
theorem leftR_step (keep : List Bool) (ls : List (List UInt8)) (ts : List Tt) (i : Nat) (hi : i < ts.length) :
    leftR keep ls (ts.drop i) (trail (ts.take i)) = leftR keep (if ts[i].1 = 1 ∧ stays ts i keep = true then ls.set ts[i].2.1.toNat ts[i].2.2 else ls) (ts.drop (i + 1)) (trail (ts.take (i + 1))) := by
  rw [List.drop_eq_getElem_cons hi, take_snoc _ _ hi, trail_snoc, leftR]
  by_cases h : ts[i].1 = 1
  · rw [if_pos h, if_pos h]
    cases hs : stays ts i keep with
    | true => rw [stays] at hs; rw [hs, if_pos rfl, if_pos ⟨h, rfl⟩]
    | false => rw [stays] at hs; rw [hs, if_neg Bool.false_ne_true, if_neg (fun x => by cases x.2)]
  · rw [if_neg h, if_neg h, if_neg (fun x => h x.1)]

/-- what is refused, said of acts and their bytes -/
def refT (N : Int) (t : Tt) : Int := refusedOf ⟨t.1, t.2.1, none, t.2.2.length, 0⟩ N
def faultsT (N : Int) : List Tt → Int
  | [] => 0
  | t :: r => if refT N t ≠ 0 then refT N t else faultsT N r
theorem refT_may {N : Int} {t : Tt} (h : refT N t = 0) : May N t := by
  unfold refT refusedOf at h
  split at h
  · rename_i e; exact Or.inl e
  · split at h
    · exact absurd h (by decide)
    · split at h
      · exact absurd h (by decide)
      · split at h
        · exact absurd h (by decide)
        · split at h
          · exact absurd h (by decide)
          · rename_i e1 e2 e3 e4 e5
            have e2 : ¬ t.1 ≠ 1 := e2
            have e3 : ¬ t.2.1 < 0 := e3
            have e4 : ¬ t.2.1 ≥ N := e4
            have e5 : ¬ t.2.2.length ≠ 512 := e5
            exact Or.inr ⟨by omega, by omega, by omega, by omega⟩
theorem faultsT_may {N : Int} : ∀ {ts : List Tt}, faultsT N ts = 0 → ∀ t ∈ ts, May N t := by
  intro ts
  induction ts with
  | nil => intro _ t ht; exact absurd ht List.not_mem_nil
  | cons x r ih =>
    intro h t ht
    rw [faultsT] at h
    split at h
    · rename_i hne; exact absurd h hne
    · rename_i hz
      rcases List.mem_cons.mp ht with rfl | ht
      · exact refT_may (by omega)
      · exact ih h t ht
/-- entries and what they lead to -/
structure Alike (es : List Ent) (ts : List Tt) : Prop where
  len : es.length = ts.length
  at_ : ∀ i (h1 : i < es.length) (h2 : i < ts.length), es[i].kind = ts[i].1 ∧ es[i].at_ = ts[i].2.1 ∧ es[i].l = ts[i].2.2.length
theorem Alike.tail {e : Ent} {t : Tt} {es : List Ent} {ts : List Tt} (a : Alike (e :: es) (t :: ts)) : Alike es ts :=
  ⟨by have := a.len; simpa using this, fun i h1 h2 => by have := a.at_ (i + 1) (by simpa using h1) (by simpa using h2); simpa using this⟩
theorem Alike.faults {N : Int} : ∀ {es : List Ent} {ts : List Tt}, Alike es ts → faults N es = faultsT N ts := by
  intro es
  induction es with
  | nil => intro ts a; cases ts with
    | nil => rfl
    | cons _ _ => exact absurd a.len (by simp)
  | cons e r ih => intro ts a; cases ts with
    | nil => exact absurd a.len (by simp)
    | cons t s =>
      obtain ⟨h1, h2, h3⟩ := a.at_ 0 (by simp) (by simp)
      have h1 : e.kind = t.1 := h1
      have h2 : e.at_ = t.2.1 := h2
      have h3 : e.l = t.2.2.length := h3
      have er : refusedOf e N = refT N t := by unfold refT refusedOf; rw [h1, h2, h3]
      rw [Ad.faults, faultsT, er, ih a.tail]
theorem Alike.runs : ∀ {es : List Ent} {ts : List Tt}, Alike es ts → ∀ S, runs S (es.zip (ts.map (·.2.2))) = replay S ts := by
  intro es
  induction es with
  | nil => intro ts a; cases ts with
    | nil => intro S; rfl
    | cons _ _ => exact absurd a.len (by simp)
  | cons e r ih => intro ts a; cases ts with
    | nil => exact absurd a.len (by simp)
    | cons t s =>
      intro S
      obtain ⟨h1, h2, _⟩ := a.at_ 0 (by simp) (by simp)
      have h1 : e.kind = t.1 := h1
      have h2 : e.at_ = t.2.1 := h2
      have e1 : one S (e, t.2.2) = again S t := by rw [one, again, h1, h2]
      show Ad.runs (one S (e, t.2.2)) _ = replay (again S t) s
      rw [e1]; exact ih a.tail _
theorem Rot.alike {h : Heap} {a : Option Addr} {l : Nat} {es : List Ent} {ts : List Tt} (r : Rot h a l es ts) : Alike es ts :=
  ⟨r.len, fun i h1 h2 => ⟨(r.at_ i h1 h2).1, (r.at_ i h1 h2).2.1, (r.at_ i h1 h2).2.2.1.symm⟩⟩
theorem Rot.fr {h h' : Heap} {a : Option Addr} {l : Nat} {es : List Ent} {ts : List Tt} (r : Rot h a l es ts) (f : Fr No h h') : Rot h' a l es ts :=
  ⟨SlCells.fr f r.cells fun _ _ x => x, r.num, r.len, fun i h1 h2 => ⟨(r.at_ i h1 h2).1, (r.at_ i h1 h2).2.1, StrAt.fr f (r.at_ i h1 h2).2.2 fun _ _ x => x⟩⟩
theorem Rot.bytes {h : Heap} {a : Option Addr} {l : Nat} {es : List Ent} {ts : List Tt} (r : Rot h a l es ts) : Bytes h es (ts.map (·.2.2)) :=
  ⟨by rw [List.length_map]; exact r.len, fun i h1 h2 => by rw [List.getElem_map]; exact (r.at_ i h1 (by simpa using h2)).2.2⟩
/-- the answer of After -/
def aftOf (ibs : List UInt8) (ts : List Tt) (keep : List Bool) : List UInt8 × Int :=
  if ibs.length % 512 ≠ 0 ∨ ibs.length = 0 ∨ 16384 < ibs.length / 512 then ([], 32)
  else if faultsT (ibs.length / 512 : Nat) ts ≠ 0 then ([], faultsT (ibs.length / 512 : Nat) ts)
  else ((leftR keep (chunks ibs) ts 0).flatten, 0)
theorem After_all {ia : Option Addr} {il ic : Nat} {ibs : List UInt8} {aa : Option Addr} {al ac : Nat} {es : List Ent} {ts : List Tt} {ka : Option Addr} {kl kc : Nat} {keep : List Bool} {h : Heap} {K : Value → Heap → Prop}
    (B : StrAt h ia il ibs) (hlc : il ≤ ic) (hil : il ≤ 140737488355328) (R : Rot h aa al es ts) (hmax : al ≤ 100000000) (Kp : SlCells h ka (keep.map .bool)) (hkl : keep.length = kl)
    (hK : ∀ a l c h', Fr No h h' → Sl h' 1 a l c ((aftOf ibs ts keep).1.map bv) (From h.size) → K (.tuple #[.slice a l c, .int .i64 (aftOf ibs ts keep).2]) h') : C.adisk_After ia il ic aa al ac ka kl kc h K := by
  have hb := B.1
  have hn := R.num
  have hl := R.len
  have hz := R.alike.faults (N := (il / 512 : Nat))
  unfold aftOf at hK
  rw [hb] at hK
  refine After_spec B hlc hil R.cells (by omega) (by omega) R.bytes Kp hkl (fun bad => ?_) (fun g1 g2 g3 e h' f => ?_) fun g1 g2 g3 e a c h' f s => ?_
  · rw [if_pos bad] at hK; exact hK none 0 0 h (Fr.refl _ _) (Sl.nil _ _ _)
  · rw [if_neg (by omega)] at hK
    rw [hz] at e ⊢
    rw [if_pos e] at hK
    exact hK none 0 0 h' f (Sl.nil _ _ _)
  · rw [if_neg (by omega)] at hK
    rw [hz] at e
    rw [if_neg (fun x => x e)] at hK
    rw [R.alike.runs, left_fresh keep (N := il / 512) (chunks_len _) (by rw [chunks_length, hb]) ts (faultsT_may e)] at s
    exact hK a _ c h' f s
end Go.Proofs.Ytnbfaokpaiiojaa.L3
