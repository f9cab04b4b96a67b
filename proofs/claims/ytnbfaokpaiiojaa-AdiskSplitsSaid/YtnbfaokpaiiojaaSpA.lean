/-
  After of two rows with a flush between: the plain law.
-/
import Derived.Test.YtnbfaokpaiiojaaL3K
import Derived.Test.YtnbfaokpaiiojaaL3J
import Derived.Test.YtnbfaokpaiiojaaAdJ
namespace Go.Proofs.Ytnbfaokpaiiojaa.L3
open Go Go.Proofs Go.Proofs.Ytnbfaokpaiiojaa.Wx Go.Proofs.Ytnbfaokpaiiojaa.Hp Go.Proofs.Ytnbfaokpaiiojaa.W Go.Proofs.Ytnbfaokpaiiojaa.Ad

/-- a disk whose power stays, with blocks of 512 bytes -/
structure Calm (S : RD) : Prop where
  down : S.down = false
  left : S.left = 0
  lw : ∀ x ∈ S.lasts, x.length = 512
  pw : ∀ x ∈ S.pend, x.2.length = 512
theorem Calm.fresh {ls : List (List UInt8)} (h : ∀ x ∈ ls, x.length = 512) : Calm (fresh ls) := ⟨rfl, rfl, h, fun x hx => by simp [Ad.fresh] at hx⟩
theorem Calm.flush {S : RD} (c : Calm S) : S.flush.1 = RD.flushed { S with flushes := IntKind.wrap .i64 (S.flushes + 1) } := by
  rw [RD.flush, if_neg (by rw [c.down]; exact Bool.false_ne_true), RD.step, if_neg (by show ¬ 0 < S.left; rw [c.left]; omega)]
theorem Calm.write {S : RD} (c : Calm S) (i : Int) (b : List UInt8) : (S.write i b).1 = S ∨ (b.length = 512 ∧ 0 ≤ i ∧ i < S.lasts.length ∧ (S.write i b).1 = S.putW i b) := by
  rw [RD.write, if_neg (by rw [c.down]; exact Bool.false_ne_true)]
  by_cases h1 : 0 ≤ i ∧ i < S.lasts.length
  · rw [if_neg (fun x => x h1)]
    by_cases h2 : b.length = 512
    · rw [if_neg (fun x => x h2), RD.step, if_neg (by show ¬ 0 < S.left; rw [c.left]; omega)]
      exact Or.inr ⟨h2, h1.1, h1.2, rfl⟩
    · rw [if_pos h2]; exact Or.inl rfl
  · rw [if_pos h1]; exact Or.inl rfl
theorem Calm.putW {S : RD} (c : Calm S) (i : Int) {b : List UInt8} (h : b.length = 512) : Calm (S.putW i b) :=
  ⟨c.down, c.left, c.lw, fun x hx => by
    rcases List.mem_append.mp hx with hx | hx
    · exact c.pw x hx
    · rw [List.mem_singleton.mp hx]; exact h⟩
theorem Calm.one {S : RD} (c : Calm S) (x : Ent × List UInt8) : Calm (one S x) := by
  unfold Ad.one
  split
  · rw [c.flush]
    exact ⟨c.down, c.left, applyTo_len _ _ c.lw c.pw, fun x hx => by simp [RD.flushed] at hx⟩
  · rcases c.write x.1.at_ x.2 with e | ⟨h, _, _, e⟩
    · rw [e]; exact c
    · rw [e]; exact c.putW _ h
theorem Calm.runs {S : RD} (c : Calm S) (xs : List (Ent × List UInt8)) : Calm (runs S xs) := by
  induction xs generalizing S with
  | nil => exact c
  | cons x r ih => exact ih (c.one x)
/-- alike in what lasts and what is pending -/
def Like (S T : RD) : Prop := S.lasts = T.lasts ∧ S.pend = T.pend
theorem Like.one {S T : RD} (c : Calm S) (d : Calm T) (l : Like S T) (x : Ent × List UInt8) : Like (one S x) (one T x) := by
  obtain ⟨l1, l2⟩ := l
  unfold Ad.one
  split
  · rw [c.flush, d.flush]
    exact ⟨by show applyTo S.lasts S.pend = applyTo T.lasts T.pend; rw [l1, l2], rfl⟩
  · rw [RD.write, RD.write, c.down, d.down, l1]
    simp only [Bool.false_eq_true, if_false]
    split
    · exact ⟨l1, l2⟩
    · split
      · exact ⟨l1, l2⟩
      · rw [RD.step, RD.step, if_neg (by show ¬ 0 < S.left; rw [c.left]; omega), if_neg (by show ¬ 0 < T.left; rw [d.left]; omega)]
        exact ⟨l1, by show S.pend ++ _ = T.pend ++ _; rw [l2]⟩
theorem Like.runs {S T : RD} (c : Calm S) (d : Calm T) (l : Like S T) (xs : List (Ent × List UInt8)) : Like (runs S xs) (runs T xs) := by
  induction xs generalizing S T with
  | nil => exact l
  | cons x r ih => exact ih (c.one x) (d.one x) (l.one c d x)
theorem chosen_nil (keep : List Bool) : chosen [] keep = [] := by cases keep <;> rfl
/-- THE PLAIN LAW -/
theorem splits_plain {ls : List (List UInt8)} (h : ∀ x ∈ ls, x.length = 512) (xs ys : List (Ent × List UInt8)) (f : Ent × List UInt8) (hf : f.1.kind = 2) (keep : List Bool) :
    ((runs (Ad.fresh (chunks ((runs (Ad.fresh ls) (xs ++ [f])).cut keep).lasts.flatten)) ys).cut keep).lasts = ((runs (Ad.fresh ls) ((xs ++ [f]) ++ ys)).cut keep).lasts := by
  have c1 := (Calm.fresh h).runs xs
  have e1 : runs (Ad.fresh ls) (xs ++ [f]) = RD.flushed { runs (Ad.fresh ls) xs with flushes := IntKind.wrap .i64 ((runs (Ad.fresh ls) xs).flushes + 1) } := by
    rw [← c1.flush, Ad.runs, List.foldl_append]
    show Ad.one _ f = _
    rw [Ad.one, if_pos hf]; rfl
  have c2 := (Calm.fresh h).runs (xs ++ [f])
  have e2 : ((runs (Ad.fresh ls) (xs ++ [f])).cut keep).lasts = (runs (Ad.fresh ls) (xs ++ [f])).lasts := by
    show applyTo _ (chosen _ keep) = _
    have : (runs (Ad.fresh ls) (xs ++ [f])).pend = [] := by rw [e1]; rfl
    rw [this, chosen_nil]; rfl
  have e3 : runs (Ad.fresh ls) ((xs ++ [f]) ++ ys) = runs (runs (Ad.fresh ls) (xs ++ [f])) ys := by rw [Ad.runs, List.foldl_append]; rfl
  rw [e2, chunks_of _ c2.lw, e3]
  obtain ⟨l1, l2⟩ := Like.runs (S := Ad.fresh (runs (Ad.fresh ls) (xs ++ [f])).lasts) (Calm.fresh c2.lw) c2 ⟨rfl, by rw [e1]; rfl⟩ ys
  show applyTo _ (chosen _ keep) = applyTo _ (chosen _ keep)
  rw [l1, l2]

/-- a row of acts, with their bytes: the row in blocks of colour k, the bytes in blocks of colour 3 -/
structure Row (h : Heap) (col : Nat → Nat) (k : Nat) (a : Option Addr) (l c : Nat) (xs : List (Ent × List UInt8)) (N : Int) : Prop where
  sl : Sl h 3 a l c (xs.flatMap fun x => x.1.cells) (On col k)
  num : xs.length = l
  by_ : ∀ x ∈ xs, StrAt h x.1.a x.1.l x.2 ∧ (∀ p, x.1.a = some p → p.block < h.size ∧ col p.block = 3)
  good : ∀ x ∈ xs, refusedOf x.1 N = 0
theorem Row.nil (h : Heap) (col : Nat → Nat) (k : Nat) (N : Int) : Row h col k none 0 0 [] N := ⟨Sl.nil _ _ _, rfl, fun _ h => absurd h (List.not_mem_nil), fun _ h => absurd h (List.not_mem_nil)⟩
theorem Row.keep {h h' : Heap} {col col' : Nat → Nat} {k : Nat} {a : Option Addr} {l c : Nat} {xs : List (Ent × List UInt8)} {N : Int} {F : Nat → Prop} (r : Row h col k a l c xs N) (f : Fr F h h') (g : Ag h.size col col')
    (h1 : ∀ b, col b = k → ¬ F b) (h2 : ∀ b, col b = 3 → ¬ F b) : Row h' col' k a l c xs N :=
  ⟨r.sl.keep f g h1, r.num, fun x hx => ⟨StrAt.fr f (r.by_ x hx).1 fun p hp => h2 _ ((r.by_ x hx).2 p hp).2, fun p hp => ⟨Nat.lt_of_lt_of_le ((r.by_ x hx).2 p hp).1 f.size, (g _ ((r.by_ x hx).2 p hp).1).trans ((r.by_ x hx).2 p hp).2⟩⟩, r.good⟩
theorem faults_good (N : Int) (es : List Ent) (h : ∀ x ∈ es, refusedOf x N = 0) : faults N es = 0 := by
  induction es with
  | nil => rfl
  | cons e r ih => rw [faults, if_neg (fun x => x (h e (List.mem_cons_self ..)))]; exact ih fun x hx => h x (List.mem_cons_of_mem _ hx)
theorem Row.flat {xs : List (Ent × List UInt8)} : xs.flatMap (fun x => x.1.cells) = (xs.map (·.1)).flatMap Ent.cells := by
  rw [List.flatMap_map]
theorem Row.bytes {h : Heap} {col : Nat → Nat} {xs : List (Ent × List UInt8)} (h1 : ∀ x ∈ xs, StrAt h x.1.a x.1.l x.2 ∧ (∀ p, x.1.a = some p → p.block < h.size ∧ col p.block = 3)) : Bytes h (xs.map (·.1)) (xs.map (·.2)) :=
  ⟨by rw [List.length_map, List.length_map], fun i h2 h3 => by
    rw [List.getElem_map, List.getElem_map]
    exact (h1 _ (List.getElem_mem _)).1⟩
theorem zip_self (xs : List (Ent × List UInt8)) : (xs.map (·.1)).zip (xs.map (·.2)) = xs := by
  induction xs with
  | nil => rfl
  | cons x r ih => simp only [List.map_cons, List.zip_cons_cons, ih]
/-- After, of a row -/
theorem After_row {ia : Option Addr} {il ic : Nat} {ibs : List UInt8} {aa : Option Addr} {al ac k : Nat} {xs : List (Ent × List UInt8)} {ka : Option Addr} {kl kc : Nat} {keep : List Bool} {h : Heap} {col : Nat → Nat} {N : Nat} {K : Value → Heap → Prop}
    (B : StrAt h ia il ibs) (hlc : il ≤ ic) (hN1 : 1 ≤ N) (hN2 : N ≤ 16384) (hil : il = N * 512) (R : Row h col k aa al ac xs N) (hmax : xs.length ≤ 1000000)
    (Kp : SlCells h ka (keep.map .bool)) (hkl : keep.length = kl)
    (hK : ∀ a c h', Fr No h h' → Sl h' 1 a (N * 512) c (((runs (Ad.fresh (chunks ibs)) xs).cut keep).lasts.flatten.map bv) (From h.size) → K (.tuple #[.slice a (N * 512) c, .int .i64 0]) h') :
    C.adisk_After ia il ic aa al ac ka kl kc h K := by
  have hz : faults (il / 512 : Nat) (xs.map (·.1)) = 0 := by
    have : il / 512 = N := by omega
    rw [this]
    exact faults_good _ _ fun x hx => by obtain ⟨y, hy, rfl⟩ := List.mem_map.mp hx; exact R.good y hy
  refine After_spec (es := xs.map (·.1)) (ds := xs.map (·.2)) B hlc (by omega) (by rw [← Row.flat]; exact R.sl.cells) (by rw [List.length_map]; exact R.num) (by rw [List.length_map]; omega) (Row.bytes R.by_) Kp hkl (fun bad => by omega) (fun _ _ _ x => absurd hz x) fun _ _ _ _ a c h' f s => ?_
  have e : il / 512 = N := by omega
  rw [zip_self, e] at s
  rw [e]
  exact hK a c h' f s
end Go.Proofs.Ytnbfaokpaiiojaa.L3
