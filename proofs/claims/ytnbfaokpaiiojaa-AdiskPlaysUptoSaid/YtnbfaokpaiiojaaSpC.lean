import Derived.Test.YtnbfaokpaiiojaaL3K
import Derived.Test.YtnbfaokpaiiojaaL3J
import Derived.Test.YtnbfaokpaiiojaaAdJ
/-
  After of two rows with a flush between: the plain law.
-/
namespace Go.Proofs.Ytnbfaokpaiiojaa.L3
open Go Go.Proofs Go.Proofs.Ytnbfaokpaiiojaa.Wx Go.Proofs.Ytnbfaokpaiiojaa.Hp Go.Proofs.Ytnbfaokpaiiojaa.W Go.Proofs.Ytnbfaokpaiiojaa.Ad

/-- a disk whose power stays, with blocks of 512 bytes -/
structure Calm (S : RD) : Prop where
  down : S.down = false
  left : S.left = 0
  lw : ∀ x ∈ S.lasts, x.length = 512
  pw : ∀ x ∈ S.pend, x.2.length = 512
theorem Calm.fresh {ls : List (List UInt8)} (h : ∀ x ∈ ls, x.length = 512) : Calm (fresh ls) := ⟨rfl, rfl, h, fun x hx => by simp [Ad.fresh] at hx⟩
theorem Calm.flush {S : RD} (c : Calm S) : S.flush.1 = RD.flushed { S with flushes := IntKind.wrap .i64 (S.flushes + 1) } := by
  rw [RD.flush, if_neg (by rw [c.down]; exact Bool.false_ne_true), RD.step, if_neg (by show ¬ 0 < S.left; rw [c.left]; omega)]
theorem Calm.write {S : RD} (c : Calm S) (i : Int) (b : List UInt8) : (S.write i b).1 = S ∨ (b.length = 512 ∧ 0 ≤ i ∧ i < S.lasts.length ∧ (S.write i b).1 = S.putW i b) := by
  rw [RD.write, if_neg (by rw [c.down]; exact Bool.false_ne_true)]
  by_cases h1 : 0 ≤ i ∧ i < S.lasts.length
  · rw [if_neg (fun x => x h1)]
    by_cases h2 : b.length = 512
    · rw [if_neg (fun x => x h2), RD.step, if_neg (by show ¬ 0 < S.left; rw [c.left]; omega)]
      exact Or.inr ⟨h2, h1.1, h1.2, rfl⟩
    · rw [if_pos h2]; exact Or.inl rfl
  · rw [if_pos h1]; exact Or.inl rfl
theorem Calm.putW {S : RD} (c : Calm S) (i : Int) {b : List UInt8} (h : b.length = 512) : Calm (S.putW i b) :=
  ⟨c.down, c.left, c.lw, fun x hx => by
    rcases List.mem_append.mp hx with hx | hx
    · exact c.pw x hx
    · rw [List.mem_singleton.mp hx]; exact h⟩
theorem Calm.one {S : RD} (c : Calm S) (x : Ent × List UInt8) : Calm (one S x) := by
  unfold Ad.one
  split
  · rw [c.flush]
    exact ⟨c.down, c.left, applyTo_len _ _ c.lw c.pw, fun x hx => by simp [RD.flushed] at hx⟩
  · rcases c.write x.1.at_ x.2 with e | ⟨h, _, _, e⟩
    · rw [e]; exact c
    · rw [e]; exact c.putW _ h
theorem Calm.runs {S : RD} (c : Calm S) (xs : List (Ent × List UInt8)) : Calm (runs S xs) := by
  induction xs generalizing S with
  | nil => exact c
  | cons x r ih => exact ih (c.one x)
/-- alike in what lasts and what is pending -/
def Like (S T : RD) : Prop := S.lasts = T.lasts ∧ S.pend = T.pend
theorem Like.one {S T : RD} (c : Calm S) (d : Calm T) (l : Like S T) (x : Ent × List UInt8) : Like (one S x) (one T x) := by
  obtain ⟨l1, l2⟩ := l
  unfold Ad.one
  split
  · rw [c.flush, d.flush]
    exact ⟨by show applyTo S.lasts S.pend = applyTo T.lasts T.pend; rw [l1, l2], rfl⟩
  · rw [RD.write, RD.write, c.down, d.down, l1]
    simp only [Bool.false_eq_true, if_false]
    split
    · exact ⟨l1, l2⟩
    · split
      · exact ⟨l1, l2⟩
      · rw [RD.step, RD.step, if_neg (by show ¬ 0 < S.left; rw [c.left]; omega), if_neg (by show ¬ 0 < T.left; rw [d.left]; omega)]
        exact ⟨l1, by show S.pend ++ _ = T.pend ++ _; rw [l2]⟩
theorem Like.runs {S T : RD} (c : Calm S) (d : Calm T) (l : Like S T) (xs : List (Ent × List UInt8)) : Like (runs S xs) (runs T xs) := by
  induction xs generalizing S T with
  | nil => exact l
  | cons x r ih => exact ih (c.one x) (d.one x) (l.one c d x)
theorem chosen_nil (keep : List Bool) : chosen [] keep = [] := by cases keep <;> rfl
/-- THE PLAIN LAW -/
theorem splits_plain {ls : List (List UInt8)} (h : ∀ x ∈ ls, x.length = 512) (xs ys : List (Ent × List UInt8)) (f : Ent × List UInt8) (hf : f.1.kind = 2) (keep : List Bool) :
    ((runs (Ad.fresh (chunks ((runs (Ad.fresh ls) (xs ++ [f])).cut keep).lasts.flatten)) ys).cut keep).lasts = ((runs (Ad.fresh ls) ((xs ++ [f]) ++ ys)).cut keep).lasts := by
  have c1 := (Calm.fresh h).runs xs
  have e1 : runs (Ad.fresh ls) (xs ++ [f]) = RD.flushed { runs (Ad.fresh ls) xs with flushes := IntKind.wrap .i64 ((runs (Ad.fresh ls) xs).flushes + 1) } := by
    rw [← c1.flush, Ad.runs, List.foldl_append]
    show Ad.one _ f = _
    rw [Ad.one, if_pos hf]; rfl
  have c2 := (Calm.fresh h).runs (xs ++ [f])
  have e2 : ((runs (Ad.fresh ls) (xs ++ [f])).cut keep).lasts = (runs (Ad.fresh ls) (xs ++ [f])).lasts := by
    show applyTo _ (chosen _ keep) = _
    have : (runs (Ad.fresh ls) (xs ++ [f])).pend = [] := by rw [e1]; rfl
    rw [this, chosen_nil]; rfl
  have e3 : runs (Ad.fresh ls) ((xs ++ [f]) ++ ys) = runs (runs (Ad.fresh ls) (xs ++ [f])) ys := by rw [Ad.runs, List.foldl_append]; rfl
  rw [e2, chunks_of _ c2.lw, e3]
  obtain ⟨l1, l2⟩ := Like.runs (S := Ad.fresh (runs (Ad.fresh ls) (xs ++ [f])).lasts) (Calm.fresh c2.lw) c2 ⟨rfl, by rw [e1]; rfl⟩ ys
  show applyTo _ (chosen _ keep) = applyTo _ (chosen _ keep)
  rw [l1, l2]

/-- a row of acts, with their bytes: the row in blocks of colour k, the bytes in blocks of colour 3 -/
structure Row (h : Heap) (col : Nat → Nat) (k : Nat) (a : Option Addr) (l c : Nat) (xs : List (Ent × List UInt8)) (N : Int) : Prop where
  sl : Sl h 3 a l c (xs.flatMap fun x => x.1.cells) (On col k)
  num : xs.length = l
  by_ : ∀ x ∈ xs, StrAt h x.1.a x.1.l x.2 ∧ (∀ p, x.1.a = some p → p.block < h.size ∧ col p.block = 3)
  good : ∀ x ∈ xs, refusedOf x.1 N = 0
theorem Row.nil (h : Heap) (col : Nat → Nat) (k : Nat) (N : Int) : Row h col k none 0 0 [] N := ⟨Sl.nil _ _ _, rfl, fun _ h => absurd h (List.not_mem_nil), fun _ h => absurd h (List.not_mem_nil)⟩
theorem Row.keep {h h' : Heap} {col col' : Nat → Nat} {k : Nat} {a : Option Addr} {l c : Nat} {xs : List (Ent × List UInt8)} {N : Int} {F : Nat → Prop} (r : Row h col k a l c xs N) (f : Fr F h h') (g : Ag h.size col col')
    (h1 : ∀ b, col b = k → ¬ F b) (h2 : ∀ b, col b = 3 → ¬ F b) : Row h' col' k a l c xs N :=
  ⟨r.sl.keep f g h1, r.num, fun x hx => ⟨StrAt.fr f (r.by_ x hx).1 fun p hp => h2 _ ((r.by_ x hx).2 p hp).2, fun p hp => ⟨Nat.lt_of_lt_of_le ((r.by_ x hx).2 p hp).1 f.size, (g _ ((r.by_ x hx).2 p hp).1).trans ((r.by_ x hx).2 p hp).2⟩⟩, r.good⟩
theorem faults_good (N : Int) (es : List Ent) (h : ∀ x ∈ es, refusedOf x N = 0) : faults N es = 0 := by
  induction es with
  | nil => rfl
  | cons e r ih => rw [faults, if_neg (fun x => x (h e (List.mem_cons_self ..)))]; exact ih fun x hx => h x (List.mem_cons_of_mem _ hx)
theorem Row.flat {xs : List (Ent × List UInt8)} : xs.flatMap (fun x => x.1.cells) = (xs.map (·.1)).flatMap Ent.cells := by
  rw [List.flatMap_map]
theorem Row.bytes {h : Heap} {col : Nat → Nat} {xs : List (Ent × List UInt8)} (h1 : ∀ x ∈ xs, StrAt h x.1.a x.1.l x.2 ∧ (∀ p, x.1.a = some p → p.block < h.size ∧ col p.block = 3)) : Bytes h (xs.map (·.1)) (xs.map (·.2)) :=
  ⟨by rw [List.length_map, List.length_map], fun i h2 h3 => by
    rw [List.getElem_map, List.getElem_map]
    exact (h1 _ (List.getElem_mem _)).1⟩
theorem zip_self (xs : List (Ent × List UInt8)) : (xs.map (·.1)).zip (xs.map (·.2)) = xs := by
  induction xs with
  | nil => rfl
  | cons x r ih => simp only [List.map_cons, List.zip_cons_cons, ih]
/-- After, of a row -/
theorem After_row {ia : Option Addr} {il ic : Nat} {ibs : List UInt8} {aa : Option Addr} {al ac k : Nat} {xs : List (Ent × List UInt8)} {ka : Option Addr} {kl kc : Nat} {keep : List Bool} {h : Heap} {col : Nat → Nat} {N : Nat} {K : Value → Heap → Prop}
    (B : StrAt h ia il ibs) (hlc : il ≤ ic) (hN1 : 1 ≤ N) (hN2 : N ≤ 16384) (hil : il = N * 512) (R : Row h col k aa al ac xs N) (hmax : xs.length ≤ 1000000)
    (Kp : SlCells h ka (keep.map .bool)) (hkl : keep.length = kl)
    (hK : ∀ a c h', Fr No h h' → Sl h' 1 a (N * 512) c (((runs (Ad.fresh (chunks ibs)) xs).cut keep).lasts.flatten.map bv) (From h.size) → K (.tuple #[.slice a (N * 512) c, .int .i64 0]) h') :
    C.adisk_After ia il ic aa al ac ka kl kc h K := by
  have hz : faults (il / 512 : Nat) (xs.map (·.1)) = 0 := by
    have : il / 512 = N := by omega
    rw [this]
    exact faults_good _ _ fun x hx => by obtain ⟨y, hy, rfl⟩ := List.mem_map.mp hx; exact R.good y hy
  refine After_spec (es := xs.map (·.1)) (ds := xs.map (·.2)) B hlc (by omega) (by rw [← Row.flat]; exact R.sl.cells) (by rw [List.length_map]; exact R.num) (by rw [List.length_map]; omega) (Row.bytes R.by_) Kp hkl (fun bad => by omega) (fun _ _ _ x => absurd hz x) fun _ _ _ _ a c h' f s => ?_
  have e : il / 512 = N := by omega
  rw [zip_self, e] at s
  rw [e]
  exact hK a c h' f s
end Go.Proofs.Ytnbfaokpaiiojaa.L3
/-
  LAW AdiskSplits: a row of orders as a row of acts.
-/
namespace Go.Proofs.Ytnbfaokpaiiojaa.L3
open Go Go.Proofs Go.Proofs.Ytnbfaokpaiiojaa.Wx Go.Proofs.Ytnbfaokpaiiojaa.Hp Go.Proofs.Ytnbfaokpaiiojaa.W Go.Proofs.Ytnbfaokpaiiojaa.Ad

/-- the disk and its image, while rows are made beside them -/
structure Bk (h0 : Heap) (n : Int) (q ia : Option Addr) (ic : Nat) (h : Heap) (col : Nat → Nat) : Prop where
  fr : Fr No h0 h
  base : ∀ b, b < h0.size → col b = 0
  D : DiskAt h q (Ad.fresh (blocks0 (many n))) col 10
  im : Sl h 1 ia (many n * 512) ic ((blocks0 (many n)).flatten.map bv) (On col 4)
theorem Bk.keep {h0 : Heap} {n : Int} {q ia : Option Addr} {ic : Nat} {h h' : Heap} {col col' : Nat → Nat} {F : Nat → Prop} (b : Bk h0 n q ia ic h col) (f : Fr F h h') (g : Ag h.size col col')
    (hF : ∀ x, F x → col x = 1 ∨ col x = 2) : Bk h0 n q ia ic h' col' :=
  ⟨b.fr.trans f fun x hx y => by have := hF x y; have := b.base x hx; omega, fun x hx => (g x (Nat.lt_of_lt_of_le hx b.fr.size)).trans (b.base x hx),
   b.D.keep f g fun x h1 h2 y => by have := hF x y; omega, b.im.keep f g fun x hx y => by have := hF x y; omega⟩
theorem add_row {elem : TI} {e : Nat} {h0 : Heap} {n : Int} {q ia a : Option Addr} {ic l c k : Nat} {h : Heap} {col : Nat → Nat} {xs : List (Ent × List UInt8)} {N : Int} {x : Ent × List UInt8} {K : Option Addr → Nat → Nat → Heap → Prop}
    (he : elem.cells = 3) (hb : elem.bytes ≤ 1000) (hz : elem.zero.length = elem.cells) (hk : k = 1 ∨ k = 2) (hl : l ≤ 1000000)
    (B : Bk h0 n q ia ic h col) (R : Row h col k a l c xs N) (hx : StrAt h x.1.a x.1.l x.2 ∧ (∀ p, x.1.a = some p → p.block < h.size ∧ col p.block = 3)) (hg : refusedOf x.1 N = 0)
    (hK : ∀ a' c' h' col', Fr (On col k) h h' → Ag h.size col col' → Bk h0 n q ia ic h' col' → Row h' col' k a' (l + 1) c' (xs ++ [x]) N → K a' (l + 1) c' h') :
    AppendP elem e a l c 1 x.1.cells h K := by
  have s := R.sl
  rw [← he] at s
  have hm : (l + 1) * elem.bytes ≤ (l + 1) * 1000 := Nat.mul_le_mul_left _ hb
  refine append_col s (by rw [he]; rfl) hz (by omega) (by omega) fun a' c' h' f' s' => ?_
  rw [he] at s'
  have g : Ag h.size col (upd col h.size k) := ag_upd _ _ _
  refine hK a' c' h' _ f' g (B.keep f' g fun x hx => by have hx : col x = k := hx; omega) ⟨?_, ?_, ?_, ?_⟩
  · rw [List.flatMap_append, List.flatMap_cons, List.flatMap_nil, List.append_nil]; exact s'
  · rw [List.length_append, List.length_singleton, R.num]
  · intro y hy
    have hy2 : StrAt h y.1.a y.1.l y.2 ∧ (∀ p, y.1.a = some p → p.block < h.size ∧ col p.block = 3) := by
      rcases List.mem_append.mp hy with hy | hy
      · exact R.by_ y hy
      · rw [List.mem_singleton.mp hy]; exact hx
    exact ⟨StrAt.fr f' hy2.1 fun p hp => by have := (hy2.2 p hp).2; show ¬ col p.block = k; omega, fun p hp => ⟨Nat.lt_of_lt_of_le (hy2.2 p hp).1 f'.size, (g _ (hy2.2 p hp).1).trans (hy2.2 p hp).2⟩⟩
  · intro y hy
    rcases List.mem_append.mp hy with hy | hy
    · exact R.good y hy
    · rw [List.mem_singleton.mp hy]; exact hg
theorem ti_row {h : Heap} {b : Nat} {x : Ent} (r : rd h b = x.cells) : SlCells h (some ⟨b, 0, none⟩) x.cells := cellsAll r
theorem act_row {elem : TI} {e t : Nat} {h0 : Heap} {n : Int} {q ia a : Option Addr} {ic l c k : Nat} {h : Heap} {col : Nat → Nat} {xs : List (Ent × List UInt8)} {o : Ord} {p : Addr} {K : Option Addr → Nat → Nat → Heap → Prop}
    (he : elem.cells = 3) (hb : elem.bytes ≤ 1000) (hz : elem.zero.length = elem.cells) (hk : k = 1 ∨ k = 2) (hl : l ≤ 1000000)
    (B : Bk h0 n q ia ic h col) (R : Row h col k a l c xs (many n : Nat)) (hc : Cells h p o.cells)
    (hK : ∀ x a' c' h' col', Fr (On col k) h h' → Ag h.size col col' → Bk h0 n q ia ic h' col' → Row h' col' k a' (l + 1) c' (xs ++ [x]) (many n : Nat) → K a' (l + 1) c' h') :
    C.adisk_Disk_Blocks q h fun r2 h4 =>
    ∃ (n2 : Int), r2 = .int .i64 n2 ∧
    (List.length (o.cells : List Value) = 3 ∧ Cells h4 p o.cells) ∧
    C.bolelaw03_act o.cells n2 h4 fun r3 h5 =>
    ∃ (cs2 : List Value), r3 = .agg ⟨cs2⟩ ∧
    List.length (cs2 : List Value) = 3 ∧
    New cs2 t h5 fun h6 =>
    ∃ new1 : List Value, List.length new1 = 1 * 3 ∧ SlCells h6 (some ⟨h5.size, 0, none⟩) new1 ∧ (∀ v ∈ new1, v.oneCell' = true) ∧
    AppendP elem e a l c 1 new1 h6 K := by
  have hm0 := Int.emod_nonneg n (show (9 : Int) ≠ 0 by decide)
  have hm1 := Int.emod_lt_of_pos n (show (0 : Int) < 9 by decide)
  have hN : 1 ≤ many n ∧ many n ≤ 9 := by unfold many; omega
  have hlen : (Ad.fresh (blocks0 (many n))).lasts.length = many n := by show (blocks0 _).length = _; rw [blocks0, List.length_map, List.length_range]
  refine Ad.Blocks_spec B.D ⟨_, rfl, ⟨rfl, hc⟩, ?_⟩
  rw [hlen]
  have g : Ag h.size col (upd col h.size 3) := ag_upd _ _ _
  have go : ∀ (x : Ent × List UInt8) (h5 h6 : Heap), Fr No h h5 → Newly h5 h6 x.1.cells → StrAt h5 x.1.a x.1.l x.2 → (∀ p, x.1.a = some p → h.size ≤ p.block ∧ p.block < h5.size) → refusedOf x.1 (many n : Nat) = 0 →
      AppendP elem e a l c 1 x.1.cells h6 K := by
    intro x h5 h6 f5 n6 s5 hx hg
    have f6 := f5.no n6.fr
    have hs5 := f5.size
    have hs6 := n6.size
    refine add_row he hb hz hk hl (B.keep f6 g fun _ y => y.elim) (R.keep f6 g (fun _ _ y => y) (fun _ _ y => y)) ⟨StrAt.fr n6.fr s5 fun _ _ y => y, fun p hp => ⟨by have := hx p hp; omega, upd_ge (hx p hp).1⟩⟩ hg fun a' c' h' col' f' g' B' R' => ?_
    exact hK x a' c' h' col' ((f6.mono fun _ _ y => y.elim).trans f' fun b hb y => by have y : upd col h.size 3 b = k := y; rw [upd_lt hb] at y; exact y) (g.trans g' (by omega)) B' R'
  refine act_spec (by omega) (by omega) (fun e1 h5 f5 => ⟨_, rfl, rfl, New.intro fun h6 n6 => ⟨_, rfl, ti_row n6.rd, ent_one _, ?_⟩⟩) (fun e1 b h5 f5 hb5 o5 r5 => ⟨_, rfl, rfl, New.intro fun h6 n6 => ⟨_, rfl, ti_row n6.rd, ent_one _, ?_⟩⟩)
  · exact go (⟨2, o.at_, none, 0, 0⟩, []) h5 h6 f5 n6 ⟨rfl, rfl⟩ (fun p hp => by cases hp) (by rw [refusedOf, if_pos rfl])
  · refine go (⟨1, o.at_ % (many n : Nat), some ⟨b, 0, none⟩, 512, 512⟩, rep o.fill) h5 h6 f5 n6 (strAll r5 (rep_length _)) (fun p hp => by cases hp; exact ⟨hb5, o5.lt⟩) ?_
    have e0 := Int.emod_nonneg o.at_ (show ((many n : Nat) : Int) ≠ 0 by omega)
    have e1 := Int.emod_lt_of_pos o.at_ (show (0 : Int) < (many n : Nat) by omega)
    rw [refusedOf, if_neg (by show ¬ (1 : Int) = 2; decide), if_neg (by show ¬ (1 : Int) ≠ 1; decide), if_neg (by show ¬ o.at_ % (many n : Nat) < 0; omega), if_neg (by show ¬ o.at_ % (many n : Nat) ≥ (many n : Nat); omega), if_neg (by show ¬ (512 : Nat) ≠ 512; decide)]
end Go.Proofs.Ytnbfaokpaiiojaa.L3
/-
  LAW AdiskSplits, the whole.
-/
namespace Go.Proofs.Ytnbfaokpaiiojaa.L3
open Go Go.Proofs Go.Proofs.Ytnbfaokpaiiojaa.Wx Go.Proofs.Ytnbfaokpaiiojaa.Hp Go.Proofs.Ytnbfaokpaiiojaa.W Go.Proofs.Ytnbfaokpaiiojaa.Ad

theorem ord_part {h : Heap} {pa : Option Addr} {pl : Nat} {os : List Ord} {i : Nat} (P : SlCells h pa (os.flatMap Ord.cells)) (hi : i < os.length) : ∃ p, pa = some p ∧ Cells h (p.add (i * 3)) (Ord.cells os[i]) := by
  cases pa with
  | none =>
    have P : os.flatMap Ord.cells = [] := P
    have := flat_length Ord.cells 3 os (fun _ _ => rfl)
    rw [P] at this; simp at this; omega
  | some p =>
    have := Cells.part P (i * 3) 3
    rw [flat_part Ord.cells 3 os (fun _ _ => rfl) _ hi] at this
    exact ⟨p, rfl, this⟩
theorem flatcells_one (xs : List (Ent × List UInt8)) : ∀ v ∈ xs.flatMap (fun x => x.1.cells), v.oneCell' = true := by
  intro v hv
  obtain ⟨x, _, h⟩ := List.mem_flatMap.mp hv
  exact ent_one _ v h
theorem flatcells_length (xs : List (Ent × List UInt8)) : (xs.flatMap (fun x => x.1.cells)).length = xs.length * 3 := flat_length (fun x : Ent × List UInt8 => x.1.cells) 3 xs fun _ _ => rfl
theorem cut_all {ls : List (List UInt8)} (h : ∀ x ∈ ls, x.length = 512) (xs : List (Ent × List UInt8)) (keep : List Bool) :
    (∀ x ∈ ((runs (Ad.fresh ls) xs).cut keep).lasts, x.length = 512) ∧ ((runs (Ad.fresh ls) xs).cut keep).lasts.length = ls.length := by
  have c := (Calm.fresh h).runs xs
  refine ⟨applyTo_len _ _ c.lw fun x hx => ?_, ?_⟩
  · obtain ⟨y, hy, rfl⟩ := List.mem_map.mp hx
    exact c.pw _ (List.of_mem_zip (List.mem_filter.mp hy).1).1
  · show (applyTo _ _).length = _
    rw [applyTo_length]
    clear c h
    suffices ∀ (S : RD), (runs S xs).lasts.length = S.lasts.length from this _
    induction xs with
    | nil => intro S; rfl
    | cons x r ih => intro S; exact (ih (one S x)).trans (one_keeps S x).1
theorem splits4 {n : Int} {q ia aa ba ka : Option Addr} {ic al ac bl bc kl kc : Nat} {h0 h : Heap} {col : Nat → Nat} {xs ys : List (Ent × List UInt8)} {f : Ent × List UInt8} {keep : List Bool} {K : Value → Heap → Prop}
    (hf : f.1.kind = 2) (Kp : SlCells h0 ka (keep.map .bool)) (hkl : keep.length = kl) (hal : al ≤ 1000) (hbl : bl ≤ 1000)
    (B : Bk h0 n q ia ic h col) (X : Row h col 1 aa al ac (xs ++ [f]) (many n : Nat)) (Y : Row h col 2 ba bl bc ys (many n : Nat))
    (hK : ∀ h', Fr No h0 h' → K (.bool true) h') : bolelaw03_AdiskSplits.k4 ka kl kc ia (many n * 512) ic aa al ac ba bl bc h K := by
  have hm0 := Int.emod_nonneg n (show (9 : Int) ≠ 0 by decide)
  have hm1 := Int.emod_lt_of_pos n (show (0 : Int) < 9 by decide)
  have hN : 1 ≤ many n ∧ many n ≤ 9 := by unfold many; omega
  have hw := blocks0_len (many n)
  have hbn : (blocks0 (many n)).length = many n := by rw [blocks0, List.length_map, List.length_range]
  have nx := X.num
  have ny := Y.num
  refine After_row (xs := xs ++ [f]) B.im.str B.im.le hN.1 (by omega) rfl X (by omega) (SlCells.fr B.fr Kp fun _ _ x => x) hkl fun a1 c1 h1 f1 s1 => ⟨_, _, _, _, rfl, cn (fun x => absurd rfl x) fun _ => ?_⟩
  rw [chunks_of _ hw] at s1
  have B1 := B.keep f1 (Ag.refl _ _) fun _ x => x.elim
  have X1 := X.keep f1 (Ag.refl _ _) (fun _ _ y => y) (fun _ _ y => y)
  have Y1 := Y.keep f1 (Ag.refl _ _) (fun _ _ y => y) (fun _ _ y => y)
  refine After_row (xs := ys) s1.str s1.le hN.1 (by omega) rfl Y1 (by omega) (SlCells.fr B1.fr Kp fun _ _ x => x) hkl fun a2 c2 h2 f2 s2 => ⟨_, _, _, _, rfl, ?_⟩
  have g : Ag h1.size col (upd col h1.size 5) := ag_upd _ _ _
  have B2 := B1.keep f2 g fun _ x => x.elim
  have X2 := X1.keep f2 g (fun _ _ y => y) (fun _ _ y => y)
  have Y2 := Y1.keep f2 g (fun _ _ y => y) (fun _ _ y => y)
  have t2 : Sl h2 1 a2 (many n * 512) c2 _ (On (upd col h1.size 5) 5) := s2.mono fun b hb => upd_ge hb
  refine ⟨_, by rw [flatcells_length, ny], Y2.sl.cells, flatcells_one _, append_col X2.sl (by rw [flatcells_length, ny]; rfl) rfl (by show (al + bl) * 40 ≤ _; omega) (by omega) fun a3 c3 h3 f3 s3 => ?_⟩
  have g3 : Ag h2.size (upd col h1.size 5) (upd (upd col h1.size 5) h2.size 1) := ag_upd _ _ _
  have B3 := B2.keep f3 g3 fun x hx => by have hx : upd col h1.size 5 x = 1 := hx; exact Or.inl hx
  have t3 := t2.keep f3 g3 fun x hx y => by have y : upd col h1.size 5 x = 1 := y; omega
  have bys : ∀ x ∈ (xs ++ [f]) ++ ys, StrAt h2 x.1.a x.1.l x.2 ∧ (∀ p, x.1.a = some p → p.block < h2.size ∧ upd col h1.size 5 p.block = 3) := by
    intro x hx
    rcases List.mem_append.mp hx with hx | hx
    · exact X2.by_ x hx
    · exact Y2.by_ x hx
  have R3 : Row h3 (upd (upd col h1.size 5) h2.size 1) 1 a3 (al + bl) c3 ((xs ++ [f]) ++ ys) (many n : Nat) := by
    refine ⟨?_, by rw [List.length_append, nx, ny], fun x hx => ⟨StrAt.fr f3 (bys x hx).1 fun p hp => by have := ((bys x hx).2 p hp).2; show ¬ upd col h1.size 5 p.block = 1; omega, fun p hp => ⟨Nat.lt_of_lt_of_le ((bys x hx).2 p hp).1 f3.size, (g3 _ ((bys x hx).2 p hp).1).trans ((bys x hx).2 p hp).2⟩⟩, fun x hx => ?_⟩
    · rw [List.flatMap_append]; exact s3
    · rcases List.mem_append.mp hx with hx | hx
      · exact X2.good x hx
      · exact Y2.good x hx
  refine After_row (xs := (xs ++ [f]) ++ ys) B3.im.str B3.im.le hN.1 (by omega) rfl R3 (by rw [List.length_append, nx, ny]; omega) (SlCells.fr B3.fr Kp fun _ _ x => x) hkl fun a4 c4 h4 f4 s4 => ⟨_, _, _, _, rfl, ct rfl (ct rfl ?_)⟩
  rw [chunks_of _ hw] at s4
  have t4 := t3.keep f4 (Ag.refl _ _) fun _ _ y => y
  refine ⟨_, t4.str, _, s4.str, ct ?_ ?_⟩
  · rw [splits_plain hw xs ys f hf keep]; exact beq_self_eq_true _
  · have : ((many n * 512 : Nat) : Int) == ((many n * 512 : Nat) : Int) := beq_self_eq_true _
    rw [this]
    exact hK h4 (B3.fr.no f4)
theorem splits2 {n : Int} {q ia aa sa ka : Option Addr} {ic al ac sl kl kc : Nat} {h0 h : Heap} {col : Nat → Nat} {xs : List (Ent × List UInt8)} {os : List Ord} {keep : List Bool} {K : Value → Heap → Prop}
    (P : SlCells h0 sa (os.flatMap Ord.cells)) (hos : os.length = sl) (Kp : SlCells h0 ka (keep.map .bool)) (hkl : keep.length = kl) (hal : al ≤ 60)
    (B : Bk h0 n q ia ic h col) (X : Row h col 1 aa al ac xs (many n : Nat))
    (hK : ∀ h', Fr No h0 h' → K (.bool true) h') : bolelaw03_AdiskSplits.k2 sa sl ka kl kc q ia (many n * 512) ic aa al ac h K := by
  refine ⟨rfl, New.intro fun h2 n2 => ⟨_, rfl, cellsAll n2.rd, ent_one ⟨2, 0, none, 0, 0⟩, ?_⟩⟩
  have g2 : Ag h.size col (upd col h.size 3) := ag_upd _ _ _
  refine add_row (x := (⟨2, 0, none, 0, 0⟩, [])) rfl (by decide) rfl (Or.inl rfl) (by omega) (B.keep n2.fr g2 fun _ x => x.elim) (X.keep n2.fr g2 (fun _ _ y => y) (fun _ _ y => y)) ⟨⟨rfl, rfl⟩, fun p hp => by cases hp⟩ (by rw [refusedOf, if_pos rfl]) fun a3 c3 h3 col3 f3 g3 B3 X3 => ?_
  refine ⟨fun a l c i hh => 0 ≤ i ∧ i ≤ 60 ∧ l = i.toNat ∧ ∃ col ys ax ac, ax = a3 ∧ ac = c3 ∧ Bk h0 n q ia ic hh col ∧ Row hh col 1 ax (al + 1) ac (xs ++ [(⟨2, 0, none, 0, 0⟩, [])]) (many n : Nat) ∧ Row hh col 2 a l c ys (many n : Nat), fun _ _ _ i _ => ((sl : Nat) - i).toNat,
    ⟨by omega, by omega, rfl, col3, [], _, _, rfl, rfl, B3, X3, Row.nil _ _ _ _⟩, ?_⟩
  rintro a l c i h4 ⟨i0, i1, hl, col4, ys, _, _, rfl, rfl, B4, X4, Y4⟩
  have fin := splits4 (kc := kc) (f := (⟨2, 0, none, 0, 0⟩, [])) rfl Kp hkl (by omega) (by omega) B4 X4 Y4 hK
  refine cd (fun hi => cd (fun hi2 => ?_) fun _ => fin) fun _ => fin
  have hi' : i.toNat < os.length := by omega
  obtain ⟨p, rfl, hc⟩ := ord_part (pl := sl) (SlCells.fr B4.fr P fun _ _ x => x) hi'
  refine ⟨⟨i0, hi⟩, Hp.os ⟨_, rfl, hc, act_row rfl (by decide) rfl (Or.inr rfl) (by omega) B4 Y4 hc fun x a5 c5 h5 col5 f5 g5 B5 Y5 => ?_⟩⟩
  rw [wrap_i64 (by omega) (by omega)]
  refine ⟨⟨by omega, by omega, by omega, col5, ys ++ [x], _, _, rfl, rfl, B5, X4.keep f5 g5 (fun b hb y => by have y : col4 b = 2 := y; omega) (fun b hb y => by have y : col4 b = 2 := y; omega), Y5⟩, falls hi⟩
theorem AdiskSplits_spec {n : Int} {fa sa ka : Option Addr} {fl fc sl sc kl kc : Nat} {os1 os2 : List Ord} {keep : List Bool} {h : Heap} {K : Value → Heap → Prop}
    (P1 : SlCells h fa (os1.flatMap Ord.cells)) (hos1 : os1.length = fl) (P2 : SlCells h sa (os2.flatMap Ord.cells)) (hos2 : os2.length = sl) (Kp : SlCells h ka (keep.map .bool)) (hkl : keep.length = kl)
    (hK : ∀ h', Fr No h h' → K (.bool true) h') : C.bolelaw03_AdiskSplits n fa fl fc sa sl sc ka kl kc h K := by
  refine bolelaw03_AdiskSplits.ok (fresh_spec (fun _ => 0) 10 4 (Or.inl (by omega)) (free0 h (by omega)) fun q a c h2 col2 f2 g2 D2 new2 s2 hp2 => ⟨_, _, _, _, rfl, cf rfl ?_⟩)
  have B2 : Bk h n (some q) a c h2 col2 := ⟨f2, fun b hb => g2 b hb, D2, s2⟩
  refine ⟨fun a' l' c' i hh => 0 ≤ i ∧ i ≤ 60 ∧ l' = i.toNat ∧ ∃ col xs, Bk h n (some q) a c hh col ∧ Row hh col 1 a' l' c' xs (many n : Nat), fun _ _ _ i _ => ((fl : Nat) - i).toNat,
    ⟨by omega, by omega, rfl, col2, [], B2, Row.nil _ _ _ _⟩, ?_⟩
  rintro a' l' c' i h4 ⟨i0, i1, hl, col4, xs, B4, X4⟩
  have fin := splits2 (kc := kc) P2 hos2 Kp hkl (by omega) B4 X4 hK
  refine cd (fun hi => cd (fun hi2 => ?_) fun _ => fin) fun _ => fin
  have hi' : i.toNat < os1.length := by omega
  obtain ⟨p, rfl, hc⟩ := ord_part (pl := fl) (SlCells.fr B4.fr P1 fun _ _ x => x) hi'
  refine ⟨⟨i0, hi⟩, Hp.os ⟨_, rfl, hc, act_row rfl (by decide) rfl (Or.inl rfl) (by omega) B4 X4 hc fun x a5 c5 h5 col5 f5 g5 B5 X5 => ?_⟩⟩
  rw [wrap_i64 (by omega) (by omega)]
  exact ⟨⟨by omega, by omega, by omega, col5, xs ++ [x], B5, X5⟩, falls hi⟩
end Go.Proofs.Ytnbfaokpaiiojaa.L3
