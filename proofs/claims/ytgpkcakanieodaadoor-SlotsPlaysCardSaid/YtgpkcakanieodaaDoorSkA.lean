/-
  SLOTS, PLAINLY: a cell has one form; a block is sixteen cells.
-/
import Derived.Test.YtgpkcakanieodaaDoorReS
namespace Go.Proofs.YtgpkcakanieodaaDoor.Sk
open Go Go.Proofs Go.Proofs.YtgpkcakanieodaaDoor.Re

theorem leB_succ (n v : Nat) : leB (n + 1) v = UInt8.ofNat v :: leB n (v / 256) := by
  rw [leB, List.range_succ_eq_map, List.map_cons, List.map_map]
  congr 1
  · rw [Nat.pow_zero, Nat.div_one]
  · rw [leB]
    apply List.map_congr_left
    intro k _
    show UInt8.ofNat (v / 256 ^ (k + 1)) = UInt8.ofNat (v / 256 / 256 ^ k)
    rw [Nat.pow_succ, Nat.mul_comm, Nat.div_div_eq_div_mul]
theorem leB_leN : ∀ (bs : List UInt8), leB bs.length (leN bs) = bs := by
  intro bs
  induction bs with
  | nil => rfl
  | cons b r ih =>
    have hb : b.toNat < 256 := b.toNat_lt
    rw [List.length_cons, leB_succ, leN, show (b.toNat + 256 * leN r) / 256 = leN r by omega, ih]
    congr 1
    apply UInt8.toNat_inj.mp
    rw [UInt8.toNat_ofNat']; omega
theorem leN_leB : ∀ (n v : Nat), v < 256 ^ n → leN (leB n v) = v := by
  intro n
  induction n with
  | zero =>
    intro v h
    have e : v = 0 := by simpa using h
    rw [e]; rfl
  | succ n ih =>
    intro v h
    rw [leB_succ, leN, ih (v / 256) (by rw [Nat.pow_succ] at h; omega), UInt8.toNat_ofNat']
    omega
theorem allZero_rep {bs : List UInt8} (h : allZero bs = true) : bs = List.replicate bs.length 0 := by
  induction bs with
  | nil => rfl
  | cons b r ih =>
    rw [allZero, List.all_cons, Bool.and_eq_true] at h
    have hb : b = 0 := by simpa using h.1
    have := ih h.2
    rw [List.length_cons, List.replicate_succ, hb]
    exact congrArg _ this
theorem rep_allZero (n : Nat) : allZero (List.replicate n 0) = true := by
  rw [allZero, List.all_eq_true]; intro x hx; rw [List.eq_of_mem_replicate hx]; rfl

abbrev Txt := List UInt8
def nameOk (s : Txt) : Bool := decide (1 ≤ s.length) && decide (s.length ≤ 27) && (s != [46]) && (s != [46, 46]) && s.all (fun b => b != 47 && b != 0)
structure NameOk (s : Txt) : Prop where
  pos : 1 ≤ s.length
  le : s.length ≤ 27
  dot : s ≠ [46]
  dots : s ≠ [46, 46]
  all : ∀ b ∈ s, b ≠ 47 ∧ b ≠ 0
theorem nameOk_iff {s : Txt} : nameOk s = true ↔ NameOk s := by
  constructor
  · intro h
    simp only [nameOk, Bool.and_eq_true, decide_eq_true_eq, bne_iff_ne, ne_eq, List.all_eq_true] at h
    obtain ⟨⟨⟨⟨h1, h2⟩, h3⟩, h4⟩, h5⟩ := h
    exact ⟨h1, h2, h3, h4, h5⟩
  · rintro ⟨h1, h2, h3, h4, h5⟩
    simp only [nameOk, Bool.and_eq_true, decide_eq_true_eq, bne_iff_ne, ne_eq, List.all_eq_true]
    exact ⟨⟨⟨⟨h1, h2⟩, h3⟩, h4⟩, h5⟩
def form (i : Nat) (s : Txt) : List UInt8 := if i = 0 then List.replicate 32 0 else leB 4 i ++ (UInt8.ofNat s.length :: (s ++ List.replicate (27 - s.length) 0))
def Good (x : Nat × Txt) : Prop := (x.1 = 0 ∧ x.2 = []) ∨ (1 ≤ x.1 ∧ x.1 < 4294967296 ∧ nameOk x.2 = true)
def one (c : List UInt8) : Option (Nat × Txt) :=
  if leN (c.take 4) = 0 then (if allZero c then some (0, []) else none)
  else if (c.getD 4 0).toNat < 1 ∨ 27 < (c.getD 4 0).toNat then none
  else if allZero (c.drop (5 + (c.getD 4 0).toNat)) && nameOk ((c.drop 5).take (c.getD 4 0).toNat) then some (leN (c.take 4), (c.drop 5).take (c.getD 4 0).toNat) else none
theorem form_length {x : Nat × Txt} (g : Good x) : (form x.1 x.2).length = 32 := by
  unfold form
  rcases g with ⟨h1, _⟩ | ⟨h1, h2, h3⟩
  · rw [if_pos h1, List.length_replicate]
  · have := (nameOk_iff.mp h3).le
    rw [if_neg (by omega), List.length_append, leB_length, List.length_cons, List.length_append, List.length_replicate]; omega
theorem zero_good : Good (0, []) := Or.inl ⟨rfl, rfl⟩
theorem one_form {x : Nat × Txt} (g : Good x) : one (form x.1 x.2) = some x := by
  obtain ⟨i, s⟩ := x
  rcases g with ⟨h1, h2⟩ | ⟨h1, h2, h3⟩
  · have h1 : i = 0 := h1
    have h2 : s = [] := h2
    subst h1; subst h2
    decide +kernel
  · have h1 : 1 ≤ i := h1
    have h2 : i < 4294967296 := h2
    have h3 : nameOk s = true := h3
    have hn := nameOk_iff.mp h3
    have hp := hn.pos
    have hl := hn.le
    have e0 : form i s = leB 4 i ++ (UInt8.ofNat s.length :: (s ++ List.replicate (27 - s.length) 0)) := by rw [form, if_neg (by omega)]
    have l4 := leB_length 4 i
    have e1 : (form i s).take 4 = leB 4 i := by rw [e0, List.take_append_of_le_length (by omega), List.take_of_length_le (by omega)]
    have e2 : (form i s).getD 4 0 = UInt8.ofNat s.length := by
      rw [e0, List.getD_eq_getElem?_getD, List.getElem?_append_right (by omega), l4]; rfl
    have e3 : (UInt8.ofNat s.length).toNat = s.length := by rw [UInt8.toNat_ofNat']; omega
    have e4 : (form i s).drop 5 = s ++ List.replicate (27 - s.length) 0 := by
      rw [e0, List.drop_append, l4]
      rw [List.drop_of_length_le (by omega)]; rfl
    have e5 : (form i s).drop (5 + s.length) = List.replicate (27 - s.length) 0 := by rw [← List.drop_drop, e4, List.drop_left]
    show one (form i s) = some (i, s)
    unfold one
    rw [e1, leN_leB 4 i (by omega), if_neg (by omega), e2, e3, if_neg (by omega), e5, rep_allZero, e4, List.take_left, h3]
    rfl
theorem form_one {c : List UInt8} {x : Nat × Txt} (hc : c.length = 32) (h : one c = some x) : Good x ∧ c = form x.1 x.2 := by
  unfold one at h
  have lt : leN (c.take 4) < 256 ^ (c.take 4).length := leN_lt _
  have l4 : (c.take 4).length = 4 := by rw [List.length_take]; omega
  rw [l4] at lt
  split at h
  · split at h
    · rename_i hz
      obtain rfl := Option.some.inj h
      refine ⟨zero_good, ?_⟩
      have := allZero_rep hz
      rw [hc] at this
      exact this
    · cases h
  · rename_i h0
    split at h
    · cases h
    · rename_i h1
      split at h
      · rename_i h2
        rw [Bool.and_eq_true] at h2
        obtain ⟨hz, hn⟩ := h2
        obtain rfl := Option.some.inj h
        refine ⟨Or.inr ⟨by show 1 ≤ leN _; omega, by show leN _ < _; omega, hn⟩, ?_⟩
        have h4 : 4 < c.length := by omega
        generalize hN : (c.getD 4 0).toNat = n at *
        have en : UInt8.ofNat n = c[4] := by
          rw [← hN, List.getD_eq_getElem?_getD, List.getElem?_eq_getElem h4]
          apply UInt8.toNat_inj.mp
          have := (c[4]).toNat_lt
          rw [UInt8.toNat_ofNat']
          show (c[4]).toNat % 256 = _
          omega
        have ls : ((c.drop 5).take n).length = n := by rw [List.length_take, List.length_drop]; omega
        have hz := allZero_rep hz
        rw [List.length_drop, hc, show 32 - (5 + n) = 27 - n by omega] at hz
        show c = form (leN (c.take 4)) ((c.drop 5).take n)
        rw [form, if_neg h0, ls, en, ← hz]
        have e1 : leB 4 (leN (c.take 4)) = c.take 4 := by
          have := leB_leN (c.take 4)
          rw [l4] at this; exact this
        rw [e1, ← List.drop_drop, List.take_append_drop, ← List.drop_eq_getElem_cons h4, List.take_append_drop]
      · cases h
/-- the cells of bytes, if they are cells -/
def dec : Nat → List UInt8 → Option (List (Nat × Txt))
  | 0, _ => some []
  | n + 1, b => match one (b.take 32) with
    | none => none
    | some x => (dec n (b.drop 32)).map (x :: ·)
def blk (hs : List (Nat × Txt)) : List UInt8 := hs.flatMap fun x => form x.1 x.2
theorem blk_cons (x : Nat × Txt) (r : List (Nat × Txt)) : blk (x :: r) = form x.1 x.2 ++ blk r := rfl
theorem blk_length {hs : List (Nat × Txt)} (g : ∀ x ∈ hs, Good x) : (blk hs).length = 32 * hs.length := by
  induction hs with
  | nil => rfl
  | cons x r ih =>
    rw [blk_cons, List.length_append, form_length (g x (List.mem_cons_self ..)), ih fun y hy => g y (List.mem_cons_of_mem _ hy), List.length_cons]; omega
theorem dec_blk {hs : List (Nat × Txt)} (g : ∀ x ∈ hs, Good x) : dec hs.length (blk hs) = some hs := by
  induction hs with
  | nil => rfl
  | cons x r ih =>
    have gx := g x (List.mem_cons_self ..)
    have l := form_length gx
    rw [List.length_cons, dec, blk_cons, show List.take 32 (form x.1 x.2 ++ blk r) = form x.1 x.2 by rw [← l, List.take_left], one_form gx]
    show (dec r.length (List.drop 32 (form x.1 x.2 ++ blk r))).map _ = _
    rw [show List.drop 32 (form x.1 x.2 ++ blk r) = blk r by rw [← l, List.drop_left], ih fun y hy => g y (List.mem_cons_of_mem _ hy)]
    rfl
theorem blk_dec : ∀ {n : Nat} {b : List UInt8} {hs : List (Nat × Txt)}, b.length = 32 * n → dec n b = some hs → hs.length = n ∧ (∀ x ∈ hs, Good x) ∧ b = blk hs := by
  intro n
  induction n with
  | zero =>
    intro b hs hl h
    obtain rfl := Option.some.inj h
    refine ⟨rfl, fun x hx => absurd hx (by simp), ?_⟩
    exact List.length_eq_zero_iff.mp (by omega)
  | succ n ih =>
    intro b hs hl h
    rw [dec] at h
    have l1 : (b.take 32).length = 32 := by rw [List.length_take]; omega
    cases ho : one (b.take 32) with
    | none => rw [ho] at h; cases h
    | some x =>
      rw [ho] at h
      obtain ⟨r, hr, rfl⟩ := Option.map_eq_some_iff.mp h
      obtain ⟨a1, a2, a3⟩ := ih (by rw [List.length_drop]; omega) hr
      obtain ⟨g, e⟩ := form_one l1 ho
      refine ⟨by rw [List.length_cons, a1], fun y hy => ?_, ?_⟩
      · rcases List.mem_cons.mp hy with rfl | hy
        · exact g
        · exact a2 y hy
      · rw [blk_cons, ← e, ← a3, List.take_append_drop]
theorem dec_step {b : List UInt8} {k : Nat} (hk : k < 16) : dec (16 - k) (b.drop (32 * k)) = match one ((b.drop (32 * k)).take 32) with
    | none => none
    | some x => (dec (16 - (k + 1)) (b.drop (32 * (k + 1)))).map (x :: ·) := by
  rw [show 16 - k = (16 - (k + 1)) + 1 by omega, dec, List.drop_drop, show 32 * k + 32 = 32 * (k + 1) by omega]
theorem blk_set : ∀ {hs : List (Nat × Txt)} {k : Nat} {y : Nat × Txt}, (∀ x ∈ hs, Good x) → Good y → k < hs.length → putU (blk hs) (32 * k) (form y.1 y.2) = blk (hs.set k y) := by
  intro hs
  induction hs with
  | nil => intro k y _ _ hk; exact absurd hk (by simp)
  | cons x r ih =>
    intro k y g gy hk
    have gx := g x (List.mem_cons_self ..)
    have l := form_length gx
    have ly := form_length gy
    cases k with
    | zero =>
      rw [Nat.mul_zero, List.set_cons_zero, blk_cons, blk_cons, putU, List.take_zero, List.nil_append, Nat.zero_add, ly, ← l, List.drop_left]
    | succ k =>
      have := ih (k := k) (fun z hz => g z (List.mem_cons_of_mem _ hz)) gy (by simpa using hk)
      rw [List.set_cons_succ, blk_cons, blk_cons, ← this, putU, putU, ly]
      rw [List.take_append, List.drop_append, l, show 32 * (k + 1) - 32 = 32 * k by omega, show 32 * (k + 1) + 32 - 32 = 32 * k + 32 by omega, List.take_of_length_le (by omega), List.drop_of_length_le (by omega), List.nil_append]
      simp only [List.append_assoc]
theorem set_good {hs : List (Nat × Txt)} {k : Nat} {y : Nat × Txt} (g : ∀ x ∈ hs, Good x) (gy : Good y) : ∀ x ∈ hs.set k y, Good x := by
  intro x hx
  rcases List.mem_or_eq_of_mem_set hx with h | rfl
  · exact g x h
  · exact gy
/-- what Read tells -/
structure E where
  place : Int
  name : Txt
  inode : Int
deriving DecidableEq
def ents : Nat → List (Nat × Txt) → List E
  | _, [] => []
  | k, x :: r => if x.1 = 0 then ents (k + 1) r else ⟨k, x.2, x.1⟩ :: ents (k + 1) r
theorem ents_append : ∀ (a b : List (Nat × Txt)) (k : Nat), ents k (a ++ b) = ents k a ++ ents (k + a.length) b := by
  intro a
  induction a with
  | nil => intro b k; rfl
  | cons x r ih =>
    intro b k
    rw [List.cons_append, ents, ents, ih, List.length_cons, show k + 1 + r.length = k + (r.length + 1) by omega]
    split <;> rfl
theorem ents_range : ∀ (hs : List (Nat × Txt)) (k : Nat) (e : E), e ∈ ents k hs → (k : Int) ≤ e.place ∧ e.place < k + hs.length ∧ ∃ x ∈ hs, x.1 ≠ 0 ∧ e.name = x.2 ∧ e.inode = x.1 := by
  intro hs
  induction hs with
  | nil => intro k e h; exact absurd h (by simp [ents])
  | cons x r ih =>
    intro k e h
    rw [ents] at h
    split at h
    · obtain ⟨h1, h2, y, h3, h4⟩ := ih _ _ h
      rw [List.length_cons]
      exact ⟨by omega, by omega, y, List.mem_cons_of_mem _ h3, h4⟩
    · rename_i h0
      rw [List.length_cons]
      rcases List.mem_cons.mp h with rfl | h
      · refine ⟨by show (k : Int) ≤ k; omega, by show (k : Int) < _; omega, x, List.mem_cons_self .., h0, rfl, rfl⟩
      · obtain ⟨h1, h2, y, h3, h4⟩ := ih _ _ h
        exact ⟨by omega, by omega, y, List.mem_cons_of_mem _ h3, h4⟩
theorem ents_inj : ∀ (hs gs : List (Nat × Txt)) (k : Nat), (∀ x ∈ hs, Good x) → (∀ x ∈ gs, Good x) → hs.length = gs.length → ents k hs = ents k gs → hs = gs := by
  intro hs
  induction hs with
  | nil => intro gs k _ _ hl _; exact (List.length_eq_zero_iff.mp hl.symm).symm
  | cons x r ih =>
    intro gs k g1 g2 hl he
    cases gs with
    | nil => cases hl
    | cons y s =>
      have gx := g1 x (List.mem_cons_self ..)
      have gy := g2 y (List.mem_cons_self ..)
      have go : ents (k + 1) r = ents (k + 1) s → r = s := ih s (k + 1) (fun z hz => g1 z (List.mem_cons_of_mem _ hz)) (fun z hz => g2 z (List.mem_cons_of_mem _ hz)) (by simpa using hl)
      have zero : ∀ z : Nat × Txt, Good z → z.1 = 0 → z = (0, []) := by
        rintro ⟨i, t⟩ gz hz
        rcases gz with ⟨h1, h2⟩ | ⟨h1, _⟩
        · exact Prod.ext h1 h2
        · have hz : i = 0 := hz
          have h1 : 1 ≤ i := h1
          omega
      rw [ents, ents] at he
      split at he
      · rename_i hx
        split at he
        · rename_i hy
          rw [zero x gx hx, zero y gy hy, go he]
        · exfalso
          have := (ents_range r (k + 1) _ (by rw [he]; exact List.mem_cons_self ..)).1
          have this : ((k + 1 : Nat) : Int) ≤ k := this
          omega
      · rename_i hx
        split at he
        · exfalso
          have := (ents_range s (k + 1) _ (by rw [← he]; exact List.mem_cons_self ..)).1
          have this : ((k + 1 : Nat) : Int) ≤ k := this
          omega
        · obtain ⟨e1, e2⟩ := List.cons.inj he
          rw [E.mk.injEq] at e1
          obtain ⟨_, e3, e4⟩ := e1
          rw [go e2, Prod.ext (show x.1 = y.1 by omega) e3]
/-- the lowest free cell -/
def low : Nat → List (Nat × Txt) → Int
  | _, [] => -1
  | k, x :: r => if x.1 = 0 then k else low (k + 1) r
theorem readM_ents_all : ∀ (hs : List (Nat × Txt)) (pre : List (Nat × Txt)), (∀ x ∈ hs, Good x) →
    (ents pre.length hs).foldl (fun acc e => acc.set e.place.toNat (e.inode.toNat, e.name)) (pre ++ List.replicate hs.length (0, [])) = pre ++ hs := by
  intro hs
  induction hs with
  | nil => intro pre _; rfl
  | cons x r ih =>
    intro pre g
    have g' : ∀ z ∈ r, Good z := fun z hz => g z (List.mem_cons_of_mem _ hz)
    have hi := ih (pre ++ [x]) g'
    rw [List.length_append, List.length_singleton] at hi
    rw [ents, List.length_cons, List.replicate_succ]
    split
    · rename_i hx
      have : x = (0, []) := by
        obtain ⟨i, t⟩ := x
        rcases g _ (List.mem_cons_self ..) with ⟨h1, h2⟩ | ⟨h1, _⟩
        · exact Prod.ext h1 h2
        · have hx : i = 0 := hx
          have h1 : 1 ≤ i := h1
          omega
      rw [this] at hi ⊢
      rw [List.append_assoc, List.append_assoc] at hi
      exact hi
    · rw [List.foldl_cons]
      show List.foldl _ ((pre ++ (0, []) :: List.replicate r.length (0, [])).set ((pre.length : Nat) : Int).toNat (((x.1 : Nat) : Int).toNat, x.2)) _ = _
      rw [Int.toNat_natCast, Int.toNat_natCast, List.set_append_right _ _ (Nat.le_refl _), Nat.sub_self, List.set_cons_zero]
      rw [List.append_assoc, List.append_assoc] at hi
      exact hi
end Go.Proofs.YtgpkcakanieodaaDoor.Sk
