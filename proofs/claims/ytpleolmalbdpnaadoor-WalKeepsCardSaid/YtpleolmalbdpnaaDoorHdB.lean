/-
  PACKAGE head: Nums and Good; and plainly: what Nums tells of a header.
-/
import Derived.Test.YtpleolmalbdpnaaDoorHdA
namespace Go.Proofs.YtpleolmalbdpnaaDoor.Hd
open Go Go.Proofs Go.Proofs.YtpleolmalbdpnaaDoor.Wx Go.Proofs.YtpleolmalbdpnaaDoor.Hp Go.Proofs.YtpleolmalbdpnaaDoor.W Go.Proofs.YtpleolmalbdpnaaDoor.Su Go.Proofs.YtpleolmalbdpnaaDoor.Re

def getAt (hd : List UInt8) (o n : Nat) : Nat := leN ((hd.drop o).take n)
theorem getAt_lt (hd : List UInt8) (o n : Nat) : getAt hd o n < 256 ^ n := by
  refine Nat.lt_of_lt_of_le (leN_lt _) (Nat.pow_le_pow_right (by decide) ?_)
  rw [List.length_take]; exact Nat.min_le_left _ _
def numsL (hd : List UInt8) (k : Nat) : List Int := (List.range k).map fun i => (getAt hd (16 + 4 * i) 4 : Int)
theorem numsL_length (hd : List UInt8) (k : Nat) : (numsL hd k).length = k := by rw [numsL, List.length_map, List.length_range]
theorem numsL_succ (hd : List UInt8) (k : Nat) : numsL hd (k + 1) = numsL hd k ++ [(getAt hd (16 + 4 * k) 4 : Int)] := by rw [numsL, List.range_succ, List.map_append]; rfl
def numsM (hd : List UInt8) (n : Int) : List Int × Int :=
  if hd.length ≠ 512 then ([], 32)
  else if allZero hd = true then ([], 0)
  else if hd.take 8 ≠ magicL then ([], 41)
  else if 96 < getAt hd 8 2 then ([], 41)
  else if allZero ((hd.drop 10).take 2) = false then ([], 41)
  else if allZero ((hd.drop (16 + 4 * getAt hd 8 2)).take (512 - (16 + 4 * getAt hd 8 2))) = false then ([], 41)
  else if mayM (numsL hd (getAt hd 8 2)) n = false then ([], 41)
  else (numsL hd (getAt hd 8 2), 0)
theorem Nums_spec {a : Option Addr} {l c : Nat} {hd : List UInt8} {n : Int} {h : Heap} {K : Value → Heap → Prop} (g : Glo h) (B : StrAt h a l hd) (hlc : l ≤ c) (hl : l ≤ 140737488355328)
    (hK : ∀ a' l' c' h', Fr No h h' → l' = (numsM hd n).1.length → Sl h' 1 a' l' c' (ints (numsM hd n).1) (From h.size) → K (.tuple #[.slice a' l' c', .int .i64 (numsM hd n).2]) h') : C.head_Nums a l c n h K := by
  have hb := B.1
  unfold numsM at hK
  have nil : ∀ {e : Int} {h'}, Fr No h h' → (∀ a' l' c' h', Fr No h h' → l' = ([] : List Int).length → Sl h' 1 a' l' c' (ints []) (From h.size) → K (.tuple #[.slice a' l' c', .int .i64 e]) h') → K (.tuple #[.slice none 0 0, .int .i64 e]) h' := fun f k => k none 0 0 _ f rfl (Sl.nil _ _ _)
  refine head_Nums.ok (cn (fun x => ?_) fun x => ?_)
  · rw [if_pos (by omega)] at hK; exact nil (Fr.refl _ _) hK
  have hl5 : hd.length = 512 := by omega
  rw [if_neg (fun y => y hl5)] at hK
  refine Zero_spec (at_ := 0) (n := 512) B hlc hl (by omega) (by omega) (by omega) ⟨_, _, rfl, ?_⟩
  have e0 : (hd.drop (0 : Int).toNat).take (512 : Int).toNat = hd := List.take_of_length_le (by show hd.length ≤ 512; omega)
  rw [e0]
  refine cs (fun hz => ?_) fun hz => ?_
  · rw [if_pos hz] at hK; exact nil (Fr.refl _ _) hK
  rw [if_neg (by rw [hz]; exact Bool.false_ne_true)] at hK
  refine Get_spec (n := 2) (at_ := 8) g B hl (by omega) (by omega) (by omega) ⟨_, _, rfl, ⟨by omega, by omega⟩, hd.take 8, StrAt.take B (by show 8 ≤ l; omega), ?_⟩
  rw [toList_mkStr, toList_mkStr]
  refine cnot (cs (fun hm => ?_) fun hm => ?_)
  rotate_left
  · have : hd.take 8 ≠ magicL := by rw [beq_eq_false_iff_ne] at hm; exact hm
    rw [if_pos this] at hK; exact nil (Fr.refl _ _) hK
  have hm' : hd.take 8 = magicL := by rw [beq_iff_eq] at hm; exact hm
  rw [if_neg (fun y => y hm')] at hK
  have eg : leN ((hd.drop (8 : Int).toNat).take (2 : Int).toNat) = getAt hd 8 2 := rfl
  rw [eg]
  refine cd (fun hbig => ?_) fun hbig => ?_
  · rw [if_pos (by omega)] at hK; exact nil (Fr.refl _ _) hK
  rw [if_neg (by omega)] at hK
  generalize hk : getAt hd 8 2 = k at hK hbig ⊢
  have hk96 : k ≤ 96 := by omega
  unfold head_Nums.k1
  rw [wrap_i64 (n := (k : Int)) (by omega) (by omega)]
  refine ⟨fun a' l' c' i hh => 0 ≤ i ∧ i ≤ k ∧ l' = i.toNat ∧ Fr No h hh ∧ Sl hh 1 a' l' c' (ints (numsL hd i.toNat)) (From h.size), fun _ _ _ i _ => ((k : Int) - i).toNat, ⟨by omega, by omega, rfl, Fr.refl _ _, Sl.nil _ _ _⟩, ?_⟩
  rintro a' l' c' i h4 ⟨i0, i1, rfl, f4, s4⟩
  have hs4 := f4.size
  refine cd (fun hi => ?_) fun hi => ?_
  · rw [wrap_i64 (n := 4 * i) (by omega) (by omega), wrap_i64 (n := 16 + 4 * i) (by omega) (by omega)]
    refine Get_spec (n := 4) (at_ := 16 + 4 * i) (g.no f4) (StrAt.fr f4 B fun _ _ x => x) hl (by omega) (by omega) (by omega) ⟨_, _, rfl, ?_⟩
    have e4 : leN ((hd.drop (16 + 4 * i).toNat).take (4 : Int).toNat) = getAt hd (16 + 4 * i.toNat) 4 := by rw [show (16 + 4 * i).toNat = 16 + 4 * i.toNat by omega]; rfl
    have lt4 : getAt hd (16 + 4 * i.toNat) 4 < 4294967296 := getAt_lt _ _ _
    rw [e4, wrap_i64 (n := (getAt hd (16 + 4 * i.toNat) 4 : Int)) (by omega) (by omega), wrap_i64 (n := i + 1) (by omega) (by omega)]
    refine New.intro fun h6 n6 => ⟨[.int .i64 (getAt hd (16 + 4 * i.toNat) 4 : Int)], rfl, cellsAll n6.rd, by intro v hv; rw [List.mem_singleton.mp hv]; rfl, ?_⟩
    have hs6 := n6.size
    refine append_own (s4.fr n6.fr fun _ _ _ x => x) rfl rfl (by show (i.toNat + 1) * 8 ≤ _; omega) (by omega) fun a7 c7 h7 f7 s7 => ?_
    refine ⟨⟨by omega, by omega, by omega, (f4.new n6).trans f7 (fun b hb e => by have : h.size ≤ b := e; omega), ?_⟩, falls hi⟩
    rw [show (i + 1).toNat = i.toNat + 1 by omega, numsL_succ, ints, List.map_append]
    exact s7.mono fun b hb => by rcases hb with hb | hb; exact hb; show h.size ≤ b; omega
  · have ei : i.toNat = k := by omega
    rw [ei] at s4 ⊢
    have B4 := StrAt.fr f4 B fun _ _ x => x
    refine Zero_spec (at_ := 10) (n := 2) B4 hlc hl (by omega) (by omega) (by omega) ⟨_, _, rfl, ?_⟩
    rw [wrap_i64 (n := 4 * (k : Int)) (by omega) (by omega), wrap_i64 (n := 16 + 4 * (k : Int)) (by omega) (by omega), wrap_i64 (n := 512 - (16 + 4 * (k : Int))) (by omega) (by omega)]
    refine Zero_spec B4 hlc hl (by omega) (by omega) (by omega) ⟨_, _, rfl, ?_⟩
    have z1 : allZero ((hd.drop (10 : Int).toNat).take (2 : Int).toNat) = allZero ((hd.drop 10).take 2) := rfl
    have z2 : allZero ((hd.drop (16 + 4 * (k : Int)).toNat).take (512 - (16 + 4 * (k : Int))).toNat) = allZero ((hd.drop (16 + 4 * k)).take (512 - (16 + 4 * k))) := by
      rw [show (16 + 4 * (k : Int)).toNat = 16 + 4 * k by omega, show (512 - (16 + 4 * (k : Int))).toNat = 512 - (16 + 4 * k) by omega]
    rw [z1, z2]
    refine cnot (cs (fun hy1 => ?_) fun hy1 => ?_)
    rotate_left
    · rw [if_pos hy1] at hK; exact nil f4 hK
    rw [if_neg (by rw [hy1]; exact fun y => by cases y)] at hK
    refine cnot (cs (fun hy2 => ?_) fun hy2 => ?_)
    rotate_left
    · rw [if_pos hy2] at hK; exact nil f4 hK
    rw [if_neg (by rw [hy2]; exact fun y => by cases y)] at hK
    refine may_spec s4.cells (numsL_length _ _) (by omega) fun h10 f10 => ⟨_, rfl, ?_⟩
    refine cnot (cs (fun hy3 => ?_) fun hy3 => ?_)
    rotate_left
    · rw [if_pos hy3] at hK; exact nil (f4.no f10) hK
    rw [if_neg (by rw [hy3]; exact fun y => by cases y)] at hK
    exact hK a' k c' h10 (f4.no f10) (numsL_length _ _).symm (s4.fr f10 fun _ _ _ x => x)
def goodM (hd : List UInt8) (n : Int) (ds : List (List UInt8)) : Bool :=
  (numsM hd n).2 == 0 && (!(numsM hd n).1.isEmpty && (blM ds (numsM hd n).1.length && ((getAt hd 12 4 : Int) == sumM hd ds)))
theorem numsM_len {hd : List UInt8} {n : Int} (h : (numsM hd n).2 = 0) : hd.length = 512 := by
  unfold numsM at h
  split at h
  · exact absurd h (by decide)
  · rename_i x; omega
theorem Good_spec {a da : Option Addr} {l c dl dc : Nat} {hd : List UInt8} {ss : List Sc} {ds : List (List UInt8)} {n : Int} {h : Heap} {K : Value → Heap → Prop} (g : Glo h) (B : StrAt h a l hd) (hlc : l ≤ c) (hl : l ≤ 140737488355328) (D : Dat h da dl ss ds) (hdl : dl ≤ 140737488355328)
    (hK : ∀ h', Fr No h h' → K (.bool (goodM hd n ds)) h') : C.head_Good a l c n da dl dc h K := by
  have hb := B.1
  refine head_Good.ok (Nums_spec (n := n) g B hlc hl fun a' l' c' h2 f2 el s2 => ⟨_, _, _, _, rfl, ?_⟩)
  unfold goodM at hK
  refine cn (fun x => ?_) fun x => ?_
  · rw [show ((numsM hd n).2 == 0) = false from beq_eq_false_iff_ne.mpr x] at hK; exact hK h2 f2
  rw [show ((numsM hd n).2 == 0) = true from beq_iff_eq.mpr x] at hK
  have hl5 := numsM_len x
  refine ce (fun z => ?_) fun z => ?_
  · have : (numsM hd n).1.isEmpty = true := List.isEmpty_iff.mpr (List.eq_nil_of_length_eq_zero (by omega))
    rw [this] at hK; exact hK h2 f2
  have : (numsM hd n).1.isEmpty = false := by
    cases hq : (numsM hd n).1 with
    | nil => rw [hq] at el; simp at el; omega
    | cons _ _ => rfl
  rw [this, ← el] at hK
  refine areBlocks_spec (D.fr f2) hdl ⟨_, rfl, cnot (cs (fun hbl => ?_) fun hbl => ?_)⟩
  rotate_left
  · rw [hbl] at hK; exact hK h2 f2
  rw [hbl] at hK
  have hds : ∀ d ∈ ds, d.length ≤ 1099511627776 := fun d hd => by
    rw [blM, Bool.and_eq_true] at hbl
    have := List.all_eq_true.mp hbl.1 d hd
    rw [beq_iff_eq] at this; omega
  have B2 := StrAt.fr f2 B fun _ _ x => x
  refine Get_spec (n := 4) (at_ := 12) (g.no f2) B2 hl (by omega) (by omega) (by omega) ⟨_, _, rfl, ?_⟩
  refine sumOf_spec (g.no f2) B2 (by omega) (D.fr f2) hdl hds fun h6 f6 => ⟨_, rfl, ?_⟩
  have lt : getAt hd 12 4 < 4294967296 := getAt_lt _ _ _
  have eg : leN ((hd.drop (12 : Int).toNat).take (4 : Int).toNat) = getAt hd 12 4 := rfl
  rw [eg, wrap_u32 ⟨by omega, by omega⟩]
  exact hK h6 (f2.no f6)

/-! Plainly. -/
theorem leB_succ (n v : Nat) : leB (n + 1) v = UInt8.ofNat v :: leB n (v / 256) := by
  rw [leB, List.range_succ_eq_map, List.map_cons, List.map_map]
  congr 1
  · rw [Nat.pow_zero, Nat.div_one]
  · rw [leB]
    apply List.map_congr_left
    intro k _
    show UInt8.ofNat (v / 256 ^ (k + 1)) = UInt8.ofNat (v / 256 / 256 ^ k)
    rw [Nat.pow_succ, Nat.mul_comm, Nat.div_div_eq_div_mul]
theorem leB_leN : ∀ (bs : List UInt8), leB bs.length (leN bs) = bs := by
  intro bs
  induction bs with
  | nil => rfl
  | cons b r ih =>
    have hb : b.toNat < 256 := b.toNat_lt
    rw [List.length_cons, leB_succ, leN, show (b.toNat + 256 * leN r) / 256 = leN r by omega, ih]
    congr 1
    apply UInt8.toNat_inj.mp
    rw [UInt8.toNat_ofNat']; omega
theorem leN_leB : ∀ (n v : Nat), v < 256 ^ n → leN (leB n v) = v := by
  intro n
  induction n with
  | zero =>
    intro v h
    have e : v = 0 := by simpa using h
    rw [e]; rfl
  | succ n ih =>
    intro v h
    rw [leB_succ, leN, ih (v / 256) (by rw [Nat.pow_succ] at h; omega), UInt8.toNat_ofNat']
    omega
theorem allZero_zeros {bs : List UInt8} (h : allZero bs = true) : bs = zeros bs.length := by
  induction bs with
  | nil => rfl
  | cons b r ih =>
    rw [allZero, List.all_cons, Bool.and_eq_true] at h
    have hb : b = 0 := by simpa using h.1
    have := ih h.2
    rw [List.length_cons, zeros, List.replicate_succ, hb]
    exact congrArg _ this
theorem zeros_allZero (n : Nat) : allZero (zeros n) = true := by
  rw [allZero, List.all_eq_true]; intro x hx; rw [List.eq_of_mem_replicate hx]; rfl
theorem drop_split (xs : List UInt8) (i n : Nat) : xs.drop i = (xs.drop i).take n ++ xs.drop (i + n) := by
  have := List.take_append_drop n (xs.drop i)
  rw [List.drop_drop] at this
  exact this.symm
theorem flat4_nums (hd : List UInt8) : ∀ k, 16 + 4 * k ≤ hd.length → flat4 (numsL hd k) = (hd.drop 16).take (4 * k) := by
  intro k
  induction k with
  | zero => intro _; rfl
  | succ k ih =>
    intro hk
    have e1 : flat4 (numsL hd (k + 1)) = flat4 (numsL hd k) ++ leB 4 (getAt hd (16 + 4 * k) 4) := by
      rw [numsL_succ]; simp only [flat4, List.flatMap_append, List.flatMap_cons, List.flatMap_nil, List.append_nil, Int.toNat_natCast]
    have e2 : leB 4 (getAt hd (16 + 4 * k) 4) = (hd.drop (16 + 4 * k)).take 4 := by
      have := leB_leN ((hd.drop (16 + 4 * k)).take 4)
      rw [show ((hd.drop (16 + 4 * k)).take 4).length = 4 by rw [List.length_take, List.length_drop]; omega] at this
      exact this
    rw [e1, e2, ih (by omega), show 4 * (k + 1) = 4 * k + 4 by omega, List.take_add, List.drop_drop]
/-- what is told is laid -/
theorem nums_laid {hd : List UInt8} {n : Int} (h : (numsM hd n).2 = 0) (hne : (numsM hd n).1 ≠ []) :
    hd = laidM (numsM hd n).1 (getAt hd 12 4) ∧ mayM (numsM hd n).1 n = true := by
  have hl := numsM_len h
  unfold numsM at h hne ⊢
  rw [if_neg (fun x => x hl)] at h hne ⊢
  split at h
  · rename_i z; rw [if_pos z] at hne; exact absurd rfl hne
  · rename_i z; rw [if_neg z] at hne ⊢
    split at h
    · exact absurd h (by decide)
    · rename_i z1; rw [if_neg z1] at hne ⊢
      split at h
      · exact absurd h (by decide)
      · rename_i z2; rw [if_neg z2] at hne ⊢
        split at h
        · exact absurd h (by decide)
        · rename_i z3; rw [if_neg z3] at hne ⊢
          split at h
          · exact absurd h (by decide)
          · rename_i z4; rw [if_neg z4] at hne ⊢
            split at h
            · exact absurd h (by decide)
            · rename_i z5; rw [if_neg z5]
              refine ⟨?_, by cases hq : mayM (numsL hd (getAt hd 8 2)) n with | true => rfl | false => exact absurd hq z5⟩
              have hm : hd.take 8 = magicL := by
                rcases Classical.em (hd.take 8 = magicL) with h | h
                · exact h
                · exact absurd h z1
              generalize hk : getAt hd 8 2 = k at z2 z4 ⊢
              have hk96 : k ≤ 96 := by omega
              have b2 : leB 2 k = (hd.drop 8).take 2 := by
                have := leB_leN ((hd.drop 8).take 2)
                rw [show ((hd.drop 8).take 2).length = 2 by rw [List.length_take, List.length_drop]; omega] at this
                rw [← hk]; exact this
              have b10 : (hd.drop 10).take 2 = zeros 2 := by
                have : allZero ((hd.drop 10).take 2) = true := by cases hq : allZero ((hd.drop 10).take 2) with | true => rfl | false => exact absurd hq z3
                have := allZero_zeros this
                rw [show ((hd.drop 10).take 2).length = 2 by rw [List.length_take, List.length_drop]; omega] at this
                exact this
              have b12 : leB 4 (getAt hd 12 4) = (hd.drop 12).take 4 := by
                have := leB_leN ((hd.drop 12).take 4)
                rw [show ((hd.drop 12).take 4).length = 4 by rw [List.length_take, List.length_drop]; omega] at this
                exact this
              have b16 := flat4_nums hd k (by omega)
              have bz : hd.drop (16 + 4 * k) = zeros (496 - 4 * k) := by
                have : allZero ((hd.drop (16 + 4 * k)).take (512 - (16 + 4 * k))) = true := by cases hq : allZero ((hd.drop (16 + 4 * k)).take (512 - (16 + 4 * k))) with | true => rfl | false => exact absurd hq z4
                have := allZero_zeros this
                rw [List.take_of_length_le (by rw [List.length_drop]; omega), List.length_drop, hl] at this
                rw [this]; congr 1; omega
              rw [laidM, numsL_length, b2, ← b10, b12, b16, ← bz, ← hm]
              have e : hd = hd.take 8 ++ ((hd.drop 8).take 2 ++ ((hd.drop 10).take 2 ++ ((hd.drop 12).take 4 ++ ((hd.drop 16).take (4 * k) ++ hd.drop (16 + 4 * k))))) := by
                rw [← drop_split hd 16 (4 * k), ← drop_split hd 12 4, ← drop_split hd 10 2, ← drop_split hd 8 2, List.take_append_drop]
              simp only [List.append_assoc]
              exact e
theorem sum_laid (ns : List Int) (s t : Nat) (ds : List (List UInt8)) : sumM (laidM ns s) ds = sumM (laidM ns t) ds := by rw [sumM, sumM, laid_put, laid_put]
/-- a good header is what Make makes -/
theorem good_laid {hd : List UInt8} {n : Int} {ds : List (List UInt8)} (h : goodM hd n ds = true) :
    (numsM hd n).2 = 0 ∧ (numsM hd n).1 ≠ [] ∧ mayM (numsM hd n).1 n = true ∧ blM ds (numsM hd n).1.length = true ∧ hd = laidM (numsM hd n).1 (sumM (laidM (numsM hd n).1 0) ds).toNat := by
  rw [goodM, Bool.and_eq_true, Bool.and_eq_true, Bool.and_eq_true] at h
  obtain ⟨h1, h2, h3, h4⟩ := h
  have h1 := beq_iff_eq.mp h1
  have h4 := beq_iff_eq.mp h4
  have hne : (numsM hd n).1 ≠ [] := fun e => by rw [e] at h2; cases h2
  obtain ⟨e, m⟩ := nums_laid h1 hne
  refine ⟨h1, hne, m, h3, ?_⟩
  have es : sumM hd ds = sumM (laidM (numsM hd n).1 0) ds := by
    have := sum_laid (numsM hd n).1 (getAt hd 12 4) 0 ds
    rw [← e] at this; exact this
  rw [← es, ← h4, Int.toNat_natCast]; exact e
/-- what is laid is told -/
theorem laid_split (ns : List Int) (s : Nat) : laidM ns s = magicL ++ (leB 2 ns.length ++ (zeros 2 ++ (leB 4 s ++ (flat4 ns ++ zeros (496 - 4 * ns.length))))) := by simp only [laidM, List.append_assoc]
theorem drop_app {xs ys : List UInt8} {n : Nat} (h : xs.length = n) : (xs ++ ys).drop n = ys := by rw [← h, List.drop_left]
theorem take_app {xs ys : List UInt8} {n : Nat} (h : xs.length = n) : (xs ++ ys).take n = xs := by rw [← h, List.take_left]
theorem laid_drops (ns : List Int) (s : Nat) : (laidM ns s).drop 8 = leB 2 ns.length ++ (zeros 2 ++ (leB 4 s ++ (flat4 ns ++ zeros (496 - 4 * ns.length)))) ∧ (laidM ns s).drop 10 = zeros 2 ++ (leB 4 s ++ (flat4 ns ++ zeros (496 - 4 * ns.length))) ∧
    (laidM ns s).drop 12 = leB 4 s ++ (flat4 ns ++ zeros (496 - 4 * ns.length)) ∧ (laidM ns s).drop 16 = flat4 ns ++ zeros (496 - 4 * ns.length) := by
  have d8 : (laidM ns s).drop 8 = leB 2 ns.length ++ (zeros 2 ++ (leB 4 s ++ (flat4 ns ++ zeros (496 - 4 * ns.length)))) := by rw [laid_split]; exact drop_app rfl
  have d10 : (laidM ns s).drop 10 = zeros 2 ++ (leB 4 s ++ (flat4 ns ++ zeros (496 - 4 * ns.length))) := by
    rw [show 10 = 8 + 2 from rfl, ← List.drop_drop, d8]; exact drop_app (leB_length _ _)
  have d12 : (laidM ns s).drop 12 = leB 4 s ++ (flat4 ns ++ zeros (496 - 4 * ns.length)) := by
    rw [show 12 = 10 + 2 from rfl, ← List.drop_drop, d10]; exact drop_app (zeros_length _)
  refine ⟨d8, d10, d12, ?_⟩
  rw [show 16 = 12 + 4 from rfl, ← List.drop_drop, d12]; exact drop_app (leB_length _ _)
theorem flat4_part : ∀ (ns : List Int) (i : Nat) (hi : i < ns.length) (zs : List UInt8), ((flat4 ns ++ zs).drop (4 * i)).take 4 = leB 4 ns[i].toNat := by
  intro ns
  induction ns with
  | nil => intro i hi; exact absurd hi (Nat.not_lt_zero _)
  | cons n r ih =>
    intro i hi zs
    have e : flat4 (n :: r) = leB 4 n.toNat ++ flat4 r := rfl
    rw [e, List.append_assoc]
    cases i with
    | zero => rw [Nat.mul_zero, List.drop_zero]; exact take_app (leB_length _ _)
    | succ i =>
      rw [show 4 * (i + 1) = 4 + 4 * i by omega, ← List.drop_drop, drop_app (leB_length _ _)]
      exact ih i (by simpa using hi) zs
theorem laid_nums {ns : List Int} {s : Nat} {n : Int} (h : mayM ns n = true) (hb : ∀ x ∈ ns, x < 4294967296) : numsM (laidM ns s) n = (ns, 0) := by
  obtain ⟨hm, h1, h2⟩ := mayM_mem h
  obtain ⟨d8, d10, d12, d16⟩ := laid_drops ns s
  have hl := laid_length ns s (by omega)
  have hk : getAt (laidM ns s) 8 2 = ns.length := by
    rw [getAt, d8, take_app (leB_length _ _)]; exact leN_leB 2 _ (by show ns.length < 65536; omega)
  have hN : numsL (laidM ns s) ns.length = ns := by
    apply List.ext_getElem
    · rw [numsL_length]
    · intro i g1 g2
      simp only [numsL, List.getElem_map, List.getElem_range]
      rw [getAt, ← List.drop_drop, d16, flat4_part ns i g2, leN_leB 4 _ (by have := hb _ (List.getElem_mem g2); show ns[i].toNat < 4294967296; omega)]
      have := hm _ (List.getElem_mem g2)
      omega
  unfold numsM
  rw [if_neg (fun x => x hl), if_neg (by rw [laid_split]; exact fun x => by rw [allZero, magicL, List.cons_append, List.all_cons] at x; cases x), if_neg (fun x => x (by rw [laid_split]; exact take_app rfl)), hk, if_neg (by omega),
    if_neg (by rw [d10, take_app (zeros_length _), zeros_allZero]; exact fun x => by cases x),
    if_neg (by rw [← List.drop_drop, d16, drop_app (flat4_length ns), List.take_of_length_le (by rw [zeros_length]; omega), zeros_allZero]; exact fun x => by cases x), hN, if_neg (by rw [h]; exact fun x => by cases x)]
theorem laid_get (ns : List Int) {s : Nat} (h : s < 4294967296) : getAt (laidM ns s) 12 4 = s := by
  obtain ⟨d8, d10, d12, d16⟩ := laid_drops ns s
  rw [getAt, d12, take_app (leB_length _ _)]; exact leN_leB 4 _ h
/-- a laid header is good with the blocks of its sum, and with no others -/
theorem laid_good {ns : List Int} {s : Nat} {n : Int} {ds : List (List UInt8)} (h : mayM ns n = true) (hb : ∀ x ∈ ns, x < 4294967296) (hs : s < 4294967296) :
    goodM (laidM ns s) n ds = (blM ds ns.length && ((s : Int) == sumM (laidM ns 0) ds)) := by
  rw [goodM, laid_nums h hb, laid_get ns hs, sum_laid ns s 0]
  have : ns.isEmpty = false := by
    obtain ⟨_, h1, _⟩ := mayM_mem h
    cases ns with
    | nil => simp at h1
    | cons _ _ => rfl
  simp [this]
end Go.Proofs.YtpleolmalbdpnaaDoor.Hd
