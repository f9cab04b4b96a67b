/-
  PACKAGE sum: what its functions compute.
-/
import Derived.Test.YtpleolmalbdpnaaDoorForms
import Derived.Test.YtpleolmalbdpnaaDoorHpE
namespace Go.Proofs.YtpleolmalbdpnaaDoor.Su
open Go Go.Proofs Go.Proofs.YtpleolmalbdpnaaDoor.Wx Go.Proofs.YtpleolmalbdpnaaDoor.Hp Go.Proofs.YtpleolmalbdpnaaDoor.W

def U32 (n : Int) : Prop := 0 ≤ n ∧ n < 4294967296
theorem wrap_u32 {n : Int} (h : U32 n) : IntKind.wrap .u32 n = n := by
  obtain ⟨h1, h2⟩ := h
  show n % 4294967296 = n
  exact Int.emod_eq_of_lt h1 h2
theorem wrap_u32_range (n : Int) : U32 (IntKind.wrap .u32 n) := by
  show 0 ≤ n % 4294967296 ∧ n % 4294967296 < 4294967296
  exact ⟨Int.emod_nonneg _ (by decide), Int.emod_lt_of_pos _ (by decide)⟩
theorem bits_range (op : BinOp) (a b : Int) : U32 (bitsI op .u32 a b) := by
  unfold bitsI; split <;> exact wrap_u32_range _
theorem and_le (x : Int) (k : Nat) (hk : k < 4294967296) : 0 ≤ bitsI .and .u32 x k ∧ bitsI .and .u32 x k ≤ k := by
  refine ⟨(bits_range _ _ _).1, ?_⟩
  show IntKind.wrap .u32 (((BitVec.ofInt 32 x &&& BitVec.ofInt 32 (k : Int)).toNat : Nat) : Int) ≤ k
  have h1 : (BitVec.ofInt 32 x &&& BitVec.ofInt 32 (k : Int)).toNat ≤ k := by
    rw [BitVec.toNat_and]
    refine Nat.le_trans Nat.and_le_right ?_
    rw [BitVec.ofInt_natCast, BitVec.toNat_ofNat]
    exact Nat.mod_le _ _
  rw [wrap_u32 ⟨by omega, by omega⟩]
  omega
theorem and15 (x : Int) : 0 ≤ bitsI .and .u32 x 15 ∧ bitsI .and .u32 x 15 < ((16 : Nat) : Int) := by
  have := and_le x 15 (by decide)
  have h2 : bitsI .and .u32 x ((15 : Nat) : Int) ≤ ((15 : Nat) : Int) := this.2
  exact ⟨this.1, by have e : ((15 : Nat) : Int) = 15 := rfl; rw [e] at h2; omega⟩
def halfL : List Int := [0, 498536548, 997073096, 651767980, 1994146192, 1802195444, 1303535960, 1342533948, 3988292384, 4027552580, 3604390888, 3412177804, 2607071920, 2262029012, 2685067896, 3183342108]
/-- the table, where it is laid -/
def Half (h : Heap) : Prop := rd h 1 = halfL.map fun n => .int .u32 n
theorem Half.lt {h : Heap} (g : Half h) : 1 < h.size := rd_lt (show (rd h 1)[0]? = some (.int .u32 0) by rw [g]; rfl)
theorem Half.fr {h h' : Heap} {F : Nat → Prop} (g : Half h) (f : Fr F h h') (hF : ¬ F 1) : Half h' := (f.rd g.lt hF).trans g
def half (i : Int) : Int := halfL.getD i.toNat 0
theorem half_cell {h : Heap} (g : Half h) {i : Int} (h0 : 0 ≤ i) (h1 : i < ((16 : Nat) : Int)) : cellOf h (Addr.add ⟨1, 0, none⟩ (Int.toNat i)) = some (.int .u32 (half i)) := by
  refine rda g ?_
  have h2 : i.toNat < halfL.length := by show i.toNat < 16; omega
  rw [Nat.zero_add, List.getElem?_map, List.getElem?_eq_getElem h2, half, List.getD_eq_getElem?_getD, List.getElem?_eq_getElem h2]; rfl
def stepM (v : Int) (b : UInt8) : Int :=
  bitsI .xor .u32 (half (bitsI .and .u32 (bitsI .xor .u32 (half (bitsI .and .u32 (bitsI .xor .u32 v (IntKind.wrap .u32 (b.toNat : Int))) 15)) (Int.fdiv (bitsI .xor .u32 v (IntKind.wrap .u32 (b.toNat : Int))) (2 ^ min (Int.toNat 4) 32))) 15))
    (Int.fdiv (bitsI .xor .u32 (half (bitsI .and .u32 (bitsI .xor .u32 v (IntKind.wrap .u32 (b.toNat : Int))) 15)) (Int.fdiv (bitsI .xor .u32 v (IntKind.wrap .u32 (b.toNat : Int))) (2 ^ min (Int.toNat 4) 32))) (2 ^ min (Int.toNat 4) 32))
theorem step_range (v : Int) (b : UInt8) : U32 (stepM v b) := bits_range _ _ _
theorem step_spec {v : Int} {b : UInt8} {h : Heap} {K : Value → Heap → Prop} (g : Half h) (hK : K (.int .u32 (stepM v b)) h) : C.sum_step v (b.toNat : Int) h K :=
  sum_step.ok ⟨and15 _, _, half_cell g (and15 _).1 (and15 _).2, and15 _, _, half_cell g (and15 _).1 (and15 _).2, hK⟩
def ofM (bs : List UInt8) : Int := bitsI .xor .u32 (IntKind.max .u32) (bs.foldl stepM 4294967295)
theorem of_range (bs : List UInt8) : U32 (ofM bs) := bits_range _ _ _
theorem Of_spec {a : Option Addr} {l c : Nat} {bs : List UInt8} {h : Heap} {K : Value → Heap → Prop} (g : Half h) (B : StrAt h a l bs) (hl : l ≤ 140737488355328) (hK : K (.int .u32 (ofM bs)) h) : C.sum_Of a l c h K := by
  have hb := B.1
  refine sum_Of.ok ⟨fun v n hh => 0 ≤ n ∧ n ≤ l ∧ h = hh ∧ v = (bs.take n.toNat).foldl stepM 4294967295, fun _ n _ => ((l : Int) - n).toNat, ⟨by omega, by omega, rfl, rfl⟩, ?_⟩
  rintro v n _ ⟨n0, n1, rfl, rfl⟩
  refine cd (fun hn => ?_) fun hn => ?_
  · have hn' : n.toNat < bs.length := by omega
    obtain ⟨_, B2⟩ := B
    cases a with
    | none => have B2 : bs.map bv = [] := B2; have := List.map_eq_nil_iff.mp B2; rw [this] at hn'; exact absurd hn' (by simp)
    | some p =>
      refine ⟨⟨n0, hn⟩, os ⟨_, B2 n.toNat (bv bs[n.toNat]) (by rw [List.getElem?_map, List.getElem?_eq_getElem hn']; rfl), step_spec g ⟨_, rfl, ?_⟩⟩⟩
      rw [wrap_i64 (by omega) (by omega)]
      have ht : (n + 1).toNat = n.toNat + 1 := by omega
      refine ⟨⟨by omega, by omega, rfl, ?_⟩, falls hn⟩
      rw [ht, List.take_succ_eq_append_getElem hn', List.foldl_append]; rfl
  · have e : (bs.take n.toNat) = bs := List.take_of_length_le (by omega)
    rw [e]; exact hK

/-! Matrices. -/
def timesGo (m : List Int) : Nat → Int → Int → Nat → Int
  | 0, _, r, _ => r
  | f + 1, v, r, i => bif v != 0 then timesGo m f (Int.fdiv v (2 ^ min (Int.toNat 1) 32)) (bif bitsI .and .u32 v 1 == 1 then bitsI .xor .u32 r (m.getD i 0) else r) (i + 1) else r
def timesM (m : List Int) (v : Int) : Int := timesGo m 33 v 0 0
theorem times_range (m : List Int) : ∀ (f : Nat) (v r : Int) (i : Nat), U32 r → U32 (timesGo m f v r i) := by
  intro f
  induction f with
  | zero => intro v r i h; exact h
  | succ f ih =>
    intro v r i h
    unfold timesGo
    cases hv : (v != 0) with
    | false => exact h
    | true =>
      refine ih _ _ _ ?_
      cases hb : (bitsI .and .u32 v 1 == 1) with
      | false => exact h
      | true => exact (show U32 (bitsI .xor .u32 r (m.getD i 0)) from bits_range _ _ _)
theorem timesM_range (m : List Int) (v : Int) : U32 (timesM m v) := times_range m _ _ _ _ ⟨by decide, by decide⟩
def mat (m : List Int) : List Value := m.map fun n => .int .u32 n
theorem times_spec {p : Addr} {m : List Int} {v : Int} {h : Heap} {K : Value → Heap → Prop} (hv : U32 v) (hm : m.length = 32) (M : Cells h p (mat m)) (hK : K (.int .u32 (timesM m v)) h) : C.sum_matrix_times (some p) v h K := by
  refine sum_matrix_times.ok ⟨fun v2 r i hh => 0 ≤ i ∧ i ≤ 32 ∧ 0 ≤ v2 ∧ v2 < ((2 ^ (32 - i.toNat) : Nat) : Int) ∧ h = hh ∧ timesM m v = timesGo m (33 - i.toNat) v2 r i.toNat, fun v2 _ _ _ => v2.toNat,
    ⟨by omega, by omega, hv.1, by have := hv.2; exact this, rfl, rfl⟩, ?_⟩
  rintro v2 r i _ ⟨i0, i1, v0, v1, rfl, e⟩
  have e1 : (2 ^ min (Int.toNat 1) 32 : Int) = 2 := by decide
  cases hb : (v2 != 0) with
  | false =>
    have e2 : 33 - i.toNat = (32 - i.toNat) + 1 := by omega
    rw [e2, timesGo, hb] at e
    rw [e] at hK
    exact hK
  | true =>
    have hne : v2 ≠ 0 := by simpa using hb
    have hi : i < 32 := by
      rcases Int.lt_or_le i 32 with h | h
      · exact h
      · have : 32 - i.toNat = 0 := by omega
        rw [this] at v1
        have v1 : v2 < 1 := v1
        omega
    have e2 : 33 - i.toNat = (33 - (i + 1).toNat) + 1 := by omega
    have e3 : (i + 1).toNat = i.toNat + 1 := by omega
    rw [e2, timesGo, hb] at e
    have hp : ((2 ^ (32 - i.toNat) : Nat) : Int) = 2 * ((2 ^ (32 - (i + 1).toNat) : Nat) : Int) := by
      rw [show 32 - i.toNat = (32 - (i + 1).toNat) + 1 by omega, Nat.pow_succ]; omega
    have hd : Int.fdiv v2 2 = v2 / 2 := Int.fdiv_eq_ediv_of_nonneg _ (by decide)
    rw [wrap_i64 (n := i + 1) (by omega) (by omega), e1, hd]
    rw [e1, hd] at e
    have nx : ∀ r', timesM m v = timesGo m (33 - (i + 1).toNat) (v2 / 2) r' (i.toNat + 1) → (0 ≤ i + 1 ∧ i + 1 ≤ 32 ∧ 0 ≤ v2 / 2 ∧ v2 / 2 < ((2 ^ (32 - (i + 1).toNat) : Nat) : Int) ∧ h = h ∧ timesM m v = timesGo m (33 - (i + 1).toNat) (v2 / 2) r' (i + 1).toNat) ∧ (v2 / 2).toNat < v2.toNat :=
      fun r' h => ⟨⟨by omega, by omega, by omega, by omega, rfl, by rw [e3] at h ⊢; exact h⟩, by omega⟩
    refine ct rfl ?_
    cases hbit : (bitsI .and .u32 v2 1 == 1) with
    | true =>
      rw [hbit] at e
      refine ct rfl (os ⟨⟨i0, hi⟩, m.getD i.toNat 0, ?_, nx _ e⟩)
      exact Cells.cell M (by rw [mat, List.getElem?_map, List.getD_eq_getElem?_getD, List.getElem?_eq_getElem (by omega)]; rfl)
    | false =>
      rw [hbit] at e
      exact cf rfl (nx _ e)
def squareM (m : List Int) : List Int := m.map (timesM m)
theorem square_range (m : List Int) : ∀ x ∈ squareM m, U32 x := by
  intro x hx; obtain ⟨y, _, rfl⟩ := List.mem_map.mp hx; exact timesM_range _ _
theorem mat_one (m : List Int) : ∀ v ∈ mat m, v.oneCell' = true := by
  intro v hv; obtain ⟨b, _, rfl⟩ := List.mem_map.mp hv; rfl
theorem mat_zero : (mat (List.replicate 32 0)).length = 32 := by rw [mat, List.length_map, List.length_replicate]
theorem fill_snoc {α : Type} (xs : List α) (n : Nat) (hn : n < xs.length) (f : α → Value) (z : Value) : ((xs.take n).map f ++ List.replicate (xs.length - n) z).set n (f xs[n]) = (xs.take (n + 1)).map f ++ List.replicate (xs.length - (n + 1)) z := by
  have hl : ((xs.take n).map f).length = n := by rw [List.length_map, List.length_take]; omega
  rw [List.set_append_right _ _ (by rw [hl]; exact Nat.le_refl _), hl, Nat.sub_self, show xs.length - n = (xs.length - (n + 1)) + 1 by omega, List.replicate_succ, List.set_cons_zero, List.take_succ_eq_append_getElem hn, List.map_append, List.append_assoc]
  rfl
theorem square_spec {p : Addr} {m : List Int} {h : Heap} {K : Value → Heap → Prop} (hr : ∀ x ∈ m, U32 x) (hm : m.length = 32) (M : Cells h p (mat m)) (hK : ∀ h', Fr No h h' → K (.agg ⟨mat (squareM m)⟩) h') : C.sum_matrix_square (some p) h K := by
  refine sum_matrix_square.ok (New.intro fun h2 n2 => New.intro fun h3 n3 => ?_)
  have hs2 := n2.size
  have hs3 := n3.size
  have F3 : Fr No h h3 := n2.fr.no n3.fr
  have hsl : (squareM m).length = 32 := by rw [squareM, List.length_map, hm]
  have z0 : rd h3 h.size = mat (List.replicate 32 0) := (n3.at_ n2.own.lt).trans n2.rd
  refine ⟨fun n hh => 0 ≤ n ∧ n ≤ 32 ∧ Fr No h hh ∧ Own hh h2.size ∧ Own hh h.size ∧ (rd hh h.size).length = 32 ∧ rd hh h2.size = ((squareM m).take n.toNat).map (fun n => .int .u32 n) ++ List.replicate ((squareM m).length - n.toNat) (.int .u32 0), fun n _ => ((32 : Nat) - n).toNat,
    ⟨by omega, by omega, F3, n3.own, n3.ow n2.own, by rw [z0]; exact mat_zero, by rw [n3.rd, hsl]; rfl⟩, ?_⟩
  rintro n h4 ⟨k0, k1, f4, o4, o1, l1, r4⟩
  have hs4 := f4.size
  refine cd (fun hn => ?_) fun hn => ?_
  · have hn : n < 32 := hn
    have hn' : n.toNat < m.length := by omega
    have M4 := Cells.fr f4 M (fun x => x)
    refine os ⟨⟨k0, hn⟩, m[n.toNat], Cells.cell M4 (by rw [mat, List.getElem?_map, List.getElem?_eq_getElem hn']; rfl), times_spec (hr _ (List.getElem_mem hn')) hm M4 ⟨_, rfl, ⟨k0, hn⟩, Put.add o4 (by rw [r4, List.length_append, List.length_map, List.length_take, List.length_replicate]; omega) fun h6 d6 => ?_⟩⟩
    rw [wrap_i64 (by omega) (by omega)]
    refine ⟨⟨by omega, by omega, f4.did d6 (fun x => by omega), d6.own, d6.ow o1, by rw [d6.at_ (by have := o1.lt; omega) (by omega)]; exact l1, ?_⟩, falls (m := 32) hn⟩
    have hns : n.toNat < (squareM m).length := by omega
    have ee : (squareM m)[n.toNat] = timesM m m[n.toNat] := by simp only [squareM, List.getElem_map]
    rw [d6.rd, r4, Nat.zero_add, ← ee, fill_snoc (squareM m) n.toNat hns (fun n => .int .u32 n), show (n + 1).toNat = n.toNat + 1 by omega]
  · have hn : ¬ n < 32 := hn
    have e : n.toNat = 32 := by omega
    rw [e, ← hsl, List.take_length, Nat.sub_self, List.replicate_zero, List.append_nil] at r4
    have r4 : rd h4 h2.size = mat (squareM m) := r4
    have ml : (mat (squareM m)).length = 32 := by rw [mat, List.length_map, hsl]
    refine ⟨mat (squareM m), ml, cellsAll r4, PutRow.intro o1 ml (mat_one _) (by rw [l1]; exact Nat.le_refl _) fun h7 d7 => ⟨mat (squareM m), ml, cellsAll ?_, hK h7 (f4.did d7 fun x => by omega)⟩⟩
    rw [d7.rd, put_all _ _ (by rw [l1, ml])]
def m0 : List Int := (List.range 32).map fun i => stepM (IntKind.wrap .u32 (1 * 2 ^ min i 32)) 0
def behindGo : Nat → List Int → Int → Int → Int
  | 0, _, v, _ => v
  | f + 1, m, v, n => bif decide (n > 0) then behindGo f (squareM m) (bif bitsI .and .i64 n 1 == 1 then timesM m v else v) (n / 2) else v
def behindM (v n : Int) : Int := behindGo 64 m0 v n
theorem behind_range : ∀ (f : Nat) (m : List Int) (v n : Int), U32 v → U32 (behindGo f m v n) := by
  intro f
  induction f with
  | zero => intro m v n h; exact h
  | succ f ih =>
    intro m v n h
    unfold behindGo
    cases hn : decide (n > 0) with
    | false => exact h
    | true =>
      refine ih _ _ _ ?_
      cases hb : (bitsI .and .i64 n 1 == 1) with
      | false => exact h
      | true => exact timesM_range _ _
theorem behind_spec {v n : Int} {h : Heap} {K : Value → Heap → Prop} (g : Half h) (hv : U32 v) (hn0 : 0 ≤ n) (hn : n ≤ 9223372036854775807) (hK : ∀ h', Fr No h h' → K (.int .u32 (behindM v n)) h') : C.sum_behind v n h K := by
  refine sum_behind.ok (New.intro fun h2 n2 => ?_)
  have hs2 := n2.size
  have hml : m0.length = 32 := by rw [m0, List.length_map, List.length_range]
  have hmr : ∀ x ∈ m0, U32 x := by intro x hx; obtain ⟨y, _, rfl⟩ := List.mem_map.mp hx; exact step_range _ _
  refine ⟨fun k hh => 0 ≤ k ∧ k ≤ 32 ∧ Fr No h hh ∧ Own hh h.size ∧ rd hh h.size = (m0.take k.toNat).map (fun n => .int .u32 n) ++ List.replicate (m0.length - k.toNat) (.int .u32 0), fun k _ => ((32 : Nat) - k).toNat,
    ⟨by omega, by omega, n2.fr, n2.own, by rw [n2.rd, hml]; rfl⟩, ?_⟩
  rintro k h3 ⟨k0, k1, f3, o3, r3⟩
  have hs3 := f3.size
  have g3 := g.fr f3 fun x => x
  refine cd (fun hk => ?_) fun hk => ?_
  · have hk : k < 32 := hk
    rw [if_neg (by omega)]
    have hk' : k.toNat < m0.length := by omega
    refine step_spec (b := 0) g3 ⟨_, rfl, ⟨k0, hk⟩, Put.add o3 (by rw [r3, List.length_append, List.length_map, List.length_take, List.length_replicate]; omega) fun h5 d5 => ?_⟩
    rw [wrap_i64 (by omega) (by omega)]
    refine ⟨⟨by omega, by omega, f3.did d5 (fun x => by omega), d5.own, ?_⟩, falls (m := 32) hk⟩
    have ee : m0[k.toNat] = stepM (IntKind.wrap .u32 (1 * 2 ^ min (Int.toNat k) 32)) 0 := by simp only [m0, List.getElem_map, List.getElem_range]
    rw [d5.rd, r3, Nat.zero_add, ← ee, fill_snoc m0 k.toNat hk' (fun n => .int .u32 n), show (k + 1).toNat = k.toNat + 1 by omega]
  · have hk : ¬ k < 32 := hk
    have e : k.toNat = 32 := by omega
    rw [e, ← hml, List.take_length, Nat.sub_self, List.replicate_zero, List.append_nil] at r3
    refine ⟨fun v2 n2 hh => 0 ≤ n2 ∧ Fr No h hh ∧ Own hh h.size ∧ U32 v2 ∧ ∃ f m, n2 < ((2 ^ f : Nat) : Int) ∧ m.length = 32 ∧ (∀ x ∈ m, U32 x) ∧ rd hh h.size = mat m ∧ behindM v n = behindGo f m v2 n2, fun _ n2 _ => n2.toNat,
      ⟨hn0, f3, o3, hv, 64, m0, by show n < 18446744073709551616; omega, hml, hmr, r3, rfl⟩, ?_⟩
    rintro v2 n4 h6 ⟨p0, f6, o6, hv2, f, m, hf, hm, hr, r6, eb⟩
    have hs6 := f6.size
    have e1 : (2 ^ min (Int.toNat 1) 64 : Int) = 2 := by decide
    refine cd (fun hpos => ?_) fun hpos => ?_
    rotate_left
    · have : v2 = behindM v n := by
        rw [eb]
        cases f with
        | zero => rfl
        | succ f => rw [behindGo, decide_eq_false hpos]; rfl
      rw [this]; exact hK h6 f6
    have hd : Int.fdiv n4 2 = n4 / 2 := Int.fdiv_eq_ediv_of_nonneg _ (by decide)
    rw [e1, hd]
    cases f with
    | zero => have hf : n4 < 1 := hf; omega
    | succ f =>
    rw [behindGo, decide_eq_true hpos] at eb
    have hf2 : n4 / 2 < ((2 ^ f : Nat) : Int) := by rw [Nat.pow_succ] at hf; omega
    have sqm : (squareM m).length = 32 := by rw [squareM, List.length_map, hm]
    have ml : (mat (squareM m)).length = 32 := by rw [mat, List.length_map, sqm]
    have ml2 : (mat m).length = 32 := by rw [mat, List.length_map, hm]
    have M6 : Cells h6 ⟨h.size, 0, none⟩ (mat m) := cellsAll r6
    have nx : ∀ v3, U32 v3 → behindM v n = behindGo f (squareM m) v3 (n4 / 2) → ∀ h8, Fr No h6 h8 → PutRow ⟨h.size, 0, none⟩ (mat (squareM m)) 32 h8 fun h9 =>
        (0 ≤ n4 / 2 ∧ Fr No h h9 ∧ Own h9 h.size ∧ U32 v3 ∧ ∃ f m, n4 / 2 < ((2 ^ f : Nat) : Int) ∧ m.length = 32 ∧ (∀ x ∈ m, U32 x) ∧ rd h9 h.size = mat m ∧ behindM v n = behindGo f m v3 (n4 / 2)) ∧ (n4 / 2).toNat < n4.toNat := by
      intro v3 hv3 e3 h8 f8
      have r8 := (f8.rd o6.lt fun x => x).trans r6
      refine PutRow.intro (f8.own o6.lt (fun x => x) o6) ml (mat_one _) (by rw [r8, ml2]; exact Nat.le_refl _) fun h9 d9 => ?_
      exact ⟨⟨by omega, (f6.no f8).did d9 (fun x => by omega), d9.own, hv3, f, squareM m, hf2, sqm, square_range m, by rw [d9.rd, put_all _ _ (by rw [r8, ml, ml2])], e3⟩, by omega⟩
    cases hb : (bitsI .and .i64 n4 1 == 1) with
    | true =>
      rw [hb] at eb
      exact ct rfl (times_spec hv2 hm M6 ⟨_, rfl, square_spec hr hm M6 fun h8 f8 => ⟨_, rfl, nx _ (timesM_range _ _) eb h8 f8⟩⟩)
    | false =>
      rw [hb] at eb
      exact cf rfl (square_spec hr hm M6 fun h8 f8 => ⟨_, rfl, nx _ hv2 eb h8 f8⟩)
def joinM (a b n : Int) : Int := bitsI .xor .u32 (behindM a n) b
theorem join_range (a b n : Int) : U32 (joinM a b n) := bits_range _ _ _
theorem Join_spec {a b n : Int} {h : Heap} {K : Value → Heap → Prop} (g : Half h) (ha : U32 a) (h0 : 0 ≤ n) (h1 : n ≤ 1099511627776) (hK : ∀ h', Fr No h h' → K (.tuple #[.int .u32 (joinM a b n), .int .i64 0]) h') : C.sum_Join a b n h K :=
  sum_Join.ok (cd (fun x => by omega) fun _ => cd (fun x => by omega) fun _ => behind_spec g ha h0 (by omega) fun h' f => ⟨_, rfl, hK h' f⟩)
end Go.Proofs.YtpleolmalbdpnaaDoor.Su
