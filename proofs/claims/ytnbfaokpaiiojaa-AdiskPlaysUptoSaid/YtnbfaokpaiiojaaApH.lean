/-
  bolelaw03.AdiskPlays: the calls that answer lists: what is read, alike.
-/
import Derived.Test.YtnbfaokpaiiojaaApG
namespace Go.Proofs.Ytnbfaokpaiiojaa.Ap
open Go Go.Proofs Go.Proofs.Ytnbfaokpaiiojaa.Wx Go.Proofs.Ytnbfaokpaiiojaa.Hp Go.Proofs.Ytnbfaokpaiiojaa.W Go.Proofs.Ytnbfaokpaiiojaa.Ad Go.Proofs.Ytnbfaokpaiiojaa.L3 Go.Proofs.Ytnbfaokpaiiojaa.Rf

/-- what a read answers -/
def rdM (D : RD) (i : Int) : List UInt8 × Int := if D.down = true then ([], 30) else if ¬ (0 ≤ i ∧ i < D.lasts.length) then ([], 31) else (readAt D i.toNat, 0)
section
variable {h : Heap} {col : Nat → Nat} {m c : Nat} {d r : Option Addr} {D : RD} {S : FD}
theorem read_p {i : Int} {K : Value → Heap → Prop} (P : DiskAt h d D col m) (hK : ∀ a c h', Fr No h h' → Sl h' 1 a (rdM D i).1.length c ((rdM D i).1.map bv) (From h.size) → K (.tuple #[.slice a (rdM D i).1.length c, .int .i64 (rdM D i).2]) h') : C.adisk_Disk_Read d i h K := by
  unfold rdM at hK
  refine Ad.Read_spec P (fun y => ?_) (fun y y2 => ?_) fun y y1 y2 b h' f hb o e l => ?_
  · rw [if_pos y] at hK
    exact hK none 0 h (Fr.refl _ _) (Sl.nil _ _ _)
  · rw [if_neg (by rw [y]; simp), if_pos y2] at hK
    exact hK none 0 h (Fr.refl _ _) (Sl.nil _ _ _)
  · rw [if_neg (by rw [y]; simp), if_neg (fun z => z ⟨y1, y2⟩)] at hK
    have := hK (some ⟨b, 0, none⟩) 512 h' f ⟨by rw [List.length_map, Nat.mul_one], rfl, hb, o, by rw [l]; exact Nat.le_refl _, by show ((rd h' b).drop 0).take _ = _; rw [e, List.drop_zero, List.take_length], by show 0 + 512 * 1 ≤ (rd h' b).length; rw [e, List.length_map, l]; exact Nat.le_refl _⟩
    rw [show (readAt D i.toNat, (0 : Int)).1.length = 512 from l] at this
    exact this
theorem read_q {i : Int} {K : Value → Heap → Prop} (P : Pr h col m d r D S c) (hK : ∀ a c h', Fr No h h' → Sl h' 1 a (rdM D i).1.length c ((rdM D i).1.map bv) (From h.size) → K (.tuple #[.slice a (rdM D i).1.length c, .int .i64 (rdM D i).2]) h') : C.boleref03_Disk_Read r i h K := by
  have s := P.s
  unfold rdM at hK
  refine Rf.Read_spec P.r s.ok (fun t ht => Nat.le_trans (P.w t ht) (by decide)) (fun y => ?_) (fun y y2 => ?_) fun y y1 y2 a c' h' f sl => ?_
  · rw [if_pos (s.down.trans y)] at hK
    exact hK none 0 h (Fr.refl _ _) (Sl.nil _ _ _)
  · rw [if_neg (by rw [s.down, y]; simp), if_pos (by rw [s.len]; exact y2)] at hK
    exact hK none 0 h (Fr.refl _ _) (Sl.nil _ _ _)
  · rw [if_neg (by rw [s.down, y]; simp), if_neg (fun z => z ⟨y1, by rw [s.len]; exact y2⟩)] at hK
    have e := s.read y (i := i.toNat) (by omega)
    have ei : ((i.toNat : Nat) : Int) = i := by omega
    rw [ei] at e
    rw [← e] at sl ⊢
    exact hK a c' h' f sl
end
/-- two lists of bytes go into the book -/
theorem two_bytes {h : Heap} {col : Nat → Nat} {kb c : Nat} {xs : List Hb} {is : List Li} {ats : List La} {a b : Option Addr} {l1 l2 c1 c2 : Nat} {bs cs : List UInt8} {K : Value → Heap → Prop} (B : Bk h col kb xs is ats c) (hc : c + 1 < 1000000000000) (h1 : l1 ≤ 140737488355000) (h2 : l2 ≤ 140737488355000) (s1 : Sl h 1 a l1 c1 (bs.map bv) (On col (40 + 5 * xs.length))) (s2 : Sl h 1 b l2 c2 (cs.map bv) (On col (45 + 5 * xs.length)))
    (hK : ∀ h' col' xs', Fr (fun b => 30 ≤ col b) h h' → Ag h.size col col' → Bk h' col' kb xs' is ats (c + 2) → K (.bool true) h') : C.bolelaw03_Book_bytes (some ⟨kb, 0, none⟩) a l1 c1 h fun r4 h7 => r4 = .tuple #[] ∧ C.bolelaw03_Book_bytes (some ⟨kb, 0, none⟩) b l2 c2 h7 fun r5 h8 => r5 = .tuple #[] ∧ K (.bool true) h8 := by
  refine bytes_spec B (by omega) h1 s1 fun h7 col7 x f7 g7 B7 => ⟨rfl, ?_⟩
  have s2' := s2.keep f7 g7 fun b hb y => by have hb : col b = 45 + 5 * xs.length := hb; rcases y with y | y | y <;> omega
  have e : 45 + 5 * xs.length = 40 + 5 * (xs ++ [x]).length := by rw [List.length_append]; show _ = 40 + 5 * (xs.length + 1); omega
  rw [e] at s2'
  refine bytes_spec B7 (by omega) h2 s2' fun h8 col8 y f8 g8 B8 => ⟨rfl, hK h8 col8 _ ((f7.mono fun b _ y => ?_).trans f8 fun b hb y => ?_) (g7.trans g8 f7.size) B8⟩
  · show 30 ≤ col b
    rcases y with y | y | y <;> omega
  · have := g7 b hb
    show 30 ≤ col b
    rcases y with y | y | y <;> omega
theorem two_ints {h : Heap} {col : Nat → Nat} {kb c : Nat} {xs : List Hb} {is : List Li} {ats : List La} {a b : Option Addr} {l1 l2 c1 c2 : Nat} {bs cs : List Int} {K : Value → Heap → Prop} (B : Bk h col kb xs is ats c) (hc : c + 1 < 1000000000000) (h1 : l1 ≤ 1000000000) (h2 : l2 ≤ 1000000000) (s1 : Sl h 1 a l1 c1 (intsV bs) (On col (41 + 5 * is.length))) (s2 : Sl h 1 b l2 c2 (intsV cs) (On col (46 + 5 * is.length)))
    (hK : ∀ h' col' is', Fr (fun b => 30 ≤ col b) h h' → Ag h.size col col' → Bk h' col' kb xs is' ats (c + 2) → K (.bool true) h') : C.bolelaw03_Book_ints (some ⟨kb, 0, none⟩) a l1 c1 h fun r4 h7 => r4 = .tuple #[] ∧ C.bolelaw03_Book_ints (some ⟨kb, 0, none⟩) b l2 c2 h7 fun r5 h8 => r5 = .tuple #[] ∧ K (.bool true) h8 := by
  have ki : ∀ n k, KcI n k → 30 ≤ k := fun n k y => by unfold KcI at y; omega
  refine ints_spec B (by omega) h1 s1 fun h7 col7 x f7 g7 B7 => ⟨rfl, ?_⟩
  have s2' := s2.keep f7 g7 fun b hb y => by have hb : col b = 46 + 5 * is.length := hb; have y : KcI is.length (col b) := y; unfold KcI at y; omega
  have e : 46 + 5 * is.length = 41 + 5 * (is ++ [x]).length := by rw [List.length_append]; show _ = 41 + 5 * (is.length + 1); omega
  rw [e] at s2'
  refine ints_spec B7 (by omega) h2 s2' fun h8 col8 y f8 g8 B8 => ⟨rfl, hK h8 col8 _ ((f7.mono fun b _ y => ki _ _ y).trans f8 fun b hb y => ?_) (g7.trans g8 f7.size) B8⟩
  have y := ki _ _ y
  rw [g7 b hb] at y; exact y
theorem two_acts {h : Heap} {col : Nat → Nat} {kb c : Nat} {xs : List Hb} {is : List Li} {ats : List La} {a b : Option Addr} {l c1 c2 : Nat} {es us : List Ent} {ts : List Tt} {K : Value → Heap → Prop} (B : Bk h col kb xs is ats c) (hc : c + 2 * l + 2 < 1000000000000) (hl : es.length = l) (hul : us.length = l) (htl : ts.length = l) (s1 : Sl h 3 a l c1 (es.flatMap Ent.cells) (On col (43 + 5 * ats.length))) (s2 : Sl h 3 b l c2 (us.flatMap Ent.cells) (On col (48 + 5 * ats.length)))
    (i1 : ∀ i (h1 : i < es.length) (h2 : i < ts.length), es[i].l ≤ 140737488355000 ∧ Sl h 1 es[i].a es[i].l es[i].c (ts[i].2.2.map bv) (On col (40 + 5 * (xs.length + i))))
    (i2 : ∀ i (h1 : i < us.length) (h2 : i < ts.length), us[i].l ≤ 140737488355000 ∧ Sl h 1 us[i].a us[i].l us[i].c (ts[i].2.2.map bv) (On col (40 + 5 * (xs.length + l + i))))
    (hK : ∀ h' col' xs' ats', Fr (fun b => 30 ≤ col b) h h' → Ag h.size col col' → Bk h' col' kb xs' is ats' (c + 2 * l + 2) → K (.bool true) h') : C.bolelaw03_Book_acts (some ⟨kb, 0, none⟩) a l c1 h fun r4 h7 => r4 = .tuple #[] ∧ C.bolelaw03_Book_acts (some ⟨kb, 0, none⟩) b l c2 h7 fun r5 h8 => r5 = .tuple #[] ∧ K (.bool true) h8 := by
  have ka : ∀ n m l k, KcA n m l k → 30 ≤ k := fun n m l k y => by
    rcases y with y | y | y | y | y | y | ⟨i, _, y⟩ <;> omega
  refine acts_spec B (by omega) hl htl s1 i1 fun h7 col7 xs7 x f7 g7 xl B7 => ⟨rfl, ?_⟩
  have no : ∀ k, k ≠ 30 → k ≠ 31 → k ≠ 34 → k ≠ 35 → k ≠ 43 + 5 * ats.length → k ≠ 44 + 5 * ats.length → (∀ i, i < l → k ≠ 40 + 5 * (xs.length + i)) → ∀ b, col b = k → ¬ (fun b => KcA xs.length ats.length l (col b)) b := fun k k1 k2 k3 k4 k5 k6 k7 b hb y => by
    have y : KcA xs.length ats.length l (col b) := y
    rcases y with y | y | y | y | y | y | ⟨i, hi, y⟩
    · omega
    · omega
    · omega
    · omega
    · omega
    · omega
    · exact k7 i hi (by omega)
  have s2' := s2.keep f7 g7 (no _ (by omega) (by omega) (by omega) (by omega) (by omega) (by omega) fun i hi => by omega)
  have e : 48 + 5 * ats.length = 43 + 5 * (ats ++ [x]).length := by rw [List.length_append]; show _ = 43 + 5 * (ats.length + 1); omega
  rw [e] at s2'
  refine acts_spec B7 (by omega) hul htl s2' (fun i h1 h2 => ⟨(i2 i h1 h2).1, ?_⟩) fun h8 col8 xs8 y f8 g8 xl8 B8 => ⟨rfl, hK h8 col8 _ _ ((f7.mono fun b _ y => ka _ _ _ _ y).trans f8 fun b hb y => ?_) (g7.trans g8 f7.size) (B8.le (by omega))⟩
  · have := (i2 i h1 h2).2.keep f7 g7 (no _ (by omega) (by omega) (by omega) (by omega) (by omega) (by omega) fun j hj => by omega)
    rw [List.length_append, xl]; exact this
  · have y := ka _ _ _ _ y
    rw [g7 b hb] at y; exact y
end Go.Proofs.Ytnbfaokpaiiojaa.Ap
