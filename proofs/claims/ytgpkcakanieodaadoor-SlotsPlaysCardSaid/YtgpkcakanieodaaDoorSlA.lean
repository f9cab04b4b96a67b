/-
  PACKAGE slots: what its functions compute.
-/
import Derived.Test.YtgpkcakanieodaaDoorChA
namespace Go.Proofs.YtgpkcakanieodaaDoor.Ss
open Go Go.Proofs Go.Proofs.YtgpkcakanieodaaDoor.Wx Go.Proofs.YtgpkcakanieodaaDoor.Hp Go.Proofs.YtgpkcakanieodaaDoor.W Go.Proofs.YtgpkcakanieodaaDoor.Re Go.Proofs.YtgpkcakanieodaaDoor.Sk Go.Proofs.YtgpkcakanieodaaDoor.Ch

def E.v (e : E) : List Value := [.int .i64 e.place, .string (mkStr e.name), .int .i64 e.inode]
theorem E.len (e : E) : (E.v e).length = 3 := rfl
theorem E.one (e : E) : ∀ v ∈ E.v e, v.oneCell' = true := by
  intro v hv
  simp only [E.v, List.mem_cons, List.not_mem_nil, or_false] at hv
  rcases hv with rfl | rfl | rfl <;> rfl
theorem ents_len : ∀ (hs : List (Nat × Txt)) (k : Nat), (ents k hs).length ≤ hs.length := by
  intro hs
  induction hs with
  | nil => intro k; exact Nat.le_refl _
  | cons x r ih =>
    intro k
    rw [ents]
    split
    · have := ih (k + 1); rw [List.length_cons]; omega
    · have := ih (k + 1); rw [List.length_cons, List.length_cons]; omega
/-- what Read answers -/
def ans (bs : List UInt8) : List E × Int := if bs.length ≠ 512 then ([], 32) else match dec 16 bs with
  | none => ([], 140)
  | some hs => (ents 0 hs, 0)
/-- what Lowest answers -/
def lowA (bs : List UInt8) : Int × Int := if bs.length ≠ 512 then (0, 32) else match dec 16 bs with
  | none => (0, 140)
  | some hs => (low 0 hs, 0)
def putOk (e : E) : Bool := decide (0 ≤ e.place) && decide (e.place < 16) && decide (1 ≤ e.inode) && decide (e.inode ≤ 4294967295) && nameOk e.name
/-- what Put answers, and the bytes behind it -/
def putA (bs : List UInt8) (e : E) : Int × List UInt8 := if bs.length ≠ 512 then (32, bs) else if putOk e then (0, putU bs (32 * e.place.toNat) (form e.inode.toNat e.name)) else (140, bs)
def clrA (bs : List UInt8) (k : Int) : Int × List UInt8 := if bs.length ≠ 512 then (32, bs) else if 0 ≤ k ∧ k < 16 then (0, putU bs (32 * k.toNat) (List.replicate 32 0)) else (140, bs)
theorem putOk_good {e : E} (h : putOk e = true) : 0 ≤ e.place ∧ e.place < 16 ∧ 1 ≤ e.inode ∧ e.inode ≤ 4294967295 ∧ nameOk e.name = true ∧ Sk.Good (e.inode.toNat, e.name) := by
  simp only [putOk, Bool.and_eq_true, decide_eq_true_eq] at h
  obtain ⟨⟨⟨⟨h1, h2⟩, h3⟩, h4⟩, h5⟩ := h
  exact ⟨h1, h2, h3, h4, h5, Or.inr ⟨by show 1 ≤ e.inode.toNat; omega, by show e.inode.toNat < 4294967296; omega, h5⟩⟩
theorem putA_length (bs : List UInt8) (e : E) : (putA bs e).2.length = bs.length := by
  unfold putA
  split
  · rfl
  · split
    · rename_i h1 h2
      obtain ⟨a1, a2, _, _, _, g⟩ := putOk_good h2
      have l : (form e.inode.toNat e.name).length = 32 := form_length g
      exact putU_length (by rw [l]; omega)
    · rfl
theorem clrA_length (bs : List UInt8) (k : Int) : (clrA bs k).2.length = bs.length := by
  unfold clrA
  split
  · rfl
  · split
    · exact putU_length (by rw [List.length_replicate]; omega)
    · rfl
theorem cell_spec {a : Option Addr} {l c : Nat} {bs : List UInt8} {k : Int} {h : Heap} {K : Value → Heap → Prop} (B : StrAt h a l bs) (hl : l = 512) (hlc : l ≤ c) (h0 : 0 ≤ k) (h1 : k < 16)
    (hK : StrAt h (Option.map (Addr.add · (32 * k.toNat)) a) 32 ((bs.drop (32 * k.toNat)).take 32) → K (.slice (Option.map (Addr.add · (32 * k.toNat)) a) 32 32) h) : C.slots_cell a l c k h K := by
  refine slots_cell.ok ?_
  unfold slots_cell
  rw [wrap_i64 (n := 32 * k) (by omega) (by omega), wrap_i64 (n := 32 * k + 32) (by omega) (by omega)]
  refine ⟨⟨by omega, by omega, by omega, by omega⟩, ?_⟩
  rw [if_neg (by omega), show (32 * k + 32).toNat - (32 * k).toNat = 32 by omega, show (32 * k).toNat = 32 * k.toNat by omega]
  exact hK (StrAt.take (StrAt.drop B (32 * k.toNat)) (by omega))
theorem read_spec {a : Option Addr} {bs : List UInt8} {h : Heap} {K : Value → Heap → Prop} (g : Glo h) (B : StrAt h a 32 bs)
    (hK : ∀ h' x, Fr No h h' → one bs = some x → K (.tuple #[.int .i64 (x.1 : Nat), .string (mkStr x.2), .bool true]) h') (hN : ∀ h' n s, Fr No h h' → one bs = none → K (.tuple #[.int .i64 n, .string s, .bool false]) h') : C.slots_read a 32 32 h K := by
  have hb := B.1
  have e0 : one bs = one bs := rfl
  refine slots_read.ok (Get_spec g B (by omega) (by omega) (by omega) (by omega) ⟨_, _, rfl, Get_spec g B (by omega) (by omega) (by omega) (by omega) ⟨_, _, rfl, ?_⟩⟩)
  rw [show (0 : Int).toNat = 0 from rfl, show (4 : Int).toNat = 4 from rfl, show (1 : Int).toNat = 1 from rfl, List.drop_zero]
  have h4 : 4 < bs.length := by omega
  have e1 : leN ((bs.drop 4).take 1) = (bs.getD 4 0).toNat := by
    rw [List.drop_eq_getElem_cons h4, List.getD_eq_getElem?_getD, List.getElem?_eq_getElem h4]
    show bs[4].toNat + 256 * 0 = bs[4].toNat
    omega
  rw [e1]
  have lt : leN (bs.take 4) < 4294967296 := by
    have := leN_lt (bs.take 4)
    rw [List.length_take, show min 4 bs.length = 4 by omega] at this
    exact this
  conv at e0 => rhs; unfold one
  generalize leN (bs.take 4) = i at lt e0 ⊢
  have bt := (bs.getD 4 0).toNat_lt
  generalize (bs.getD 4 0).toNat = n at bt e0 ⊢
  refine ce (fun hi => ?_) fun hi => ?_
  · refine Zero_spec B (by omega) (by omega) (by omega) (by omega) (by omega) ⟨_, _, rfl, ?_⟩
    rw [if_pos (by omega)] at e0
    rw [show (0 : Int).toNat = 0 from rfl, show (32 : Int).toNat = 32 from rfl, List.drop_zero, List.take_of_length_le (by omega)]
    cases hz : allZero bs with
    | true => rw [hz] at e0; exact hK h _ (Fr.refl _ _) e0
    | false => rw [hz] at e0; exact hN h _ _ (Fr.refl _ _) e0
  · rw [if_neg (by omega)] at e0
    refine cd (fun hn => hN h _ _ (Fr.refl _ _) (by rw [e0, if_pos (by omega)])) fun hn => cd (fun hn2 => hN h _ _ (Fr.refl _ _) (by rw [e0, if_pos (by omega)])) fun hn2 => ?_
    rw [if_neg (by omega)] at e0
    have wu : IntKind.wrap .u64 (5 + (n : Int)) = 5 + n := by
      show (5 + (n : Int)) % 18446744073709551616 = _
      omega
    unfold slots_read.k1
    rw [wu, wrap_i64 (n := (n : Int)) (by omega) (by omega), wrap_i64 (n := 5 + (n : Int)) (by omega) (by omega), wrap_i64 (n := 27 - (n : Int)) (by omega) (by omega), wrap_i64 (n := (i : Int)) (by omega) (by omega)]
    refine ⟨⟨by omega, by omega, by omega, by omega⟩, (bs.drop 5).take n, ?_, ?_⟩
    · have := StrAt.cut B (c := 32) (by omega) (i := 5) (j := 5 + n) (by omega) (by omega)
      rw [show (5 + (n : Int)).toNat = 5 + n by omega, show (5 : Int).toNat = 5 from rfl, if_neg (by omega)]
      rw [if_neg (by omega), show 5 + n - 5 = n by omega] at this
      rw [show 5 + n - 5 = n by omega]
      exact this
    · refine Zero_spec B (by omega) (by omega) (by omega) (by omega) (by omega) ⟨_, _, rfl, ?_⟩
      have ez : List.take (27 - (n : Int)).toNat (List.drop (5 + (n : Int)).toNat bs) = bs.drop (5 + n) := by
        rw [show (5 + (n : Int)).toNat = 5 + n by omega, List.take_of_length_le (by rw [List.length_drop]; omega)]
      rw [ez]
      cases hz : allZero (bs.drop (5 + n)) with
      | false =>
        rw [hz] at e0
        exact hN h _ _ (Fr.refl _ _) e0
      | true =>
        refine Name_spec fun h' f' => ⟨_, rfl, ?_⟩
        rw [hz, Bool.true_and] at e0
        cases hn : nameOk ((bs.drop 5).take n) with
        | true => rw [hn] at e0; exact hK h' _ f' e0
        | false => rw [hn] at e0; exact hN h' _ _ f' e0
theorem Read_spec {a : Option Addr} {l c : Nat} {bs : List UInt8} {h : Heap} {K : Value → Heap → Prop} (g : Glo h) (B : StrAt h a l bs) (hlc : l ≤ c)
    (hK : ∀ h' a' l' c', Fr No h h' → Sl h' 3 a' l' c' ((ans bs).1.flatMap E.v) (From h.size) → K (.tuple #[.slice a' l' c', .int .i64 (ans bs).2]) h') : C.slots_Read a l c h K := by
  have hb := B.1
  refine slots_Read.ok (cn (fun hl => ?_) fun hl => ?_)
  · have e : ans bs = ([], 32) := by rw [ans, if_pos (by omega)]
    rw [e] at hK
    exact hK h none 0 0 (Fr.refl _ _) (Sl.nil _ _ _)
  have hl : l = 512 := by omega
  have e : ans bs = match dec 16 bs with
    | none => ([], 140)
    | some hs => (ents 0 hs, 0) := by rw [ans, if_neg (by omega)]
  refine ⟨fun la ll lc n hh => 0 ≤ n ∧ n ≤ 16 ∧ Fr No h hh ∧ ∃ pre : List (Nat × Txt), pre.length = n.toNat ∧ dec 16 bs = (dec (16 - n.toNat) (bs.drop (32 * n.toNat))).map (pre ++ ·) ∧ Sl hh 3 la ll lc ((ents 0 pre).flatMap E.v) (From h.size), fun _ _ _ n _ => (16 - n).toNat,
    ⟨by omega, by omega, Fr.refl _ _, [], rfl, by rw [show (0 : Int).toNat = 0 from rfl, Nat.mul_zero, List.drop_zero]; simp, Sl.nil _ _ _⟩, ?_⟩
  rintro la ll lc n h2 ⟨n0, n1, f2, pre, pl, pd, ps⟩
  have hs2 := f2.size
  have pll := ents_len pre 0
  have hll : ll = (ents 0 pre).length := by
    have := ps.1
    rw [flat_length E.v 3 _ (fun x _ => E.len x)] at this
    omega
  refine cd (fun hn => ?_) fun hn => ?_
  · rw [dec_step (by omega)] at pd
    refine cell_spec (StrAt.fr f2 B fun _ _ x => x) hl hlc n0 hn fun B2 => ⟨_, _, _, rfl, ?_⟩
    rw [wrap_i64 (n := n + 1) (by omega) (by omega)]
    refine read_spec (g.no f2) B2 (fun h4 x f4 ho => ⟨_, _, _, rfl, ?_⟩) fun h4 m s f4 ho => ⟨_, _, _, rfl, ?_⟩
    · have f24 := f2.no f4
      rw [ho] at pd
      have pd' : dec 16 bs = (dec (16 - (n + 1).toNat) (bs.drop (32 * (n + 1).toNat))).map ((pre ++ [x]) ++ ·) := by
        rw [pd, show (n + 1).toNat = n.toNat + 1 by omega]
        cases dec (16 - (n.toNat + 1)) (bs.drop (32 * (n.toNat + 1))) with
        | none => rfl
        | some r => simp
      have ee : ents 0 (pre ++ [x]) = ents 0 pre ++ (if x.1 = 0 then [] else [⟨n, x.2, x.1⟩]) := by
        rw [ents_append, pl, ents, ents, show ((0 + n.toNat : Nat) : Int) = n by omega]
      have ps4 := ps.fr f4 fun _ _ _ x => x
      refine cf rfl (cn (fun hx => ⟨rfl, New.intro fun h5 n5 => ⟨E.v ⟨n, x.2, x.1⟩, rfl, cellsAll n5.rd, E.one _, ?_⟩⟩) fun hx => ⟨⟨by omega, by omega, f24, pre ++ [x], by rw [List.length_append, pl, List.length_singleton]; omega, pd', ?_⟩, by show (16 - (n + 1)).toNat < (16 - n).toNat; omega⟩)
      · have hx0 : x.1 ≠ 0 := fun e => hx (by rw [e]; rfl)
        rw [if_neg hx0] at ee
        have f25 := f24.new n5
        have hs5 := f25.size
        have hbytes : (ti30).bytes = 32 := rfl
        refine append_own (elem := ti30) (ps4.fr n5.fr fun _ _ _ x => x) rfl rfl (by rw [hbytes]; omega) (by omega) fun a' c' h6 f6 s6 => ⟨⟨by omega, by omega, ?_, pre ++ [x], by rw [List.length_append, pl, List.length_singleton]; omega, pd', ?_⟩, by show (16 - (n + 1)).toNat < (16 - n).toNat; omega⟩
        · exact f25.trans f6 fun b hb hF => by have : h.size ≤ b := hF; omega
        · rw [ee, List.flatMap_append]
          refine Sl.mono (s6 : Sl h6 3 a' (ll + 1) c' _ _) fun b hF => ?_
          rcases hF with hF | hF
          · exact hF
          · show h.size ≤ b; omega
      · have hx0 : x.1 = 0 := by omega
        rw [if_pos hx0, List.append_nil] at ee
        rw [ee]; exact ps4
    · rw [ho] at pd
      have e2 : ans bs = ([], 140) := by rw [e, pd]; rfl
      rw [e2] at hK
      exact ct rfl (hK h4 none 0 0 (f2.no f4) (Sl.nil _ _ _))
  · have en : n.toNat = 16 := by omega
    rw [en] at pd
    have e2 : ans bs = (ents 0 pre, 0) := by
      have z : dec (16 - 16) (bs.drop (32 * 16)) = some [] := by rw [Nat.sub_self]; rfl
      rw [e, pd, z, Option.map_some, List.append_nil]
    rw [e2] at hK
    exact hK h2 la ll lc f2 ps
theorem isPlace_spec {k : Int} {h : Heap} {K : Value → Heap → Prop} (hK : K (.bool (decide (0 ≤ k) && decide (k < 16))) h) : C.slots_isPlace k h K := by
  refine slots_isPlace.ok (cd (fun x => ?_) fun x => ?_)
  · rw [decide_eq_true (by omega)] at hK; exact hK
  · rw [decide_eq_false (by omega)] at hK; exact hK
/-- the first free place, as the program looks for it -/
theorem low_split : ∀ (hs pre : List (Nat × Txt)), (∀ x ∈ pre, x.1 ≠ 0) → (ents 0 (pre ++ hs)).length = pre.length + (ents pre.length hs).length ∧ low 0 (pre ++ hs) = low pre.length hs ∧ (ents 0 (pre ++ hs)).drop pre.length = ents pre.length hs := by
  have full : ∀ (pre : List (Nat × Txt)) (k : Nat), (∀ x ∈ pre, x.1 ≠ 0) → (ents k pre).length = pre.length := by
    intro pre
    induction pre with
    | nil => intro k _; rfl
    | cons x r ih =>
      intro k h
      rw [ents, if_neg (h x (List.mem_cons_self ..)), List.length_cons, List.length_cons, ih _ fun y hy => h y (List.mem_cons_of_mem _ hy)]
  have lowp : ∀ (pre hs : List (Nat × Txt)) (k : Nat), (∀ x ∈ pre, x.1 ≠ 0) → low k (pre ++ hs) = low (k + pre.length) hs := by
    intro pre
    induction pre with
    | nil => intro hs k _; rfl
    | cons x r ih =>
      intro hs k h
      rw [List.cons_append, low, if_neg (h x (List.mem_cons_self ..)), ih _ _ fun y hy => h y (List.mem_cons_of_mem _ hy), List.length_cons]
      congr 1; omega
  intro hs pre h
  rw [ents_append, List.length_append, full pre 0 h, Nat.zero_add]
  refine ⟨rfl, ?_, ?_⟩
  · rw [lowp pre hs 0 h, Nat.zero_add]
  · have := full pre 0 h
    rw [← this, List.drop_left]
theorem Lowest_spec {a : Option Addr} {l c : Nat} {bs : List UInt8} {h : Heap} {K : Value → Heap → Prop} (g : Glo h) (B : StrAt h a l bs) (hlc : l ≤ c)
    (hK : ∀ h', Fr No h h' → K (.tuple #[.int .i64 (lowA bs).1, .int .i64 (lowA bs).2]) h') : C.slots_Lowest a l c h K := by
  have hb := B.1
  refine slots_Lowest.ok (Read_spec g B hlc fun h2 a' l' c' f2 s2 => ⟨_, _, _, _, rfl, ?_⟩)
  have out : ∀ x y, ans bs = ([], y) → lowA bs = (0, y) → x = (ans bs).2 → K (.tuple #[.int .i64 0, .int .i64 x]) h2 := by
    intro x y e1 e2 e3
    have := hK h2 f2
    rw [e2] at this
    rw [e3, e1]; exact this
  by_cases hl : bs.length ≠ 512
  · have e1 : ans bs = ([], 32) := by rw [ans, if_pos hl]
    have e2 : lowA bs = (0, 32) := by rw [lowA, if_pos hl]
    exact ct (by rw [e1]; rfl) (out _ _ e1 e2 rfl)
  cases hd : dec 16 bs with
  | none =>
    have e1 : ans bs = ([], 140) := by rw [ans, if_neg hl, hd]
    have e2 : lowA bs = (0, 140) := by rw [lowA, if_neg hl, hd]
    exact ct (by rw [e1]; rfl) (out _ _ e1 e2 rfl)
  | some hs =>
    have e1 : ans bs = (ents 0 hs, 0) := by rw [ans, if_neg hl, hd]
    have e2 : lowA bs = (low 0 hs, 0) := by rw [lowA, if_neg hl, hd]
    obtain ⟨hsl, _, _⟩ := blk_dec (by omega) hd
    rw [e1] at s2 ⊢
    rw [e2] at hK
    have hll : l' = (ents 0 hs).length := by
      have : ((ents 0 hs).flatMap E.v).length = l' * 3 := s2.1
      rw [flat_length E.v 3 _ (fun x _ => E.len x)] at this
      omega
    refine cf rfl ⟨fun n hh => 0 ≤ n ∧ n ≤ 16 ∧ h2 = hh ∧ ∃ pre rest : List (Nat × Txt), hs = pre ++ rest ∧ pre.length = n.toNat ∧ ∀ x ∈ pre, x.1 ≠ 0, fun n _ => (16 - n).toNat, ⟨by omega, by omega, rfl, [], hs, rfl, rfl, fun x hx => absurd hx (by simp)⟩, ?_⟩
    rintro n _ ⟨n0, n1, rfl, pre, rest, rfl, pl, pz⟩
    obtain ⟨q1, q2, q3⟩ := low_split rest pre pz
    rw [List.length_append] at hsl
    refine cd (fun hn => ?_) fun hn => ?_
    · cases rest with
      | nil => rw [List.length_nil] at hsl; omega
      | cons x r =>
        have eres : x.1 = 0 → low 0 (pre ++ x :: r) = n := fun hx => by rw [q2, low, if_pos hx]; omega
        refine ce (fun hx => ?_) fun hx => ?_
        · have : x.1 = 0 := by
            rcases Nat.eq_zero_or_pos x.1 with h | h
            · exact h
            · rw [ents, if_neg (by omega), List.length_cons] at q1; omega
          rw [eres this] at hK; exact hK h2 f2
        · have hlen : n.toNat < (ents 0 (pre ++ x :: r)).length := by omega
          have hd0 : (ents 0 (pre ++ x :: r)).drop n.toNat = ents n.toNat (x :: r) := by rw [← pl]; exact q3
          have hel : ents n.toNat (x :: r) = (ents 0 (pre ++ x :: r))[n.toNat] :: (ents 0 (pre ++ x :: r)).drop (n.toNat + 1) := by rw [← hd0, List.drop_eq_getElem_cons hlen]
          generalize hee : (ents 0 (pre ++ x :: r))[n.toNat] = ee at hel
          obtain ⟨p, rfl, cc⟩ := s2.get (by omega)
          refine ⟨⟨n0, by omega⟩, os ⟨ee.place, ?_, ?_⟩⟩
          · have c2 := Cells.part cc (n.toNat * 3) 3
            rw [flat_part E.v 3 _ (fun x _ => E.len x) n.toNat hlen, hee] at c2
            exact c2 0 _ rfl
          · rw [ents] at hel
            refine cn (fun hp => ?_) fun hp => ?_
            · have hx0 : x.1 = 0 := by
                rcases Nat.eq_zero_or_pos x.1 with h | h
                · exact h
                · rw [if_neg (by omega)] at hel
                  have := (List.cons.inj hel).1
                  rw [← this] at hp
                  exact absurd (show ((n.toNat : Nat) : Int) = n by omega) hp
              rw [eres hx0] at hK; exact hK h2 f2
            · have hx0 : x.1 ≠ 0 := by
                intro h0
                rw [if_pos h0] at hel
                have := (ents_range r (n.toNat + 1) ee (by rw [hel]; exact List.mem_cons_self ..)).1
                omega
              rw [wrap_i64 (by omega) (by omega)]
              refine ⟨⟨by omega, by omega, rfl, pre ++ [x], r, by rw [List.append_assoc]; rfl, by rw [List.length_append, pl, List.length_singleton]; omega, fun y hy => ?_⟩, by show (16 - (n + 1)).toNat < (16 - n).toNat; omega⟩
              rcases List.mem_append.mp hy with hy | hy
              · exact pz y hy
              · rw [List.mem_singleton.mp hy]; exact hx0
    · have : rest = [] := List.length_eq_zero_iff.mp (by omega)
      subst this
      rw [q2] at hK
      exact hK h2 f2
end Go.Proofs.YtgpkcakanieodaaDoor.Ss
