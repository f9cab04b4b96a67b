/-
  LAW AdiskChosen.
-/
import Derived.Test.YtnbfaokpaiiojaaL3E
namespace Go.Proofs.Ytnbfaokpaiiojaa.L3
open Go Go.Proofs Go.Proofs.Ytnbfaokpaiiojaa.Wx Go.Proofs.Ytnbfaokpaiiojaa.Hp Go.Proofs.Ytnbfaokpaiiojaa.W Go.Proofs.Ytnbfaokpaiiojaa.Ad

theorem strSub {h : Heap} {a : Option Addr} {l c o k : Nat} {bs : List UInt8} (B : StrAt h a l bs) (hlc : l ≤ c) (h1 : o + k ≤ l) (hk : 0 < k) : StrAt h (if c = o then a else a.map (·.add o)) k ((bs.drop o).take k) := by
  rw [if_neg (by omega)]; exact StrAt.take (StrAt.drop B o) (by omega)
theorem SlCells.lt {h : Heap} {p : Addr} {xs : List Value} (c : SlCells h (some p) xs) (hx : xs ≠ []) : p.block < h.size := by
  cases xs with
  | nil => exact absurd rfl hx
  | cons x r =>
    have := (cellOf_some (c 0 x rfl)).2
    have hb : (p.add 0).block = p.block := by rw [Addr.add_zero]
    rw [hb] at this
    exact rd_lt this
theorem chosen_add (ps : List (Int × List UInt8)) (x : Int × List UInt8) : ∀ keep : List Bool, chosen (ps ++ [x]) keep = chosen ps keep ++ (if keep[ps.length]? = some true then [x] else []) := by
  induction ps with
  | nil => intro keep; cases keep with
    | nil => simp [chosen]
    | cons k r => cases k <;> simp [chosen]
  | cons p r ih => intro keep; cases keep with
    | nil => simp [chosen]
    | cons k s =>
      have e := ih s
      simp only [chosen] at e ⊢
      cases k <;> simp [e]
theorem sub_ok {i : Int} {n : Nat} (h0 : 0 ≤ i) (h : i < n) : i.toNat * 512 + 512 ≤ n * 512 := by omega
theorem chosen1 {ka : Option Addr} {kl kc : Nat} {q : Option Addr} {h3 h : Heap} {n2 k2 : Int} {K : Value → Heap → Prop} {S : RD} {col : Nat → Nat} {m : Nat} {keep : List Bool} {ws : List UInt8} {h0 : Heap}
    (D : DiskAt h q S col m) (hd : S.down = false) (hp : S.pend.length < 1000000000) (hk2 : k2 = S.pend.length) (hn2 : n2 = S.lasts.length) (hN : S.lasts.length ≤ 16384) (hw : rd h h3.size = ws.map bv) (hwl : ws.length = S.lasts.length)
    (hrel : ws.map rep = applyTo S.lasts (chosen S.pend keep)) (hcw : col h3.size = m + 6) (hwlt : h3.size < h.size) (hkl : keep.length = kl) (hk : SlCells h ka (keep.map .bool)) (hkc : ∀ p, ka = some p → keep ≠ [] → p.block < h0.size)
    (F0 : Fr No h0 h) (hf : Free h0 col m) (hK : ∀ h', Fr No h0 h' → K (.bool true) h') : bolelaw03_AdiskChosen.k1 ka kl kc q h3 n2 k2 h K := by
  refine Pending_spec D hp fun a c h11 f11 s11 => ⟨_, _, _, rfl, cn (fun x => absurd hk2.symm x) fun _ => ?_⟩
  have D1 := D.keep f11 (Ag.refl _ _) (fun _ _ _ x => x)
  refine Crash_spec D1 hkl (SlCells.fr f11 hk fun _ _ x => x) (fun p hp hne x => hf p.block (hkc p hp hne) (by omega) (by omega)) fun h12 f12 D2 => ⟨rfl, ?_⟩
  rw [if_neg (by rw [hd]; exact Bool.false_ne_true)] at D2
  refine Image_spec D2 fun a3 c3 h13 f13 s13 => ⟨_, _, _, rfl, ?_⟩
  have hlen : (S.cut keep).lasts.length = S.lasts.length := applyTo_length _ _
  rw [hlen] at s13
  rw [hlen, hn2, wrap_i64 (by omega) (by omega)]
  refine cn (fun x => absurd (by omega) x) fun _ => ?_
  rw [Int.toNat_natCast]
  have F13 : Fr No h0 h13 := ((F0.no f11).trans f12 (fun b hb x => hf b hb x.1 x.2)).no f13
  have nw : ¬ Dk col m h3.size := fun x => by have := x.2; omega
  have w13 : rd h13 h3.size = ws.map bv := by
    have hs := f11.size
    rw [f13.rd (Nat.lt_of_lt_of_le (Nat.lt_of_lt_of_le hwlt hs) f12.size) (fun x => x), f12.rd (Nat.lt_of_lt_of_le hwlt hs) nw, f11.rd hwlt (fun x => x), hw]
  have wlt13 : h3.size < h13.size := Nat.lt_of_lt_of_le hwlt (Nat.le_trans f11.size (Nat.le_trans f12.size f13.size))
  have hws : ∀ x ∈ ws.map rep, x.length = 512 := by intro x hx; obtain ⟨y, _, rfl⟩ := List.mem_map.mp hx; exact rep_length _
  refine ⟨fun i hh => 0 ≤ i ∧ i ≤ S.lasts.length ∧ Fr No h13 hh, fun i _ => ((S.lasts.length : Nat) - i).toNat, ⟨by omega, by omega, Fr.refl _ _⟩, ?_⟩
  rintro i h14 ⟨i0, i1, f14⟩
  refine cd (fun hi => ?_) fun hi => hK _ (F13.no f14)
  have hi' : i.toNat < ws.length := by omega
  rw [wrap_i64 (n := i * 512) (by omega) (by omega), wrap_i64 (n := i * 512 + 512) (by omega) (by omega), wrap_i64 (n := i + 1) (by omega) (by omega)]
  have e1 : (i * 512).toNat = i.toNat * 512 := by omega
  have e2 : (i * 512 + 512).toNat - i.toNat * 512 = 512 := by omega
  rw [e1, e2]
  have hle : S.lasts.length * 512 ≤ c3 := s13.le
  have B0 : StrAt h14 a3 (S.lasts.length * 512) (S.cut keep).lasts.flatten := StrAt.fr f14 s13.str (fun _ _ x => x)
  have hok : i.toNat * 512 + 512 ≤ S.lasts.length * 512 := sub_ok i0 hi
  have B := strSub B0 hle hok (Nat.succ_pos 511)
  have hpart : ((S.cut keep).lasts.flatten.drop (i.toNat * 512)).take 512 = rep ws[i.toNat] := by
    have : (S.cut keep).lasts = ws.map rep := hrel.symm
    rw [this, join_part _ hws _ (by rw [List.length_map]; exact hi'), List.getElem_map]
  rw [hpart] at B
  have hcell : cellOf h14 (Addr.add ⟨h3.size, 0, none⟩ i.toNat) = some (bv ws[i.toNat]) := rda ((f14.rd wlt13 (fun x => x)).trans w13) (by rw [Nat.zero_add, List.getElem?_map, List.getElem?_eq_getElem hi']; rfl)
  refine ⟨by omega, _, B, ⟨i0, hi⟩, _, hcell, ?_⟩
  refine block_spec fun h15 f15 o15 r15 => ⟨_, _, _, rfl, ?_, rep ws[i.toNat], ?_, ?_⟩
  · rw [toList_mkStr]; exact StrAt.fr f15 B (fun _ _ x => x)
  · exact strAll r15 (rep_length _)
  · rw [beq_self_eq_true]
    exact ⟨⟨by omega, by omega, f14.no f15⟩, falls hi⟩
end Go.Proofs.Ytnbfaokpaiiojaa.L3
