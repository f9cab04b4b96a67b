/-
  LAW AdiskMakes.
-/
import Derived.Test.YtnbfaokpaiiojaaL3B
namespace Go.Proofs.Ytnbfaokpaiiojaa.L3
open Go Go.Proofs Go.Proofs.Ytnbfaokpaiiojaa.Wx Go.Proofs.Ytnbfaokpaiiojaa.Hp Go.Proofs.Ytnbfaokpaiiojaa.W Go.Proofs.Ytnbfaokpaiiojaa.Ad Go.Proofs.Ytnbfaokpaiiojaa.Rf

theorem free0 (h : Heap) {m : Nat} (hm : 0 < m) : Free h (fun _ => 0) m := fun _ _ h1 _ => by have h1 : m ≤ 0 := h1; omega
theorem makes3 {a : Option Addr} {l c : Nat} {bs : List UInt8} {h : Heap} {K : Value → Heap → Prop} (B : StrAt h a l bs) (hlc : l ≤ c) (hl : l < 140737488355328)
    (hK : ∀ h', Fr No h h' → K (.bool true) h') : bolelaw03_AdiskMakes.k3 a l c h K := by
  have nof : ∀ p : Addr, a = some p → ¬ No p.block := fun _ _ x => x
  have hbl := B.1
  refine opened_spec (fun _ => 0) 10 20 (by omega) (by omega) (free0 h (by omega)) (free0 h (by omega)) B hlc hl (fun _ h' f => ⟨_, _, rfl, ?_⟩) fun y1 y2 y3 q q2 h' col' f g D R => ⟨_, _, rfl, ?_⟩
  · exact NewRow.intro rfl (one2 rfl rfl) rfl fun h10 n10 => cnot (ct rfl ⟨_, rda n10.rd rfl, ct rfl (hK _ (f.new n10))⟩)
  refine NewRow.intro rfl (one2 rfl rfl) rfl fun h10 n10 => cnot (ct rfl ⟨_, rda n10.rd rfl, cf rfl ⟨[.pointer (some q), .pointer (some q2)], rfl, cellsAll n10.rd, ?_⟩⟩)
  have D1 := D.keep n10.fr (Ag.refl _ _) (fun _ _ _ x => x)
  have R1 := R.keep n10.fr (Ag.refl _ _) (fun _ _ _ x => x)
  refine asks_spec D1 R1 (by simp only [fresh, freshR, chunks_length]) rfl rfl rfl fun h11 f11 => ⟨_, rfl, ?_⟩
  have F11 := (f.new n10).no f11
  have D2 := D1.keep f11 (Ag.refl _ _) (fun _ _ _ x => x)
  refine ct rfl ⟨_, rda ((f11.rd n10.own.lt (fun x => x)).trans n10.rd) rfl, bs, StrAt.fr F11 B nof, Image_spec D2 fun a' c' h12 f12 s12 => ⟨_, _, _, rfl, ?_⟩⟩
  have e : (fresh (chunks bs)).lasts.flatten = bs := chunks_join (by omega)
  rw [e] at s12
  refine ⟨by rw [toList_mkStr]; exact StrAt.fr (F11.no f12) B nof, bs, Sl.str s12, ?_⟩
  rw [beq_self_eq_true]
  exact hK _ (F11.no f12)
theorem makes2 {n : Int} {a : Option Addr} {l c : Nat} {bs : List UInt8} {h : Heap} {q : Option Addr} {fits : Bool} {K : Value → Heap → Prop} {col : Nat → Nat} {m : Nat} (B : StrAt h a l bs) (hlc : l ≤ c) (hl : l < 140737488355328)
    (hn : fits = true → 1 ≤ n ∧ n ≤ 16384 ∧ DiskAt h q (fresh (List.replicate n.toNat zeroBlk)) col m)
    (hK : ∀ h', Fr No h h' → K (.bool true) h') : bolelaw03_AdiskMakes.k2 n a l c h q fits K := by
  have nof : ∀ p : Addr, a = some p → ¬ No p.block := fun _ _ x => x
  refine cs (fun hf => ?_) fun _ => makes3 B hlc hl hK
  obtain ⟨n0, n1, D⟩ := hn hf
  have hlen : (fresh (List.replicate n.toNat zeroBlk)).lasts.length = n.toNat := List.length_replicate
  rw [wrap_i64 (by omega) (by omega)]
  refine Read_spec D (fun x => Bool.noConfusion x) (fun _ x => absurd (by rw [hlen]; omega) x) fun _ _ _ b h3 f3 hb o3 r3 l3 => ⟨_, _, _, _, rfl, ?_⟩
  have D3 := D.keep f3 (Ag.refl _ _) (fun _ _ _ x => x)
  refine Read_spec D3 (fun x => Bool.noConfusion x) (fun _ _ => ⟨_, _, _, _, rfl, Ad.Blocks_spec D3 ⟨_, rfl, ?_⟩⟩) fun _ _ x => by rw [hlen] at x; omega
  rw [hlen]
  have hz : readAt (fresh (List.replicate n.toNat zeroBlk)) (n - 1).toNat = zeroBlk := by
    simp only [readAt, readFrom, fresh, List.foldl_nil, List.getD_eq_getElem?_getD, List.getElem?_replicate]
    rw [if_pos (by omega)]; rfl
  rw [hz] at r3
  refine cn (fun x => absurd (by omega) x) fun _ => cn (fun x => absurd rfl x) fun _ => ⟨zeroBlk, strAll r3 List.length_replicate, by omega, New.intro fun h6 n6 => ?_⟩
  have e6 : rd h6 h3.size = zeroBlk.map bv := by
    rw [n6.rd, repCells_eq, zeroBlk, List.map_replicate]
    exact (List.flatten_replicate_singleton : (List.replicate 512 [Value.int .u8 0]).flatten = _)
  refine ⟨by rw [toList_mkStr]; exact strAll ((n6.at_ o3.lt).trans r3) List.length_replicate, zeroBlk, strAll e6 List.length_replicate, cnot (ct (beq_self_eq_true _) (cn (fun x => absurd rfl x) fun _ => ?_))⟩
  have F6 := f3.new n6
  exact makes3 (StrAt.fr F6 B nof) hlc hl fun h' f' => hK _ (F6.no f')
theorem makes1 {n n2 : Int} {a : Option Addr} {l c : Nat} {bs : List UInt8} {h : Heap} {q : Option Addr} {fits : Bool} {K : Value → Heap → Prop} {col : Nat → Nat} {m : Nat} (B : StrAt h a l bs) (hlc : l ≤ c) (hl : l < 140737488355328)
    (hn : fits = true → n2 = 0 ∧ q.isNone = false ∧ 1 ≤ n ∧ n ≤ 16384 ∧ DiskAt h q (fresh (List.replicate n.toNat zeroBlk)) col m) (hn' : fits = false → n2 = 32 ∧ q = none)
    (hK : ∀ h', Fr No h h' → K (.bool true) h') : bolelaw03_AdiskMakes.k1 n a l c h q n2 fits K := by
  cases hf : fits with
  | true =>
    obtain ⟨rfl, hq, n0, n1, D⟩ := hn hf
    exact cnot (ct rfl (cf (by rw [hq]; rfl) (cnot (ct rfl (makes2 (fits := true) B hlc hl (fun _ => ⟨n0, n1, D⟩) hK)))))
  | false =>
    obtain ⟨rfl, rfl⟩ := hn' hf
    exact cnot (ct rfl (cf rfl (cnot (cf rfl (cn (fun x => absurd rfl x) fun _ => makes2 (fits := false) (col := col) (m := m) B hlc hl (fun x => Bool.noConfusion x) hK)))))
theorem AdiskMakes_spec {n : Int} {a : Option Addr} {l c : Nat} {bs : List UInt8} {h : Heap} {K : Value → Heap → Prop} (B : StrAt h a l bs) (hlc : l ≤ c) (hl : l < 140737488355328)
    (hK : ∀ h', Fr No h h' → K (.bool true) h') : C.bolelaw03_AdiskMakes n a l c h K := by
  have nof : ∀ p : Addr, a = some p → ¬ No p.block := fun _ _ x => x
  refine bolelaw03_AdiskMakes.ok (New_spec (fun _ => 0) 10 (fun bad => ⟨_, _, rfl, ?_⟩) fun n0 n1 q h' col' f g D => ⟨_, _, rfl, ?_⟩)
  · exact cd (fun x => makes1 (col := fun _ => 0) (m := 0) B hlc hl (fun y => by have := of_decide_eq_true y; omega) (fun _ => ⟨rfl, rfl⟩) hK)
      fun x => makes1 (col := fun _ => 0) (m := 0) B hlc hl (fun y => Bool.noConfusion y) (fun _ => ⟨rfl, rfl⟩) hK
  · exact cd (fun x => makes1 (StrAt.fr f B nof) hlc hl (fun y => ⟨rfl, rfl, n0, n1, D⟩) (fun y => by have := of_decide_eq_false y; omega) fun h' f' => hK _ (f.no f')) fun x => absurd n0 x
end Go.Proofs.Ytnbfaokpaiiojaa.L3
