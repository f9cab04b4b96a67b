import Derived.Test.YtnbfaokpaiiojaaRfA
/-
  PACKAGE bolelaw03: what its laws lean on.
-/
namespace Go.Proofs.Ytnbfaokpaiiojaa.L3
open Go Go.Proofs Go.Proofs.Ytnbfaokpaiiojaa.Wx Go.Proofs.Ytnbfaokpaiiojaa.Hp Go.Proofs.Ytnbfaokpaiiojaa.W Go.Proofs.Ytnbfaokpaiiojaa.Ad Go.Proofs.Ytnbfaokpaiiojaa.Rf

theorem bv_wrap (n : Int) : (Value.int .u8 (IntKind.wrap .u8 n)) = bv (UInt8.ofNat (n % 256).toNat) := by
  simp only [bv, Value.int.injEq, true_and, IntKind.wrap, IntKind.bits, IntKind.signed, Bool.false_and, Bool.false_eq_true, if_false, Int.reducePow]
  rw [UInt8.toNat_ofNat']
  omega
theorem Sl.bound {h : Heap} {ec l c : Nat} {a : Option Addr} {xs : List Value} {F : Nat → Prop} (s : Sl h ec a l c xs F) : Sl h ec a l c xs (fun b => F b ∧ b < h.size) := by
  obtain ⟨h1, h2⟩ := s
  refine ⟨h1, ?_⟩
  cases a with
  | none => exact h2
  | some p => obtain ⟨a1, a2, a3, a4⟩ := h2; exact ⟨a1, ⟨a2, a3.lt⟩, a3, a4⟩
theorem lent_spec {a : Option Addr} {l c : Nat} {bs : List UInt8} {h : Heap} {K : Value → Heap → Prop} (B : StrAt h a l bs) (hl : l < 140737488355328)
    (hK : ∀ a' c' h', Fr No h h' → Sl h' 1 a' (l + 1) c' ((bs ++ [165]).map bv) (fun b => h.size ≤ b ∧ b < h'.size) → K (.tuple #[.slice a' l c', .slice a' (l + 1) c']) h') : C.bolelaw03_lent a l c h K := by
  obtain ⟨s1, s2, s3⟩ := StrAt.src B
  refine bolelaw03_lent.ok ⟨_, s1, s2, s3, append_nil s1 rfl (by show l * 1 ≤ _; omega) (by omega) fun a1 c1 h1 f1 t1 => New.intro fun h3 n3 => ?_⟩
  refine ⟨[bv 165], rfl, cellsAll n3.rd, by intro v hv; rw [List.mem_singleton.mp hv]; rfl, ?_⟩
  refine append_own (t1.fr n3.fr fun _ _ _ x => x) rfl rfl (by show (l + 1) * 1 ≤ _; omega) (by omega) fun a2 c2 h4 f4 t4 => ?_
  have hs := f1.size
  have hs3 := n3.size
  have f := (f1.new n3).trans f4 (fun b hb e => by have : h.size ≤ b := e; omega)
  have t : Sl h4 1 a2 (l + 1) c2 ((bs ++ [165]).map bv) (From h.size) := by
    rw [List.map_append]
    exact t4.mono fun b hb => by rcases hb with hb | hb; exact hb; show h.size ≤ b; omega
  have := t.le
  refine ⟨by omega, ?_⟩
  rw [Int.toNat_natCast]
  exact hK _ _ _ f (Sl.bound t)
theorem kept1_spec {fa : Option Addr} {n fc : Nat} {xs : List UInt8} {h : Heap} {ok : Bool} {K : Value → Heap → Prop} {F : Nat → Prop} (s : Sl h 1 fa n fc (xs.map bv) F) (hn : n ≤ 140737488355328)
    (hK : ∀ h' (ys : List UInt8), Fr F h h' → Sl h' 1 fa n fc (ys.map bv) F → K (.bool ok) h') : bolelaw03_kept.k1 fa n h ok K := by
  refine ⟨fun i hh => 0 ≤ i ∧ i ≤ n ∧ Fr F h hh ∧ ∃ ys : List UInt8, Sl hh 1 fa n fc (ys.map bv) F, fun i _ => ((n : Int) - i).toNat, ⟨by omega, by omega, Fr.refl _ _, _, s⟩, ?_⟩
  rintro i h2 ⟨i0, i1, f2, ys, s2⟩
  refine cd (fun hi => ?_) fun hi => hK _ ys f2 s2
  obtain ⟨p, rfl, c⟩ := s2.get (by omega)
  have e := s2.mk
  obtain ⟨b, o, sp⟩ := p
  have e : sp = none := by simpa using e
  subst e
  have hl := s2.1
  have hi' : i.toNat < (ys.map bv).length := by rw [hl]; omega
  obtain ⟨w1, w2⟩ := s2.wr
  have hb : F b := s2.2.2.1
  refine ⟨⟨i0, hi⟩, _, c i.toNat _ (by rw [List.getElem?_eq_getElem hi', List.getElem_map]; rfl), ⟨i0, hi⟩, os (Put.add w1 (by omega) fun h3 d3 => ?_)⟩
  rw [bv_wrap] at d3
  rw [wrap_i64 (by omega) (by omega)]
  refine ⟨⟨by omega, by omega, f2.did d3 (fun _ => hb), ?_⟩, falls (m := n) hi⟩
  have s3 := s2.putAt (j := i.toNat) (new := [_]) (by rw [List.length_singleton]; omega) d3
  rw [show put (ys.map bv) i.toNat [_] = (ys.map bv).set i.toNat _ from rfl, ← List.map_set] at s3
  exact ⟨_, s3⟩
theorem kept_spec2 {fa ba : Option Addr} {l fc bc : Nat} {bs : List UInt8} {h : Heap} {K : Value → Heap → Prop} {F : Nat → Prop} (s : Sl h 1 fa (l + 1) fc ((bs ++ [165]).map bv) F) (B : StrAt h ba l bs) (hl : l < 140737488355328)
    (hK : ∀ h' (ys : List UInt8), Fr F h h' → Sl h' 1 fa (l + 1) fc (ys.map bv) F → K (.bool true) h') : C.bolelaw03_kept fa (l + 1) fc ba l bc h K := by
  have hbl := B.1
  have hle := s.le
  refine bolelaw03_kept.ok ⟨by omega, bs, ?_, bs, B, ct (by simp) ⟨by omega, ?_⟩⟩
  · rw [Int.toNat_natCast]
    have := StrAt.take s.str (n := l) (by omega)
    rw [← hbl, List.take_left] at this
    rw [← hbl]; exact this
  obtain ⟨p, rfl, c⟩ := s.get (by omega)
  have k := kept1_spec (ok := true) s (by omega) hK
  refine ⟨165, ?_, k⟩
  rw [Int.toNat_natCast]
  exact c l _ (by rw [List.map_append, List.getElem?_append_right (by rw [List.length_map]; omega), List.length_map, hbl, Nat.sub_self]; rfl)
theorem kept_spec {fa ba : Option Addr} {l fc bc : Nat} {bs : List UInt8} {h : Heap} {K : Value → Heap → Prop} {F : Nat → Prop} (s : Sl h 1 fa (l + 1) fc ((bs ++ [165]).map bv) F) (B : StrAt h ba l bs) (hl : l < 140737488355328)
    (hK : ∀ h', Fr F h h' → K (.bool true) h') : C.bolelaw03_kept fa (l + 1) fc ba l bc h K := kept_spec2 s B hl fun h' _ f _ => hK h' f
end Go.Proofs.Ytnbfaokpaiiojaa.L3
/-
  PACKAGE bolelaw03: a pair of disks of one image; law AdiskMakes.
-/
namespace Go.Proofs.Ytnbfaokpaiiojaa.L3
open Go Go.Proofs Go.Proofs.Ytnbfaokpaiiojaa.Wx Go.Proofs.Ytnbfaokpaiiojaa.Hp Go.Proofs.Ytnbfaokpaiiojaa.W Go.Proofs.Ytnbfaokpaiiojaa.Ad Go.Proofs.Ytnbfaokpaiiojaa.Rf

theorem opened_spec {a : Option Addr} {l c : Nat} {bs : List UInt8} {h : Heap} {K : Value → Heap → Prop} (col : Nat → Nat) (m m2 : Nat) (hm0 : 0 < m) (hm : m + 5 < m2) (hf : Free h col m) (hf2 : Free h col m2) (B : StrAt h a l bs) (hlc : l ≤ c) (hl : l < 140737488355328)
    (h1 : l % 512 ≠ 0 ∨ l = 0 ∨ 16384 < l / 512 → ∀ h', Fr No h h' → K (.tuple #[.agg ⟨[.pointer none, .pointer none]⟩, .bool true]) h')
    (h2 : l % 512 = 0 → 0 < l → l / 512 ≤ 16384 → ∀ q q2 h' col', Fr No h h' → Ag h.size col col' → DiskAt h' (some q) (fresh (chunks bs)) col' m → RefAt h' (some q2) (freshR bs) col' m2 →
      K (.tuple #[.agg ⟨[.pointer (some q), .pointer (some q2)]⟩, .bool true]) h') :
    C.bolelaw03_opened a l c h K := by
  have nof : ∀ p : Addr, a = some p → ¬ No p.block := fun _ _ x => x
  refine bolelaw03_opened.ok (New.intro fun h2' n2 => lent_spec (StrAt.fr n2.fr B nof) hl fun fa fc h3 f3 s3 => ⟨_, _, _, _, _, _, rfl, ?_⟩)
  have F3 := n2.fr.no f3
  have hle := s3.le
  have hs2 := n2.size
  have hs3 := f3.size
  have B3 : StrAt h3 fa l bs := by
    have := StrAt.take s3.str (n := l) (by omega)
    rw [← B.1, List.take_left] at this
    rw [← B.1]; exact this
  have w3 : Fr No h3 h3 := Fr.refl _ _
  have fin : ∀ h5, Fr No h3 h5 → ∀ h6, Fr (fun b => h2'.size ≤ b ∧ b < h3.size) h5 h6 → Own h6 h.size ∧ (rd h6 h.size).length = 2 ∧ Fr No h h6 := by
    intro h5 f5 h6 f6
    have o5 : Own h5 h.size := f5.own (by omega) (fun x => x) (f3.own (by omega) (fun x => x) n2.own)
    have nb : ¬ (fun b => h2'.size ≤ b ∧ b < h3.size) h.size := fun x => by have := x.1; omega
    refine ⟨f6.own o5.lt nb o5, ?_, (F3.no f5).trans f6 (fun b hb e => by have := e.1; omega)⟩
    rw [f6.rd o5.lt nb, f5.rd (by omega) (fun x => x), f3.rd (by omega) (fun x => x), n2.rd]; rfl
  have hf3 := hf.upd (k := 0) (by omega) h3
  have hf3' := hf2.upd (k := 0) (by omega) h3
  refine Open_spec (upd col h.size 0) m hf3 B3 (by omega) (by omega) (fun bad => ⟨_, _, rfl, ?_⟩) fun y1 y2 y3 q h4 col4 f4 g4 D4 => ⟨_, _, rfl, ?_⟩
  · refine Of_spec col m2 (StrAt.fr F3 B nof) (by omega) (fun _ => ⟨_, _, rfl, ?_⟩) fun x1 x2 x3 => by omega
    refine kept_spec s3 (StrAt.fr F3 B nof) hl fun h6 f6 => ⟨_, rfl, ?_⟩
    obtain ⟨o6, r6, F6⟩ := fin h3 w3 h6 f6
    refine ct rfl (ct rfl (PutRow.intro (cs := [.pointer none, .pointer none]) (n := 2) o6 rfl (one2 rfl rfl) (by omega) fun h7 d7 => ⟨[.pointer none, .pointer none], rfl, cellsAll (by rw [d7.rd, put_all _ _ (by rw [r6]; rfl)]), h1 bad _ (F6.did d7 fun x => by omega)⟩))
  · refine Of_spec col4 m2 (StrAt.fr (F3.no f4) B nof) (by omega) (fun _ => by omega) fun x1 x2 x3 q2 h5 col5 f5 g5 D5 => ⟨_, _, rfl, ?_⟩
    have f35 := f4.no f5
    have g35 : Ag h3.size (upd col h.size 0) col5 := g4.trans g5 f4.size
    refine kept_spec (s3.fr f35 fun _ _ _ x => x) (StrAt.fr (F3.no f35) B nof) hl fun h6 f6 => ⟨_, rfl, ?_⟩
    obtain ⟨o6, r6, F6⟩ := fin h5 f35 h6 f6
    refine ct rfl (ct rfl (PutRow.intro (cs := [.pointer (some q), .pointer (some q2)]) (n := 2) o6 rfl (one2 rfl rfl) (by omega) fun h7 d7 => ⟨[.pointer (some q), .pointer (some q2)], rfl, cellsAll (by rw [d7.rd, put_all _ _ (by rw [r6]; rfl)]), ?_⟩))
    have F7 := F6.did d7 fun x => by omega
    have n1 : ∀ b, m ≤ col5 b → col5 b ≤ m + 5 → h3.size ≤ b := fun b c1 c2 => hf3.new g35 c1 c2
    have n2 : ∀ b, m2 ≤ col5 b → col5 b ≤ m2 + 5 → h3.size ≤ b := fun b c1 c2 => hf3'.new g35 c1 c2
    have D6 := (D4.keep f5 g5 (fun _ _ _ x => x)).keep f6 (Ag.refl _ _) (fun b c1 c2 x => by have := n1 b c1 c2; have := x.2; omega)
    have D7 := D6.keep d7.fr (Ag.refl _ _) (fun b c1 c2 x => by have := n1 b c1 c2; omega)
    have R6 := D5.keep f6 (Ag.refl _ _) (fun b c1 c2 x => by have := n2 b c1 c2; have := x.2; omega)
    have R7 := R6.keep d7.fr (Ag.refl _ _) (fun b c1 c2 x => by have := n2 b c1 c2; omega)
    exact h2 y1 y2 y3 q q2 h7 col5 F7 ((ag_upd _ _ _).trans g35 (by omega)) D7 R7
theorem asks_spec {d r : Option Addr} {h : Heap} {K : Value → Heap → Prop} {S : RD} {R : FD} {col : Nat → Nat} {m m2 : Nat} (D : DiskAt h d S col m) (D2 : RefAt h r R col m2)
    (e1 : S.lasts.length = R.first.length / 512) (e2 : S.down = R.out) (e3 : S.writes = R.writes) (e4 : S.flushes = R.flushes)
    (hK : ∀ h', Fr No h h' → K (.bool true) h') : C.bolelaw03_Pair_asks [.pointer d, .pointer r] h K := by
  refine bolelaw03_Pair_asks.ok (New.intro fun h2 n2 => ?_)
  have D' := D.keep n2.fr (Ag.refl _ _) (fun _ _ _ x => x)
  have D2' := D2.keep n2.fr (Ag.refl _ _) (fun _ _ _ x => x)
  have r0 : cellOf h2 (Addr.add ⟨h.size, 0, none⟩ 0) = some (.pointer d) := rda n2.rd rfl
  have r1 : cellOf h2 (Addr.add ⟨h.size, 0, none⟩ 1) = some (.pointer r) := rda n2.rd rfl
  refine ⟨_, r0, Ad.Steps_spec D' ⟨_, _, rfl, _, r0, _, r1, Ad.Blocks_spec D' ⟨_, rfl, r1, Rf.Blocks_spec D2' ⟨_, rfl, ce (fun _ => ⟨_, r0, _, r1, ?_⟩) fun x => absurd (by rw [e1]) x⟩⟩⟩⟩
  have D3 := D2'
  obtain ⟨b, rr, es, rfl, D3⟩ := D3
  refine os ⟨_, D3.field 4, Ad.Down_spec D' ⟨_, rfl, r1, D3.field 4, ct (by rw [D3.out, e2]; exact beq_self_eq_true _) ⟨_, r1, os ⟨_, D3.field 5, ce (fun _ => ⟨_, r1, os ⟨_, D3.field 6, ?_⟩⟩) fun x => absurd (by rw [D3.writes, e3]) x⟩⟩⟩⟩
  rw [D3.flushes, e4, beq_self_eq_true]
  exact hK _ n2.fr
end Go.Proofs.Ytnbfaokpaiiojaa.L3
/-
  LAW AdiskMakes.
-/
namespace Go.Proofs.Ytnbfaokpaiiojaa.L3
open Go Go.Proofs Go.Proofs.Ytnbfaokpaiiojaa.Wx Go.Proofs.Ytnbfaokpaiiojaa.Hp Go.Proofs.Ytnbfaokpaiiojaa.W Go.Proofs.Ytnbfaokpaiiojaa.Ad Go.Proofs.Ytnbfaokpaiiojaa.Rf

theorem free0 (h : Heap) {m : Nat} (hm : 0 < m) : Free h (fun _ => 0) m := fun _ _ h1 _ => by have h1 : m ≤ 0 := h1; omega
theorem makes3 {a : Option Addr} {l c : Nat} {bs : List UInt8} {h : Heap} {K : Value → Heap → Prop} (B : StrAt h a l bs) (hlc : l ≤ c) (hl : l < 140737488355328)
    (hK : ∀ h', Fr No h h' → K (.bool true) h') : bolelaw03_AdiskMakes.k3 a l c h K := by
  have nof : ∀ p : Addr, a = some p → ¬ No p.block := fun _ _ x => x
  have hbl := B.1
  refine opened_spec (fun _ => 0) 10 20 (by omega) (by omega) (free0 h (by omega)) (free0 h (by omega)) B hlc hl (fun _ h' f => ⟨_, _, rfl, ?_⟩) fun y1 y2 y3 q q2 h' col' f g D R => ⟨_, _, rfl, ?_⟩
  · exact NewRow.intro rfl (one2 rfl rfl) rfl fun h10 n10 => cnot (ct rfl ⟨_, rda n10.rd rfl, ct rfl (hK _ (f.new n10))⟩)
  refine NewRow.intro rfl (one2 rfl rfl) rfl fun h10 n10 => cnot (ct rfl ⟨_, rda n10.rd rfl, cf rfl ⟨[.pointer (some q), .pointer (some q2)], rfl, cellsAll n10.rd, ?_⟩⟩)
  have D1 := D.keep n10.fr (Ag.refl _ _) (fun _ _ _ x => x)
  have R1 := R.keep n10.fr (Ag.refl _ _) (fun _ _ _ x => x)
  refine asks_spec D1 R1 (by simp only [fresh, freshR, chunks_length]) rfl rfl rfl fun h11 f11 => ⟨_, rfl, ?_⟩
  have F11 := (f.new n10).no f11
  have D2 := D1.keep f11 (Ag.refl _ _) (fun _ _ _ x => x)
  refine ct rfl ⟨_, rda ((f11.rd n10.own.lt (fun x => x)).trans n10.rd) rfl, bs, StrAt.fr F11 B nof, Image_spec D2 fun a' c' h12 f12 s12 => ⟨_, _, _, rfl, ?_⟩⟩
  have e : (fresh (chunks bs)).lasts.flatten = bs := chunks_join (by omega)
  rw [e] at s12
  refine ⟨by rw [toList_mkStr]; exact StrAt.fr (F11.no f12) B nof, bs, Sl.str s12, ?_⟩
  rw [beq_self_eq_true]
  exact hK _ (F11.no f12)
theorem makes2 {n : Int} {a : Option Addr} {l c : Nat} {bs : List UInt8} {h : Heap} {q : Option Addr} {fits : Bool} {K : Value → Heap → Prop} {col : Nat → Nat} {m : Nat} (B : StrAt h a l bs) (hlc : l ≤ c) (hl : l < 140737488355328)
    (hn : fits = true → 1 ≤ n ∧ n ≤ 16384 ∧ DiskAt h q (fresh (List.replicate n.toNat zeroBlk)) col m)
    (hK : ∀ h', Fr No h h' → K (.bool true) h') : bolelaw03_AdiskMakes.k2 n a l c h q fits K := by
  have nof : ∀ p : Addr, a = some p → ¬ No p.block := fun _ _ x => x
  refine cs (fun hf => ?_) fun _ => makes3 B hlc hl hK
  obtain ⟨n0, n1, D⟩ := hn hf
  have hlen : (fresh (List.replicate n.toNat zeroBlk)).lasts.length = n.toNat := List.length_replicate
  rw [wrap_i64 (by omega) (by omega)]
  refine Read_spec D (fun x => Bool.noConfusion x) (fun _ x => absurd (by rw [hlen]; omega) x) fun _ _ _ b h3 f3 hb o3 r3 l3 => ⟨_, _, _, _, rfl, ?_⟩
  have D3 := D.keep f3 (Ag.refl _ _) (fun _ _ _ x => x)
  refine Read_spec D3 (fun x => Bool.noConfusion x) (fun _ _ => ⟨_, _, _, _, rfl, Ad.Blocks_spec D3 ⟨_, rfl, ?_⟩⟩) fun _ _ x => by rw [hlen] at x; omega
  rw [hlen]
  have hz : readAt (fresh (List.replicate n.toNat zeroBlk)) (n - 1).toNat = zeroBlk := by
    simp only [readAt, readFrom, fresh, List.foldl_nil, List.getD_eq_getElem?_getD, List.getElem?_replicate]
    rw [if_pos (by omega)]; rfl
  rw [hz] at r3
  refine cn (fun x => absurd (by omega) x) fun _ => cn (fun x => absurd rfl x) fun _ => ⟨zeroBlk, strAll r3 List.length_replicate, by omega, New.intro fun h6 n6 => ?_⟩
  have e6 : rd h6 h3.size = zeroBlk.map bv := by
    rw [n6.rd, repCells_eq, zeroBlk, List.map_replicate]
    exact (List.flatten_replicate_singleton : (List.replicate 512 [Value.int .u8 0]).flatten = _)
  refine ⟨by rw [toList_mkStr]; exact strAll ((n6.at_ o3.lt).trans r3) List.length_replicate, zeroBlk, strAll e6 List.length_replicate, cnot (ct (beq_self_eq_true _) (cn (fun x => absurd rfl x) fun _ => ?_))⟩
  have F6 := f3.new n6
  exact makes3 (StrAt.fr F6 B nof) hlc hl fun h' f' => hK _ (F6.no f')
theorem makes1 {n n2 : Int} {a : Option Addr} {l c : Nat} {bs : List UInt8} {h : Heap} {q : Option Addr} {fits : Bool} {K : Value → Heap → Prop} {col : Nat → Nat} {m : Nat} (B : StrAt h a l bs) (hlc : l ≤ c) (hl : l < 140737488355328)
    (hn : fits = true → n2 = 0 ∧ q.isNone = false ∧ 1 ≤ n ∧ n ≤ 16384 ∧ DiskAt h q (fresh (List.replicate n.toNat zeroBlk)) col m) (hn' : fits = false → n2 = 32 ∧ q = none)
    (hK : ∀ h', Fr No h h' → K (.bool true) h') : bolelaw03_AdiskMakes.k1 n a l c h q n2 fits K := by
  cases hf : fits with
  | true =>
    obtain ⟨rfl, hq, n0, n1, D⟩ := hn hf
    exact cnot (ct rfl (cf (by rw [hq]; rfl) (cnot (ct rfl (makes2 (fits := true) B hlc hl (fun _ => ⟨n0, n1, D⟩) hK)))))
  | false =>
    obtain ⟨rfl, rfl⟩ := hn' hf
    exact cnot (ct rfl (cf rfl (cnot (cf rfl (cn (fun x => absurd rfl x) fun _ => makes2 (fits := false) (col := col) (m := m) B hlc hl (fun x => Bool.noConfusion x) hK)))))
theorem AdiskMakes_spec {n : Int} {a : Option Addr} {l c : Nat} {bs : List UInt8} {h : Heap} {K : Value → Heap → Prop} (B : StrAt h a l bs) (hlc : l ≤ c) (hl : l < 140737488355328)
    (hK : ∀ h', Fr No h h' → K (.bool true) h') : C.bolelaw03_AdiskMakes n a l c h K := by
  have nof : ∀ p : Addr, a = some p → ¬ No p.block := fun _ _ x => x
  refine bolelaw03_AdiskMakes.ok (New_spec (fun _ => 0) 10 (fun bad => ⟨_, _, rfl, ?_⟩) fun n0 n1 q h' col' f g D => ⟨_, _, rfl, ?_⟩)
  · exact cd (fun x => makes1 (col := fun _ => 0) (m := 0) B hlc hl (fun y => by have := of_decide_eq_true y; omega) (fun _ => ⟨rfl, rfl⟩) hK)
      fun x => makes1 (col := fun _ => 0) (m := 0) B hlc hl (fun y => Bool.noConfusion y) (fun _ => ⟨rfl, rfl⟩) hK
  · exact cd (fun x => makes1 (StrAt.fr f B nof) hlc hl (fun y => ⟨rfl, rfl, n0, n1, D⟩) (fun y => by have := of_decide_eq_false y; omega) fun h' f' => hK _ (f.no f')) fun x => absurd n0 x
end Go.Proofs.Ytnbfaokpaiiojaa.L3
