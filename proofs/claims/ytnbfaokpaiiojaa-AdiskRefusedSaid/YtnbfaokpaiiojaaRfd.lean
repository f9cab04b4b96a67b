/-
  LAW AdiskRefused, the whole.
-/
import Derived.Test.YtnbfaokpaiiojaaCuC
namespace Go.Proofs.Ytnbfaokpaiiojaa.L3
open Go Go.Proofs Go.Proofs.Ytnbfaokpaiiojaa.Wx Go.Proofs.Ytnbfaokpaiiojaa.Hp Go.Proofs.Ytnbfaokpaiiojaa.W Go.Proofs.Ytnbfaokpaiiojaa.Ad

/-- one disk, and what was there before it -/
structure Ds (h0 : Heap) (q : Option Addr) (h : Heap) (col : Nat → Nat) (T : RD) : Prop where
  fr : Fr No h0 h
  base : ∀ b, b < h0.size → col b = 0
  D : DiskAt h q T col 10
theorem Ds.no {h0 h h' : Heap} {q : Option Addr} {col col' : Nat → Nat} {T : RD} (d : Ds h0 q h col T) (f : Fr No h h') (g : Ag h.size col col') : Ds h0 q h' col' T :=
  ⟨d.fr.no f, fun x hx => (g x (Nat.lt_of_lt_of_le hx d.fr.size)).trans (d.base x hx), d.D.keep f g fun _ _ _ x => x⟩
theorem Ds.dk {h0 h h' : Heap} {q : Option Addr} {col col' : Nat → Nat} {T T' : RD} (d : Ds h0 q h col T) (f : Fr (Dk col 10) h h') (g : Ag h.size col col') (D' : DiskAt h' q T' col' 10) : Ds h0 q h' col' T' :=
  ⟨d.fr.trans f fun x hx y => by have := d.base x hx; have := y.1; omega, fun x hx => (g x (Nat.lt_of_lt_of_le hx d.fr.size)).trans (d.base x hx), D'⟩
theorem rep_zero {z : List Value} (hz : z = [.int .u8 0]) (n : Nat) : repCells z n = (List.replicate n (0 : UInt8)).map bv := by
  subst hz; rw [List.map_replicate]; rfl
theorem write_no {h0 h : Heap} {q : Option Addr} {col : Nat → Nat} {T : RD} {i r : Int} {b l c : Nat} {bs : List UInt8} {K : Value → Heap → Prop} (d : Ds h0 q h col T) (hp : T.pend.length < 1000000000) (ht : T.tape.length < 1000000000)
    (B : StrAt h (some ⟨b, 0, none⟩) l bs) (hb : col b = 40) (hr : T.write i bs = (T, r)) (hK : ∀ h' col', Ds h0 q h' col' T → K (.int .i64 r) h') : C.adisk_Disk_Write q i (some ⟨b, 0, none⟩) l c h K := by
  refine Write_spec d.D B (fun p hp _ x => by cases hp; have h2 : col b ≤ 15 := x.2; omega) hp ht fun h' col' f g D' => ?_
  rw [hr] at D' ⊢
  exact hK h' col' (d.dk f g D')
theorem write_outside {T : RD} (hd : T.down = false) {i : Int} (hi : ¬ (0 ≤ i ∧ i < T.lasts.length)) (bs : List UInt8) : T.write i bs = (T, 31) := by
  rw [RD.write, if_neg (by rw [hd]; exact Bool.false_ne_true), if_pos hi]
theorem write_size {T : RD} (hd : T.down = false) {i : Int} (hi : 0 ≤ i ∧ i < T.lasts.length) {bs : List UInt8} (hb : bs.length ≠ 512) : T.write i bs = (T, 32) := by
  rw [RD.write, if_neg (by rw [hd]; exact Bool.false_ne_true), if_neg (fun x => x hi), if_pos hb]

section
variable {h0 h : Heap} {q : Option Addr} {col : Nat → Nat} {S : RD} {ls : List (List UInt8)} {N j : Nat} {K : Value → Heap → Prop}

theorem refused5 (O : On3 ls N j S) (hj : j ≤ 100) (d : Ds h0 q h col (armed S 2 [])) (hK : ∀ h', Fr No h0 h' → K (.bool true) h') : bolelaw03_AdiskRefused.k5 q h K := by
  have htl := O.tl
  have o : Ord := ⟨0, 0, true⟩
  have e1 : (armed S 2 []).flush = (armed (RD.flushed { S with flushes := IntKind.wrap .i64 (S.flushes + 1) }) 1 [], 0) := by
    rw [RD.flush, if_neg (by show ¬ S.down = true; rw [O.calm.down]; exact Bool.false_ne_true), RD.step, if_pos (by show (0 : Int) < 2; omega), if_neg (by show ¬ (2 : Int) - 1 = 0; omega)]
    rfl
  refine Flush_spec d.D (by show S.tape.length < _; omega) fun h1 col1 f1 g1 D1 => ⟨_, rfl, ?_⟩
  rw [e1] at D1 ⊢
  have d1 := d.dk f1 g1 D1
  refine ct rfl (Ad.Down_spec d1.D ⟨_, rfl, cnot (cf O.calm.down ?_)⟩)
  refine Flush_spec d1.D (by show (S.tape ++ [_]).length < _; rw [List.length_append, List.length_singleton]; omega) fun h2 col2 f2 g2 D2 => ⟨_, rfl, ?_⟩
  have e2 : ∀ T : RD, T.down = false → T.left = 1 → (T.flush.2 = 30 ∧ T.flush.1.down = true) := by
    intro T h1 h2
    rw [RD.flush, if_neg (by rw [h1]; exact Bool.false_ne_true), RD.step, if_pos (by show 0 < T.left; omega), if_pos (by show T.left - 1 = 0; omega)]
    exact ⟨rfl, rfl⟩
  obtain ⟨k1, k2⟩ := e2 (armed (RD.flushed { S with flushes := IntKind.wrap .i64 (S.flushes + 1) }) 1 []) O.calm.down rfl
  have d2 := d1.dk f2 g2 D2
  rw [k1]
  refine ct rfl (Ad.Down_spec d2.D ⟨_, rfl, ?_⟩)
  rw [k2]
  exact hK h2 d2.fr
theorem refused4 (O : On3 ls N j S) (hj : j ≤ 100) (d : Ds h0 q h col (armed S 2 [])) (hK : ∀ h', Fr No h0 h' → K (.bool true) h') : bolelaw03_AdiskRefused.k4 q S.writes S.flushes S.lasts.flatten S.pend.length h K := by
  have hpl := O.pl
  refine Ad.Steps_spec d.D ⟨_, _, rfl, cn (fun x => absurd rfl x) fun _ => cn (fun x => absurd rfl x) fun _ => ?_⟩
  refine Ad.Image_spec d.D fun a c h1 f1 s1 => ⟨_, _, _, rfl, _, s1.str, cnot (ct (beq_self_eq_true _) ?_)⟩
  have d1 := d.no f1 (Ag.refl _ _)
  refine Ad.Pending_spec d1.D (by show S.pend.length < _; omega) fun a2 c2 h2 f2 s2 => ⟨_, _, _, rfl, cn (fun x => absurd rfl x) fun _ => ?_⟩
  have d2 := d1.no f2 (Ag.refl _ _)
  exact Ad.Down_spec d2.D ⟨_, rfl, cf O.calm.down (refused5 O hj d2 hK)⟩
theorem refused3 {i size outside : Int} (hN : 0 < N) (hN2 : N ≤ 9) (O : On3 ls N j S) (hj : j ≤ 100) (d : Ds h0 q h col (armed S 2 [])) (hs : 0 ≤ size ∧ size ≤ 1500 ∧ size ≠ 512) (ho : ¬ (0 ≤ outside ∧ outside < S.lasts.length))
    (hK : ∀ h', Fr No h0 h' → K (.bool true) h') : bolelaw03_AdiskRefused.k3 i q S.writes S.flushes S.lasts.flatten S.pend.length size outside h K := by
  have hpl := O.pl
  have htl := O.tl
  have hnum := O.num
  have hd : (armed S 2 []).down = false := O.calm.down
  have hp : (armed S 2 []).pend.length < 1000000000 := by show S.pend.length < _; omega
  have ht : (armed S 2 []).tape.length < 1000000000 := by show S.tape.length < _; omega
  have hin : 0 ≤ i % (N : Int) ∧ i % (N : Int) < (armed S 2 []).lasts.length := by
    have e0 := Int.emod_nonneg i (show (N : Int) ≠ 0 by omega)
    have e1 := Int.emod_lt_of_pos i (show (0 : Int) < N by omega)
    exact ⟨e0, by show _ < ((S.lasts.length : Nat) : Int); rw [hnum]; exact e1⟩
  have hzl : (List.replicate size.toNat (0 : UInt8)).length = size.toNat := List.length_replicate
  have hzn : (List.replicate size.toNat (0 : UInt8)).length ≠ 512 := by rw [hzl]; omega
  have fin : ∀ {h1 : Heap} {col1 : Nat → Nat}, Ds h0 q h1 col1 (armed S 2 []) → bolelaw03_AdiskRefused.k4 q S.writes S.flushes S.lasts.flatten S.pend.length h1 K := fun d1 => refused4 O hj d1 hK
  refine Ad.Read_spec d.D (fun x => by rw [hd] at x; cases x) (fun _ _ => ⟨_, _, _, _, rfl, cn (fun x => absurd rfl x) fun _ => ?_⟩) (fun _ k1 k2 => absurd ⟨k1, k2⟩ ho)
  refine block_spec (x := 1) fun h1 f1 o1 r1 => ⟨_, _, _, rfl, ?_⟩
  have d1 := d.no f1 (ag_upd col h.size 40)
  refine write_no d1 hp ht (strAll r1 (rep_length _)) (upd_ge (Nat.le_refl _)) (write_outside hd ho _) fun h2 col2 d2 => ⟨_, rfl, cn (fun x => absurd rfl x) fun _ => ?_⟩
  refine ⟨⟨hs.1, Int.le_refl _, by omega, by omega⟩, New.intro fun h3 n3 => ?_⟩
  have d3 := d2.no n3.fr (ag_upd col2 h2.size 40)
  refine write_no d3 hp ht (strAll (n3.rd.trans (rep_zero rfl _)) hzl) (upd_ge (Nat.le_refl _)) (write_outside hd ho _) fun h4 col4 d4 => ⟨_, rfl, cn (fun x => absurd rfl x) fun _ => ⟨?_, ?_⟩⟩
  · refine Ad.Blocks_spec d4.D ⟨_, rfl, ?_, ?_⟩
    · show C.bolelaw03_mod i ((S.lasts.length : Nat) : Int) h4 _
      rw [hnum]
      refine mod_spec (by omega) (by omega) ⟨_, rfl, ⟨hs.1, Int.le_refl _, by omega, by omega⟩, New.intro fun h5 n5 => ?_⟩
      have d5 := d4.no n5.fr (ag_upd col4 h4.size 40)
      exact write_no d5 hp ht (strAll (n5.rd.trans (rep_zero rfl _)) hzl) (upd_ge (Nat.le_refl _)) (write_size hd hin hzn) fun h6 col6 d6 => ⟨_, rfl, cn (fun x => absurd rfl x) fun _ => fin d6⟩
    · refine ⟨⟨hs.1, Int.le_refl _, by omega, by omega⟩, New.intro fun h5 n5 => ?_⟩
      have d5 := d4.no n5.fr (ag_upd col4 h4.size 40)
      show C.bolelaw03_mod i ((S.lasts.length : Nat) : Int) h5 _
      rw [hnum]
      refine mod_spec (by omega) (by omega) ⟨_, rfl, ?_⟩
      exact write_no d5 hp ht (strAll (n5.rd.trans (rep_zero rfl _)) hzl) (upd_ge (Nat.le_refl _)) (write_size hd hin hzn) fun h6 col6 d6 => ⟨_, rfl, cn (fun x => absurd rfl x) fun _ => fin d6⟩
  · refine ⟨⟨hs.1, Int.le_refl _, by omega, by omega⟩, New.intro fun h5 n5 => ?_⟩
    have d5 := d4.no n5.fr (ag_upd col4 h4.size 40)
    refine Ad.Blocks_spec d5.D ⟨_, rfl, ?_⟩
    show C.bolelaw03_mod i ((S.lasts.length : Nat) : Int) h5 _
    rw [hnum]
    refine mod_spec (by omega) (by omega) ⟨_, rfl, ?_⟩
    exact write_no d5 hp ht (strAll (n5.rd.trans (rep_zero rfl _)) hzl) (upd_ge (Nat.le_refl _)) (write_size hd hin hzn) fun h6 col6 d6 => ⟨_, rfl, cn (fun x => absurd rfl x) fun _ => fin d6⟩
theorem refused1 {i more : Int} (hi : -9223372036854775808 ≤ i) (hi2 : i ≤ 9223372036854775807) (hN : 0 < N) (hN2 : N ≤ 9) (O : On3 ls N j S) (hj : j ≤ 100) (d : Ds h0 q h col S) (hK : ∀ h', Fr No h0 h' → K (.bool true) h') : bolelaw03_AdiskRefused.k1 i more q h K := by
  have hpl := O.pl
  have hnum := O.num
  refine Arm_spec (keep := []) d.D (by omega) rfl rfl (by omega) fun h1 col1 f1 g1 D1 => ⟨_, rfl, ?_⟩
  have eA : S.arm 2 [] = (armed S 2 [], 0) := by rw [RD.arm, if_neg (by rw [O.calm.down]; exact Bool.false_ne_true), if_neg (by omega)]; rfl
  rw [eA] at D1 ⊢
  have d1 := d.dk f1 g1 D1
  refine cn (fun x => absurd rfl x) fun _ => Ad.Steps_spec d1.D ⟨_, _, rfl, Ad.Image_spec d1.D fun a2 c2 h2 f2 s2 => ⟨_, _, _, rfl, _, s2.str, ?_⟩⟩
  have d2 := d1.no f2 (Ag.refl _ _)
  refine Ad.Pending_spec d2.D (by show S.pend.length < _; omega) fun a3 c3 h3 f3 s3 => ⟨_, _, _, rfl, mod_spec (by decide) (by decide) ⟨_, rfl, ?_⟩⟩
  have d3 := d2.no f3 (Ag.refl _ _)
  have m0 := Int.emod_nonneg more (show (1500 : Int) ≠ 0 by decide)
  have m1 := Int.emod_lt_of_pos more (show (0 : Int) < 1500 by decide)
  have two : ∀ size : Int, 0 ≤ size ∧ size ≤ 1500 ∧ size ≠ 512 → bolelaw03_AdiskRefused.k2 i q S.writes S.flushes S.lasts.flatten S.pend.length h3 size K := by
    intro size hs
    refine cd (fun h0 => Ad.Blocks_spec d3.D ⟨_, rfl, cd (fun h1 => ?_) fun h1 => ?_⟩) fun h0 => refused3 hN hN2 O hj d3 hs (by omega) hK
    · rw [wrap_i64 (by omega) (by omega)]
      exact refused3 hN hN2 O hj d3 hs (by omega) hK
    · exact refused3 hN hN2 O hj d3 hs (by have h1 : ¬ i < ((S.lasts.length : Nat) : Int) := h1; omega) hK
  exact ce (fun e => two 0 (by omega)) fun e => two _ (by omega)
end
theorem AdiskRefused_spec {n i more : Int} {pa : Option Addr} {pl pc : Nat} {os : List Ord} {h : Heap} {K : Value → Heap → Prop} (hi : -9223372036854775808 ≤ i) (hi2 : i ≤ 9223372036854775807)
    (P : SlCells h pa (os.flatMap Ord.cells)) (hos : os.length = pl)
    (hK : ∀ h', Fr No h h' → K (.bool true) h') : C.bolelaw03_AdiskRefused n pa pl pc i more h K := by
  have hm0 := Int.emod_nonneg n (show (9 : Int) ≠ 0 by decide)
  have hm1 := Int.emod_lt_of_pos n (show (0 : Int) < 9 by decide)
  have hN : 1 ≤ many n ∧ many n ≤ 9 := by unfold many; omega
  have hbn : (blocks0 (many n)).length = many n := by rw [blocks0, List.length_map, List.length_range]
  refine bolelaw03_AdiskRefused.ok (fresh_spec (fun _ => 0) 10 1 (Or.inl (by omega)) (free0 h (by omega)) fun q a c h2 col2 f2 g2 D2 new2 s2 hp2 => ⟨_, _, _, _, rfl, cf rfl ?_⟩)
  have O2 : On3 (blocks0 (many n)) (many n) 0 (Ad.fresh (blocks0 (many n))) :=
    ⟨Calm.fresh (blocks0_len _), hbn, rfl, Nat.le_refl _, Int.le_refl _, Int.le_refl _, rfl, fun _ h => absurd h List.not_mem_nil, ⟨rfl, rfl⟩, Calm.fresh (blocks0_len _)⟩
  refine ⟨fun k hh => 0 ≤ k ∧ k ≤ 30 ∧ ∃ S col, Ds h (some q) hh col S ∧ On3 (blocks0 (many n)) (many n) k.toNat S, fun k _ => ((pl : Nat) - k).toNat,
    ⟨by omega, by omega, _, col2, ⟨f2, fun b hb => g2 b hb, D2⟩, O2⟩, ?_⟩
  rintro k h4 ⟨k0, k1, S, col, d4, O⟩
  have hpl := O.pl
  have htl := O.tl
  have hnum := O.num
  refine cd (fun hk => ?_) fun hk => refused1 hi hi2 (by omega) (by omega) O (by omega) d4 hK
  have hk' : k.toNat < os.length := by omega
  obtain ⟨p, rfl, hc⟩ := ord_part (pl := pl) (SlCells.fr d4.fr P fun _ _ x => x) hk'
  refine ⟨⟨k0, hk⟩, Hp.os ⟨_, rfl, hc, NewRow.intro rfl (ord_one _) rfl fun h5 n5 => ?_⟩⟩
  have d5 := d4.no n5.fr (ag_upd col h4.size 40)
  refine cd (fun h30 => refused1 hi hi2 (by omega) (by omega) O (by omega) d5 hK) fun h30 => ⟨_, rfl, cellsAll n5.rd, ?_⟩
  refine do_spec d5.D (by omega) (by omega) (by omega) (by omega) fun h6 col6 f6 g6 D6 => ⟨_, rfl, ?_⟩
  obtain ⟨O', z'⟩ := O.step (by omega) (by omega) os[k.toNat]
  rw [z', wrap_i64 (by omega) (by omega)]
  exact cn (fun x => absurd rfl x) fun _ => ⟨⟨by omega, by omega, _, col6, d5.dk f6 g6 D6, by rw [show (k + 1).toNat = k.toNat + 1 by omega]; exact O'⟩, falls hk⟩
end Go.Proofs.Ytnbfaokpaiiojaa.L3
