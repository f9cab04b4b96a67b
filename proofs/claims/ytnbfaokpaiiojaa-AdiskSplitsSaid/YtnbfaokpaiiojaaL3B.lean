/-
  PACKAGE bolelaw03: a pair of disks of one image; law AdiskMakes.
-/
import Derived.Test.YtnbfaokpaiiojaaL3A
namespace Go.Proofs.Ytnbfaokpaiiojaa.L3
open Go Go.Proofs Go.Proofs.Ytnbfaokpaiiojaa.Wx Go.Proofs.Ytnbfaokpaiiojaa.Hp Go.Proofs.Ytnbfaokpaiiojaa.W Go.Proofs.Ytnbfaokpaiiojaa.Ad Go.Proofs.Ytnbfaokpaiiojaa.Rf

theorem opened_spec {a : Option Addr} {l c : Nat} {bs : List UInt8} {h : Heap} {K : Value → Heap → Prop} (col : Nat → Nat) (m m2 : Nat) (hm0 : 0 < m) (hm : m + 5 < m2) (hf : Free h col m) (hf2 : Free h col m2) (B : StrAt h a l bs) (hlc : l ≤ c) (hl : l < 140737488355328)
    (h1 : l % 512 ≠ 0 ∨ l = 0 ∨ 16384 < l / 512 → ∀ h', Fr No h h' → K (.tuple #[.agg ⟨[.pointer none, .pointer none]⟩, .bool true]) h')
    (h2 : l % 512 = 0 → 0 < l → l / 512 ≤ 16384 → ∀ q q2 h' col', Fr No h h' → Ag h.size col col' → DiskAt h' (some q) (fresh (chunks bs)) col' m → RefAt h' (some q2) (freshR bs) col' m2 →
      K (.tuple #[.agg ⟨[.pointer (some q), .pointer (some q2)]⟩, .bool true]) h') :
    C.bolelaw03_opened a l c h K := by
  have nof : ∀ p : Addr, a = some p → ¬ No p.block := fun _ _ x => x
  refine bolelaw03_opened.ok (New.intro fun h2' n2 => lent_spec (StrAt.fr n2.fr B nof) hl fun fa fc h3 f3 s3 => ⟨_, _, _, _, _, _, rfl, ?_⟩)
  have F3 := n2.fr.no f3
  have hle := s3.le
  have hs2 := n2.size
  have hs3 := f3.size
  have B3 : StrAt h3 fa l bs := by
    have := StrAt.take s3.str (n := l) (by omega)
    rw [← B.1, List.take_left] at this
    rw [← B.1]; exact this
  have w3 : Fr No h3 h3 := Fr.refl _ _
  have fin : ∀ h5, Fr No h3 h5 → ∀ h6, Fr (fun b => h2'.size ≤ b ∧ b < h3.size) h5 h6 → Own h6 h.size ∧ (rd h6 h.size).length = 2 ∧ Fr No h h6 := by
    intro h5 f5 h6 f6
    have o5 : Own h5 h.size := f5.own (by omega) (fun x => x) (f3.own (by omega) (fun x => x) n2.own)
    have nb : ¬ (fun b => h2'.size ≤ b ∧ b < h3.size) h.size := fun x => by have := x.1; omega
    refine ⟨f6.own o5.lt nb o5, ?_, (F3.no f5).trans f6 (fun b hb e => by have := e.1; omega)⟩
    rw [f6.rd o5.lt nb, f5.rd (by omega) (fun x => x), f3.rd (by omega) (fun x => x), n2.rd]; rfl
  have hf3 := hf.upd (k := 0) (by omega) h3
  have hf3' := hf2.upd (k := 0) (by omega) h3
  refine Open_spec (upd col h.size 0) m hf3 B3 (by omega) (by omega) (fun bad => ⟨_, _, rfl, ?_⟩) fun y1 y2 y3 q h4 col4 f4 g4 D4 => ⟨_, _, rfl, ?_⟩
  · refine Of_spec col m2 (StrAt.fr F3 B nof) (by omega) (fun _ => ⟨_, _, rfl, ?_⟩) fun x1 x2 x3 => by omega
    refine kept_spec s3 (StrAt.fr F3 B nof) hl fun h6 f6 => ⟨_, rfl, ?_⟩
    obtain ⟨o6, r6, F6⟩ := fin h3 w3 h6 f6
    refine ct rfl (ct rfl (PutRow.intro (cs := [.pointer none, .pointer none]) (n := 2) o6 rfl (one2 rfl rfl) (by omega) fun h7 d7 => ⟨[.pointer none, .pointer none], rfl, cellsAll (by rw [d7.rd, put_all _ _ (by rw [r6]; rfl)]), h1 bad _ (F6.did d7 fun x => by omega)⟩))
  · refine Of_spec col4 m2 (StrAt.fr (F3.no f4) B nof) (by omega) (fun _ => by omega) fun x1 x2 x3 q2 h5 col5 f5 g5 D5 => ⟨_, _, rfl, ?_⟩
    have f35 := f4.no f5
    have g35 : Ag h3.size (upd col h.size 0) col5 := g4.trans g5 f4.size
    refine kept_spec (s3.fr f35 fun _ _ _ x => x) (StrAt.fr (F3.no f35) B nof) hl fun h6 f6 => ⟨_, rfl, ?_⟩
    obtain ⟨o6, r6, F6⟩ := fin h5 f35 h6 f6
    refine ct rfl (ct rfl (PutRow.intro (cs := [.pointer (some q), .pointer (some q2)]) (n := 2) o6 rfl (one2 rfl rfl) (by omega) fun h7 d7 => ⟨[.pointer (some q), .pointer (some q2)], rfl, cellsAll (by rw [d7.rd, put_all _ _ (by rw [r6]; rfl)]), ?_⟩))
    have F7 := F6.did d7 fun x => by omega
    have n1 : ∀ b, m ≤ col5 b → col5 b ≤ m + 5 → h3.size ≤ b := fun b c1 c2 => hf3.new g35 c1 c2
    have n2 : ∀ b, m2 ≤ col5 b → col5 b ≤ m2 + 5 → h3.size ≤ b := fun b c1 c2 => hf3'.new g35 c1 c2
    have D6 := (D4.keep f5 g5 (fun _ _ _ x => x)).keep f6 (Ag.refl _ _) (fun b c1 c2 x => by have := n1 b c1 c2; have := x.2; omega)
    have D7 := D6.keep d7.fr (Ag.refl _ _) (fun b c1 c2 x => by have := n1 b c1 c2; omega)
    have R6 := D5.keep f6 (Ag.refl _ _) (fun b c1 c2 x => by have := n2 b c1 c2; have := x.2; omega)
    have R7 := R6.keep d7.fr (Ag.refl _ _) (fun b c1 c2 x => by have := n2 b c1 c2; omega)
    exact h2 y1 y2 y3 q q2 h7 col5 F7 ((ag_upd _ _ _).trans g35 (by omega)) D7 R7
theorem asks_spec {d r : Option Addr} {h : Heap} {K : Value → Heap → Prop} {S : RD} {R : FD} {col : Nat → Nat} {m m2 : Nat} (D : DiskAt h d S col m) (D2 : RefAt h r R col m2)
    (e1 : S.lasts.length = R.first.length / 512) (e2 : S.down = R.out) (e3 : S.writes = R.writes) (e4 : S.flushes = R.flushes)
    (hK : ∀ h', Fr No h h' → K (.bool true) h') : C.bolelaw03_Pair_asks [.pointer d, .pointer r] h K := by
  refine bolelaw03_Pair_asks.ok (New.intro fun h2 n2 => ?_)
  have D' := D.keep n2.fr (Ag.refl _ _) (fun _ _ _ x => x)
  have D2' := D2.keep n2.fr (Ag.refl _ _) (fun _ _ _ x => x)
  have r0 : cellOf h2 (Addr.add ⟨h.size, 0, none⟩ 0) = some (.pointer d) := rda n2.rd rfl
  have r1 : cellOf h2 (Addr.add ⟨h.size, 0, none⟩ 1) = some (.pointer r) := rda n2.rd rfl
  refine ⟨_, r0, Ad.Steps_spec D' ⟨_, _, rfl, _, r0, _, r1, Ad.Blocks_spec D' ⟨_, rfl, r1, Rf.Blocks_spec D2' ⟨_, rfl, ce (fun _ => ⟨_, r0, _, r1, ?_⟩) fun x => absurd (by rw [e1]) x⟩⟩⟩⟩
  have D3 := D2'
  obtain ⟨b, rr, es, rfl, D3⟩ := D3
  refine os ⟨_, D3.field 4, Ad.Down_spec D' ⟨_, rfl, r1, D3.field 4, ct (by rw [D3.out, e2]; exact beq_self_eq_true _) ⟨_, r1, os ⟨_, D3.field 5, ce (fun _ => ⟨_, r1, os ⟨_, D3.field 6, ?_⟩⟩) fun x => absurd (by rw [D3.writes, e3]) x⟩⟩⟩⟩
  rw [D3.flushes, e4, beq_self_eq_true]
  exact hK _ n2.fr
end Go.Proofs.Ytnbfaokpaiiojaa.L3
