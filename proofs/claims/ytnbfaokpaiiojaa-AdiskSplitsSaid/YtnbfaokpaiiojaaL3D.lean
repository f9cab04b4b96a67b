/-
  PACKAGE bolelaw03: its smallest functions; a write or a flush by an order.
-/
import Derived.Test.YtnbfaokpaiiojaaL3A
import Derived.Test.YtnbfaokpaiiojaaAdG
namespace Go.Proofs.Ytnbfaokpaiiojaa.L3
open Go Go.Proofs Go.Proofs.Ytnbfaokpaiiojaa.Wx Go.Proofs.Ytnbfaokpaiiojaa.Hp Go.Proofs.Ytnbfaokpaiiojaa.W Go.Proofs.Ytnbfaokpaiiojaa.Ad

theorem mod_spec {v n : Int} {h : Heap} {K : Value → Heap → Prop} (h0 : 0 < n) (h1 : n ≤ 4294967296) (hK : K (.int .i64 (v % n)) h) : C.bolelaw03_mod v n h K := by
  refine bolelaw03_mod.ok ?_
  unfold bolelaw03_mod
  rw [if_neg (by omega)]
  have e := Int.tmod_eq_emod (a := v) (b := n)
  have p0 := Int.emod_nonneg v (show n ≠ 0 by omega)
  have p1 := Int.emod_lt_of_pos v h0
  refine cd (fun x => ?_) fun x => ?_
  · have : v.tmod n + n = v % n := by
      rw [e] at x ⊢
      split at x
      · omega
      · rename_i c; rw [if_neg c]; omega
    rw [this, wrap_i64 (by omega) (by omega)]; exact hK
  · have : v.tmod n = v % n := by
      rw [e] at x ⊢
      split at x
      · rename_i c; rw [if_pos c]; omega
      · rename_i c; omega
    rw [this]; exact hK
def rep (x : UInt8) : List UInt8 := List.replicate 512 x
theorem rep_length (x : UInt8) : (rep x).length = 512 := List.length_replicate
theorem block_spec {x : UInt8} {h : Heap} {K : Value → Heap → Prop} (hK : ∀ h', Fr No h h' → Own h' h.size → rd h' h.size = (rep x).map bv → K (.slice (some ⟨h.size, 0, none⟩) 512 512) h') : C.bolelaw03_block (x.toNat : Int) h K := by
  refine bolelaw03_block.ok ⟨by omega, New.intro fun h2 n2 => ?_⟩
  refine ⟨fun n hh => 0 ≤ n ∧ n ≤ 512 ∧ Fr No h hh ∧ Own hh h.size ∧ rd hh h.size = List.replicate n.toNat (bv x) ++ List.replicate (512 - n.toNat) (bv 0), fun n _ => ((512 : Nat) - n).toNat, ⟨by omega, by omega, n2.fr, n2.own, n2.rd⟩, ?_⟩
  rintro n h3 ⟨n0, n1, f3, o3, r3⟩
  refine cd (fun hn => ?_) fun hn => ?_
  · have hn : n < 512 := hn
    refine ⟨⟨n0, hn⟩, Put.add o3 (by rw [r3, List.length_append, List.length_replicate, List.length_replicate]; omega) fun h4 d4 => ?_⟩
    rw [wrap_i64 (by omega) (by omega)]
    refine ⟨⟨by omega, by omega, f3.did d4 (fun y => by omega), d4.own, ?_⟩, falls (m := 512) hn⟩
    rw [d4.rd, r3, Nat.zero_add, show (n + 1).toNat = n.toNat + 1 by omega, List.set_append_right _ _ (by rw [List.length_replicate]; omega), List.length_replicate, Nat.sub_self, show 512 - n.toNat = (512 - (n.toNat + 1)) + 1 by omega, List.replicate_succ, List.set_cons_zero, List.replicate_succ', List.append_assoc]
    rfl
  · have hn : ¬ n < 512 := hn
    have e : n.toNat = 512 := by omega
    rw [e, Nat.sub_self, List.replicate_zero, List.append_nil] at r3
    exact hK _ f3 o3 (by rw [r3, rep, List.map_replicate])

/-- an order: a block, what fills it, whether it is a flush -/
structure Ord where
  at_ : Int
  fill : UInt8
  flush : Bool
def Ord.cells (o : Ord) : List Value := [.int .i64 o.at_, bv o.fill, .bool o.flush]
def doOrd (S : RD) (o : Ord) : RD × Int := if o.flush then S.flush else S.write (o.at_ % S.lasts.length) (rep o.fill)
theorem do_spec {d : Option Addr} {o : Ord} {h : Heap} {K : Value → Heap → Prop} {S : RD} {col : Nat → Nat} {m : Nat} (D : DiskAt h d S col m) (h0 : 0 < S.lasts.length) (h1 : S.lasts.length ≤ 16384)
    (hp : S.pend.length < 1000000000) (ht : S.tape.length < 1000000000)
    (hK : ∀ h' col', Fr (Dk col m) h h' → Ag h.size col col' → DiskAt h' d (doOrd S o).1 col' m → K (.int .i64 (doOrd S o).2) h') : C.bolelaw03_do d o.cells h K := by
  refine bolelaw03_do.ok (New.intro fun h2 n2 => ⟨_, rda n2.rd rfl, ?_⟩)
  have g2 : Ag h.size col (upd col h.size (m + 6)) := ag_upd _ _ _
  have D2 := D.keep n2.fr g2 (fun _ _ _ x => x)
  have F2 : Fr (Dk col m) h h2 := n2.fr.mono fun _ _ x => x.elim
  have hs2 := n2.size
  refine cs (fun e => ?_) fun e => ?_
  · refine Flush_spec D2 ht fun h' col' f' g' D' => ⟨_, rfl, ?_⟩
    have hd : doOrd S o = S.flush := by rw [doOrd, if_pos e]
    have := hK h' col' (F2.trans f' fun x hx y => by have e := g2 x hx; exact ⟨by have := y.1; omega, by have := y.2; omega⟩) (g2.trans g' (by omega)) (by rw [hd]; exact D')
    rw [hd] at this; exact this
  · have hd : doOrd S o = S.write (o.at_ % S.lasts.length) (rep o.fill) := by rw [doOrd, if_neg (by rw [e]; exact Bool.false_ne_true)]
    refine ⟨_, rda n2.rd rfl, _, rda n2.rd rfl, Ad.Blocks_spec D2 ⟨_, rfl, rda n2.rd rfl, rda n2.rd rfl, mod_spec (by omega) (by omega) ⟨_, rfl, rda n2.rd rfl, ?_⟩⟩⟩
    refine block_spec fun h6 f6 o6 r6 => ⟨_, _, _, rfl, ?_⟩
    have g6 : Ag h2.size (upd col h.size (m + 6)) (upd (upd col h.size (m + 6)) h2.size (m + 6)) := ag_upd _ _ _
    have D6 := D2.keep f6 g6 (fun _ _ _ x => x)
    have hc6 : upd (upd col h.size (m + 6)) h2.size (m + 6) h2.size = m + 6 := upd_ge (Nat.le_refl _)
    refine Write_spec D6 (strAll r6 (rep_length _)) (fun p hp _ x => by cases hp; have x2 : upd (upd col h.size (m + 6)) h2.size (m + 6) h2.size ≤ m + 5 := x.2; omega) hp ht fun h' col' f' g' D' => ⟨_, rfl, ?_⟩
    have hs6 := f6.size
    have := hK h' col' ((F2.no f6).trans f' fun x hx y => by
      have e := g2 x hx
      have e2 := g6 x (by omega)
      exact ⟨by have := y.1; omega, by have := y.2; omega⟩) ((g2.trans g6 (by omega)).trans g' (by omega)) (by rw [hd]; exact D')
    rw [hd] at this; exact this
end Go.Proofs.Ytnbfaokpaiiojaa.L3
