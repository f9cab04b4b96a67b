/-
  LAW AdiskLasts: behind the orders.
-/
import Derived.Test.YtnbfaokpaiiojaaL3H
namespace Go.Proofs.Ytnbfaokpaiiojaa.L3
open Go Go.Proofs Go.Proofs.Ytnbfaokpaiiojaa.Wx Go.Proofs.Ytnbfaokpaiiojaa.Hp Go.Proofs.Ytnbfaokpaiiojaa.W Go.Proofs.Ytnbfaokpaiiojaa.Ad

theorem lasts1 {all : Bool} {q : Option Addr} {n2 : Int} {a : Option Addr} {c N i : Nat} {h h0 : Heap} {K : Value → Heap → Prop} {S : RD} {col : Nat → Nat} (L : La h0 q N i h S col) (hN : 1 ≤ N ∧ N ≤ 9) (hi : i ≤ 200) (hn2 : n2 = N)
    (s : Sl h 1 a (N * 512) c ((applyTo S.lasts S.pend).flatten.map bv) (On col 1)) (hK : ∀ h', Fr No h0 h' → K (.bool true) h') :
    bolelaw03_AdiskLasts.k1 all q n2 a (N * 512) c (mkStr S.lasts.flatten) h K := by
  have hLN := L.N
  have hal := applyTo_length S.pend S.lasts
  have haw := applyTo_len S.pend S.lasts L.lw L.pw
  refine ⟨fun j hh => 0 ≤ j ∧ j ≤ N ∧ Fr No h hh, fun j _ => ((N : Nat) - j).toNat, ⟨by omega, by omega, Fr.refl _ _⟩, ?_⟩
  rintro j h8 ⟨j0, j1, f8⟩
  rw [hn2]
  have D8 := L.D.keep f8 (Ag.refl _ _) (fun _ _ _ x => x)
  have s8 := s.fr f8 fun _ _ _ x => x
  refine cd (fun hj => ?_) fun hj => ?_
  · have hj' : j.toNat < S.lasts.length := by omega
    refine Read_spec D8 (fun x => by rw [L.down] at x; exact Bool.noConfusion x) (fun _ x => absurd ⟨j0, by omega⟩ x) fun _ _ _ b h9 f9 hb o9 r9 l9 => ⟨_, _, _, _, rfl, cn (fun x => absurd rfl x) fun _ => ⟨_, strAll r9 l9, ?_⟩⟩
    rw [wrap_i64 (n := j * 512) (by omega) (by omega), wrap_i64 (n := j * 512 + 512) (by omega) (by omega), wrap_i64 (n := j + 1) (by omega) (by omega)]
    have e1 : (j * 512).toNat = j.toNat * 512 := by omega
    have e2 : (j * 512 + 512).toNat - j.toNat * 512 = 512 := by omega
    have hle : N * 512 ≤ c := s.le
    have hok := sub_ok j0 hj
    have B := strSub (StrAt.fr f9 s8.str (fun _ _ x => x)) hle hok (Nat.succ_pos 511)
    have hja : j.toNat < (applyTo S.lasts S.pend).length := by rw [hal]; exact hj'
    rw [join_part _ haw _ hja] at B
    have hr : readAt S j.toNat = (applyTo S.lasts S.pend)[j.toNat] := by
      have e := readFrom_apply S.pend S.lasts j.toNat hj' L.pi
      rw [List.getElem?_eq_getElem hja] at e
      rw [readAt, List.getD_eq_getElem?_getD, List.getElem?_eq_getElem hj', Option.getD_some]
      exact Option.some.inj e
    refine ⟨by omega, _, by rw [e1, e2]; exact B, ?_⟩
    rw [hr, beq_self_eq_true]
    exact ⟨⟨by omega, by omega, f8.no f9⟩, falls hj⟩
  refine Image_spec D8 fun a3 c3 h10 f10 s10 => ⟨_, _, _, rfl, _, s10.str, cnot (ct (beq_self_eq_true _) ?_)⟩
  have D10 := D8.keep f10 (Ag.refl _ _) (fun _ _ _ x => x)
  have hpend := L.pend
  refine Pending_spec D10 (by omega) fun a4 c4 h11 f11 s11 => ⟨_, _, _, rfl, ?_⟩
  have D11 := D10.keep f11 (Ag.refl _ _) (fun _ _ _ x => x)
  have F11 : Fr No h h11 := (f8.no f10).no f11
  refine ⟨fun ka kl kc n hh => 0 ≤ n ∧ n ≤ S.pend.length ∧ kl = n.toNat ∧ Fr No h11 hh ∧ Sl hh 1 ka kl kc ((List.replicate n.toNat all).map .bool) (From h11.size), fun _ _ _ n _ => (S.pend.length - n).toNat,
    ⟨by omega, by omega, rfl, Fr.refl _ _, Sl.nil _ _ _⟩, ?_⟩
  rintro ka kl kc n h12 ⟨n0, n1, hkl, f12, s12⟩
  refine cd (fun hn => New.intro fun h13 n13 => ?_) fun hn => ?_
  · refine ⟨[.bool all], rfl, cellsAll n13.rd, by intro v hv; rw [List.mem_singleton.mp hv]; rfl, ?_⟩
    have hs13 := n13.size
    have hs12 := f12.size
    refine append_own (s12.fr n13.fr fun _ _ _ x => x) rfl rfl (by show (kl + 1) * 1 ≤ _; omega) (by omega) fun a' c' h14 f14 s14 => ?_
    rw [wrap_i64 (by omega) (by omega)]
    have ht : (n + 1).toNat = n.toNat + 1 := by omega
    refine ⟨⟨by omega, by omega, by omega, ?_, ?_⟩, falls hn⟩
    · exact (f12.new n13).trans f14 (fun b hb e => by have : h11.size ≤ b := e; omega)
    · rw [ht, List.replicate_succ', List.map_append]
      exact s14.mono fun b hb => by rcases hb with hb | hb; exact hb; show h11.size ≤ b; omega
  have en : n.toNat = S.pend.length := by omega
  rw [en] at hkl s12
  have g12 : Ag h11.size col (upd col h11.size 1) := ag_upd _ _ _
  have D12 := D11.keep f12 g12 (fun _ _ _ x => x)
  have hs11 : h0.size ≤ h11.size := Nat.le_trans L.fr.size F11.size
  refine Crash_spec (keep := List.replicate S.pend.length all) D12 (by rw [List.length_replicate, hkl]) s12.cells (fun p hp _ => ?_) fun h15 f15 D15 => ⟨rfl, ?_⟩
  · subst hp
    have : upd col h11.size 1 p.block = 1 := upd_ge s12.2.2.1
    omega
  rw [if_neg (by rw [L.down]; exact Bool.false_ne_true)] at D15
  have F12 : Fr No h h12 := F11.no f12
  have F15 : Fr No h0 h15 := (L.fr.no F12).trans f15 fun b hb x => by
    have x1 := x.1
    have x2 := x.2
    rw [upd_lt (by omega)] at x1 x2
    exact L.free b hb x1 x2
  have hs : h.size ≤ h11.size := F11.size
  have s12' : Sl h12 1 a (N * 512) c ((applyTo S.lasts S.pend).flatten.map bv) (On (upd col h11.size 1) 1) := s.keep F12 (g12.le hs) (fun _ _ x => x)
  have s15 := s12'.fr f15 fun b _ hb x => by have hb : upd col h11.size 1 b = 1 := hb; have := x.1; omega
  cases all with
  | true =>
    refine ct rfl ⟨_, s15.str, ?_⟩
    have e : (S.cut (List.replicate S.pend.length true)).lasts = applyTo S.lasts S.pend := by show applyTo S.lasts (chosen S.pend _) = _; rw [chosen_true]
    have := lasts2 (K := K) D15 rfl rfl F15 hK
    rw [e] at this; exact this
  | false =>
    refine cf rfl ?_
    have e : (S.cut (List.replicate S.pend.length false)).lasts = S.lasts := by show applyTo S.lasts (chosen S.pend _) = _; rw [chosen_false]; rfl
    have := lasts2 (K := K) D15 rfl rfl F15 hK
    rw [e] at this; exact this
end Go.Proofs.Ytnbfaokpaiiojaa.L3
