/-
  WalHostile: the law's function answers true.
-/
import Derived.Test.YtpleolmalbdpnaaDoorWhA
namespace Go.Proofs.YtpleolmalbdpnaaDoor.Wc
open Go Go.Proofs Go.Proofs.YtpleolmalbdpnaaDoor.Wx Go.Proofs.YtpleolmalbdpnaaDoor.Hp Go.Proofs.YtpleolmalbdpnaaDoor.W Go.Proofs.YtpleolmalbdpnaaDoor.Ad Go.Proofs.YtpleolmalbdpnaaDoor.Pn

def modI (v n : Int) : Int := if Int.tmod v n < 0 then Int.tmod v n + n else Int.tmod v n
theorem modI_range {v n : Int} (h : 0 < n) : 0 ≤ modI v n ∧ modI v n < n := by
  unfold modI
  have h1 := Int.tmod_lt_of_pos v h
  have h2 : -n < Int.tmod v n := by
    have h3 := Int.tmod_lt_of_pos (-v) h
    rw [Int.neg_tmod] at h3; omega
  split <;> omega
theorem mod_spec {v n : Int} {h : Heap} {K : Value → Heap → Prop} (h0 : 0 < n) (hn : n ≤ 4611686018427387904) (hK : K (.int .i64 (modI v n)) h) : C.bolelaw05_mod v n h K := by
  have h1 := Int.tmod_lt_of_pos v h0
  have h2 : -n < Int.tmod v n := by
    have h3 := Int.tmod_lt_of_pos (-v) h0
    rw [Int.neg_tmod] at h3; omega
  refine bolelaw05_mod.ok ?_
  unfold bolelaw05_mod
  rw [if_neg (by omega)]
  unfold modI at hK
  refine cd (fun hl => ?_) fun hl => ?_
  · rw [if_pos hl] at hK
    rw [wrap_i64 (by omega) (by omega)]; exact hK
  · rw [if_neg hl] at hK; exact hK
theorem home_ents {l : Nb} {N : Nat} (h : ∀ p ∈ l, 98 ≤ p.1 ∧ p.1 < N) : ∀ e ∈ (homeS l).map Stp.ent, e.1 = 1 → e.2.1 = 1 ∨ (98 ≤ e.2.1 ∧ e.2.1 < N) := by
  intro e he h1
  obtain ⟨s, hs, rfl⟩ := List.mem_map.mp he
  rcases List.mem_append.mp hs with hs | hs
  · obtain ⟨p, hp, rfl⟩ := List.mem_map.mp hs
    exact .inr (h p hp)
  · rcases List.mem_cons.mp hs with rfl | hs
    · have h1 : (2 : Int) = 1 := h1; omega
    · rcases List.mem_cons.mp hs with rfl | hs
      · exact .inl rfl
      · rw [List.mem_singleton.mp hs] at h1
        have h1 : (2 : Int) = 1 := h1; omega
inductive Host (ls : List (List UInt8)) : Prop where
  | small : ls.length < 98 → behM (fresh ls) = ([], 31) → recM (fresh ls) = (fresh ls, 0, 31) → Host ls
  | bad : 98 ≤ ls.length → behM (fresh ls) = ([], 41) → recM (fresh ls) = (fresh ls, 0, 41) → Host ls
  | empty : 98 ≤ ls.length → behM (fresh ls) = (ls.flatten, 0) → recM (fresh ls) = (fresh ls, 0, 0) → Host ls
  | good (S2 : RD) (l : Nb) : 98 ≤ ls.length → l ≠ [] → l.length ≤ 96 → behM (fresh ls) = (S2.lasts.flatten, 0) → recM (fresh ls) = (S2, ((l.length : Nat) : Int), 0) → S2.writes = l.length + 1 → S2.flushes = 2 → S2.tape = (homeS l).map Stp.ent → (∀ p ∈ l, 98 ≤ p.1 ∧ p.1 < ls.length) → (∀ p ∈ l, p.2.length = 512) → S2.lasts.length = ls.length → Host ls
theorem host {ls : List (List UInt8)} (h5 : ∀ x ∈ ls, x.length = 512) : Host ls := by
  have hq : ∀ i < (fresh ls).lasts.length, (readAt (fresh ls) i).length = 512 := fun i hi => by
    have hi : i < ls.length := hi
    show (ls.getD i []).length = 512
    rw [List.getD_eq_getElem?_getD, List.getElem?_eq_getElem hi]
    exact h5 _ (List.getElem_mem hi)
  by_cases hn : ls.length < 98
  · have e : heldM (fresh ls) = ([], 31) := by
      unfold heldM
      rw [show (fresh ls).down = false from rfl, if_neg (by simp), if_pos (by show (ls.length : Int) < 98; omega)]
    refine .small hn ?_ ?_
    · unfold behM; rw [e, if_pos (by decide)]
    · unfold recM; rw [e, if_pos (by decide)]
  have hn : 98 ≤ ls.length := by omega
  by_cases he : (heldM (fresh ls)).2 = 0
  rotate_left
  · have e := held_41 (S := fresh ls) rfl hn he
    refine .bad hn ?_ ?_
    · unfold behM; rw [e, if_pos (by decide)]
    · unfold recM; rw [e, if_pos (by decide)]
  obtain ⟨l, e⟩ : ∃ l, heldM (fresh ls) = (l, 0) := ⟨(heldM (fresh ls)).1, by rw [← he]⟩
  have eb : behM (fresh ls) = ((behL (fresh ls) l).flatten, 0) := by unfold behM; rw [e, if_neg (fun y => y rfl)]
  by_cases hl : l = []
  · subst hl
    refine .empty hn ?_ ?_
    · rw [eb, beh_nil rfl e]; rfl
    · unfold recM; rw [e, if_neg (fun y => y rfl), if_pos rfl]
  have hr := fun p hp => held_mem (p := p) e hp
  have h5l := held_mem512 hq e
  have hlen := held_len e
  obtain ⟨S2, er, q2, el, ep, ew, ef, et, _⟩ := home_run (S := fresh ls) (l := l) ⟨rfl, rfl⟩ rfl ⟨Int.le_refl 0, by show (0 : Int) ≤ 1000000; decide⟩ ⟨Int.le_refl 0, by show (0 : Int) ≤ 1000000; decide⟩ hn (fun p hp => ⟨by have := hr p hp; omega, (hr p hp).2, h5l p hp⟩) hlen
  have ebl : behL (fresh ls) l = S2.lasts := by unfold behL; rw [seen_lasts rfl, el]
  refine .good S2 l hn hl hlen (by rw [eb, ebl]) ?_ (by rw [ew]; show (0 : Int) + _ + 1 = _; omega) (by rw [ef]; rfl) (by rw [et]; rfl) hr h5l (by rw [el, applyTo_length, applyTo_length]; rfl)
  unfold recM
  rw [e, if_neg (fun y => y rfl), if_neg hl, er, if_neg (fun y => y rfl)]
theorem ent_at {h : Heap} {a : Option Addr} {xs : List Ent} (P : SlCells h a (xs.flatMap Ent.cells)) {i : Nat} (hi : i < xs.length) : ∃ p, a = some p ∧ Cells h (p.add (i * 3)) (Ent.cells xs[i]) := by
  have hw : ∀ r ∈ xs, (Ent.cells r).length = 3 := fun _ _ => rfl
  have hl := flat_length Ent.cells 3 xs hw
  have hp := flat_part Ent.cells 3 xs hw i hi
  cases a with
  | none =>
    have c : xs.flatMap Ent.cells = [] := P
    rw [c] at hl
    exact absurd hl (by simp; omega)
  | some p =>
    refine ⟨p, rfl, ?_⟩
    have := (Cells.take (Cells.drop P (i * 3)) 3)
    rw [hp] at this
    exact this
theorem copyU {hh : Heap} {b o n m c : Nat} {bs y : List UInt8} {src : Option Addr} {k : Nat → Heap → Prop} (ow : Own hh b) (r : rd hh b = bs.map bv) (Y : StrAt hh src m y) (hl : o + n ≤ bs.length)
    (hk : ∀ j h' (bs' : List UInt8), Did b hh h' (bs'.map bv) → bs'.length = bs.length → k j h') : CopyP ti5 (some (Addr.add ⟨b, 0, none⟩ o)) n (.slice src m c) hh k := by
  rw [add_mk, Nat.zero_add]
  have lt : (y.take (min m n)).length = min m n := by rw [List.length_take, Y.1]; omega
  have T := StrAt.take Y (n := min m n) (by omega)
  refine CopyP.intro (new := (y.take (min m n)).map bv) (by rw [List.length_map, lt]; show _ = min m n * 1; omega) T.2 (bv_one _) ow (by rw [List.length_map, lt, r, List.length_map]; omega) fun h' d => ?_
  rw [r, Re.putU_put (by rw [lt]; omega)] at d
  exact hk _ h' _ d (Re.putU_length (by rw [lt]; omega))
theorem WalHostile_spec {h : Heap} {ha da : Option Addr} {hl hc dl dc : Nat} {hd dt : List UInt8} {n : Int} {K : Value → Heap → Prop} (G : Re.Glo h) (H : StrAt h ha hl hd) (Dt : StrAt h da dl dt) (hK : ∀ h', Fr No h h' → K (.bool true) h') : C.bolelaw05_WalHostile ha hl hc da dl dc n h K := by
  refine bolelaw05_WalHostile.ok (fixed_spec G fun h2 f2 => ⟨_, rfl, cf rfl (mod_spec (by decide) (by decide) ⟨_, rfl, ?_⟩)⟩)
  have hm := modI_range (v := n) (n := 60) (by decide)
  generalize modI n 60 = m at hm
  obtain ⟨N, eN⟩ : ∃ N : Nat, 90 + m = N := ⟨(90 + m).toNat, by omega⟩
  have w1 : IntKind.wrap .i64 (90 + m) = (N : Int) := by rw [wrap_i64 (by omega) (by omega)]; exact eN
  have w2 : IntKind.wrap .i64 (512 * (N : Int)) = 512 * (N : Int) := wrap_i64 (by omega) (by omega)
  have w3 : Int.toNat (512 * (N : Int)) = N * 512 := by omega
  have t5 : Int.toNat 512 = 512 := rfl
  have t10 : Int.toNat 1024 = 1024 := rfl
  rw [w1, w2, w3, t5, t10]
  refine ⟨⟨by omega, by omega, by omega, by omega⟩, New.intro fun h4 n4 => ?_⟩
  have z4 := n4.size
  have r4 : rd h4 h2.size = (List.replicate (N * 512) (0 : UInt8)).map bv := by rw [n4.rd, List.map_replicate]; rfl
  have F4 : Fr No h h4 := f2.new n4
  refine ⟨⟨by omega, by omega, by omega⟩, ?_⟩
  rw [if_neg (by omega)]
  refine copyU n4.own r4 (StrAt.fr F4 H fun _ _ y => y) (by rw [List.length_replicate]; omega) fun _ h5 b5 d5 l5 => ?_
  rw [List.length_replicate] at l5
  have z5 := d5.size
  have F5 : Fr No h h5 := F4.did d5 fun hb => by have := f2.size; omega
  refine ⟨⟨by omega, by omega⟩, ?_⟩
  rw [if_neg (by omega)]
  refine copyU d5.own d5.rd (StrAt.fr F5 Dt fun _ _ y => y) (by rw [l5]; omega) fun _ h6 im d6 l6 => ?_
  rw [l5] at l6
  have z6 := d6.size
  have F6 : Fr No h h6 := F5.did d6 fun hb => by have := f2.size; omega
  have I6 : StrAt h6 (some ⟨h2.size, 0, none⟩) (N * 512) im := strAll d6.rd l6
  refine openF_spec I6 (Nat.le_refl _) (by omega) (fun y => by exfalso; omega) fun _ _ _ q h7 D f7 hD A => ⟨_, _, rfl, cn (fun y => absurd rfl y) fun _ => cf rfl ?_⟩
  have Z7 : Dz h h7 D (some q) (fresh (chunks im)) := ⟨F6.no f7, A, fun b y => by have := hD b y; have := F6.size; omega⟩
  have nim : ∀ {h8 : Heap} {D8 : Nat → Prop}, Fr No h7 h8 → True := fun _ => trivial
  have I7 := StrAt.fr f7 I6 fun _ _ y => y
  have e5 : ∀ x ∈ chunks im, x.length = 512 := chunks_len im
  have eim : (chunks im).flatten = im := chunks_join (by rw [l6]; omega)
  have elen : (chunks im).length = N := by rw [chunks_length, l6]; omega
  unfold bolelaw05_WalHostile.k1
  refine Behind_spec (G.no Z7.f) Z7.A Z7.readLen fun a8 l8 c8 h8 f8 s8 => ⟨_, _, _, _, rfl, ?_⟩
  have Z8 := Z7.no f8
  refine diskSteps Z8.A ⟨_, _, rfl, cn (fun y => absurd rfl y) fun _ => cn (fun y => absurd rfl y) fun _ => ?_⟩
  unfold bolelaw05_WalHostile.k2
  refine Recover_spec (G.no Z8.f) Z8.A (by show 0 < 100000000; omega) (by show 0 < 100000000; omega) fun h10 D10 f10 g10 A10 => ⟨_, _, rfl, ?_⟩
  have Z10 := Z8.call f10 g10 A10
  have z7 := f7.size
  have z8 := f8.size
  have nD : ¬ D h2.size := fun y => by have := hD _ y; omega
  have I10 : StrAt h10 (some ⟨h2.size, 0, none⟩) (N * 512) im := StrAt.fr f10 (StrAt.fr f8 I7 fun _ _ y => y) fun p e y => by cases e; exact nD y
  have s10 : StrAt h10 a8 l8 (behM (fresh (chunks im))).1 := StrAt.fr f10 s8.str fun p e y => by
    subst e
    obtain ⟨_, _, g, _⟩ := s8
    have g : h7.size ≤ p.block := g
    have := A.lt y
    omega
  rw [w1]
  have hst := host e5
  generalize chunks im = ls at hst Z10 s10 eim elen A10
  refine diskSteps Z10.A ⟨_, _, rfl, ?_⟩
  clear s8
  cases hst with
  | small hn eb er =>
    rw [eb] at s10
    rw [eb, er]
    have e0 : l8 = 0 := s10.1.symm
    subst e0
    rw [elen] at hn
    rw [decide_eq_true (show (N : Int) < 98 by omega)]
    exact hK h10 Z10.f
  | bad hn eb er =>
    rw [eb] at s10
    rw [er] at Z10
    rw [eb, er]
    have e0 : l8 = 0 := s10.1.symm
    subst e0
    rw [elen] at hn
    rw [decide_eq_false (show ¬ (N : Int) < 98 by omega), w2, w3]
    show ∃ bs1 : List UInt8, _
    refine ⟨_, I10, diskImage Z10.A fun a12 c12 h12 f12 s12 => ⟨_, _, _, rfl, ?_⟩⟩
    rw [toList_mkStr]
    refine ⟨StrAt.fr f12 I10 fun _ _ y => y, _, s12.str, ?_⟩
    rw [toList_mkStr, show (fresh ls).lasts.flatten = im from eim, beq_self_eq_true]
    exact hK h12 (Z10.f.no f12)
  | empty hn eb er =>
    rw [eb] at s10
    rw [er] at Z10
    rw [eb, er]
    rw [elen] at hn
    rw [decide_eq_false (show ¬ (N : Int) < 98 by omega)]
    show ∃ bs3 : List UInt8, _
    refine ⟨_, s10, diskImage Z10.A fun a13 c13 h13 f13 s13 => ⟨_, _, _, rfl, ?_⟩⟩
    rw [toList_mkStr]
    have s13' := StrAt.fr f13 s10 fun _ _ y => y
    refine ⟨s13', _, s13.str, ?_⟩
    rw [toList_mkStr, show (fresh ls).lasts.flatten = ls.flatten from rfl, beq_self_eq_true]
    refine cf rfl ?_
    unfold bolelaw05_WalHostile.k3
    rw [w1, w2, w3]
    show ∃ bs5 : List UInt8, _
    refine ⟨_, s13', _, StrAt.fr f13 I10 fun _ _ y => y, ?_⟩
    rw [toList_mkStr, toList_mkStr, eim, beq_self_eq_true]
    exact hK h13 (Z10.f.no f13)
  | good S2 l hn hne hle eb er ew ef et hr h5l hS2 =>
    rw [eb] at s10
    rw [er] at Z10
    rw [eb, er]
    rw [elen] at hn
    rw [decide_eq_false (show ¬ (N : Int) < 98 by omega)]
    have l0 : 0 < l.length := by
      cases l with
      | nil => exact absurd rfl hne
      | cons _ _ => rw [List.length_cons]; omega
    refine cf rfl (cn (fun y => absurd rfl y) fun _ => cn (fun y => absurd rfl y) fun _ => cd (fun y => absurd y (by show ¬ ((l.length : Int) < 0); omega)) fun _ => cd (fun y => absurd y (by show ¬ ((l.length : Int) > 96); omega)) fun _ => ?_)
    refine ⟨_, s10, diskImage Z10.A fun a13 c13 h13 f13 s13 => ⟨_, _, _, rfl, ?_⟩⟩
    rw [toList_mkStr]
    have s13' := StrAt.fr f13 s10 fun _ _ y => y
    refine ⟨s13', _, s13.str, ?_⟩
    rw [toList_mkStr]
    show bif (!(S2.lasts.flatten == S2.lasts.flatten)) then _ else _
    rw [beq_self_eq_true]
    refine cf rfl ?_
    unfold bolelaw05_WalHostile.k3
    refine ce (fun y => absurd y (by show ¬ ((l.length : Int) = 0); omega)) fun _ => ?_
    have Z13 := Z10.no f13
    have tl : S2.tape.length < 1000000000 := by rw [et, List.length_map]; unfold homeS ws; rw [List.length_append, List.length_map]; show l.length + 3 < _; omega
    have tw : ∀ x ∈ S2.tape, x.2.2.length ≤ 140737488355328 := fun x hx => by
      rw [et] at hx
      obtain ⟨s, hs, rfl⟩ := List.mem_map.mp hx
      rcases List.mem_append.mp hs with hs | hs
      · obtain ⟨p, hp, rfl⟩ := List.mem_map.mp hs
        show p.2.length ≤ _
        rw [h5l p hp]; omega
      · rcases List.mem_cons.mp hs with rfl | hs
        · exact Nat.zero_le _
        · rcases List.mem_cons.mp hs with rfl | hs
          · show (Hd.zeros 512).length ≤ _
            rw [Hd.zeros_length]; omega
          · rw [List.mem_singleton.mp hs]; exact Nat.zero_le _
    refine diskTape Z13.A tl tw fun a15 l15 c15 h15 xs f15 s15 ex en ek => ⟨_, _, _, rfl, ?_⟩
    have ed : S2.tape.drop (0 : Int).toNat = S2.tape := List.drop_zero
    rw [ed] at en ek
    have hall := home_ents (N := N) (by rw [← elen]; exact hr)
    rw [← et] at hall
    refine ⟨fun i hh => ∃ k : Nat, i = k ∧ k ≤ l15 ∧ hh = h15, fun i _ => ((l15 : Int) - i).toNat, ⟨0, rfl, Nat.zero_le _, rfl⟩, ?_⟩
    rintro i h16 ⟨k, ei, hk, rfl⟩
    refine cd (fun hlt => ?_) fun hlt => ?_
    · have hk' : k < xs.length := by omega
      have hk2 : k < S2.tape.length := by omega
      have et' : Int.toNat i = k := by omega
      rw [et']
      obtain ⟨p, rfl, cc⟩ := ent_at s15 hk'
      obtain ⟨e1, e2⟩ := ek k hk' hk2
      have c0 := cc 0 _ rfl
      have c1 := cc 1 _ rfl
      have stp : (∃ k1 : Nat, IntKind.wrap .i64 (i + 1) = k1 ∧ k1 ≤ l15 ∧ h16 = h16) ∧ ((l15 : Int) - IntKind.wrap .i64 (i + 1)).toNat < ((l15 : Int) - i).toNat := by
        rw [wrap_i64 (by omega) (by omega)]
        exact ⟨⟨k + 1, by omega, by omega, rfl⟩, by omega⟩
      refine ⟨⟨by omega, hlt⟩, os ⟨_, c0, ce (fun hk1 => ?_) fun _ => stp⟩⟩
      have hb := hall _ (List.getElem_mem hk2) (by rw [← e1]; exact hk1)
      rw [← e2] at hb
      refine ⟨⟨by omega, hlt⟩, os ⟨_, c1, cn (fun hb1 => ?_) fun _ => stp⟩⟩
      refine ⟨⟨by omega, hlt⟩, os ⟨_, c1, cd (fun y => absurd y (by omega)) fun _ => ⟨⟨by omega, hlt⟩, os ⟨_, c1, ?_⟩⟩⟩⟩
      rw [w1]
      exact cd (fun y => absurd y (by omega)) fun _ => stp
    · rw [ew, ef]
      have e1 : IntKind.wrap .i64 (((l.length : Nat) : Int) + 1) = (l.length : Int) + 1 := wrap_i64 (by omega) (by omega)
      rw [e1]
      exact ce (fun _ => hK h16 (Z13.f.no f15)) fun y => absurd rfl y
end Go.Proofs.YtpleolmalbdpnaaDoor.Wc
