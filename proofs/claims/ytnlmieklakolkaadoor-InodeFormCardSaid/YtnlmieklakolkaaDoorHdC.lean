/-
  PACKAGE bolelaw04: what is known; law HeadOnce.
-/
import Derived.Test.YtnlmieklakolkaaDoorHdB
namespace Go.Proofs.YtnlmieklakolkaaDoor.Hd
open Go Go.Proofs Go.Proofs.YtnlmieklakolkaaDoor.Wx Go.Proofs.YtnlmieklakolkaaDoor.Hp Go.Proofs.YtnlmieklakolkaaDoor.W Go.Proofs.YtnlmieklakolkaaDoor.Su Go.Proofs.YtnlmieklakolkaaDoor.Re

def rep (x : UInt8) : List UInt8 := List.replicate 512 x
theorem rep_length (x : UInt8) : (rep x).length = 512 := List.length_replicate
theorem block_spec {x : UInt8} {h : Heap} {K : Value → Heap → Prop} (hK : ∀ h', Fr No h h' → Own h' h.size → rd h' h.size = (rep x).map bv → K (.slice (some ⟨h.size, 0, none⟩) 512 512) h') : C.bolelaw04_block (x.toNat : Int) h K := by
  refine bolelaw04_block.ok ⟨⟨by decide, by decide, by decide, by decide⟩, New.intro fun h2 n2 => ?_⟩
  have e0 : repCells z5 (Int.toNat 512) = List.replicate 0 (bv x) ++ List.replicate (512 - 0) (bv 0) := by rw [List.replicate_zero, List.nil_append]; rfl
  refine ⟨fun n hh => 0 ≤ n ∧ n ≤ 512 ∧ Fr No h hh ∧ Own hh h.size ∧ rd hh h.size = List.replicate n.toNat (bv x) ++ List.replicate (512 - n.toNat) (bv 0), fun n _ => ((512 : Nat) - n).toNat, ⟨by omega, by omega, n2.fr, n2.own, by rw [n2.rd]; exact e0⟩, ?_⟩
  rintro n h3 ⟨n0, n1, f3, o3, r3⟩
  refine cd (fun hn => ?_) fun hn => ?_
  · have hn : n < 512 := hn
    refine ⟨⟨n0, hn⟩, Put.add o3 (by rw [r3, List.length_append, List.length_replicate, List.length_replicate]; omega) fun h4 d4 => ?_⟩
    rw [wrap_i64 (by omega) (by omega)]
    refine ⟨⟨by omega, by omega, f3.did d4 (fun y => by omega), d4.own, ?_⟩, falls (m := 512) hn⟩
    rw [d4.rd, r3, Nat.zero_add, show (n + 1).toNat = n.toNat + 1 by omega, List.set_append_right _ _ (by rw [List.length_replicate]; omega), List.length_replicate, Nat.sub_self, show 512 - n.toNat = (512 - (n.toNat + 1)) + 1 by omega, List.replicate_succ, List.set_cons_zero, List.replicate_succ', List.append_assoc]
    rfl
  · have hn : ¬ n < 512 := hn
    have e : n.toNat = 512 := by omega
    rw [e, Nat.sub_self, List.replicate_zero, List.append_nil] at r3
    exact hK _ f3 o3 (by rw [r3, rep, List.map_replicate])
theorem num_spec {e : Int} {h : Heap} {K : Value → Heap → Prop} (hK : K (.int .i64 e) h) : C.bolelaw04_num e h K := bolelaw04_num.ok hK
theorem xor_inj {x a b : Int} (ha : U32 a) (hb : U32 b) (h : bitsI .xor .u32 x a = bitsI .xor .u32 x b) : a = b := by
  have h : IntKind.wrap .u32 (((BitVec.ofInt 32 x ^^^ BitVec.ofInt 32 a).toNat : Nat) : Int) = IntKind.wrap .u32 (((BitVec.ofInt 32 x ^^^ BitVec.ofInt 32 b).toNat : Nat) : Int) := h
  have l1 := (BitVec.ofInt 32 x ^^^ BitVec.ofInt 32 a).isLt
  have l2 := (BitVec.ofInt 32 x ^^^ BitVec.ofInt 32 b).isLt
  rw [wrap_u32 ⟨by omega, by omega⟩, wrap_u32 ⟨by omega, by omega⟩] at h
  have h := BitVec.eq_of_toNat_eq (Int.ofNat.inj h)
  have h := congrArg (BitVec.ofInt 32 x ^^^ ·) h
  simp only [← BitVec.xor_assoc, BitVec.xor_self, BitVec.zero_xor] at h
  have h := congrArg BitVec.toNat h
  rw [BitVec.toNat_ofInt, BitVec.toNat_ofInt] at h
  obtain ⟨a0, a1⟩ := ha
  obtain ⟨b0, b1⟩ := hb
  rw [Int.emod_eq_of_lt a0 (by exact a1), Int.emod_eq_of_lt b0 (by exact b1)] at h
  omega
set_option maxRecDepth 100000 in
theorem of_ne : ofM (rep 0) ≠ ofM (rep 1) := by decide +kernel
theorem sum_one (hd d : List UInt8) : sumM hd [d] = joinM (ofM (putU hd 12 (leB 4 0))) (ofM d) d.length := rfl
theorem sum_ne (hd : List UInt8) : sumM hd [rep 0] ≠ sumM hd [rep 1] := by
  rw [sum_one, sum_one, rep_length, rep_length]
  intro h
  exact of_ne (xor_inj (of_range _) (of_range _) h)
theorem blM_rep (x : UInt8) : blM [rep x] 1 = true := by
  rw [blM, List.all_cons, rep_length]; rfl
theorem one_dat {h : Heap} {b d : Nat} {x : UInt8} (r : rd h b = [.slice (some ⟨d, 0, none⟩) 512 512]) (rd' : rd h d = (rep x).map bv) : Dat h (some ⟨b, 0, none⟩) 1 [⟨some ⟨d, 0, none⟩, 512, 512⟩] [rep x] :=
  ⟨cellsAll r, rfl, rfl, fun i h1 h2 => by
    have : i = 0 := by have : i < 1 := h1; omega
    subst this
    exact strAll rd' (rep_length x)⟩
theorem known_spec {h : Heap} {K : Value → Heap → Prop} (g : Glo h) (hK : ∀ h', Fr No h h' → K (.bool true) h') : C.bolelaw04_known h K := by
  refine bolelaw04_known.ok (New.intro fun h2 n2 => block_spec (x := 0) fun h3 f3 o3 r3 => ⟨_, _, _, rfl, New.intro fun h4 n4 => ?_⟩)
  have hs2 := n2.size
  have hs3 := f3.size
  have hs4 := n4.size
  have F4 : Fr No h h4 := (n2.fr.no f3).new n4
  have rn : rd h4 h.size = ints [98] := (n4.at_ (by omega)).trans ((f3.rd n2.own.lt fun x => x).trans n2.rd)
  have r4 : rd h4 h2.size = (rep 0).map bv := (n4.at_ o3.lt).trans r3
  have D4 := one_dat (x := 0) n4.rd r4
  have us := sum_range (laidM [98] 0) [rep 0]
  obtain ⟨u0, u1⟩ := us
  refine Make_spec (ns := [98]) (g.no F4) (cellsAll rn) rfl (by omega) D4 (by omega) (fun x => absurd x (by decide)) (fun _ x => absurd x (by rw [show blM [rep 0] (([98] : List Int).length : Nat) = true from blM_rep 0]; exact fun y => by cases y)) fun _ _ b h5 f5 hb5 s5 => ⟨_, _, _, _, rfl, ?_⟩
  have F5 := F4.no f5
  generalize hs0 : (sumM (laidM [98] 0) [rep 0]).toNat = s0 at s5
  have hs0i : (s0 : Int) = sumM (laidM [98] 0) [rep 0] := by omega
  have hs0l : s0 < 4294967296 := by omega
  obtain ⟨d8, d10, d12, d16⟩ := laid_drops [98] s0
  refine num_spec ⟨_, rfl, cn (fun x => absurd rfl x) fun _ => cn (fun x => absurd rfl x) fun _ => ⟨⟨by omega, by omega⟩, (laidM [98] s0).take 12, StrAt.take s5.str (by decide), ?_⟩⟩
  have e12 : (laidM [98] s0).take 12 = [66, 79, 76, 69, 76, 79, 71, 49, 1, 0, 0, 0] := by
    rw [laid_split, ← List.append_assoc, ← List.append_assoc]
    exact take_app (by decide)
  rw [e12]
  refine cnot (ct (beq_self_eq_true _) ⟨⟨by omega, by omega⟩, os ⟨98, ?_, cn (fun x => absurd rfl x) fun _ => ?_⟩⟩)
  · have B := s5.str.2
    have B : Cells h5 ⟨b, 0, none⟩ ((laidM [98] s0).map bv) := B
    refine Cells.cell B (i := 16) (v := bv 98) ?_
    rw [List.getElem?_map]
    have : (laidM [98] s0)[16]? = some 98 := by
      have e := List.getElem?_drop (xs := laidM [98] s0) (i := 16) (j := 0)
      rw [d16] at e
      rw [show 16 + 0 = 16 from rfl] at e
      rw [← e]; rfl
    rw [this]; rfl
  have g5 := g.no F5
  have hnum : ∀ n, mayM [98] n = true → numsM (laidM [98] s0) n = ([98], 0) := fun n h => laid_nums h (by intro x hx; rw [List.mem_singleton.mp hx]; decide)
  have hn99 := hnum 99 (by decide)
  refine Nums_spec (n := 99) g5 s5.str s5.le (by omega) fun a8 l8 c8 h8 f8 el8 s8 => ⟨_, _, _, _, rfl, ?_⟩
  rw [hn99] at el8 s8 ⊢
  have F8 := F5.no f8
  refine Empty_spec fun h9 n9 => ⟨_, _, _, rfl, ?_⟩
  have F9 := F8.new n9
  have z9 : StrAt h9 (some ⟨h8.size, 0, none⟩) 512 (zeros 512) := strAll n9.rd (zeros_length _)
  refine Nums_spec (n := 128) (g.no F9) z9 (Nat.le_refl _) (by omega) fun a10 l10 c10 h10 f10 el10 s10 => ⟨_, _, _, _, rfl, ?_⟩
  have hz : numsM (zeros 512) 128 = ([], 0) := by
    unfold numsM
    rw [if_neg (fun x => x (zeros_length _)), if_pos (zeros_allZero _)]
  rw [hz] at el10 s10 ⊢
  have F10 := F9.no f10
  subst el8
  subst el10
  have s8' := (s8.fr n9.fr fun _ _ _ x => x).fr f10 fun _ _ _ x => x
  obtain ⟨p8, rfl, c8'⟩ := ints_get s8'.cells (i := 0) (by decide)
  refine num_spec ⟨_, rfl, ct rfl (ct rfl ⟨⟨by decide, by decide⟩, os ⟨98, c8', ct rfl (num_spec ⟨_, rfl, ct rfl (ct rfl ?_)⟩)⟩⟩)⟩
  have s10' := (((s5.fr f8 fun _ _ _ x => x).fr n9.fr fun _ _ _ x => x).fr f10 fun _ _ _ x => x)
  refine block_spec (x := 0) fun h13 f13 o13 r13 => ⟨_, _, _, rfl, New.intro fun h14 n14 => ?_⟩
  have F14 := (F10.no f13).new n14
  have D14 := one_dat (x := 0) n14.rd ((n14.at_ o13.lt).trans r13)
  have s14 := (s10'.fr f13 fun _ _ _ x => x).fr n14.fr fun _ _ _ x => x
  refine Good_spec (n := 99) (g.no F14) s14.str s14.le (by omega) D14 (by omega) fun h15 f15 => ⟨_, rfl, ?_⟩
  have lg : ∀ ds, goodM (laidM [98] s0) 99 ds = (blM ds 1 && ((s0 : Int) == sumM (laidM [98] 0) ds)) := fun ds => laid_good (by decide) (by intro x hx; rw [List.mem_singleton.mp hx]; decide) hs0l
  rw [lg, blM_rep, hs0i, beq_self_eq_true]
  refine ct rfl (block_spec (x := 1) fun h16 f16 o16 r16 => ⟨_, _, _, rfl, New.intro fun h17 n17 => ?_⟩)
  have F17 := ((F14.no f15).no f16).new n17
  have D17 := one_dat (x := 1) n17.rd ((n17.at_ o16.lt).trans r16)
  have s17 := ((s14.fr f15 fun _ _ _ x => x).fr f16 fun _ _ _ x => x).fr n17.fr fun _ _ _ x => x
  refine Good_spec (n := 99) (g.no F17) s17.str s17.le (by omega) D17 (by omega) fun h18 f18 => ⟨_, rfl, ?_⟩
  rw [lg, hs0i, show (sumM (laidM [98] 0) [rep 0] == sumM (laidM [98] 0) [rep 1]) = false from beq_eq_false_iff_ne.mpr (sum_ne _), Bool.and_false]
  exact hK h18 (F17.no f18)
theorem okGo_last {n : Int} : ∀ (ns : List Int) (last : Int), okGo n last ns = true → ∀ x ∈ ns, ∀ (h : 0 < ns.length), x ≤ ns[ns.length - 1] := by
  intro ns
  induction ns with
  | nil => intro _ _ x hx; exact absurd hx List.not_mem_nil
  | cons i r ih =>
    intro last h x hx hl
    rw [okGo, Bool.and_eq_true] at h
    cases r with
    | nil => rw [List.mem_singleton.mp hx]; exact Int.le_refl _
    | cons j s =>
      have e : (i :: j :: s)[(i :: j :: s).length - 1] = (j :: s)[(j :: s).length - 1] := by
        show (i :: j :: s)[(j :: s).length - 1 + 1] = _
        rw [List.getElem_cons_succ]
      rw [e]
      rcases List.mem_cons.mp hx with rfl | hx
      · have h2 := okGo_mem _ _ h.2 j (List.mem_cons_self ..)
        have h3 := ih x h.2 j (List.mem_cons_self ..) (by simp)
        omega
      · exact ih i h.2 x hx (by simp)
theorem okGo_big {m n : Int} : ∀ (ns : List Int) (last : Int), okGo n last ns = true → okGo m last ns = false → ∃ x ∈ ns, m ≤ x := by
  intro ns
  induction ns with
  | nil => intro _ _ h; exact absurd h (by simp [okGo])
  | cons i r ih =>
    intro last h1 h2
    rw [okGo, Bool.and_eq_true, Bool.not_eq_true', Bool.or_eq_false_iff] at h1
    rw [okGo, h1.1.1, Bool.false_or] at h2
    cases hd : decide (i ≥ m) with
    | true => exact ⟨i, List.mem_cons_self .., of_decide_eq_true hd⟩
    | false =>
      rw [hd] at h2
      obtain ⟨x, hx, hm⟩ := ih i h1.2 h2
      exact ⟨x, List.mem_cons_of_mem _ hx, hm⟩
theorem HeadOnce_spec {a da : Option Addr} {l c dl dc : Nat} {hd : List UInt8} {ss : List Sc} {ds : List (List UInt8)} {n : Int} {h : Heap} {K : Value → Heap → Prop} (g : Glo h) (B : StrAt h a l hd) (hlc : l ≤ c) (hl : l ≤ 140737488355328) (D : Dat h da dl ss ds) (hdl : dl ≤ 140737488355328)
    (hK : ∀ h', Fr No h h' → K (.bool true) h') : C.bolelaw04_HeadOnce a l c n da dl dc h K := by
  refine bolelaw04_HeadOnce.ok (known_spec g fun h2 f2 => ⟨_, rfl, cnot (ct rfl ?_)⟩)
  refine Nums_spec (n := n) (g.no f2) (StrAt.fr f2 B fun _ _ x => x) hlc hl fun a' l' c' h3 f3 el s3 => ⟨_, _, _, _, rfl, num_spec ⟨_, rfl, ?_⟩⟩
  have F3 := f2.no f3
  have B3 := StrAt.fr F3 B fun _ _ x => x
  have gd := @Good_spec a da l c dl dc hd ss ds n h3 K (g.no F3) B3 hlc hl (D.fr F3) hdl
  refine cn (fun x => ?_) fun x => ?_
  · refine Good_spec (n := n) (g.no F3) B3 hlc hl (D.fr F3) hdl fun h5 f5 => ⟨_, rfl, ?_⟩
    have : goodM hd n ds = false := by rw [goodM, show ((numsM hd n).2 == 0) = false from beq_eq_false_iff_ne.mpr x]; rfl
    rw [this]; exact hK h5 (F3.no f5)
  refine ce (fun z => ?_) fun z => ?_
  · refine Good_spec (n := n) (g.no F3) B3 hlc hl (D.fr F3) hdl fun h5 f5 => ⟨_, rfl, ?_⟩
    have e : (numsM hd n).1.isEmpty = true := List.isEmpty_iff.mpr (List.eq_nil_of_length_eq_zero (by omega))
    have : goodM hd n ds = false := by rw [goodM, e]; simp
    rw [this]; exact hK h5 (F3.no f5)
  refine Good_spec (n := n) (g.no F3) B3 hlc hl (D.fr F3) hdl fun h8 f8 => ⟨_, rfl, ?_⟩
  have F8 := F3.no f8
  refine cnot (cs (fun hg => ?_) fun hg => hK h8 F8)
  obtain ⟨e0, hne, hm, hbl, hlaid⟩ := good_laid hg
  have s8 := s3.fr f8 fun _ _ _ x => x
  obtain ⟨hmem, hl1, hl2⟩ := mayM_mem hm
  have hn98 : n > 98 := by
    cases hq : (numsM hd n).1 with
    | nil => exact absurd hq hne
    | cons x r => have := hmem x (by rw [hq]; exact List.mem_cons_self ..); omega
  refine Make_spec (g.no F8) s8.cells el.symm (by omega) (D.fr F8) hdl (fun hm2 h9 f9 => ⟨_, _, _, _, rfl, ct (decide_eq_true hn98) (num_spec ⟨_, rfl, cf rfl (num_spec ⟨_, rfl, ct rfl ?_⟩)⟩)⟩) (fun _ hb2 => by rw [hbl] at hb2; cases hb2) fun hm2 hb2 b h9 f9 hb9 s9 => ⟨_, _, _, _, rfl, ct (decide_eq_true hn98) (num_spec ⟨_, rfl, ct rfl ⟨_, s9.str, hd, StrAt.fr (F8.no f9) B fun _ _ x => x, ct ?_ (hK h9 (F8.no f9))⟩⟩)⟩
  · rw [wrap_i64 (n := (l' : Int) - 1) (by omega) (by omega)]
    have s9 := s8.fr f9 fun _ _ _ x => x
    obtain ⟨p, rfl, cp⟩ := ints_get s9.cells (i := l' - 1) (by omega)
    refine ⟨⟨by omega, by omega⟩, os ⟨_, by rw [show ((l' : Int) - 1).toNat = l' - 1 by omega]; exact cp, ?_⟩⟩
    have ok1 : okGo n 97 (numsM hd n).1 = true := by rw [mayM, Bool.and_eq_true] at hm; exact hm.1
    have ok2 : okGo 16384 97 (numsM hd n).1 = false := by
      cases hq : okGo 16384 97 (numsM hd n).1 with
      | false => rfl
      | true =>
        rw [mayM, hq, Bool.true_and] at hm2
        rw [mayM, Bool.and_eq_true] at hm
        rw [hm.2] at hm2; cases hm2
    obtain ⟨x, hx, hxm⟩ := okGo_big _ _ ok1 ok2
    have := okGo_last _ _ ok1 x hx (by omega)
    have e : (numsM hd n).1[l' - 1]'(by omega) = (numsM hd n).1[(numsM hd n).1.length - 1]'(by omega) := by congr 1; omega
    rw [decide_eq_true (show (numsM hd n).1[l' - 1]'(by omega) ≥ 16384 by rw [e]; omega)]
    exact hK h9 (F8.no f9)
  · rw [toList_mkStr, toList_mkStr, ← hlaid]; exact beq_self_eq_true _
end Go.Proofs.YtnlmieklakolkaaDoor.Hd
