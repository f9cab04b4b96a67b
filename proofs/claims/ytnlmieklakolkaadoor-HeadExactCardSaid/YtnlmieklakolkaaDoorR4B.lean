/-
  PACKAGE boleref04: its functions answer as those of package head.
-/
import Derived.Test.YtnlmieklakolkaaDoorR4A
namespace Go.Proofs.YtnlmieklakolkaaDoor.Cr
open Go Go.Proofs Go.Proofs.YtnlmieklakolkaaDoor.Wx Go.Proofs.YtnlmieklakolkaaDoor.Hp Go.Proofs.YtnlmieklakolkaaDoor.W Go.Proofs.YtnlmieklakolkaaDoor.Su Go.Proofs.YtnlmieklakolkaaDoor.Re Go.Proofs.YtnlmieklakolkaaDoor.Hd

theorem markH_size (h : Heap) (b : Nat) : (markH h b).size = h.size := by
  unfold markH; split
  · rw [Array.size_modify]
  · rfl
theorem markH_rd (h : Heap) (b c : Nat) : rd (markH h b) c = rd h c := by
  unfold markH; split
  · rename_i cs e T hb
    simp only [rd, Array.getElem?_modify]
    by_cases hc : b = c
    · subst hc
      rw [if_pos rfl, hb]; rfl
    · rw [if_neg hc]
  · rfl
theorem Fr.markH {F : Nat → Prop} {h h' : Heap} {b : Nat} (f : Fr F h h') (hb : F b ∨ h.size ≤ b) : Fr F h (markH h' b) := by
  refine ⟨by rw [markH_size]; exact f.size, fun c hc hF => ?_⟩
  rw [← f.same c hc hF]
  unfold Wx.markH; split
  · rw [Array.getElem?_modify, if_neg]
    intro e; subst e
    rcases hb with hb | hb
    · exact hF hb
    · omega
  · rfl
theorem MarkAt.intro {p : Addr} {h : Heap} {k : Heap → Prop} (H : k (markH h p.block)) : MarkAt p h k := H
/-- append, where there is no room -/
theorem append_grow {elem : TI} {e : Nat} {a : Option Addr} {l c n : Nat} {old new : List Value} {h : Heap} {k : Option Addr → Nat → Nat → Heap → Prop}
    (ho : old.length = l * elem.cells) (S : SlCells h a old) (hn : new.length = n * elem.cells) (hz : elem.zero.length = elem.cells) (hb : (l + n) * elem.bytes ≤ 140737488355328) (hb' : l + n ≤ 140737488355328) (hc : c < l + n)
    (hk : ∀ c' h', Fr No h h' → Sl h' elem.cells (some ⟨h.size, 0, none⟩) (l + n) c' (old ++ new) (fun b => b = h.size) → k (some ⟨h.size, 0, none⟩) (l + n) c' h') :
    AppendP elem e a l c n new h k := by
  refine ⟨old, ho, S, hb, hb', fun x => absurd x (by omega), fun _ cap hcap => ?_⟩
  refine hk cap _ (fr_newO _ _) (Sl.new h elem.cells e (l + n) cap (old ++ new) _ _ rfl (by rw [List.length_append, ho, hn, Nat.add_mul]) hcap ?_)
  rw [length_repCells, hz]
/-- append to a row that lies behind h0 -/
theorem append_from {elem : TI} {e : Nat} {a : Option Addr} {l c n : Nat} {xs new : List Value} {h0 h : Heap} {k : Option Addr → Nat → Nat → Heap → Prop} (f : Fr No h0 h)
    (s : Sl h elem.cells a l c xs (From h0.size)) (hn : new.length = n * elem.cells) (hz : elem.zero.length = elem.cells) (hb : (l + n) * elem.bytes ≤ 140737488355328) (hb' : l + n ≤ 140737488355328)
    (hk : ∀ a' c' h', Fr No h0 h' → Sl h' elem.cells a' (l + n) c' (xs ++ new) (From h0.size) → k a' (l + n) c' h') :
    AppendP elem e a l c n new h k := by
  have hs := f.size
  refine append_own s hn hz hb hb' fun a' c' h' f' s' => hk a' c' h' (f.trans f' fun b hb e => by have : h0.size ≤ b := e; omega) (s'.mono fun b hb => ?_)
  rcases hb with hb | hb
  · exact hb
  · show h0.size ≤ b; omega

theorem rMay_spec {a : Option Addr} {l c : Nat} {ns : List Int} {n : Int} {h : Heap} {K : Value → Heap → Prop} (B : SlCells h a (ints ns)) (hn : ns.length = l) (hl : l ≤ 140737488355328)
    (hK : K (.bool (mayM ns n)) h) : C.boleref04_may a l c n h K := by
  unfold mayM at hK
  rw [hn] at hK
  refine boleref04_may.ok (cd (fun x => ?_) fun x => cd (fun y => ?_) fun y => ?_)
  · rw [decide_eq_false (show ¬ ((l : Int) ≥ 1) by omega), Bool.false_and, Bool.and_false] at hK; exact hK
  · rw [decide_eq_false (show ¬ ((l : Int) ≤ 96) by omega), Bool.and_false, Bool.and_false] at hK; exact hK
  rw [decide_eq_true (show (l : Int) ≥ 1 by omega), decide_eq_true (show (l : Int) ≤ 96 by omega), Bool.and_self, Bool.and_true] at hK
  unfold boleref04_may.k1
  refine ⟨fun last i hh => 0 ≤ i ∧ i ≤ l ∧ h = hh ∧ okGo n 97 ns = okGo n last (ns.drop i.toNat), fun _ i _ => ((l : Int) - i).toNat, ⟨by omega, by omega, rfl, rfl⟩, ?_⟩
  rintro last i _ ⟨i0, i1, rfl, e⟩
  refine cd (fun hi => ?_) fun hi => ?_
  · have hi' : i.toNat < ns.length := by omega
    obtain ⟨p, rfl, c5⟩ := ints_get B hi'
    rw [List.drop_eq_getElem_cons hi', okGo] at e
    refine ⟨⟨i0, hi⟩, os ⟨_, c5, cd (fun h1 => ?_) fun h1 => ⟨⟨i0, hi⟩, os ⟨_, c5, cd (fun h2 => ?_) fun h2 => ⟨⟨i0, hi⟩, os ⟨_, c5, ?_⟩⟩⟩⟩⟩⟩
    · rw [decide_eq_true h1, Bool.true_or] at e
      have : okGo n 97 ns = false := e
      rw [this] at hK; exact hK
    · rw [decide_eq_true h2, Bool.or_true] at e
      have : okGo n 97 ns = false := e
      rw [this] at hK; exact hK
    · rw [decide_eq_false h1, decide_eq_false h2] at e
      rw [wrap_i64 (by omega) (by omega)]
      exact ⟨⟨by omega, by omega, rfl, by rw [e, show (i + 1).toNat = i.toNat + 1 by omega]; rfl⟩, falls hi⟩
  · rw [List.drop_of_length_le (by omega)] at e
    have e1 : okGo n 97 ns = true := e
    rw [e1] at hK; exact hK
theorem rBlocks_spec {a : Option Addr} {l c : Nat} {ss : List Sc} {ds : List (List UInt8)} {n : Int} {h : Heap} {K : Value → Heap → Prop} (D : Dat h a l ss ds) (hl : l ≤ 140737488355328)
    (hK : K (.bool (blM ds n)) h) : C.boleref04_blocks a l c n h K := by
  have h1 := D.num
  have h2 := D.len
  unfold blM at hK
  refine boleref04_blocks.ok (cn (fun x => ?_) fun x => ?_)
  · rw [show ((ds.length : Int) == n) = false from beq_eq_false_iff_ne.mpr (by omega), Bool.and_false] at hK; exact hK
  rw [show ((ds.length : Int) == n) = true from beq_iff_eq.mpr (by omega), Bool.and_true] at hK
  refine ⟨fun k hh => 0 ≤ k ∧ k ≤ l ∧ h = hh ∧ ds.all (fun d => d.length == 512) = (ds.drop k.toNat).all (fun d => d.length == 512), fun k _ => ((l : Int) - k).toNat, ⟨by omega, by omega, rfl, rfl⟩, ?_⟩
  rintro k _ ⟨k0, k1, rfl, e⟩
  refine cd (fun hk => ?_) fun hk => ?_
  · obtain ⟨p, s, b, rfl, cp, hb, S⟩ := D.get (i := k.toNat) (by omega)
    have hk' : k.toNat < ds.length := by omega
    rw [List.getElem?_eq_getElem hk'] at hb
    have hb := Option.some.inj hb
    rw [List.drop_eq_getElem_cons hk', List.all_cons, hb] at e
    have sl := S.1
    refine ⟨⟨k0, hk⟩, os ⟨_, _, _, cp, cn (fun x => ?_) fun x => ?_⟩⟩
    · have : (b.length == 512) = false := by rw [beq_eq_false_iff_ne]; omega
      rw [this] at e
      rw [e] at hK; exact hK
    · have : (b.length == 512) = true := by rw [beq_iff_eq]; omega
      rw [this] at e
      rw [wrap_i64 (by omega) (by omega)]
      exact ⟨⟨by omega, by omega, rfl, by rw [e, show (k + 1).toNat = k.toNat + 1 by omega]; rfl⟩, falls hk⟩
  · rw [List.drop_of_length_le (by omega)] at e
    rw [e] at hK; exact hK
theorem bv_nat (m : Nat) : (Value.int .u8 (IntKind.wrap .u8 (m : Int))) = bv (UInt8.ofNat m) := by
  rw [bv_wrap]
  congr 1
  apply UInt8.toNat_inj.mp
  rw [UInt8.toNat_ofNat', UInt8.toNat_ofNat']; omega
theorem fd8 (v : Nat) : Int.fdiv (v : Int) 256 = ((v / 256 ^ 1 : Nat) : Int) := by rw [Int.fdiv_eq_ediv_of_nonneg _ (by decide)]; omega
theorem fd16 (v : Nat) : Int.fdiv (v : Int) 65536 = ((v / 256 ^ 2 : Nat) : Int) := by rw [Int.fdiv_eq_ediv_of_nonneg _ (by decide)]; omega
theorem fd24 (v : Nat) : Int.fdiv (v : Int) 16777216 = ((v / 256 ^ 3 : Nat) : Int) := by rw [Int.fdiv_eq_ediv_of_nonneg _ (by decide)]; omega
theorem four (v : Nat) : [Value.int .u8 (IntKind.wrap .u8 (v : Int)), .int .u8 (IntKind.wrap .u8 (Int.fdiv (v : Int) 256)), .int .u8 (IntKind.wrap .u8 (Int.fdiv (v : Int) 65536)), .int .u8 (IntKind.wrap .u8 (Int.fdiv (v : Int) 16777216))] = (leB 4 v).map bv := by
  rw [fd8, fd16, fd24, bv_nat, bv_nat, bv_nat, bv_nat]
  show _ = [bv (UInt8.ofNat (v / 256 ^ 0)), bv (UInt8.ofNat (v / 256 ^ 1)), bv (UInt8.ofNat (v / 256 ^ 2)), bv (UInt8.ofNat (v / 256 ^ 3))]
  rw [Nat.pow_zero, Nat.div_one]
theorem two (l : Nat) (hl : l ≤ 140737488355328) : [Value.int .u8 (IntKind.wrap .u8 (l : Int)), .int .u8 (IntKind.wrap .u8 (IntKind.wrap .i64 (Int.tdiv (l : Int) 256))), .int .u8 0, .int .u8 0] = (leB 2 l ++ zeros 2).map bv := by
  have e : Int.tdiv (l : Int) 256 = ((l / 256 ^ 1 : Nat) : Int) := by rw [Int.tdiv_eq_ediv_of_nonneg (by omega)]; omega
  rw [e, wrap_i64 (by omega) (by omega), bv_nat, bv_nat]
  show _ = [bv (UInt8.ofNat (l / 256 ^ 0)), bv (UInt8.ofNat (l / 256 ^ 1)), bv 0, bv 0]
  rw [Nat.pow_zero, Nat.div_one]; rfl
def front (l s : Nat) : List UInt8 := magicL ++ leB 2 l ++ zeros 2 ++ leB 4 s
theorem front_length (l s : Nat) : (front l s).length = 16 := by simp only [front, List.length_append, leB_length, zeros_length]; rfl
theorem laid_front (ns : List Int) (s : Nat) : laidM ns s = front ns.length s ++ flat4 ns ++ zeros (496 - 4 * ns.length) := rfl
theorem rLaid_spec {a : Option Addr} {l c s : Nat} {ns : List Int} {h : Heap} {K : Value → Heap → Prop} (B : SlCells h a (ints ns)) (hn : ns.length = l) (hl : l ≤ 96) (hx : ∀ x ∈ ns, 0 ≤ x ∧ x < 4294967296)
    (hK : ∀ a' c' h', Fr No h h' → Sl h' 1 a' 512 c' ((laidM ns s).map bv) (From h.size) → K (.slice a' 512 c') h') : C.boleref04_laid a l c (s : Int) h K := by
  refine boleref04_laid.ok (New.intro fun h2 n2 => ?_)
  have hs2 := n2.size
  refine MarkAt.intro (New.intro fun h4 n4 => ?_)
  have hs3 : (markH h2 (Addr.block ⟨h.size, 0, none⟩)).size = h.size + 1 := by rw [markH_size, hs2]
  have F3 : Fr No h (markH h2 (Addr.block ⟨h.size, 0, none⟩)) := Fr.markH n2.fr (Or.inr (Nat.le_refl _))
  have hs4 := n4.size
  have F4 := F3.new n4
  have r4 : rd h4 h.size = magicL.map bv := by
    rw [n4.at_ (by omega), markH_rd, n2.rd]; rfl
  have m8 : SlCells h4 (some ⟨h.size, 0, none⟩) (magicL.map bv) := cellsAll r4
  refine ⟨_, rfl, cellsAll (n4.rd.trans (two l (by omega))), bv_one _, append_grow (old := magicL.map bv) rfl m8 rfl rfl (by decide) (by decide) (by decide) fun c5 h5 f5 s5 => ?_⟩
  have F5 := F4.no f5
  have s5 : Sl h5 1 (some ⟨h4.size, 0, none⟩) 12 c5 ((magicL ++ leB 2 l ++ zeros 2).map bv) (From h.size) := by
    have := s5.mono (G := From h.size) fun b hb => by show h.size ≤ b; omega
    rw [← List.map_append, ← List.append_assoc] at this; exact this
  refine New.intro fun h6 n6 => ?_
  have F6 := F5.new n6
  refine ⟨_, rfl, cellsAll (n6.rd.trans (four s)), bv_one _, append_from F6 (s5.fr n6.fr fun _ _ _ x => x) rfl rfl (by decide) (by decide) fun a7 c7 h7 f7 s7 => ?_⟩
  have s7 : Sl h7 1 a7 16 c7 ((front l s ++ flat4 (ns.take (0 : Int).toNat)).map bv) (From h.size) := by
    have e : front l s ++ flat4 (ns.take (0 : Int).toNat) = front l s := List.append_nil _
    rw [e, front, List.map_append]; exact s7
  refine ⟨fun a8 l8 c8 i hh => 0 ≤ i ∧ i ≤ l ∧ l8 = 16 + 4 * i.toNat ∧ Fr No h hh ∧ Sl hh 1 a8 l8 c8 ((front l s ++ flat4 (ns.take i.toNat)).map bv) (From h.size), fun _ _ _ i _ => ((l : Int) - i).toNat, ⟨by omega, by omega, rfl, f7, s7⟩, ?_⟩
  rintro a8 l8 c8 i h8 ⟨i0, i1, rfl, f8, s8⟩
  refine cd (fun hi => ?_) fun hi => ?_
  · have hi' : i.toNat < ns.length := by omega
    obtain ⟨p, rfl, c5⟩ := ints_get (SlCells.fr f8 B fun _ _ x => x) hi'
    have hb := hx _ (List.getElem_mem hi')
    refine ⟨⟨i0, hi⟩, os ⟨_, c5, ⟨i0, hi⟩, os ⟨_, c5, ⟨i0, hi⟩, os ⟨_, c5, ⟨i0, hi⟩, os ⟨_, c5, New.intro fun h9 n9 => ?_⟩⟩⟩⟩⟩
    have F9 := f8.new n9
    have ev : ns[i.toNat] = ((ns[i.toNat].toNat : Nat) : Int) := by omega
    have r9 : rd h9 h8.size = (leB 4 ns[i.toNat].toNat).map bv := by
      rw [n9.rd]
      conv => lhs; rw [ev]
      exact four _
    refine ⟨_, rfl, cellsAll r9, bv_one _, append_from F9 (s8.fr n9.fr fun _ _ _ x => x) rfl rfl (by show (16 + 4 * i.toNat + 4) * 1 ≤ _; omega) (by omega) fun a10 c10 h10 f10 s10 => ?_⟩
    rw [wrap_i64 (by omega) (by omega)]
    refine ⟨⟨by omega, by omega, by omega, f10, ?_⟩, falls hi⟩
    have e2 : flat4 (ns.take (i + 1).toNat) = flat4 (ns.take i.toNat) ++ leB 4 ns[i.toNat].toNat := by
      rw [show (i + 1).toNat = i.toNat + 1 by omega, List.take_succ_eq_append_getElem hi']
      simp only [flat4, List.flatMap_append, List.flatMap_cons, List.flatMap_nil, List.append_nil]
    rw [e2, ← List.append_assoc, List.map_append]
    exact s10
  · have ei : i.toNat = l := by omega
    rw [ei, List.take_of_length_le (by omega)] at s8
    refine ⟨fun a9 l9 c9 hh => 16 + 4 * l ≤ l9 ∧ l9 ≤ 512 ∧ Fr No h hh ∧ Sl hh 1 a9 l9 c9 ((front l s ++ flat4 ns ++ zeros (l9 - (16 + 4 * l))).map bv) (From h.size), fun _ l9 _ _ => 512 - l9, ⟨by omega, by omega, f8, ?_⟩, ?_⟩
    · rw [ei, Nat.sub_self]
      rw [show zeros 0 = [] from rfl, List.append_nil]; exact s8
    intro a9 l9 c9 h9 I9
    generalize hq : decide ((l9 : Int) < 512) = q
    obtain ⟨k0, k1, f9, s9⟩ := I9
    refine cs (fun hk => ?_) fun hk => ?_
    · have hk := of_decide_eq_true (hq.trans hk)
      refine New.intro fun h10 n10 => ⟨[bv 0], rfl, cellsAll n10.rd, bv_one [0], append_from (f9.new n10) (s9.fr n10.fr fun _ _ _ x => x) rfl rfl (by show (l9 + 1) * 1 ≤ _; omega) (by omega) fun a11 c11 h11 f11 s11 => ?_⟩
      refine ⟨⟨by omega, by omega, f11, ?_⟩, by show 512 - (l9 + 1) < 512 - l9; omega⟩
      rw [show l9 + 1 - (16 + 4 * l) = (l9 - (16 + 4 * l)) + 1 by omega, zeros_add, ← List.append_assoc, List.map_append]
      exact s11
    · have hk := of_decide_eq_false (hq.trans hk)
      have e9 : l9 = 512 := by omega
      subst e9
      refine hK a9 c9 h9 f9 ?_
      rw [laid_front, hn, show 496 - 4 * l = 512 - (16 + 4 * l) by omega]; exact s9
theorem rSum_spec {a da : Option Addr} {l c dl dc : Nat} {ns : List Int} {ss : List Sc} {ds : List (List UInt8)} {h : Heap} {K : Value → Heap → Prop} (B : SlCells h a (ints ns)) (hn : ns.length = l) (hl : l ≤ 96) (hx : ∀ x ∈ ns, 0 ≤ x ∧ x < 4294967296)
    (D : Dat h da dl ss ds) (hdl : dl ≤ 96) (hw : ∀ d ∈ ds, d.length = 512) (hK : ∀ h', Fr No h h' → K (.int .u32 (sumM (laidM ns 0) ds)) h') : C.boleref04_SumOf a l c da dl dc h K := by
  have h1 := D.num
  have h2 := D.len
  refine boleref04_SumOf.ok (rLaid_spec (s := 0) B hn hl hx fun a2 c2 h2' f2 s2 => ⟨_, _, _, rfl, ?_⟩)
  refine ⟨fun a3 l3 c3 i hh => 0 ≤ i ∧ i ≤ dl ∧ l3 = 512 + 512 * i.toNat ∧ Fr No h hh ∧ Sl hh 1 a3 l3 c3 ((laidM ns 0 ++ (ds.take i.toNat).flatten).map bv) (From h.size), fun _ _ _ i _ => ((dl : Int) - i).toNat, ⟨by omega, by omega, rfl, f2, ?_⟩, ?_⟩
  · rw [show (ds.take (0 : Int).toNat).flatten = [] from rfl, List.append_nil]; exact s2
  rintro a3 l3 c3 i h3 ⟨i0, i1, rfl, f3, s3⟩
  refine cd (fun hi => ?_) fun hi => ?_
  · obtain ⟨p, sc, b, rfl, cp, hb, S⟩ := (D.fr f3).get (i := i.toNat) (by omega)
    have hi' : i.toNat < ds.length := by omega
    rw [List.getElem?_eq_getElem hi'] at hb
    have hb := Option.some.inj hb
    have hw' := hw _ (List.getElem_mem hi')
    rw [hb] at hw'
    have sl := S.1
    have el : sc.l = 512 := by omega
    obtain ⟨q1, q2, q3⟩ := StrAt.src S
    refine ⟨⟨i0, hi⟩, os ⟨_, _, _, cp, _, q1, q2, q3, append_from f3 s3 q1 rfl (by show (512 + 512 * i.toNat + sc.l) * 1 ≤ _; omega) (by omega) fun a4 c4 h4 f4 s4 => ?_⟩⟩
    rw [wrap_i64 (by omega) (by omega)]
    refine ⟨⟨by omega, by omega, by omega, f4, ?_⟩, falls hi⟩
    rw [show (i + 1).toNat = i.toNat + 1 by omega, List.take_succ_eq_append_getElem hi', List.flatten_append, hb, ← List.append_assoc, List.map_append]
    rw [show [b].flatten = b by simp]
    exact s4
  · rw [List.take_of_length_le (by omega)] at s3
    refine rOf_spec s3.str (by omega) ⟨_, rfl, ?_⟩
    have e := sum_flat (laidM ns 0) ds (fun d hd => by rw [hw d hd]; decide)
    rw [laid_put] at e
    rw [← e]; exact hK h3 f3
theorem blM_mem {ds : List (List UInt8)} {n : Int} (h : blM ds n = true) : (∀ d ∈ ds, d.length = 512) ∧ (ds.length : Int) = n := by
  rw [blM, Bool.and_eq_true] at h
  refine ⟨fun d hd => ?_, beq_iff_eq.mp h.2⟩
  have := List.all_eq_true.mp h.1 d hd
  exact beq_iff_eq.mp this
theorem rMake_spec {na da : Option Addr} {nl nc dl dc : Nat} {ns : List Int} {ss : List Sc} {ds : List (List UInt8)} {h : Heap} {K : Value → Heap → Prop} (B : SlCells h na (ints ns)) (hn : ns.length = nl) (hnl : nl ≤ 140737488355328) (D : Dat h da dl ss ds) (hdl : dl ≤ 140737488355328)
    (h1 : mayM ns 16384 = false → ∀ h', Fr No h h' → K (.tuple #[.slice none 0 0, .int .i64 40]) h')
    (h2 : mayM ns 16384 = true → blM ds ns.length = false → ∀ h', Fr No h h' → K (.tuple #[.slice none 0 0, .int .i64 32]) h')
    (h3 : mayM ns 16384 = true → blM ds ns.length = true → ∀ a' c' h', Fr No h h' → Sl h' 1 a' 512 c' ((laidM ns (sumM (laidM ns 0) ds).toNat).map bv) (From h.size) → K (.tuple #[.slice a' 512 c', .int .i64 0]) h') :
    C.boleref04_Make na nl nc da dl dc h K := by
  have hN := D.num
  have hL := D.len
  refine boleref04_Make.ok (rMay_spec B hn hnl ⟨_, rfl, cnot (cs (fun hm => ?_) fun hm => h1 hm _ (Fr.refl _ _))⟩)
  refine rBlocks_spec D hdl ⟨_, rfl, cnot (cs (fun hb => ?_) fun hb => h2 hm (by rw [hn]; exact hb) _ (Fr.refl _ _))⟩
  obtain ⟨hw, hlen⟩ := blM_mem hb
  obtain ⟨hmem, hl1, hl2⟩ := mayM_mem hm
  have hx : ∀ x ∈ ns, 0 ≤ x ∧ x < 4294967296 := fun x hx' => by have := hmem x hx'; omega
  refine rSum_spec B hn (by omega) hx D (by omega) hw fun h4 f4 => ⟨_, rfl, ?_⟩
  have hs4 := f4.size
  have us := sum_range (laidM ns 0) ds
  obtain ⟨u0, u1⟩ := us
  have ev : sumM (laidM ns 0) ds = (((sumM (laidM ns 0) ds).toNat : Nat) : Int) := by omega
  have k := h3 hm (by rw [hn]; exact hb)
  rw [ev]
  refine rLaid_spec (SlCells.fr f4 B fun _ _ x => x) hn (by omega) hx fun a5 c5 h5 f5 s5 => ⟨_, _, _, rfl, k a5 c5 h5 (f4.no f5) (s5.mono fun b hb => ?_)⟩
  have hb : h4.size ≤ b := hb
  show h.size ≤ b; omega
theorem rEmpty_spec {h : Heap} {K : Value → Heap → Prop} (hK : ∀ a' c' h', Fr No h h' → Sl h' 1 a' 512 c' ((zeros 512).map bv) (From h.size) → K (.slice a' 512 c') h') : C.boleref04_Empty h K := by
  refine boleref04_Empty.ok ⟨fun a9 l9 c9 hh => Fr No h hh ∧ l9 ≤ 512 ∧ Sl hh 1 a9 l9 c9 ((zeros l9).map bv) (From h.size), fun _ l9 _ _ => 512 - l9, ⟨Fr.refl _ _, by omega, Sl.nil _ _ _⟩, ?_⟩
  intro a9 l9 c9 h9 I9
  generalize hq : decide ((l9 : Int) < 512) = q
  obtain ⟨f9, k1, s9⟩ := I9
  refine cs (fun hk => ?_) fun hk => ?_
  · have hk := of_decide_eq_true (hq.trans hk)
    refine New.intro fun h10 n10 => ⟨[bv 0], rfl, cellsAll n10.rd, bv_one [0], append_from (f9.new n10) (s9.fr n10.fr fun _ _ _ x => x) rfl rfl (by show (l9 + 1) * 1 ≤ _; omega) (by omega) fun a11 c11 h11 f11 s11 => ?_⟩
    refine ⟨⟨f11, by omega, ?_⟩, by show 512 - (l9 + 1) < 512 - l9; omega⟩
    rw [zeros_add, List.map_append]
    exact s11
  · have hk := of_decide_eq_false (hq.trans hk)
    have e9 : l9 = 512 := by omega
    subst e9
    exact hK a9 c9 h9 f9 s9
theorem byte_get {h : Heap} {a : Option Addr} {l : Nat} {bs : List UInt8} (B : StrAt h a l bs) {i : Nat} (hi : i < bs.length) : ∃ p, a = some p ∧ cellOf h (p.add i) = some (bv bs[i]) := by
  have c := B.2
  cases a with
  | none => have c : bs.map bv = [] := c; have := List.map_eq_nil_iff.mp c; rw [this] at hi; exact absurd hi (by simp)
  | some p => exact ⟨p, rfl, c i _ (by rw [List.getElem?_map, List.getElem?_eq_getElem hi]; rfl)⟩
theorem take_cons {bs : List UInt8} {o n : Nat} (h : o < bs.length) : (bs.drop o).take (n + 1) = bs[o] :: (bs.drop (o + 1)).take n := by rw [List.drop_eq_getElem_cons h, List.take_succ_cons]
theorem getAt_four {bs : List UInt8} {o : Nat} (h : o + 3 < bs.length) : getAt bs o 4 = bs[o].toNat + 256 * (bs[o + 1].toNat + 256 * (bs[o + 2].toNat + 256 * bs[o + 3].toNat)) := by
  rw [getAt, take_cons (by omega), take_cons (by omega), take_cons (by omega), take_cons h, List.take_zero]; rfl
theorem getAt_two {bs : List UInt8} {o : Nat} (h : o + 1 < bs.length) : getAt bs o 2 = bs[o].toNat + 256 * bs[o + 1].toNat := by
  rw [getAt, take_cons (by omega), take_cons h, List.take_zero]; rfl
theorem rNumber_spec {a : Option Addr} {l c o : Nat} {bs : List UInt8} {h : Heap} {K : Value → Heap → Prop} (B : StrAt h a l bs) (hl : l ≤ 140737488355328) (ho : o + 4 ≤ l) (hK : K (.int .i64 (getAt bs o 4 : Int)) h) : C.boleref04_number a l c (o : Int) h K := by
  have hb := B.1
  have l0 : o < bs.length := by omega
  have l1 : o + 1 < bs.length := by omega
  have l2 : o + 2 < bs.length := by omega
  have l3 : o + 3 < bs.length := by omega
  obtain ⟨p, rfl, c0⟩ := byte_get B l0
  obtain ⟨_, e, c1⟩ := byte_get B l1
  cases e
  obtain ⟨_, e, c2⟩ := byte_get B l2
  cases e
  obtain ⟨_, e, c3⟩ := byte_get B l3
  cases e
  rw [getAt_four l3] at hK
  have b0 : bs[o].toNat < 256 := bs[o].toNat_lt
  have b1 : bs[o + 1].toNat < 256 := bs[o + 1].toNat_lt
  have b2 : bs[o + 2].toNat < 256 := bs[o + 2].toNat_lt
  have b3 : bs[o + 3].toNat < 256 := bs[o + 3].toNat_lt
  have w : ∀ k : Nat, k ≤ 3 → IntKind.wrap .i64 ((o : Int) + (k : Int)) = ((o + k : Nat) : Int) := fun k hk => by rw [wrap_i64 (by omega) (by omega)]; omega
  have w1 := w 1 (by omega)
  have w2 := w 2 (by omega)
  have w3 := w 3 (by omega)
  have e1 : (((1 : Nat) : Int)) = 1 := rfl
  have e2 : (((2 : Nat) : Int)) = 2 := rfl
  have e3 : (((3 : Nat) : Int)) = 3 := rfl
  rw [e1] at w1
  rw [e2] at w2
  rw [e3] at w3
  refine boleref04_number.ok ?_
  unfold boleref04_number
  rw [w1, w2, w3]
  refine ⟨⟨by omega, by omega⟩, os ⟨_, c0, ⟨by omega, by omega⟩, os ⟨_, c1, ⟨by omega, by omega⟩, os ⟨_, c2, ⟨by omega, by omega⟩, os ⟨_, c3, ?_⟩⟩⟩⟩⟩
  rw [wrap_i64 (n := (bs[o].toNat : Int)) (by omega) (by omega), wrap_i64 (n := (bs[o + 1].toNat : Int)) (by omega) (by omega), wrap_i64 (n := (bs[o + 2].toNat : Int)) (by omega) (by omega), wrap_i64 (n := (bs[o + 3].toNat : Int)) (by omega) (by omega),
    wrap_i64 (n := (bs[o + 1].toNat : Int) * 256) (by omega) (by omega), wrap_i64 (n := (bs[o + 2].toNat : Int) * 65536) (by omega) (by omega), wrap_i64 (n := (bs[o + 3].toNat : Int) * 16777216) (by omega) (by omega),
    wrap_i64 (n := (bs[o].toNat : Int) + (bs[o + 1].toNat : Int) * 256) (by omega) (by omega), wrap_i64 (n := (bs[o].toNat : Int) + (bs[o + 1].toNat : Int) * 256 + (bs[o + 2].toNat : Int) * 65536) (by omega) (by omega),
    wrap_i64 (n := (bs[o].toNat : Int) + (bs[o + 1].toNat : Int) * 256 + (bs[o + 2].toNat : Int) * 65536 + (bs[o + 3].toNat : Int) * 16777216) (by omega) (by omega)]
  have e : (bs[o].toNat : Int) + (bs[o + 1].toNat : Int) * 256 + (bs[o + 2].toNat : Int) * 65536 + (bs[o + 3].toNat : Int) * 16777216 = ((bs[o].toNat + 256 * (bs[o + 1].toNat + 256 * (bs[o + 2].toNat + 256 * bs[o + 3].toNat)) : Nat) : Int) := by omega
  rw [e]; exact hK
theorem numsM_alt {hd : List UInt8} {n : Int} (hl : hd.length = 512) (hz : allZero hd = false) : numsM hd n = ([], 41) ∨ (numsM hd n = (numsL hd (getAt hd 8 2), 0) ∧ getAt hd 8 2 ≤ 96 ∧ mayM (numsL hd (getAt hd 8 2)) n = true) := by
  unfold numsM
  rw [if_neg (fun x => x hl), if_neg (by rw [hz]; exact Bool.false_ne_true)]
  split
  · exact Or.inl rfl
  split
  · exact Or.inl rfl
  rename_i hk
  split
  · exact Or.inl rfl
  split
  · exact Or.inl rfl
  split
  · exact Or.inl rfl
  rename_i hm
  exact Or.inr ⟨rfl, by omega, by cases hq : mayM (numsL hd (getAt hd 8 2)) n with | true => rfl | false => exact absurd hq hm⟩
theorem rNums_spec {a : Option Addr} {l c : Nat} {hd : List UInt8} {n : Int} {h : Heap} {K : Value → Heap → Prop} (B : StrAt h a l hd) (hl : l ≤ 140737488355328)
    (hK : ∀ a' l' c' h', Fr No h h' → l' = (numsM hd n).1.length → Sl h' 1 a' l' c' (ints (numsM hd n).1) (From h.size) → K (.tuple #[.slice a' l' c', .int .i64 (numsM hd n).2]) h') : C.boleref04_Nums a l c n h K := by
  have hb := B.1
  have nil : ∀ {e : Int} {h'}, numsM hd n = ([], e) → Fr No h h' → K (.tuple #[.slice none 0 0, .int .i64 e]) h' := fun {e h'} he f => by
    have k := hK none 0 0 h' f
    rw [he] at k
    exact k rfl (Sl.nil _ _ _)
  refine boleref04_Nums.ok (cn (fun x => ?_) fun x => ?_)
  · exact nil (by unfold numsM; rw [if_pos (by omega)]) (Fr.refl _ _)
  have hl5 : hd.length = 512 := by omega
  refine ⟨hd, B, rEmpty_spec fun a2 c2 h2 f2 s2 => ⟨_, _, _, rfl, ?_, zeros 512, s2.str, ?_⟩⟩
  · rw [toList_mkStr]; exact StrAt.fr f2 B fun _ _ x => x
  rw [toList_mkStr, toList_mkStr]
  have B2 := StrAt.fr f2 B fun _ _ x => x
  refine cs (fun he => ?_) fun he => ?_
  · have he : hd = zeros 512 := beq_iff_eq.mp he
    refine nil ?_ f2
    unfold numsM
    rw [if_neg (fun x => x hl5), if_pos (by rw [he]; exact zeros_allZero _)]
  have he : hd ≠ zeros 512 := beq_eq_false_iff_ne.mp he
  have hz : allZero hd = false := by
    cases hq : allZero hd with
    | false => rfl
    | true => exact absurd (by have := allZero_zeros hq; rw [hl5] at this; exact this) he
  have l8 : 8 < hd.length := by omega
  have l9 : 9 < hd.length := by omega
  obtain ⟨p, rfl, c8⟩ := byte_get B2 l8
  obtain ⟨_, e, c9⟩ := byte_get B2 l9
  cases e
  have e2 : getAt hd 8 2 = hd[8].toNat + 256 * hd[9].toNat := getAt_two l9
  have b8 : hd[8].toNat < 256 := hd[8].toNat_lt
  have b9 : hd[9].toNat < 256 := hd[9].toNat_lt
  have eb : IntKind.wrap .i64 (IntKind.wrap .i64 (hd[8].toNat : Int) + IntKind.wrap .i64 (IntKind.wrap .i64 (hd[9].toNat : Int) * 256)) = ((getAt hd 8 2 : Nat) : Int) := by
    rw [wrap_i64 (n := (hd[8].toNat : Int)) (by omega) (by omega), wrap_i64 (n := (hd[9].toNat : Int)) (by omega) (by omega), wrap_i64 (n := (hd[9].toNat : Int) * 256) (by omega) (by omega), wrap_i64 (by omega) (by omega), e2]; omega
  refine ⟨⟨by omega, by omega⟩, os ⟨_, c8, ⟨by omega, by omega⟩, os ⟨_, c9, ?_⟩⟩⟩
  rw [eb]
  have alt := numsM_alt (n := n) hl5 hz
  generalize hkk : getAt hd 8 2 = k at alt ⊢
  refine cd (fun hbig => ?_) fun hbig => ?_
  · refine nil ?_ f2
    rcases alt with alt | alt
    · exact alt
    · omega
  have hk96 : k ≤ 96 := by omega
  refine ⟨fun a' l' c' i hh => 0 ≤ i ∧ i ≤ k ∧ l' = i.toNat ∧ Fr No h hh ∧ Sl hh 1 a' l' c' (ints (numsL hd i.toNat)) (From h.size), fun _ _ _ i _ => ((k : Int) - i).toNat, ⟨by omega, by omega, rfl, f2, Sl.nil _ _ _⟩, ?_⟩
  rintro a' l' c' i h4 ⟨i0, i1, rfl, f4, s4⟩
  refine cd (fun hi => ?_) fun hi => ?_
  · rw [wrap_i64 (n := 4 * i) (by omega) (by omega), wrap_i64 (n := 16 + 4 * i) (by omega) (by omega), show 16 + 4 * i = ((16 + 4 * i.toNat : Nat) : Int) by omega]
    refine rNumber_spec (StrAt.fr f4 B fun _ _ x => x) hl (by omega) ⟨_, rfl, ?_⟩
    rw [wrap_i64 (n := i + 1) (by omega) (by omega)]
    refine New.intro fun h6 n6 => ⟨[.int .i64 (getAt hd (16 + 4 * i.toNat) 4 : Int)], rfl, cellsAll n6.rd, by intro v hv; rw [List.mem_singleton.mp hv]; rfl, ?_⟩
    refine append_from (f4.new n6) (s4.fr n6.fr fun _ _ _ x => x) rfl rfl (by show (i.toNat + 1) * 8 ≤ _; omega) (by omega) fun a7 c7 h7 f7 s7 => ?_
    refine ⟨⟨by omega, by omega, by omega, f7, ?_⟩, falls hi⟩
    rw [show (i + 1).toNat = i.toNat + 1 by omega, numsL_succ, ints, List.map_append]
    exact s7
  · have ei : i.toNat = k := by omega
    rw [ei] at s4 ⊢
    have B4 := StrAt.fr f4 B fun _ _ x => x
    refine rMay_spec s4.cells (numsL_length _ _) (by omega) ⟨_, rfl, cnot (cs (fun hm => ?_) fun hm => ?_)⟩
    rotate_left
    · refine nil ?_ f4
      rcases alt with alt | alt
      · exact alt
      · rw [hm] at alt; exact absurd alt.2.2 Bool.false_ne_true
    have hx : ∀ x ∈ numsL hd k, 0 ≤ x ∧ x < 4294967296 := fun x hx => by
      obtain ⟨j, _, rfl⟩ := List.mem_map.mp hx
      have : getAt hd (16 + 4 * j) 4 < 4294967296 := getAt_lt _ _ _
      omega
    have lt12 : getAt hd 12 4 < 4294967296 := getAt_lt _ _ _
    refine ⟨hd, B4, ?_⟩
    have e12 : (12 : Int) = ((12 : Nat) : Int) := rfl
    rw [e12]
    refine rNumber_spec B4 hl (by omega) ⟨_, rfl, ?_, ?_⟩
    · rw [toList_mkStr]; exact B4
    rw [wrap_u32 ⟨by omega, by omega⟩]
    refine rLaid_spec s4.cells (numsL_length _ _) hk96 hx fun a9 c9 h9 f9 s9 => ⟨_, _, _, rfl, ?_, _, s9.str, ?_⟩
    · rw [toList_mkStr]; exact StrAt.fr f9 B4 fun _ _ x => x
    rw [toList_mkStr, toList_mkStr]
    have hne : numsL hd k ≠ [] := fun e => by
      obtain ⟨_, h1, _⟩ := mayM_mem hm
      rw [e] at h1; exact absurd h1 (by decide)
    refine cnot (cs (fun he => ?_) fun he => ?_)
    · have he : laidM (numsL hd k) (getAt hd 12 4) = hd := beq_iff_eq.mp he
      have q := laid_nums (s := getAt hd 12 4) hm (fun x hx' => (hx x hx').2)
      rw [he] at q
      have k9 := hK a' k c' h9 (f4.no f9)
      rw [q] at k9
      exact k9 (numsL_length _ _).symm (s4.fr f9 fun _ _ _ x => x)
    · have he : laidM (numsL hd k) (getAt hd 12 4) ≠ hd := beq_eq_false_iff_ne.mp he
      refine nil ?_ (f4.no f9)
      rcases alt with alt | alt
      · exact alt
      · have q := nums_laid (hd := hd) (n := n) (by rw [alt.1]) (by rw [alt.1]; exact hne)
        rw [alt.1] at q
        exact absurd q.1.symm he
theorem rGood_spec {a da : Option Addr} {l c dl dc : Nat} {hd : List UInt8} {ss : List Sc} {ds : List (List UInt8)} {n : Int} {h : Heap} {K : Value → Heap → Prop} (B : StrAt h a l hd) (hl : l ≤ 140737488355328) (D : Dat h da dl ss ds) (hdl : dl ≤ 140737488355328)
    (hK : ∀ h', Fr No h h' → K (.bool (goodM hd n ds)) h') : C.boleref04_Good a l c n da dl dc h K := by
  have hb := B.1
  refine boleref04_Good.ok (rNums_spec (n := n) B hl fun a' l' c' h2 f2 el s2 => ⟨_, _, _, _, rfl, ?_⟩)
  unfold goodM at hK
  refine cn (fun x => ?_) fun x => ?_
  · rw [show ((numsM hd n).2 == 0) = false from beq_eq_false_iff_ne.mpr x] at hK; exact hK h2 f2
  rw [show ((numsM hd n).2 == 0) = true from beq_iff_eq.mpr x] at hK
  have hl5 := numsM_len x
  refine ce (fun z => ?_) fun z => ?_
  · have : (numsM hd n).1.isEmpty = true := List.isEmpty_iff.mpr (List.eq_nil_of_length_eq_zero (by omega))
    rw [this] at hK; exact hK h2 f2
  have hne : (numsM hd n).1 ≠ [] := fun e => by rw [e] at el; have : l' = 0 := el; omega
  have : (numsM hd n).1.isEmpty = false := by
    cases hq : (numsM hd n).1 with
    | nil => exact absurd hq hne
    | cons _ _ => rfl
  rw [this, ← el] at hK
  refine rBlocks_spec (D.fr f2) hdl ⟨_, rfl, cnot (cs (fun hbl => ?_) fun hbl => ?_)⟩
  rotate_left
  · rw [hbl] at hK; exact hK h2 f2
  rw [hbl] at hK
  obtain ⟨hw, hlen⟩ := blM_mem hbl
  obtain ⟨q1, q2⟩ := nums_laid x hne
  obtain ⟨hmem, hl1, hl2⟩ := mayM_mem q2
  have B2 := StrAt.fr f2 B fun _ _ x => x
  have hL := D.len
  have hN := D.num
  have hx : ∀ x ∈ (numsM hd n).1, 0 ≤ x ∧ x < 4294967296 := fun y hy => by
    have y0 := hmem y hy
    refine ⟨by omega, ?_⟩
    rcases numsM_alt (n := n) hl5 (by
      cases hq : allZero hd with
      | false => rfl
      | true => exact absurd (by unfold numsM; rw [if_neg (fun x => x hl5), if_pos hq]) hne) with alt | alt
    · rw [alt] at hne; exact absurd rfl hne
    · rw [alt.1] at hy
      obtain ⟨j, _, rfl⟩ := List.mem_map.mp hy
      have : getAt hd (16 + 4 * j) 4 < 4294967296 := getAt_lt _ _ _
      omega
  unfold boleref04_Good.k1
  have e12 : (12 : Int) = ((12 : Nat) : Int) := rfl
  rw [e12]
  refine rNumber_spec B2 hl (by omega) ⟨_, rfl, rSum_spec s2.cells el.symm (by omega) hx (D.fr f2) (by omega) hw fun h6 f6 => ⟨_, rfl, ?_⟩⟩
  have lt : getAt hd 12 4 < 4294967296 := getAt_lt _ _ _
  rw [wrap_u32 ⟨by omega, by omega⟩]
  have es : sumM hd ds = sumM (laidM (numsM hd n).1 0) ds := by
    have := sum_laid (numsM hd n).1 (getAt hd 12 4) 0 ds
    rw [← q1] at this; exact this
  rw [← es]
  exact hK h6 (f2.no f6)
end Go.Proofs.YtnlmieklakolkaaDoor.Cr
