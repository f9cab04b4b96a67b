/-
  PACKAGE inode: records to bytes and back.
-/
import Derived.Test.YtcdpakjhjmchhaaDoorInW
namespace Go.Proofs.YtcdpakjhjmchhaaDoor.In
open Go Go.Proofs Go.Proofs.YtcdpakjhjmchhaaDoor.Wx Go.Proofs.YtcdpakjhjmchhaaDoor.Hp Go.Proofs.YtcdpakjhjmchhaaDoor.W Go.Proofs.YtcdpakjhjmchhaaDoor.Su Go.Proofs.YtcdpakjhjmchhaaDoor.Re Go.Proofs.YtcdpakjhjmchhaaDoor.Hd

theorem ints_eq : ∀ xs ys : List Int, cellsEq (ints xs) (ints ys) = decide (xs = ys)
  | [], [] => rfl
  | [], y :: r => rfl
  | x :: r, [] => rfl
  | x :: r, y :: s => by
    show ((x == y) && cellsEq (ints r) (ints s)) = _
    rw [ints_eq r s, Bool.eq_iff_iff, Bool.and_eq_true, beq_iff_eq, decide_eq_true_eq, decide_eq_true_eq, List.cons.injEq]
theorem ints_one (ns : List Int) : ∀ v ∈ ints ns, v.oneCell' = true := by
  intro v hv; obtain ⟨n, _, rfl⟩ := List.mem_map.mp hv; rfl
theorem ints_length (ns : List Int) : (ints ns).length = ns.length := List.length_map ..
theorem within_spec {v lo hi : Int} {h : Heap} {K : Value → Heap → Prop} (hK : K (.bool (decide (lo ≤ v) && decide (v ≤ hi))) h) : C.inode_within v lo hi h K := by
  refine inode_within.ok (cd (fun x => ?_) fun x => ?_)
  · rw [decide_eq_true (by omega)] at hK; exact hK
  · rw [decide_eq_false (by omega)] at hK; exact hK
theorem numbers_spec {R : List Int} {h : Heap} {K : Value → Heap → Prop} (hR : R.length = 15) (hK : ∀ h', Fr No h h' → K (.agg ⟨ints (R.drop 3)⟩) h') : C.inode_numbers (ints R) h K := by
  match R, hR with
  | [k, l, s, d0, d1, d2, d3, d4, d5, d6, d7, d8, d9, x, y], _ =>
    refine inode_numbers.ok (New.intro fun h2 n2 => New.intro fun h3 n3 => New.intro fun h4 n4 => ?_)
    have s2 := n2.size
    have s3 := n3.size
    have s4 := n4.size
    have r4 : rd h4 h.size = ints [k, l, s, d0, d1, d2, d3, d4, d5, d6, d7, d8, d9, x, y] := (n4.at_ (by omega)).trans ((n3.at_ (by omega)).trans n2.rd)
    refine CopyP.intro (new := ints [d0, d1, d2, d3, d4, d5, d6, d7, d8, d9]) rfl (show Cells h4 _ _ from cellsa r4 rfl) (ints_one _) n4.own (by rw [n4.rd]; show 10 ≤ 12; omega) fun h5 q5 => ?_
    have r5 : rd h5 h3.size = ints [d0, d1, d2, d3, d4, d5, d6, d7, d8, d9, 0, 0] := q5.rd.trans (by rw [n4.rd]; rfl)
    have r5x := (q5.at_ (c := h.size) (by omega) (by omega)).trans r4
    refine ⟨x, rda r5x rfl, y, rda r5x rfl, ⟨by omega, by omega⟩, Put.add q5.own (by rw [r5]; show 0 + 10 < 12; omega) fun h6 q6 => ⟨⟨by omega, by omega⟩, Put.add q6.own (by rw [q6.rd, r5]; show 0 + 11 < 12; omega) fun h7 q7 => ?_⟩⟩
    have r7 : rd h7 h3.size = ints [d0, d1, d2, d3, d4, d5, d6, d7, d8, d9, x, y] := q7.rd.trans (by rw [q6.rd, r5]; rfl)
    have w2 : Own h7 h2.size := q7.ow (q6.ow (q5.ow (n4.ow n3.own)))
    have e2 : (rd h7 h2.size).length = 12 := by
      rw [q7.at_ (by have := q6.size; have := q5.size; omega) (by omega), q6.at_ (by have := q5.size; omega) (by omega), q5.at_ (by omega) (by omega), n4.at_ (by omega), n3.rd]; rfl
    refine ⟨_, rfl, cellsAll r7, PutRow.intro w2 rfl (ints_one _) (by rw [e2]; omega) fun h8 q8 => ⟨ints [d0, d1, d2, d3, d4, d5, d6, d7, d8, d9, x, y], rfl, cellsAll ?_, hK h8 ?_⟩⟩
    · rw [q8.rd, put_all _ _ (by rw [e2]; rfl)]
    · exact (((((n2.fr.new n3).new n4).did q5 fun _ => by omega).did q6 fun _ => by omega).did q7 fun _ => by omega).did q8 fun _ => by omega
theorem pairs15 {R S : List Int} (hR : R.length = 15) (hS : S.length = 15) : pairsOk [(.int .i64), (.int .i64), (.int .i64), (.int .i64), (.int .i64), (.int .i64), (.int .i64), (.int .i64), (.int .i64), (.int .i64), (.int .i64), (.int .i64), (.int .i64), (.int .i64), (.int .i64)] (ints R) (ints S) = true := by
  match R, hR, S, hS with
  | [_, _, _, _, _, _, _, _, _, _, _, _, _, _, _], _, [_, _, _, _, _, _, _, _, _, _, _, _, _, _, _], _ => rfl
theorem cell15 {h : Heap} {b : Nat} {R : List Int} (r : rd h b = ints R) {i : Nat} (hi : i < R.length) : cellOf h (Addr.add ⟨b, 0, none⟩ i) = some (.int .i64 (R.getD i 0)) := by
  refine rda r ?_
  rw [Nat.zero_add, ints, List.getElem?_map, List.getD_eq_getElem?_getD, List.getElem?_eq_getElem hi]; rfl
theorem may_spec {R : List Int} {h : Heap} {K : Value → Heap → Prop} (hR : R.length = 15) (hK : ∀ h', Fr No h h' → K (.bool (mayR R)) h') : C.inode_may (ints R) h K := by
  refine inode_may.ok (New.intro fun h2 n2 => ⟨ints R, by rw [ints_length, hR], cellsAll n2.rd, numbers_spec hR fun h3 f3 => ⟨_, rfl, ?_⟩⟩)
  have s2 := n2.size
  have F3 := n2.fr.no f3
  have r3 : rd h3 h.size = ints R := (f3.rd n2.own.lt fun x => x).trans n2.rd
  have ld : (R.drop 3).length = 12 := by rw [List.length_drop, hR]
  have hK := hK h3 F3
  refine ⟨fun n hh => 0 ≤ n ∧ n ≤ 12 ∧ h3 = hh ∧ ((R.drop 3).take n.toNat).all wordOk = true, fun n _ => ((12 : Nat) - n).toNat, ⟨by omega, by omega, rfl, rfl⟩, ?_⟩
  rintro n _ ⟨n0, n1, rfl, q⟩
  refine cd (fun hn => ?_) fun hn => ?_
  · have hn : n < 12 := hn
    have hi : n.toNat < (R.drop 3).length := by omega
    refine ⟨⟨n0, hn⟩, (R.drop 3)[n.toNat], by rw [ints, List.getElem?_map, List.getElem?_eq_getElem hi]; rfl, within_spec ⟨_, rfl, cnot ?_⟩⟩
    cases hw : wordOk (R.drop 3)[n.toNat] with
    | false =>
      have : mayR R = false := by
        have e : (R.drop 3).all wordOk = false := by
          cases e : (R.drop 3).all wordOk with
          | false => rfl
          | true => have := List.all_eq_true.mp e _ (List.getElem_mem hi); rw [hw] at this; cases this
        rw [mayR, e]; rfl
      rw [this] at hK
      exact cf hw hK
    | true =>
      rw [wrap_i64 (by omega) (by omega)]
      refine ct hw ⟨⟨by omega, by omega, rfl, ?_⟩, falls (m := 12) hn⟩
      rw [show (n + 1).toNat = n.toNat + 1 by omega, List.take_succ_eq_append_getElem hi, List.all_append, q, List.all_cons, hw]; rfl
  · have hn : ¬ n < 12 := hn
    rw [List.take_of_length_le (by omega)] at q
    have em : mayR R = kindOk (R.getD 0 0) (R.getD 1 0) (R.getD 2 0) R := by rw [mayR, q, Bool.true_and]
    rw [em] at hK
    unfold kindOk at hK
    refine ⟨_, cell15 r3 (by omega), ce (fun h0 => ?_) fun h0 => ?_⟩
    · rw [if_pos h0] at hK
      refine ⟨ints R, by rw [ints_length, hR], cellsAll r3, pairs15 hR (S := z15) List.length_replicate, ?_⟩
      rw [show ([.int .i64 0, .int .i64 0, .int .i64 0, .int .i64 0, .int .i64 0, .int .i64 0, .int .i64 0, .int .i64 0, .int .i64 0, .int .i64 0, .int .i64 0, .int .i64 0, .int .i64 0, .int .i64 0, .int .i64 0] : List Value) = ints z15 from rfl, ints_eq]
      exact hK
    · rw [if_neg h0] at hK
      refine ce (fun h1 => ?_) fun h1 => ?_
      · rw [if_pos h1] at hK
        refine ⟨_, cell15 r3 (by omega), within_spec ⟨_, rfl, ?_⟩⟩
        cases hb : (decide (0 ≤ R.getD 1 0) && decide (R.getD 1 0 ≤ 1000)) with
        | false => rw [hb] at hK; exact hK
        | true => rw [hb] at hK; exact ⟨_, cell15 r3 (by omega), within_spec ⟨_, rfl, hK⟩⟩
      · rw [if_neg h1] at hK
        refine ce (fun h2' => ?_) fun h2' => ?_
        · rw [if_pos h2'] at hK
          refine ⟨_, cell15 r3 (by omega), within_spec ⟨_, rfl, ?_⟩⟩
          cases hb : (decide (2 ≤ R.getD 1 0) && decide (R.getD 1 0 ≤ 65535)) with
          | false => rw [hb] at hK; exact hK
          | true =>
            rw [hb, Bool.true_and] at hK
            refine ⟨_, cell15 r3 (by omega), within_spec ⟨_, rfl, ?_⟩⟩
            cases hc : (decide (0 ≤ R.getD 2 0) && decide (R.getD 2 0 ≤ 8459264)) with
            | false => rw [hc] at hK; exact hK
            | true =>
              rw [hc, Bool.true_and] at hK
              rw [Bool.and_eq_true, decide_eq_true_eq] at hc
              refine ⟨_, cell15 r3 (by omega), ?_⟩
              have e : (Int.tmod (R.getD 2 0) 512 == 0) = decide (R.getD 2 0 % 512 = 0) := by rw [Int.tmod_eq_emod_of_nonneg hc.1]; rfl
              rw [e]; exact hK
        · rw [if_neg h2'] at hK
          refine ce (fun h3' => ?_) fun h3' => ?_
          · rw [if_pos h3'] at hK
            refine ⟨_, cell15 r3 (by omega), within_spec ⟨_, rfl, ?_⟩⟩
            cases hb : (decide (1 ≤ R.getD 1 0) && decide (R.getD 1 0 ≤ 1000)) with
            | false => rw [hb] at hK; exact hK
            | true => rw [hb] at hK; exact ⟨_, cell15 r3 (by omega), within_spec ⟨_, rfl, hK⟩⟩
          · rw [if_neg h3'] at hK; exact hK
theorem leB_one (v : Nat) : leB 1 v = [UInt8.ofNat v] := by rw [leB_succ]; rfl
theorem leB_two (v : Nat) : leB 2 v = [UInt8.ofNat v, UInt8.ofNat (v / 256)] := by rw [leB_succ, leB_one]
theorem leB_four (v : Nat) : leB 4 v = [UInt8.ofNat v, UInt8.ofNat (v / 256), UInt8.ofNat (v / 256 / 256), UInt8.ofNat (v / 256 / 256 / 256)] := by rw [leB_succ, leB_succ, leB_two]
theorem enc3 (k l s : Nat) : putU (putU (putU (zeros 64) 0 (leB 1 k)) 2 (leB 2 l)) 4 (leB 4 s) = (leB 1 k ++ ([0] ++ (leB 2 l ++ leB 4 s))) ++ zeros 56 := by
  rw [leB_one, leB_two, leB_four]; rfl
theorem Encode_spec {R : List Int} {h : Heap} {K : Value → Heap → Prop} (g : Glo h) (hR : R.length = 15) (hN : mayR R = false → ∀ h', Fr No h h' → K (.tuple #[.slice none 0 0, .int .i64 111]) h')
    (hK : mayR R = true → ∀ b h', Fr No h h' → h.size ≤ b → Sl h' 1 (some ⟨b, 0, none⟩) 64 64 ((encR R).map bv) (fun x => x = b) → K (.tuple #[.slice (some ⟨b, 0, none⟩) 64 64, .int .i64 0]) h') : C.inode_Encode (ints R) h K := by
  have hg := g.lt
  refine inode_Encode.ok (New.intro fun h2 n2 => ⟨ints R, by rw [ints_length, hR], cellsAll n2.rd, may_spec hR fun h3 f3 => ⟨_, rfl, cnot ?_⟩⟩)
  have s2 := n2.size
  have s3 := f3.size
  have F3 := n2.fr.no f3
  have r3 : rd h3 h.size = ints R := (f3.rd n2.own.lt fun x => x).trans n2.rd
  cases hm : mayR R with
  | false => exact hN hm h3 F3
  | true =>
    have hK := hK hm
    obtain ⟨k0, k1, l0, l1, z0, z1, hw⟩ := mayR_bounds hR hm
    refine ct rfl ⟨⟨by omega, by omega, by omega, by omega⟩, New.intro fun h4 n4 => ?_⟩
    have s4 := n4.size
    have r4 : rd h4 h.size = ints R := (n4.at_ (by omega)).trans r3
    have b4 : Sl h4 1 (some ⟨h3.size, 0, none⟩) 64 64 ((zeros 64).map bv) (fun x => x = h3.size) :=
      Sl.made (zs := []) n4 (by rw [List.append_nil]; rfl) rfl (by rw [List.length_map, zeros_length]) (Nat.le_refl _) rfl
    have w : ∀ n : Int, 0 ≤ n → n ≤ 4294967295 → IntKind.wrap .u64 n = ((n.toNat : Nat) : Int) := fun n a b => by rw [wrap_u64 a (by omega), Int.toNat_of_nonneg a]
    have hne : h.size ≠ h3.size := by omega
    refine ⟨_, cell15 r4 (by omega), ?_⟩
    rw [w _ k0 (by omega)]
    refine Put_w (g.no (F3.new n4)) b4 (by omega) (by omega) (by omega) (by omega) (by show (R.getD 0 0).toNat < 256 ^ 1; omega) fun h5 f5 b5 => ⟨_, rfl, ?_⟩
    have s5 := f5.size
    have g5 : Glo h5 := (g.no (F3.new n4)).fr f5 fun b hb e => by omega
    have r5 : rd h5 h.size = ints R := (f5.rd (by omega) hne).trans r4
    refine ⟨_, cell15 r5 (by omega), ?_⟩
    rw [w _ l0 (by omega)]
    refine Put_w g5 b5 (by omega) (by omega) (by omega) (by omega) (by show (R.getD 1 0).toNat < 256 ^ 2; omega) fun h6 f6 b6 => ⟨_, rfl, ?_⟩
    have s6 := f6.size
    have g6 : Glo h6 := g5.fr f6 fun b hb e => by omega
    have r6 : rd h6 h.size = ints R := (f6.rd (by omega) hne).trans r5
    refine ⟨_, cell15 r6 (by omega), ?_⟩
    rw [w _ z0 (by omega)]
    refine Put_w g6 b6 (by omega) (by omega) (by omega) (by omega) (by show (R.getD 2 0).toNat < 256 ^ 4; omega) fun h7 f7 b7 => ⟨_, rfl, ?_⟩
    have s7 := f7.size
    have g7 : Glo h7 := g6.fr f7 fun b hb e => by omega
    have r7 : rd h7 h.size = ints R := (f7.rd (by omega) hne).trans r6
    have b7 : Sl h7 1 (some ⟨h3.size, 0, none⟩) 64 64 (((leB 1 (R.getD 0 0).toNat ++ ([0] ++ (leB 2 (R.getD 1 0).toNat ++ leB 4 (R.getD 2 0).toNat))) ++ zeros 56).map bv) (fun x => x = h3.size) := by rw [← enc3]; exact b7
    refine ⟨ints R, by rw [ints_length, hR], cellsAll r7, numbers_spec hR fun h8 f8 => ⟨_, rfl, ?_⟩⟩
    have s8 := f8.size
    have b8 := b7.fr f8 fun _ _ _ x => x
    have F8 : Fr No h h8 := ((((F3.new n4).trans f5 fun b hb e => by omega).trans f6 fun b hb e => by omega).trans f7 fun b hb e => by omega).no f8
    have ld : (R.drop 3).length = 12 := by rw [List.length_drop, hR]
    generalize hH : leB 1 (R.getD 0 0).toNat ++ ([0] ++ (leB 2 (R.getD 1 0).toNat ++ leB 4 (R.getD 2 0).toNat)) = H at b8
    have lH : H.length = 8 := by rw [← hH]; simp only [List.length_append, leB_length, List.length_singleton]
    refine ⟨fun n hh => 0 ≤ n ∧ n ≤ 12 ∧ Fr No h hh ∧ h3.size < hh.size ∧ Sl hh 1 (some ⟨h3.size, 0, none⟩) 64 64 ((H ++ flat4 ((R.drop 3).take n.toNat) ++ zeros (56 - 4 * n.toNat)).map bv) (fun x => x = h3.size), fun n _ => ((12 : Nat) - n).toNat,
      ⟨by omega, by omega, F8, by omega, by rw [show (0 : Int).toNat = 0 from rfl, List.take_zero]; show Sl h8 1 _ 64 64 ((H ++ [] ++ zeros 56).map bv) _; rw [List.append_nil]; exact b8⟩, ?_⟩
    rintro n h9 ⟨n0, n1, F9, s9, b9⟩
    refine cd (fun hn => ?_) fun hn => ?_
    · have hn : n < 12 := hn
      have hi : n.toNat < (R.drop 3).length := by omega
      have hx := hw _ (List.getElem_mem hi)
      refine ⟨⟨n0, hn⟩, (R.drop 3)[n.toNat], by rw [ints, List.getElem?_map, List.getElem?_eq_getElem hi]; rfl, ?_⟩
      rw [w _ hx.1 hx.2, wrap_i64 (n := 4 * n) (by omega) (by omega), wrap_i64 (n := 8 + 4 * n) (by omega) (by omega), wrap_i64 (n := n + 1) (by omega) (by omega)]
      refine Put_w (g.no F9) b9 (by omega) (by omega) (by omega) (by omega) (by show ((R.drop 3)[n.toNat]).toNat < 256 ^ 4; omega) fun h10 f10 b10 => ⟨_, rfl, ⟨by omega, by omega, F9.trans f10 (fun b hb e => by omega), by have := f10.size; omega, ?_⟩, falls (m := 12) hn⟩
      have lf : (flat4 ((R.drop 3).take n.toNat)).length = 4 * n.toNat := by rw [flat4_length, List.length_take]; omega
      have e1 : H ++ flat4 ((R.drop 3).take n.toNat) ++ zeros (56 - 4 * n.toNat) = (H ++ flat4 ((R.drop 3).take n.toNat)) ++ zeros 4 ++ zeros (56 - 4 * (n + 1).toNat) := by
        rw [List.append_assoc (H ++ _), ← zeros_add]; congr 2; omega
      have e2 : (8 + 4 * n).toNat = (H ++ flat4 ((R.drop 3).take n.toNat)).length := by rw [List.length_append, lH, lf]; omega
      rw [e1, e2, putU_app _ _ _ _ (by rw [leB_length, zeros_length]; rfl)] at b10
      have e3 : flat4 ((R.drop 3).take (n + 1).toNat) = flat4 ((R.drop 3).take n.toNat) ++ leB 4 ((R.drop 3)[n.toNat]).toNat := by
        rw [show (n + 1).toNat = n.toNat + 1 by omega, List.take_succ_eq_append_getElem hi, flat4, List.flatMap_append]
        show _ ++ (leB 4 _ ++ []) = _
        rw [List.append_nil, flat4]
      rw [e3, ← List.append_assoc]
      exact b10
    · have hn : ¬ n < 12 := hn
      have en : n.toNat = 12 := by omega
      rw [en, List.take_of_length_le (by omega)] at b9
      refine hK h3.size h9 F9 (by omega) ?_
      have ee : encR R = H ++ flat4 (R.drop 3) ++ zeros (56 - 4 * 12) := by
        rw [encR, ← hH]; simp only [List.append_assoc]
      rw [ee]; exact b9
theorem get_spec {a : Option Addr} {l c cb : Nat} {bs : List UInt8} {at_ n : Int} {h : Heap} {K : Value → Heap → Prop} (g : Glo h) (B : StrAt h a l bs) (hl : l ≤ 140737488355328) (r : rd h cb = [.slice a l c]) (hn : n = 1 ∨ n = 2 ∨ n = 4) (h0 : 0 ≤ at_) (h2 : at_ + n ≤ l)
    (hK : K (.int .i64 (getAt bs at_.toNat n.toNat : Nat)) h) : C.inode_Decode_c1 at_ n (some ⟨cb, 0, none⟩) h K := by
  have lt := getAt_lt bs at_.toNat n.toNat
  have lt : getAt bs at_.toNat n.toNat < 4294967296 := by
    rcases hn with rfl | rfl | rfl
    · exact Nat.lt_of_lt_of_le lt (by show 256 ^ 1 ≤ _; decide)
    · exact Nat.lt_of_lt_of_le lt (by show 256 ^ 2 ≤ _; decide)
    · exact lt
  refine inode_Decode_c1.ok ?_
  unfold inode_Decode_c1
  refine os ⟨_, _, _, rdc r rfl, Get_w g B hl (by omega) h0 h2 ⟨_, _, rfl, ?_⟩⟩
  have e : leN ((bs.drop at_.toNat).take n.toNat) = getAt bs at_.toNat n.toNat := rfl
  rw [e, wrap_i64 (by omega) (by omega)]
  exact hK
theorem z15_row {h3 h : Heap} {b : Nat} {n : Int} {K : Value → Heap → Prop} (f : Fr No h3 h) (hb : h3.size ≤ b) (w : Own h b) (hl : (rd h b).length = 15) (hK : ∀ h', Fr No h3 h' → K (.tuple #[.agg ⟨ints z15⟩, .int .i64 n]) h') :
    PutRow ⟨b, 0, none⟩ [.int .i64 0, .int .i64 0, .int .i64 0, .int .i64 0, .int .i64 0, .int .i64 0, .int .i64 0, .int .i64 0, .int .i64 0, .int .i64 0, .int .i64 0, .int .i64 0, .int .i64 0, .int .i64 0, .int .i64 0] 15 h fun h4 =>
      ∃ res1 : List Value, List.length res1 = 15 ∧ Cells h4 ⟨b, 0, none⟩ res1 ∧ K (.tuple #[.agg ⟨res1⟩, .int .i64 n]) h4 := by
  refine PutRow.intro w rfl (ints_one z15) (by omega) fun h4 d4 => ⟨ints z15, rfl, cellsAll ?_, hK h4 (f.did d4 fun hlt => by omega)⟩
  rw [d4.rd]; exact put_all _ _ (by rw [hl]; rfl)
theorem R_row {h3 h : Heap} {b cb : Nat} {n : Int} {R : List Int} {K : Value → Heap → Prop} (hR : R.length = 15) (f : Fr No h3 h) (hb : h3.size ≤ b) (w : Own h b) (hl : (rd h b).length = 15) (r : rd h cb = ints R) (hK : ∀ h', Fr No h3 h' → K (.tuple #[.agg ⟨ints R⟩, .int .i64 n]) h') :
    ∃ cs : List Value, List.length cs = 15 ∧ Cells h ⟨cb, 0, none⟩ cs ∧ PutRow ⟨b, 0, none⟩ cs 15 h fun h4 => ∃ res1 : List Value, List.length res1 = 15 ∧ Cells h4 ⟨b, 0, none⟩ res1 ∧ K (.tuple #[.agg ⟨res1⟩, .int .i64 n]) h4 := by
  have li : (ints R).length = 15 := by rw [ints_length, hR]
  refine ⟨ints R, li, cellsAll r, PutRow.intro w li (ints_one R) (by omega) fun h4 d4 => ⟨ints R, li, cellsAll ?_, hK h4 (f.did d4 fun hlt => by omega)⟩⟩
  rw [d4.rd]; exact put_all _ _ (by rw [hl, li])
theorem set_fill {α : Type} (xs : List α) (z : α) (ys : List α) (m n : Nat) (hm : m < xs.length) (hn : 0 < n) : (xs.take m ++ (List.replicate n z ++ ys)).set m xs[m] = xs.take (m + 1) ++ (List.replicate (n - 1) z ++ ys) := by
  have l : (xs.take m).length = m := by rw [List.length_take]; omega
  rw [List.set_append_right _ _ (by omega), l, Nat.sub_self, show n = (n - 1) + 1 by omega, List.replicate_succ, List.cons_append, List.set_cons_zero, List.take_succ_eq_append_getElem hm, List.append_assoc]
  rfl
theorem getR_get (bs : List UInt8) {i : Nat} (hi : i < 12) (h : 3 + i < (getR bs).length) : (getR bs)[3 + i] = (getAt bs (8 + 4 * i) 4 : Nat) := by
  simp only [getR]
  rw [List.getElem_append_right (by show 3 ≤ 3 + i; omega)]
  simp only [List.length_cons, List.length_nil, Nat.reduceAdd, Nat.add_sub_cancel_left, List.getElem_map, List.getElem_range]
theorem Decode_spec {a : Option Addr} {l c : Nat} {bs : List UInt8} {h : Heap} {K : Value → Heap → Prop} (g : Glo h) (B : StrAt h a l bs) (hlc : l ≤ c) (hK : ∀ h', Fr No h h' → K (.tuple #[.agg ⟨ints (decA bs).1⟩, .int .i64 (decA bs).2]) h') : C.inode_Decode a l c h K := by
  have hb := B.1
  refine inode_Decode.ok (New.intro fun h2 n2 => New.intro fun h3 n3 => ?_)
  have s2 := n2.size
  have s3 := n3.size
  have F3 := n2.fr.new n3
  have r3 : rd h3 h.size = [.slice a l c] := (n3.at_ (by omega)).trans n2.rd
  have w3 : Own h3 h2.size := n3.own
  have l3 : (rd h3 h2.size).length = 15 := by rw [n3.rd]; rfl
  have g3 := g.no F3
  have B3 := StrAt.fr F3 B fun _ _ x => x
  refine ⟨_, _, _, rdc r3 rfl, cn (fun hl => ?_) fun hl => ?_⟩
  · have e : decA bs = (z15, 32) := by rw [decA, if_pos (by omega)]
    rw [e] at hK
    exact z15_row F3 (by omega) w3 l3 hK
  have hl : l = 64 := by omega
  have hb64 : bs.length = 64 := by omega
  have gg : ∀ {hq : Heap} {K : Value → Heap → Prop} (at_ n : Int), Fr No h3 hq → (n = 1 ∨ n = 2 ∨ n = 4) → 0 ≤ at_ → at_ + n ≤ 64 → K (.int .i64 (getAt bs at_.toNat n.toNat : Nat)) hq → C.inode_Decode_c1 at_ n (some ⟨h.size, 0, none⟩) hq K := fun at_ n fq h1 h2 h4 hk =>
    get_spec (g3.no fq) (StrAt.fr fq B3 fun _ _ x => x) (by omega) ((fq.rd (by omega) fun x => x).trans r3) h1 h2 (by omega) hk
  refine gg 0 1 (Fr.refl _ _) (by omega) (by omega) (by omega) ⟨_, rfl, gg 2 2 (Fr.refl _ _) (by omega) (by omega) (by omega) ⟨_, rfl, gg 4 4 (Fr.refl _ _) (by omega) (by omega) (by omega) ⟨_, rfl, gg 48 4 (Fr.refl _ _) (by omega) (by omega) (by omega) ⟨_, rfl, gg 52 4 (Fr.refl _ _) (by omega) (by omega) (by omega) ⟨_, rfl, ?_⟩⟩⟩⟩⟩
  have gl := getR_length bs
  have e11 : ([.int .i64 (getAt bs (Int.toNat 0) (Int.toNat 1) : Nat), .int .i64 (getAt bs (Int.toNat 2) (Int.toNat 2) : Nat), .int .i64 (getAt bs (Int.toNat 4) (Int.toNat 4) : Nat), .int .i64 0, .int .i64 0, .int .i64 0, .int .i64 0, .int .i64 0, .int .i64 0, .int .i64 0, .int .i64 0, .int .i64 0, .int .i64 0, .int .i64 (getAt bs (Int.toNat 48) (Int.toNat 4) : Nat), .int .i64 (getAt bs (Int.toNat 52) (Int.toNat 4) : Nat)] : List Value)
      = ints ((getR bs).take 3 ++ (List.replicate 10 0 ++ (getR bs).drop 13)) := rfl
  rw [e11]
  refine NewRow.intro (by rw [ints_length]; rfl) (ints_one _) rfl fun h11 n11 => ?_
  have s11 := n11.size
  refine ⟨fun n hh => 0 ≤ n ∧ n ≤ 10 ∧ Fr No h3 hh ∧ h3.size < hh.size ∧ Own hh h3.size ∧ rd hh h3.size = ints ((getR bs).take (3 + n.toNat) ++ (List.replicate (10 - n.toNat) 0 ++ (getR bs).drop 13)), fun n _ => ((10 : Nat) - n).toNat,
    ⟨by omega, by omega, n11.fr, by omega, n11.own, n11.rd⟩, ?_⟩
  rintro n h12 ⟨n0, n1, f12, s12, w12, r12⟩
  have rl12 : (rd h12 h3.size).length = 15 := by
    rw [r12, ints_length, List.length_append, List.length_append, List.length_take, List.length_replicate, List.length_drop, gl]; omega
  refine cd (fun hn => ?_) fun hn => ?_
  · have hn : n < 10 := hn
    rw [wrap_i64 (n := 4 * n) (by omega) (by omega), wrap_i64 (n := 8 + 4 * n) (by omega) (by omega), wrap_i64 (n := n + 1) (by omega) (by omega)]
    refine gg (8 + 4 * n) 4 f12 (by omega) (by omega) (by omega) ⟨_, rfl, ⟨n0, hn⟩, ?_⟩
    rw [add_mk]
    refine Put.add w12 (by omega) fun h14 d14 => ⟨⟨by omega, by omega, f12.did d14 fun hlt => by omega, by have := d14.size; omega, d14.own, ?_⟩, falls (m := 10) hn⟩
    have hi : 3 + n.toNat < (getR bs).length := by omega
    have eg : (getR bs)[3 + n.toNat] = (getAt bs (8 + 4 * n).toNat (Int.toNat 4) : Nat) := by
      rw [getR_get bs (by omega) hi, show (8 + 4 * n).toNat = 8 + 4 * n.toNat by omega]; rfl
    have := set_fill (getR bs) 0 ((getR bs).drop 13) (3 + n.toNat) (10 - n.toNat) hi (by omega)
    rw [eg] at this
    rw [d14.rd, r12, show 0 + 3 + n.toNat = 3 + n.toNat by omega, show 3 + (n + 1).toNat = 3 + n.toNat + 1 by omega, show 10 - (n + 1).toNat = 10 - n.toNat - 1 by omega, ← this, ints, ints, List.map_set]
  · have hn : ¬ n < 10 := hn
    have en : n.toNat = 10 := by omega
    rw [en] at r12
    have r12 : rd h12 h3.size = ints (getR bs) := by
      rw [r12]
      show ints ((getR bs).take 13 ++ ([] ++ (getR bs).drop 13)) = _
      rw [List.nil_append, List.take_append_drop]
    have rb12 : rd h12 h.size = [.slice a l c] := (f12.rd (by omega) fun x => x).trans r3
    have B12 := StrAt.fr f12 B3 fun _ _ x => x
    have w12x : Own h12 h2.size := f12.own w3.lt (fun x => x) w3
    have l12 : (rd h12 h2.size).length = 15 := by rw [f12.rd w3.lt fun x => x]; exact l3
    have F12 := F3.no f12
    refine ⟨_, _, _, rdc rb12 rfl, Zero_spec B12 hlc (by omega) (by omega) (by omega) (by omega) ⟨_, _, rfl, _, _, _, rdc rb12 rfl, Zero_spec B12 hlc (by omega) (by omega) (by omega) (by omega) ⟨_, _, rfl, ?_⟩⟩⟩
    have ec : clean bs = (allZero ((bs.drop (Int.toNat 1)).take (Int.toNat 1)) && allZero ((bs.drop (Int.toNat 56)).take (Int.toNat 8))) := rfl
    have bad : decOk bs = false → ∀ h', Fr No h h' → K (.tuple #[.agg ⟨ints z15⟩, .int .i64 111]) h' := fun e h' f => by
      have := hK h' f
      rw [decA, if_neg (by omega), e] at this; exact this
    refine cnot ?_
    cases h1 : allZero ((bs.drop (Int.toNat 1)).take (Int.toNat 1)) with
    | false => exact z15_row F12 (by omega) w12x l12 (bad (by rw [decOk, ec, h1]; rfl))
    | true =>
      refine ct rfl (cnot ?_)
      cases h2' : allZero ((bs.drop (Int.toNat 56)).take (Int.toNat 8)) with
      | false => exact z15_row F12 (by omega) w12x l12 (bad (by rw [decOk, ec, h1, h2']; rfl))
      | true =>
        refine ct rfl ⟨ints (getR bs), by rw [ints_length, gl], cellsAll r12, may_spec gl fun h19 f19 => ⟨_, rfl, cnot ?_⟩⟩
        have s19 := f19.size
        have w19 : Own h19 h2.size := f19.own w12x.lt (fun x => x) w12x
        have l19 : (rd h19 h2.size).length = 15 := by rw [f19.rd w12x.lt fun x => x]; exact l12
        have r19 : rd h19 h3.size = ints (getR bs) := (f19.rd w12.lt fun x => x).trans r12
        cases hm : mayR (getR bs) with
        | false => exact z15_row (F12.no f19) (by omega) w19 l19 (bad (by rw [decOk, hm, Bool.and_false]))
        | true =>
          refine ct rfl (R_row gl (F12.no f19) (by omega) w19 l19 r19 fun h' f => ?_)
          have := hK h' f
          rw [decA, if_neg (by omega), show decOk bs = true by rw [decOk, ec, h1, h2', hm]; rfl] at this
          exact this
end Go.Proofs.YtcdpakjhjmchhaaDoor.In
