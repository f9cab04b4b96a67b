/-
  HeadOwn: from the marks on.
-/
import Derived.Test.YtnlmieklakolkaaDoorHwB
namespace Go.Proofs.YtnlmieklakolkaaDoor.Hd
open Go Go.Proofs Go.Proofs.YtnlmieklakolkaaDoor.Wx Go.Proofs.YtnlmieklakolkaaDoor.Hp Go.Proofs.YtnlmieklakolkaaDoor.W Go.Proofs.YtnlmieklakolkaaDoor.Su Go.Proofs.YtnlmieklakolkaaDoor.Re

def mkH (j : Nat) : Value := .int .u8 (10 + (j : Int))
def mkL (j : Nat) : Value := .int .i64 (-10 - (j : Int))
variable {h0 hh h' : Heap} {col : Nat → Nat} {d : HD} {wA na ba : Option Addr} {wC bl nl nc bc : Nat} {wl : List Value} {ns : List Int} {ss : List Sc} {ds : List (List UInt8)}
theorem Rw.len_at {h : Heap} {k m l c : Nat} {a : Option Addr} {qs : List Sc} {vs : List (List Value)} (r : Rw h col k m a l c qs vs) {i : Nat} (h1 : i < qs.length) (h2 : i < vs.length) : vs[i].length = qs[i].l := by
  have := (r.at_ i h1 h2).1; omega
/-- an item's cell -/
theorem Rw.item {h : Heap} {k m l c : Nat} {a : Option Addr} {qs : List Sc} {vs : List (List Value)} (r : Rw h col k m a l c qs vs) {i : Nat} (h1 : i < qs.length) (h2 : i < vs.length) {j : Nat} (hj : j < qs[i].l) {v : Value} (hv : vs[i][j]? = some v) : ∃ p, qs[i].a = some p ∧ cellOf h (p.add j) = some v := by
  obtain ⟨p, e, cc⟩ := (r.at_ i h1 h2).get (by omega)
  exact ⟨p, e, Cells.cell cc hv⟩
theorem rep_get {v : Value} {n j : Nat} (h : j < n) : (List.replicate n v)[j]? = some v := by rw [List.getElem?_replicate, if_pos h]
theorem set_here {α : Type} (z : α) (xs : List α) (n : Nat) (hn : n < xs.length) : (List.replicate n z ++ xs.drop n).set n z = List.replicate (n + 1) z ++ xs.drop (n + 1) := by
  rw [List.set_append_right _ _ (by rw [List.length_replicate]; omega), List.length_replicate, Nat.sub_self, List.drop_eq_getElem_cons hn, List.set_cons_zero, List.replicate_succ', List.append_assoc]
  rfl
/-- the answer of the whole -/
def hdM (ns : List Int) (ds : List (List UInt8)) : List UInt8 := laidM ns (sumM (laidM ns 0) ds).toNat
theorem own_end {K : Value → Heap → Prop} (g : Glo h0) (s : Hs h0 hh col d wA wC wl na ns ba bl ss ds) (hm : mayM ns 16384 = true) (hb : blM ds ns.length = true) (hnl : ns.length = nl) (hbl : bl ≤ 140737488355328) (w0 : wl[0]? = some (.string (mkStr (hdM ns ds)))) (w1 : wl[1]? = some (.string (mkStr (zeros 512))))
    (hK : ∀ h', Fr No h0 h' → K (.bool true) h') :
    C.head_Make na nl nc ba bl bc hh fun r9 h44 => ∃ (sA28 : Option Addr) (sL28 : Nat) (sC28 : Nat) (n19 : Int), r9 = .tuple #[.slice sA28 sL28 sC28, .int .i64 n19] ∧ C.bolelaw04_num n19 h44 fun r10 h45 => ∃ (n20 : Int), r10 = .int .i64 n20 ∧
      bif (n20 == 0) then (∃ bs2 : List UInt8, StrAt h45 sA28 sL28 bs2 ∧ (0 ≤ (0 : Int) ∧ 0 < (wl.length : Int)) ∧ onSome wA fun p24 => ∃ (s4 : ByteArray), cellOf h45 (Addr.add p24 (Int.toNat 0)) = some (.string s4) ∧
        bif ((mkStr bs2).toList == s4.toList) then ((0 ≤ (1 : Int) ∧ 1 < (wl.length : Int)) ∧ onSome wA fun p25 => ∃ (s5 : ByteArray), cellOf h45 (Addr.add p25 (Int.toNat 1)) = some (.string s5) ∧ C.head_Empty h45 fun r11 h46 => ∃ (sA29 : Option Addr) (sL29 : Nat) (sC29 : Nat), r11 = .slice sA29 sL29 sC29 ∧
          (cellOf h46 (Addr.add p25 (Int.toNat 1)) = some (.string s5)) ∧ ∃ bs3 : List UInt8, StrAt h46 sA29 sL29 bs3 ∧ K (.bool ((mkStr bs3).toList == s5.toList)) h46) else K (.bool false) h45) else K (.bool false) h45 := by
  have l1 : 1 < wl.length := by
    rcases Nat.lt_or_ge 1 wl.length with h | h
    · exact h
    · rw [List.getElem?_eq_none h] at w1; cases w1
  refine Make_spec (g.no s.fr) s.nums.1 hnl (by have := (mayM_mem hm).2.2; omega) s.data.dat hbl (fun e => by rw [hm] at e; cases e) (fun _ e => by rw [hb] at e; cases e) fun _ _ b h44 f44 hb44 m44 => ⟨_, _, _, _, rfl, num_spec ⟨_, rfl, ct rfl ⟨hdM ns ds, m44.str, ⟨by omega, by omega⟩, ?_⟩⟩⟩
  have wz : Sl h44 1 wA wl.length wC wl (On col 3) := s.was.fr f44 fun _ _ _ x => x
  obtain ⟨p, e, cc⟩ := wz.get (by omega)
  rw [e]
  refine os ⟨_, Cells.cell cc w0, ct (beq_self_eq_true _) ⟨⟨by omega, by omega⟩, os ⟨_, Cells.cell cc w1, Empty_spec fun h46 n46 => ⟨_, _, _, rfl, ?_, zeros 512, strAll n46.rd (zeros_length 512), ?_⟩⟩⟩⟩
  · obtain ⟨p', e', cc'⟩ := (wz.fr n46.fr fun _ _ _ x => x).get (by omega)
    have : p = p' := Option.some.inj (e.symm.trans e')
    subst this
    exact Cells.cell cc' w1
  · rw [beq_self_eq_true]; exact hK h46 ((s.fr.no f44).new n46)
/-- every mark is where it was put: lists -/
theorem own_seeL {K NEXT' : Value → Heap → Prop} {NEXT : Heap → Prop} (s : Hs h0 hh col d wA wC wl na ns ba bl ss ds) (ho : d.os.length = 3) (ll : ∀ i (hi : i < d.ls.length), d.ls[i].l ≤ 96) (ol : ∀ i (h1 : i < d.ls.length) (h2 : i < d.os.length), d.os[i].l = d.ls[i].l + 2)
    (hw : ∀ i (h1 : i < d.ls.length) (h2 : i < d.ws.length), d.ws[i] = List.replicate d.ls[i].l (mkL i)) (hov : ∀ i (h1 : i < d.os.length) (h2 : i < d.ov.length), d.ov[i] = List.replicate d.os[i].l (mkL i)) (hN : NEXT hh) :
    ∃ (I11 : Int → Heap → Prop) (M11 : Int → Heap → Nat), I11 0 hh ∧ ∀ (n15 : Int), ∀ h42 : Heap, I11 n15 h42 →
      bif (decide (n15 < (d.os.length : Int))) then ((0 ≤ n15 ∧ n15 < (d.os.length : Int)) ∧ onSome d.oA fun p19 => ∃ (sA25 : Option Addr) (sL25 : Nat) (sC25 : Nat), cellOf h42 (Addr.add p19 (Int.toNat n15)) = some (.slice sA25 sL25 sC25) ∧
        ∃ (I12 : Int → Heap → Prop) (M12 : Int → Heap → Nat), I12 0 h42 ∧ ∀ (n16 : Int), ∀ h43 : Heap, I12 n16 h43 →
        bif (decide (n16 < (sL25 : Int))) then ((0 ≤ n16 ∧ n16 < (sL25 : Int)) ∧ onSome sA25 fun p20 => ∃ (n17 : Int), cellOf h43 (Addr.add p20 (Int.toNat n16)) = some (.int .i64 n17) ∧
          bif (n17 != (IntKind.wrap .i64 ((-10) - n15))) then (K (.bool false) h43) else ((0 ≤ n15 ∧ n15 < (d.ls.length : Int)) ∧ onSome d.lA fun p21 => ∃ (sA26 : Option Addr) (sL26 : Nat) (sC26 : Nat), cellOf h43 (Addr.add p21 (Int.toNat n15)) = some (.slice sA26 sL26 sC26) ∧
            bif (decide (n16 < (sL26 : Int))) then ((0 ≤ n15 ∧ n15 < (d.ls.length : Int)) ∧ onSome d.lA fun p22 => ∃ (sA27 : Option Addr) (sL27 : Nat) (sC27 : Nat), cellOf h43 (Addr.add p22 (Int.toNat n15)) = some (.slice sA27 sL27 sC27) ∧ (0 ≤ n16 ∧ n16 < (sL27 : Int)) ∧ onSome sA27 fun p23 => ∃ (n18 : Int), cellOf h43 (Addr.add p23 (Int.toNat n16)) = some (.int .i64 n18) ∧
              bif (n18 != n17) then (K (.bool false) h43) else (I12 (IntKind.wrap .i64 (n16 + 1)) h43 ∧ M12 (IntKind.wrap .i64 (n16 + 1)) h43 < M12 n16 h43)) else (I12 (IntKind.wrap .i64 (n16 + 1)) h43 ∧ M12 (IntKind.wrap .i64 (n16 + 1)) h43 < M12 n16 h43))) else (I11 (IntKind.wrap .i64 (n15 + 1)) h43 ∧ M11 (IntKind.wrap .i64 (n15 + 1)) h43 < M11 n15 h42)) else NEXT h42 := by
  have n3 := s.n3
  have lw := s.lists.len
  have lo := s.longer.len
  refine ⟨fun n h => 0 ≤ n ∧ n ≤ 3 ∧ hh = h, fun n _ => ((3 : Nat) - n).toNat, ⟨by omega, by omega, rfl⟩, ?_⟩
  rintro n _ ⟨z0, z1, rfl⟩
  rw [ho]
  refine cd (fun hn => ?_) fun _ => hN
  have hn : n < 3 := hn
  have i1 : n.toNat < d.os.length := by omega
  have i2 : n.toNat < d.ls.length := by omega
  obtain ⟨p, e, cc⟩ := s.longer.cell i1
  obtain ⟨q, eq, cq⟩ := s.lists.cell i2
  have hol := ol n.toNat i2 i1
  have hll := ll n.toNat i2
  rw [e, eq, n3]
  refine ⟨⟨z0, hn⟩, os ⟨_, _, _, cc, fun j h => 0 ≤ j ∧ j ≤ d.os[n.toNat].l ∧ hh = h, fun j _ => ((d.os[n.toNat].l : Int) - j).toNat, ⟨by omega, by omega, rfl⟩, ?_⟩⟩
  rintro j _ ⟨j0, j1, rfl⟩
  have nx : (0 ≤ IntKind.wrap .i64 (j + 1) ∧ IntKind.wrap .i64 (j + 1) ≤ d.os[n.toNat].l ∧ hh = hh) ∧ ((d.os[n.toNat].l : Int) - IntKind.wrap .i64 (j + 1)).toNat < ((d.os[n.toNat].l : Int) - j).toNat ∨ ¬ j < d.os[n.toNat].l := by
    by_cases hj : j < d.os[n.toNat].l
    · left
      rw [wrap_i64 (n := j + 1) (by omega) (by omega)]
      exact ⟨⟨by omega, by omega, rfl⟩, falls hj⟩
    · right; exact hj
  refine cd (fun hj => ?_) fun hj => ?_
  · have nx := nx.resolve_right (fun x => x hj)
    obtain ⟨pi, ei, ci⟩ := s.longer.item i1 (by omega) (j := j.toNat) (by omega) (v := mkL n.toNat) (by rw [hov _ i1 (by omega)]; exact rep_get (by omega))
    have en : (-10 : Int) - ((n.toNat : Nat) : Int) = -10 - n := by omega
    rw [wrap_i64 (n := -10 - n) (by omega) (by omega), ei]
    refine ⟨⟨j0, hj⟩, os ⟨_, ci, cn (fun x => absurd en x) fun _ => ⟨⟨z0, hn⟩, os ⟨_, _, _, cq, cd (fun hj2 => ?_) fun _ => nx⟩⟩⟩⟩
    obtain ⟨pl, el, cl⟩ := s.lists.item i2 (by omega) (j := j.toNat) (by omega) (v := mkL n.toNat) (by rw [hw _ i2 (by omega)]; exact rep_get (by omega))
    refine ⟨⟨z0, hn⟩, os ⟨_, _, _, cq, ⟨j0, hj2⟩, ?_⟩⟩
    rw [el]
    exact os ⟨_, cl, cn (fun x => absurd rfl x) fun _ => nx⟩
  · rw [wrap_i64 (n := n + 1) (by omega) (by omega)]
    exact ⟨⟨by omega, by omega, rfl⟩, falls (m := 3) hn⟩
/-- and heads -/
theorem own_seeH {K : Value → Heap → Prop} {NEXT : Heap → Prop} (s : Hs h0 hh col d wA wC wl na ns ba bl ss ds) (hg : d.gs.length = 6) (ll : ∀ i (hi : i < d.hs.length), d.hs[i].l ≤ 512) (gl : ∀ i (h1 : i < d.hs.length) (h2 : i < d.gs.length), d.gs[i].l = d.hs[i].l + 2)
    (hw : ∀ i (h1 : i < d.hs.length) (h2 : i < d.vs.length), d.vs[i] = List.replicate d.hs[i].l (mkH i)) (hov : ∀ i (h1 : i < d.gs.length) (h2 : i < d.gv.length), d.gv[i] = List.replicate d.gs[i].l (mkH i)) (hN : NEXT hh) :
    ∃ (I9 : Int → Heap → Prop) (M9 : Int → Heap → Nat), I9 0 hh ∧ ∀ (n11 : Int), ∀ h40 : Heap, I9 n11 h40 →
      bif (decide (n11 < (d.gs.length : Int))) then ((0 ≤ n11 ∧ n11 < (d.gs.length : Int)) ∧ onSome d.gA fun p14 => ∃ (sA22 : Option Addr) (sL22 : Nat) (sC22 : Nat), cellOf h40 (Addr.add p14 (Int.toNat n11)) = some (.slice sA22 sL22 sC22) ∧
        ∃ (I10 : Int → Heap → Prop) (M10 : Int → Heap → Nat), I10 0 h40 ∧ ∀ (n12 : Int), ∀ h41 : Heap, I10 n12 h41 →
        bif (decide (n12 < (sL22 : Int))) then ((0 ≤ n12 ∧ n12 < (sL22 : Int)) ∧ onSome sA22 fun p15 => ∃ (n13 : Int), cellOf h41 (Addr.add p15 (Int.toNat n12)) = some (.int .u8 n13) ∧
          bif (n13 != (IntKind.wrap .u8 ((IntKind.wrap .i64 (10 + n11))))) then (K (.bool false) h41) else ((0 ≤ n11 ∧ n11 < (d.hs.length : Int)) ∧ onSome d.hA fun p16 => ∃ (sA23 : Option Addr) (sL23 : Nat) (sC23 : Nat), cellOf h41 (Addr.add p16 (Int.toNat n11)) = some (.slice sA23 sL23 sC23) ∧
            bif (decide (n12 < (sL23 : Int))) then ((0 ≤ n11 ∧ n11 < (d.hs.length : Int)) ∧ onSome d.hA fun p17 => ∃ (sA24 : Option Addr) (sL24 : Nat) (sC24 : Nat), cellOf h41 (Addr.add p17 (Int.toNat n11)) = some (.slice sA24 sL24 sC24) ∧ (0 ≤ n12 ∧ n12 < (sL24 : Int)) ∧ onSome sA24 fun p18 => ∃ (n14 : Int), cellOf h41 (Addr.add p18 (Int.toNat n12)) = some (.int .u8 n14) ∧
              bif (n14 != n13) then (K (.bool false) h41) else (I10 (IntKind.wrap .i64 (n12 + 1)) h41 ∧ M10 (IntKind.wrap .i64 (n12 + 1)) h41 < M10 n12 h41)) else (I10 (IntKind.wrap .i64 (n12 + 1)) h41 ∧ M10 (IntKind.wrap .i64 (n12 + 1)) h41 < M10 n12 h41))) else (I9 (IntKind.wrap .i64 (n11 + 1)) h41 ∧ M9 (IntKind.wrap .i64 (n11 + 1)) h41 < M9 n11 h40)) else NEXT h40 := by
  have n6 := s.n6
  have lw := s.heads.len
  have lo := s.longs.len
  refine ⟨fun n h => 0 ≤ n ∧ n ≤ 6 ∧ hh = h, fun n _ => ((6 : Nat) - n).toNat, ⟨by omega, by omega, rfl⟩, ?_⟩
  rintro n _ ⟨z0, z1, rfl⟩
  rw [hg]
  refine cd (fun hn => ?_) fun _ => hN
  have hn : n < 6 := hn
  have i1 : n.toNat < d.gs.length := by omega
  have i2 : n.toNat < d.hs.length := by omega
  obtain ⟨p, e, cc⟩ := s.longs.cell i1
  obtain ⟨q, eq, cq⟩ := s.heads.cell i2
  have hol := gl n.toNat i2 i1
  have hll := ll n.toNat i2
  rw [e, eq, n6]
  refine ⟨⟨z0, hn⟩, os ⟨_, _, _, cc, fun j h => 0 ≤ j ∧ j ≤ d.gs[n.toNat].l ∧ hh = h, fun j _ => ((d.gs[n.toNat].l : Int) - j).toNat, ⟨by omega, by omega, rfl⟩, ?_⟩⟩
  rintro j _ ⟨j0, j1, rfl⟩
  have nx : (0 ≤ IntKind.wrap .i64 (j + 1) ∧ IntKind.wrap .i64 (j + 1) ≤ d.gs[n.toNat].l ∧ hh = hh) ∧ ((d.gs[n.toNat].l : Int) - IntKind.wrap .i64 (j + 1)).toNat < ((d.gs[n.toNat].l : Int) - j).toNat ∨ ¬ j < d.gs[n.toNat].l := by
    by_cases hj : j < d.gs[n.toNat].l
    · left
      rw [wrap_i64 (n := j + 1) (by omega) (by omega)]
      exact ⟨⟨by omega, by omega, rfl⟩, falls hj⟩
    · right; exact hj
  refine cd (fun hj => ?_) fun hj => ?_
  · have nx := nx.resolve_right (fun x => x hj)
    obtain ⟨pi, ei, ci⟩ := s.longs.item i1 (by omega) (j := j.toNat) (by omega) (v := mkH n.toNat) (by rw [hov _ i1 (by omega)]; exact rep_get (by omega))
    have en : (10 : Int) + ((n.toNat : Nat) : Int) = 10 + n := by omega
    rw [wrap_i64 (n := 10 + n) (by omega) (by omega), wrap_u8 (n := 10 + n) (by omega) (by omega), ei]
    refine ⟨⟨j0, hj⟩, os ⟨_, ci, cn (fun x => absurd en x) fun _ => ⟨⟨z0, hn⟩, os ⟨_, _, _, cq, cd (fun hj2 => ?_) fun _ => nx⟩⟩⟩⟩
    obtain ⟨pl, el, cl⟩ := s.heads.item i2 (by omega) (j := j.toNat) (by omega) (v := mkH n.toNat) (by rw [hw _ i2 (by omega)]; exact rep_get (by omega))
    refine ⟨⟨z0, hn⟩, os ⟨_, _, _, cq, ⟨j0, hj2⟩, ?_⟩⟩
    rw [el]
    exact os ⟨_, cl, cn (fun x => absurd rfl x) fun _ => nx⟩
  · rw [wrap_i64 (n := n + 1) (by omega) (by omega)]
    exact ⟨⟨by omega, by omega, rfl⟩, falls (m := 6) hn⟩
end Go.Proofs.YtnlmieklakolkaaDoor.Hd
