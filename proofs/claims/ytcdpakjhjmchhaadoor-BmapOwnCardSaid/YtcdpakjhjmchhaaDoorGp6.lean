/-
  TEXTS FOR bmapOwn_card: OwC OwD OwE OwF OwG OwH BnS OwI Bown.
-/
import Derived.Test.YtcdpakjhjmchhaaDoorGp5
namespace Go.Proofs.YtcdpakjhjmchhaaDoor.Bm
open Go Go.Proofs Go.Proofs.YtcdpakjhjmchhaaDoor.Wx Go.Proofs.YtcdpakjhjmchhaaDoor.Hp Go.Proofs.YtcdpakjhjmchhaaDoor.W Go.Proofs.YtcdpakjhjmchhaaDoor.Ad Go.Proofs.YtcdpakjhjmchhaaDoor.Tm Go.Proofs.YtcdpakjhjmchhaaDoor.Bt Go.Proofs.YtcdpakjhjmchhaaDoor.Spc Go.Proofs.YtcdpakjhjmchhaaDoor.Re Go.Proofs.YtcdpakjhjmchhaaDoor.Av Go.Proofs.YtcdpakjhjmchhaaDoor.Rm
open Go.Proofs.YtcdpakjhjmchhaaDoor.Rz (Ow Fam Kept Fz mixed upB kM kA kG kW Sl.keep')
open Go.Proofs.YtcdpakjhjmchhaaDoor.Hd (ints)
open Go.Proofs.YtcdpakjhjmchhaaDoor.In (Glo ints_length ints_one)
variable {h hh h' : Heap} {col col' : Nat → Nat} {B : Heap → (Nat → Nat) → Prop} {pA qA : Option Addr} {pC qC : Nat} {ls qs : List Rz.Sc} {X : List (List (Int × Int))} {Y : List (List Int)}
theorem own_lenX (s : Ow B (D2 (fam pA pC ls (fX X)) (fam qA qC qs (fY Y))) (fun _ => none) h col) {i : Nat} (hi : i < ls.length) (hx : i < X.length) : X[i].length = ls[i].l := by
  have it := (s.fam false).lists.at_ i hi (by show i < (fX X).length; rw [fX_len]; exact hx)
  have it : Sl h 2 ls[i].a ls[i].l ls[i].c ((fX X)[i]'(by rw [fX_len]; exact hx)) (On col (10 + i)) := it
  rw [fX_get] at it
  have := it.1
  rw [flat_length _ 2 _ (pcell_len _)] at this
  omega
theorem own_lenY (s : Ow B (D2 (fam pA pC ls (fX X)) (fam qA qC qs (fY Y))) (fun _ => none) h col) {i : Nat} (hi : i < qs.length) (hy : i < Y.length) : Y[i].length = qs[i].l := by
  have it := (s.fam true).lists.at_ i hi (by show i < (fY Y).length; rw [fY_len]; exact hy)
  have it : Sl h 1 qs[i].a qs[i].l qs[i].c ((fY Y)[i]'(by rw [fY_len]; exact hy)) (On col (20 + i)) := it
  rw [fY_get] at it
  have := it.1
  rw [flat_length _ 1 _ (cT_len _)] at this
  omega
theorem own_cellX {D : Bool → Fam} {pd : Bool → Option (Rz.Sc × List Value)} (s : Ow B D pd h col) (b : Bool) {A : Option Addr} (eA : (D b).A = A) (el : (D b).ls = ls) {i : Nat} (hi : i < ls.length) : ∃ p, A = some p ∧ cellOf h (Addr.add p (Int.toNat (i : Int))) = some (.slice ls[i].a ls[i].l ls[i].c) := by
  subst eA; subst el
  exact (s.fam b).lists.cell hi
theorem own_mark {K : Value → Heap → Prop} {NEXT : Heap → Prop} (kB : Kept B) (s : Ow B (D2 (fam pA pC ls (fX X)) (fam qA qC qs (fY Y))) (fun _ => none) hh col) (l3 : ls.length = 3) (q3 : qs.length = 3) (x3 : X.length = 3) (y3 : Y.length = 3) (lb : ∀ i (hi : i < ls.length), ls[i].l ≤ 20000) (qb : ∀ i (hi : i < qs.length), qs[i].l ≤ 20000)
    (hN : ∀ h' col' X' Y', Ow B (D2 (fam pA pC ls (fX X')) (fam qA qC qs (fY Y'))) (fun _ => none) h' col' → X'.length = 3 → Y'.length = 3 → (∀ i (hi : i < ls.length), X'[i]? = some (mkX i ls[i].l)) → (∀ i (hi : i < qs.length), Y'[i]? = some (mkY i qs[i].l)) → NEXT h') :
  ∃ (I4 : Int → Heap → Prop) (M4 : Int → Heap → Nat), I4 0 hh ∧
  ∀ (n16 : Int), ∀ h43 : Heap, I4 n16 h43 →
  bif (decide (n16 < (ls.length : Int))) then (
  (0 ≤ n16 ∧ n16 < (ls.length : Int)) ∧
  onSome pA fun p7 =>
  ∃ (sA12 : Option Addr) (sL12 : Nat) (sC12 : Nat), cellOf h43 (Addr.add p7 (Int.toNat n16)) = some (.slice sA12 sL12 sC12) ∧
  ∃ (I5 : Int → Heap → Prop) (M5 : Int → Heap → Nat), I5 0 h43 ∧
  ∀ (n17 : Int), ∀ h44 : Heap, I5 n17 h44 →
  bif (decide (n17 < (sL12 : Int))) then (
  (0 ≤ n16 ∧ n16 < (ls.length : Int)) ∧
  onSome pA fun p8 =>
  ∃ (sA13 : Option Addr) (sL13 : Nat) (sC13 : Nat), cellOf h44 (Addr.add p8 (Int.toNat n16)) = some (.slice sA13 sL13 sC13) ∧
  (0 ≤ n17 ∧ n17 < (sL13 : Int)) ∧
  onSome sA13 fun p9 =>
  PutRow (Addr.add p9 ((Int.toNat n17) * 2)) [.int .i64 (IntKind.wrap .i64 ((-1) - n16)), .int .i64 n17] 2 h44 fun h45 =>
  I5 (IntKind.wrap .i64 (n17 + 1)) h45 ∧ M5 (IntKind.wrap .i64 (n17 + 1)) h45 < M5 n17 h44) else (
  (0 ≤ n16 ∧ n16 < (qs.length : Int)) ∧
  onSome qA fun p10 =>
  ∃ (sA14 : Option Addr) (sL14 : Nat) (sC14 : Nat), cellOf h44 (Addr.add p10 (Int.toNat n16)) = some (.slice sA14 sL14 sC14) ∧
  ∃ (I6 : Int → Heap → Prop) (M6 : Int → Heap → Nat), I6 0 h44 ∧
  ∀ (n18 : Int), ∀ h46 : Heap, I6 n18 h46 →
  bif (decide (n18 < (sL14 : Int))) then (
  (0 ≤ n16 ∧ n16 < (qs.length : Int)) ∧
  onSome qA fun p11 =>
  ∃ (sA15 : Option Addr) (sL15 : Nat) (sC15 : Nat), cellOf h46 (Addr.add p11 (Int.toNat n16)) = some (.slice sA15 sL15 sC15) ∧
  (0 ≤ n18 ∧ n18 < (sL15 : Int)) ∧
  onSome sA15 fun p12 =>
  Put (Addr.add p12 (Int.toNat n18)) (.int .i64 (IntKind.wrap .i64 ((-100) - n16))) h46 fun h47 =>
  I6 (IntKind.wrap .i64 (n18 + 1)) h47 ∧ M6 (IntKind.wrap .i64 (n18 + 1)) h47 < M6 n18 h46) else (
  I4 (IntKind.wrap .i64 (n16 + 1)) h46 ∧ M4 (IntKind.wrap .i64 (n16 + 1)) h46 < M4 n16 h43))) else NEXT h43 := by
  refine ⟨fun m hh => ∃ i : Nat, m = i ∧ i ≤ 3 ∧ ∃ col X Y, Ow B (D2 (fam pA pC ls (fX X)) (fam qA qC qs (fY Y))) (fun _ => none) hh col ∧ X.length = 3 ∧ Y.length = 3 ∧ (∀ k (hk : k < ls.length), k < i → X[k]? = some (mkX k ls[k].l)) ∧ (∀ k (hk : k < qs.length), k < i → Y[k]? = some (mkY k qs[k].l)), fun m _ => ((ls.length : Int) - m).toNat,
    ⟨0, rfl, by omega, col, X, Y, s, x3, y3, fun k _ h => absurd h (Nat.not_lt_zero _), fun k _ h => absurd h (Nat.not_lt_zero _)⟩, ?_⟩
  clear s x3 y3
  rintro _ h43 ⟨i, rfl, hi3, col3, X3, Y3, s3, x3, y3, hX, hY⟩
  refine cd (fun hlt => ?_) fun hlt => hN h43 col3 X3 Y3 s3 x3 y3 (fun k hk => hX k hk (by omega)) fun k hk => hY k hk (by omega)
  have hi : i < ls.length := by omega
  have hq : i < qs.length := by omega
  have hx : i < X3.length := by omega
  have hy : i < Y3.length := by omega
  have lx := own_lenX s3 hi hx
  have ly := own_lenY s3 hq hy
  have b1 := lb i hi
  have b2 := qb i hq
  obtain ⟨p, e, cc⟩ := own_cellX s3 false (A := pA) rfl (ls := ls) rfl hi
  refine ⟨⟨by omega, hlt⟩, Rz.oe e ⟨_, _, _, cc, fun m hh => ∃ j : Nat, m = j ∧ j ≤ ls[i].l ∧ ∃ col, Ow B (D2 (fam pA pC ls (fX (X3.set i (mixed (fun k : Nat => (-1 - (i : Int), (k : Int))) X3[i] j)))) (fam qA qC qs (fY Y3))) (fun _ => none) hh col, fun m _ => ((ls[i].l : Int) - m).toNat,
    ⟨0, rfl, Nat.zero_le _, col3, by rw [set_same hx (Rz.mixed_zero _ _).symm]; exact s3⟩, ?_⟩⟩
  rintro _ h44 ⟨j, rfl, hj, col4, s4⟩
  refine cd (fun hlt2 => ?_) fun hlt2 => ?_
  · obtain ⟨p', e', cc'⟩ := own_cellX s4 false (A := pA) rfl (ls := ls) rfl hi
    refine ⟨⟨by omega, hlt⟩, Rz.oe e' ⟨_, _, _, cc', ⟨by omega, hlt2⟩, ?_⟩⟩
    rw [neg_wrap (a := -1) ⟨by decide, by decide⟩ hi3, Int.toNat_natCast, wrap_i64 (n := (j : Int) + 1) (by omega) (by omega)]
    refine own_pair kB s4 hi (by rw [List.length_set]; exact hx) (by omega) (by rw [List.getElem_set_self]) lx fun h' s' => ⟨⟨j + 1, by omega, by omega, col4, by rw [List.set_set] at s'; exact s'⟩, falls hlt2⟩
  have ej : j = ls[i].l := by omega
  rw [ej, ← lx, Rz.mixed_all, lx] at s4
  have s4 : Ow B (D2 (fam pA pC ls (fX (X3.set i (mkX i ls[i].l)))) (fam qA qC qs (fY Y3))) (fun _ => none) h44 col4 := s4
  obtain ⟨p, e, cc⟩ := own_cellX s4 true (A := qA) rfl (ls := qs) rfl hq
  refine ⟨⟨by omega, by omega⟩, Rz.oe e ⟨_, _, _, cc, fun m hh => ∃ j : Nat, m = j ∧ j ≤ qs[i].l ∧ ∃ col, Ow B (D2 (fam pA pC ls (fX (X3.set i (mkX i ls[i].l)))) (fam qA qC qs (fY (Y3.set i (mixed (fun _ : Nat => -100 - (i : Int)) Y3[i] j))))) (fun _ => none) hh col, fun m _ => ((qs[i].l : Int) - m).toNat,
    ⟨0, rfl, Nat.zero_le _, col4, by rw [set_same hy (Rz.mixed_zero _ _).symm]; exact s4⟩, ?_⟩⟩
  clear s4 hj hlt2 ej
  rintro _ h46 ⟨j, rfl, hj, col6, s6⟩
  refine cd (fun hlt2 => ?_) fun hlt2 => ?_
  · obtain ⟨p', e', cc'⟩ := own_cellX s6 true (A := qA) rfl (ls := qs) rfl hq
    refine ⟨⟨by omega, by omega⟩, Rz.oe e' ⟨_, _, _, cc', ⟨by omega, hlt2⟩, ?_⟩⟩
    rw [neg_wrap (a := -100) ⟨by decide, by decide⟩ hi3, Int.toNat_natCast, wrap_i64 (n := (j : Int) + 1) (by omega) (by omega)]
    refine own_int kB s6 hq (by rw [List.length_set]; exact hy) (by omega) (by rw [List.getElem_set_self]) ly fun h' s' => ⟨⟨j + 1, by omega, by omega, col6, by rw [List.set_set] at s'; exact s'⟩, falls hlt2⟩
  have ej : j = qs[i].l := by omega
  rw [ej, ← ly, Rz.mixed_all, ly] at s6
  have s6 : Ow B (D2 (fam pA pC ls (fX (X3.set i (mkX i ls[i].l)))) (fam qA qC qs (fY (Y3.set i (mkY i qs[i].l))))) (fun _ => none) h46 col6 := s6
  rw [wrap_i64 (n := (i : Int) + 1) (by omega) (by omega)]
  refine ⟨⟨i + 1, by omega, by omega, col6, _, _, s6, by rw [List.length_set]; exact x3, by rw [List.length_set]; exact y3, fun k hk hki => ?_, fun k hk hki => ?_⟩, falls hlt⟩
  · by_cases ek : i = k
    · subst ek; rw [List.getElem?_set_self hx]
    · rw [List.getElem?_set_ne ek]; exact hX k hk (by omega)
  · by_cases ek : i = k
    · subst ek; rw [List.getElem?_set_self hy]
    · rw [List.getElem?_set_ne ek]; exact hY k hk (by omega)
end Go.Proofs.YtcdpakjhjmchhaaDoor.Bm
namespace Go.Proofs.YtcdpakjhjmchhaaDoor.Bm
open Go Go.Proofs Go.Proofs.YtcdpakjhjmchhaaDoor.Wx Go.Proofs.YtcdpakjhjmchhaaDoor.Hp Go.Proofs.YtcdpakjhjmchhaaDoor.W Go.Proofs.YtcdpakjhjmchhaaDoor.Ad Go.Proofs.YtcdpakjhjmchhaaDoor.Tm Go.Proofs.YtcdpakjhjmchhaaDoor.Bt Go.Proofs.YtcdpakjhjmchhaaDoor.Spc Go.Proofs.YtcdpakjhjmchhaaDoor.Re Go.Proofs.YtcdpakjhjmchhaaDoor.Av Go.Proofs.YtcdpakjhjmchhaaDoor.Rm
open Go.Proofs.YtcdpakjhjmchhaaDoor.Rz (Ow Fam Kept Fz mixed upB kM kA kG kW Sl.keep')
open Go.Proofs.YtcdpakjhjmchhaaDoor.Hd (ints)
open Go.Proofs.YtcdpakjhjmchhaaDoor.In (Glo ints_length ints_one)
abbrev Pd := Option (Rz.Sc × List Value)
def P2 (x y : Pd) : Bool → Pd | false => x | true => y
theorem P2_f (x y x' : Pd) : upB (P2 x y) false x' = P2 x' y := by funext b; cases b <;> rfl
theorem P2_t (x y y' : Pd) : upB (P2 x y) true y' = P2 x y' := by funext b; cases b <;> rfl
theorem P2_none : P2 none none = fun _ => none := by funext b; cases b <;> rfl
variable {h hh h' : Heap} {col col' : Nat → Nat} {B : Heap → (Nat → Nat) → Prop} {p q : Fam} {x y : Pd}
theorem one1 {v : Value} (hv : v.oneCell' = true) : ∀ u ∈ [v], u.oneCell' = true := fun u hu => by rw [List.mem_singleton.mp hu]; exact hv
theorem stP (kB : Kept B) (s : Ow B (D2 p q) (P2 none y) h col) {i : Nat} (ei : i = p.gs.length) (hi : i < p.ls.length) (hv : i < p.ws.length) {a : Option Addr} {v w : Value} (z : SlCells h a [v, w]) (o1 : v.oneCell' = true) (o2 : w.oneCell' = true) (hb : p.ls[i].l ≤ 20000) {K : Option Addr → Nat → Nat → Heap → Prop}
    (hK : ∀ a' c' h' col', Ow B (D2 p q) (P2 (some (⟨a', p.ls[i].l + 1, c'⟩, p.ws[i] ++ [v, w])) y) h' col' → K a' (p.ls[i].l + 1) c' h') :
    ∃ new5 : List Value, List.length new5 = 1 * 2 ∧ SlCells h a new5 ∧ (∀ v ∈ new5, v.oneCell' = true) ∧ AppendP ti56 56 p.ls[i].a p.ls[i].l p.ls[i].c 1 new5 h K := by
  have hbytes : (ti56).bytes = 16 := rfl
  exact ⟨[v, w], rfl, z, one2 o1 o2, s.pick false kB ei hi hv (elem := ti56) rfl rfl rfl (by rw [hbytes]; show (p.ls[i].l + 1) * 16 ≤ _; omega) (by show p.ls[i].l + 1 ≤ _; omega) fun a' c' h' col' s' => hK a' c' h' col' (by rw [P2_f] at s'; exact s')⟩
theorem stQ (kB : Kept B) (s : Ow B (D2 p q) (P2 x none) h col) {i : Nat} (ei : i = q.gs.length) (hi : i < q.ls.length) (hv : i < q.ws.length) {a : Option Addr} {v : Value} (z : SlCells h a [v]) (o1 : v.oneCell' = true) (hb : q.ls[i].l ≤ 20000) {K : Option Addr → Nat → Nat → Heap → Prop}
    (hK : ∀ a' c' h' col', Ow B (D2 p q) (P2 x (some (⟨a', q.ls[i].l + 1, c'⟩, q.ws[i] ++ [v]))) h' col' → K a' (q.ls[i].l + 1) c' h') :
    ∃ new5 : List Value, List.length new5 = 1 * 1 ∧ SlCells h a new5 ∧ (∀ v ∈ new5, v.oneCell' = true) ∧ AppendP ti3 3 q.ls[i].a q.ls[i].l q.ls[i].c 1 new5 h K := by
  have hbytes : (ti3).bytes = 8 := rfl
  exact ⟨[v], rfl, z, one1 o1, s.pick true kB ei hi hv (elem := ti3) rfl rfl rfl (by rw [hbytes]; show (q.ls[i].l + 1) * 8 ≤ _; omega) (by show q.ls[i].l + 1 ≤ _; omega) fun a' c' h' col' s' => hK a' c' h' col' (by rw [P2_t] at s'; exact s')⟩
theorem stL (kB : Kept B) {v : Rz.Sc} {w : List Value} (s : Ow B (D2 p q) (P2 (some (v, w)) y) h col) {a : Option Addr} (z : SlCells h a [v.v]) {K : Option Addr → Nat → Nat → Heap → Prop}
    (hK : ∀ a' c' h' col', Ow B (D2 { p with gA := a', gC := c', gs := p.gs ++ [v], gv := p.gv ++ [w] } q) (P2 none y) h' col' → K a' (p.gs.length + 1) c' h') :
    ∃ new5 : List Value, List.length new5 = 1 * 1 ∧ SlCells h a new5 ∧ (∀ v ∈ new5, v.oneCell' = true) ∧ AppendP ti51 51 p.gA p.gs.length p.gC 1 new5 h K :=
  ⟨[v.v], rfl, z, one1 rfl, s.gpush false kB rfl (elem := ti51) rfl rfl (by decide) fun a' c' h' col' s' => hK a' c' h' col' (by rw [P2_f, D2_f] at s'; exact s')⟩
theorem stR (kB : Kept B) {v : Rz.Sc} {w : List Value} (s : Ow B (D2 p q) (P2 x (some (v, w))) h col) {a : Option Addr} (z : SlCells h a [v.v]) {K : Option Addr → Nat → Nat → Heap → Prop}
    (hK : ∀ a' c' h' col', Ow B (D2 p { q with gA := a', gC := c', gs := q.gs ++ [v], gv := q.gv ++ [w] }) (P2 x none) h' col' → K a' (q.gs.length + 1) c' h') :
    ∃ new5 : List Value, List.length new5 = 1 * 1 ∧ SlCells h a new5 ∧ (∀ v ∈ new5, v.oneCell' = true) ∧ AppendP ti22 22 q.gA q.gs.length q.gC 1 new5 h K :=
  ⟨[v.v], rfl, z, one1 rfl, s.gpush true kB rfl (elem := ti22) rfl rfl (by decide) fun a' c' h' col' s' => hK a' c' h' col' (by rw [P2_t, D2_t] at s'; exact s')⟩
/-- the end of a round -/
def Fin (B : Heap → (Nat → Nat) → Prop) (p q : Fam) (i : Nat) (v w m : Value) (hi : i < p.ls.length) (hv : i < p.ws.length) (hj : i < q.ls.length) (hw : i < q.ws.length) (K : Option Addr → Nat → Nat → Option Addr → Nat → Nat → Heap → Prop) : Prop :=
  ∀ a1 c1 a2 c2 a3 c3 a4 c4 h' col', Ow B (D2 { p with gA := a2, gC := c2, gs := p.gs ++ [⟨a1, p.ls[i].l + 1, c1⟩], gv := p.gv ++ [p.ws[i] ++ [v, w]] } { q with gA := a4, gC := c4, gs := q.gs ++ [⟨a3, q.ls[i].l + 1, c3⟩], gv := q.gv ++ [q.ws[i] ++ [m]] }) (P2 none none) h' col' → K a2 (p.gs.length + 1) c2 a4 (q.gs.length + 1) c4 h'
theorem Fin.mono {B' : Heap → (Nat → Nat) → Prop} {i : Nat} {v w m : Value} {hi : i < p.ls.length} {hv : i < p.ws.length} {hj : i < q.ls.length} {hw : i < q.ws.length} {K : Option Addr → Nat → Nat → Option Addr → Nat → Nat → Heap → Prop} (f : Fin B p q i v w m hi hv hj hw K) (hB : ∀ h col, B' h col → B h col) : Fin B' p q i v w m hi hv hj hw K :=
  fun a1 c1 a2 c2 a3 c3 a4 c4 h' col' s => f a1 c1 a2 c2 a3 c3 a4 c4 h' col' (s.mono (hB _ _))
variable {i : Nat} {v w m : Value} {hi : i < p.ls.length} {hv : i < p.ws.length} {hj : i < q.ls.length} {hw : i < q.ws.length} {KF : Option Addr → Nat → Nat → Option Addr → Nat → Nat → Heap → Prop}
/-- behind the longer list of pairs, and the mark -/
theorem tQ (kB : Kept B) {a1 : Option Addr} {c1 : Nat} {a2 : Option Addr} {c2 : Nat} (s : Ow B (D2 { p with gA := a2, gC := c2, gs := p.gs ++ [⟨a1, p.ls[i].l + 1, c1⟩], gv := p.gv ++ [p.ws[i] ++ [v, w]] } q) (P2 none none) h col) (fin : Fin B p q i v w m hi hv hj hw KF) (eq_ : i = q.gs.length) (qb : q.ls[i].l ≤ 20000) {k : Nat} (z : SlCells h (some ⟨k, 0, none⟩) [m]) (om : m.oneCell' = true) :
    ∃ new7 : List Value, List.length new7 = 1 * 1 ∧ SlCells h (some ⟨k, 0, none⟩) new7 ∧ (∀ v ∈ new7, v.oneCell' = true) ∧
  AppendP ti3 3 q.ls[i].a q.ls[i].l q.ls[i].c 1 new7 h fun sA21 sL21 sC21 h54 =>
  New [.slice sA21 sL21 sC21] 22 h54 fun h55 =>
  ∃ new8 : List Value, List.length new8 = 1 * 1 ∧ SlCells h55 (some ⟨h54.size, 0, none⟩) new8 ∧ (∀ v ∈ new8, v.oneCell' = true) ∧
  AppendP ti22 22 q.gA q.gs.length q.gC 1 new8 h55 fun sA22 sL22 sC22 h56 => KF a2 (p.gs.length + 1) c2 sA22 sL22 sC22 h56 :=
  stQ kB s eq_ hj hw z om qb fun a3 c3 h54 col54 s54 => New.intro fun h55 n55 => by
    have s55 := s54.new kB n55
    exact stR (kB.and (Kept.fz _ _)) s55 (a := some ⟨h54.size, 0, none⟩) s55.base.2.1 fun a4 c4 h56 col56 s56 => fin a1 c1 a2 c2 a3 c3 a4 c4 h56 col56 (s56.mono fun y => y.1)
theorem tCell {pd : Bool → Pd} (s : Ow B (D2 p q) pd h col) {b : Addr} (e : p.A = some b) (hi : i < p.ls.length) : cellOf h (Addr.add b (Int.toNat (i : Int))) = some (.slice p.ls[i].a p.ls[i].l p.ls[i].c) := by
  obtain ⟨b', e', cc⟩ := own_cellX s false (A := p.A) rfl (ls := p.ls) rfl hi
  rw [e] at e'; cases e'; exact cc
theorem tCellQ {pd : Bool → Pd} (s : Ow B (D2 p q) pd h col) {b : Addr} (e : q.A = some b) (hi : i < q.ls.length) : cellOf h (Addr.add b (Int.toNat (i : Int))) = some (.slice q.ls[i].a q.ls[i].l q.ls[i].c) := by
  obtain ⟨b', e', cc⟩ := own_cellX s true (A := q.A) rfl (ls := q.ls) rfl hi
  rw [e] at e'; cases e'; exact cc
/-- behind the slice of the longer list of pairs, and the mark -/
theorem tL (kB : Kept B) {a1 : Option Addr} {c1 : Nat} {b15 : Addr} (e15 : q.A = some b15) (s : Ow B (D2 p q) (P2 (some (⟨a1, p.ls[i].l + 1, c1⟩, p.ws[i] ++ [v, w])) none) h col) (fin : Fin B p q i v w m hi hv hj hw KF) (eq_ : i = q.gs.length) (qb : q.ls[i].l ≤ 20000) {k2 k : Nat} (z2 : SlCells h (some ⟨k2, 0, none⟩) [.slice a1 (p.ls[i].l + 1) c1]) (hz : ∀ h col, B h col → SlCells h (some ⟨k, 0, none⟩) [m]) (om : m.oneCell' = true) :
  ∃ new12 : List Value, List.length new12 = 1 * 1 ∧ SlCells h (some ⟨k2, 0, none⟩) new12 ∧ (∀ v ∈ new12, v.oneCell' = true) ∧
  AppendP ti51 51 p.gA p.gs.length p.gC 1 new12 h fun sA26 sL26 sC26 h64 =>
  (cellOf h64 (Addr.add b15 (Int.toNat (i : Int))) = some (.slice q.ls[i].a q.ls[i].l q.ls[i].c)) ∧
  ∃ new7 : List Value, List.length new7 = 1 * 1 ∧ SlCells h64 (some ⟨k, 0, none⟩) new7 ∧ (∀ v ∈ new7, v.oneCell' = true) ∧
  AppendP ti3 3 q.ls[i].a q.ls[i].l q.ls[i].c 1 new7 h64 fun sA21 sL21 sC21 h54 =>
  New [.slice sA21 sL21 sC21] 22 h54 fun h55 =>
  ∃ new8 : List Value, List.length new8 = 1 * 1 ∧ SlCells h55 (some ⟨h54.size, 0, none⟩) new8 ∧ (∀ v ∈ new8, v.oneCell' = true) ∧
  AppendP ti22 22 q.gA q.gs.length q.gC 1 new8 h55 fun sA22 sL22 sC22 h56 => KF sA26 sL26 sC26 sA22 sL22 sC22 h56 :=
  stL kB s (a := some ⟨k2, 0, none⟩) z2 fun a2 c2 h64 col64 s64 => ⟨tCellQ s64 e15 hj, tQ kB s64 fin eq_ qb (hz _ _ s64.base) om⟩
theorem tN2 (kB : Kept B) {a1 : Option Addr} {c1 : Nat} {b15 : Addr} (e15 : q.A = some b15) (s : Ow B (D2 p q) (P2 (some (⟨a1, p.ls[i].l + 1, c1⟩, p.ws[i] ++ [v, w])) none) h col) (fin : Fin B p q i v w m hi hv hj hw KF) (eq_ : i = q.gs.length) (qb : q.ls[i].l ≤ 20000) {k : Nat} (hz : ∀ h col, B h col → SlCells h (some ⟨k, 0, none⟩) [m]) (om : m.oneCell' = true) :
  New [.slice a1 (p.ls[i].l + 1) c1] 51 h fun h63 =>
  (cellOf h63 (Addr.add b15 (Int.toNat (i : Int))) = some (.slice q.ls[i].a q.ls[i].l q.ls[i].c)) ∧
  ∃ new12 : List Value, List.length new12 = 1 * 1 ∧ SlCells h63 (some ⟨h.size, 0, none⟩) new12 ∧ (∀ v ∈ new12, v.oneCell' = true) ∧
  AppendP ti51 51 p.gA p.gs.length p.gC 1 new12 h63 fun sA26 sL26 sC26 h64 =>
  (cellOf h64 (Addr.add b15 (Int.toNat (i : Int))) = some (.slice q.ls[i].a q.ls[i].l q.ls[i].c)) ∧
  ∃ new7 : List Value, List.length new7 = 1 * 1 ∧ SlCells h64 (some ⟨k, 0, none⟩) new7 ∧ (∀ v ∈ new7, v.oneCell' = true) ∧
  AppendP ti3 3 q.ls[i].a q.ls[i].l q.ls[i].c 1 new7 h64 fun sA21 sL21 sC21 h54 =>
  New [.slice sA21 sL21 sC21] 22 h54 fun h55 =>
  ∃ new8 : List Value, List.length new8 = 1 * 1 ∧ SlCells h55 (some ⟨h54.size, 0, none⟩) new8 ∧ (∀ v ∈ new8, v.oneCell' = true) ∧
  AppendP ti22 22 q.gA q.gs.length q.gC 1 new8 h55 fun sA22 sL22 sC22 h56 => KF sA26 sL26 sC26 sA22 sL22 sC22 h56 :=
  New.intro fun h63 n63 => by
    have s63 := s.new kB n63
    exact ⟨tCellQ s63 e15 hj, tL (kB.and (Kept.fz _ _)) e15 s63 (fin.mono fun _ _ y => y.1) eq_ qb s63.base.2.1 (fun _ _ y => hz _ _ y.1) om⟩
theorem tP (kB : Kept B) {b15 : Addr} (e15 : q.A = some b15) (s : Ow B (D2 p q) (P2 none none) h col) (fin : Fin B p q i v w m hi hv hj hw KF) (ep : i = p.gs.length) (eq_ : i = q.gs.length) (pb : p.ls[i].l ≤ 20000) (qb : q.ls[i].l ≤ 20000) {k1 k : Nat} (z1 : SlCells h (some ⟨k1, 0, none⟩) [v, w]) (hz : ∀ h col, B h col → SlCells h (some ⟨k, 0, none⟩) [m]) (ov : v.oneCell' = true) (ow : w.oneCell' = true) (om : m.oneCell' = true) :
  ∃ new15 : List Value, List.length new15 = 1 * 2 ∧ SlCells h (some ⟨k1, 0, none⟩) new15 ∧ (∀ v ∈ new15, v.oneCell' = true) ∧
  AppendP ti56 56 p.ls[i].a p.ls[i].l p.ls[i].c 1 new15 h fun sA29 sL29 sC29 h69 =>
  (cellOf h69 (Addr.add b15 (Int.toNat (i : Int))) = some (.slice q.ls[i].a q.ls[i].l q.ls[i].c)) ∧
  New [.slice sA29 sL29 sC29] 51 h69 fun h63 =>
  (cellOf h63 (Addr.add b15 (Int.toNat (i : Int))) = some (.slice q.ls[i].a q.ls[i].l q.ls[i].c)) ∧
  ∃ new12 : List Value, List.length new12 = 1 * 1 ∧ SlCells h63 (some ⟨h69.size, 0, none⟩) new12 ∧ (∀ v ∈ new12, v.oneCell' = true) ∧
  AppendP ti51 51 p.gA p.gs.length p.gC 1 new12 h63 fun sA26 sL26 sC26 h64 =>
  (cellOf h64 (Addr.add b15 (Int.toNat (i : Int))) = some (.slice q.ls[i].a q.ls[i].l q.ls[i].c)) ∧
  ∃ new7 : List Value, List.length new7 = 1 * 1 ∧ SlCells h64 (some ⟨k, 0, none⟩) new7 ∧ (∀ v ∈ new7, v.oneCell' = true) ∧
  AppendP ti3 3 q.ls[i].a q.ls[i].l q.ls[i].c 1 new7 h64 fun sA21 sL21 sC21 h54 =>
  New [.slice sA21 sL21 sC21] 22 h54 fun h55 =>
  ∃ new8 : List Value, List.length new8 = 1 * 1 ∧ SlCells h55 (some ⟨h54.size, 0, none⟩) new8 ∧ (∀ v ∈ new8, v.oneCell' = true) ∧
  AppendP ti22 22 q.gA q.gs.length q.gC 1 new8 h55 fun sA22 sL22 sC22 h56 => KF sA26 sL26 sC26 sA22 sL22 sC22 h56 :=
  stP kB s ep hi hv z1 ov ow pb fun a1 c1 h69 col69 s69 => ⟨tCellQ s69 e15 hj, tN2 kB e15 s69 fin eq_ qb hz om⟩
/-- a round, in whatever order -/
theorem own_round (kB : Kept B) {b13 b15 : Addr} (e13 : p.A = some b13) (e15 : q.A = some b15) (s : Ow B (D2 p q) (P2 none none) h col) (fin : Fin B p q i v w m hi hv hj hw KF) (ep : i = p.gs.length) (eq_ : i = q.gs.length) (pb : p.ls[i].l ≤ 20000) (qb : q.ls[i].l ≤ 20000) (ov : v.oneCell' = true) (ow : w.oneCell' = true) (om : m.oneCell' = true) :
  (
  List.length ([v, w] : List Value) = 2 ∧
  New [v, w] 56 h fun h49 =>
  (cellOf h49 (Addr.add b13 (Int.toNat (i : Int))) = some (.slice p.ls[i].a p.ls[i].l p.ls[i].c)) ∧
  (cellOf h49 (Addr.add b15 (Int.toNat (i : Int))) = some (.slice q.ls[i].a q.ls[i].l q.ls[i].c)) ∧
  (
  ∃ new5 : List Value, List.length new5 = 1 * 2 ∧ SlCells h49 (some ⟨h.size, 0, none⟩) new5 ∧ (∀ v ∈ new5, v.oneCell' = true) ∧
  AppendP ti56 56 p.ls[i].a p.ls[i].l p.ls[i].c 1 new5 h49 fun sA19 sL19 sC19 h50 =>
  (cellOf h50 (Addr.add b15 (Int.toNat (i : Int))) = some (.slice q.ls[i].a q.ls[i].l q.ls[i].c)) ∧
  (
  New [.slice sA19 sL19 sC19] 51 h50 fun h51 =>
  (cellOf h51 (Addr.add b15 (Int.toNat (i : Int))) = some (.slice q.ls[i].a q.ls[i].l q.ls[i].c)) ∧
  (
  ∃ new6 : List Value, List.length new6 = 1 * 1 ∧ SlCells h51 (some ⟨h50.size, 0, none⟩) new6 ∧ (∀ v ∈ new6, v.oneCell' = true) ∧
  AppendP ti51 51 p.gA p.gs.length p.gC 1 new6 h51 fun sA20 sL20 sC20 h52 =>
  (cellOf h52 (Addr.add b15 (Int.toNat (i : Int))) = some (.slice q.ls[i].a q.ls[i].l q.ls[i].c)) ∧
  New [m] 3 h52 fun h53 =>
  (cellOf h53 (Addr.add b13 (Int.toNat (i : Int))) = some (.slice p.ls[i].a p.ls[i].l p.ls[i].c)) ∧
  (cellOf h53 (Addr.add b13 (Int.toNat (i : Int))) = some (.slice p.ls[i].a p.ls[i].l p.ls[i].c)) ∧
  (cellOf h53 (Addr.add b15 (Int.toNat (i : Int))) = some (.slice q.ls[i].a q.ls[i].l q.ls[i].c)) ∧
  ∃ new7 : List Value, List.length new7 = 1 * 1 ∧ SlCells h53 (some ⟨h52.size, 0, none⟩) new7 ∧ (∀ v ∈ new7, v.oneCell' = true) ∧
  AppendP ti3 3 q.ls[i].a q.ls[i].l q.ls[i].c 1 new7 h53 fun sA21 sL21 sC21 h54 =>
  New [.slice sA21 sL21 sC21] 22 h54 fun h55 =>
  ∃ new8 : List Value, List.length new8 = 1 * 1 ∧ SlCells h55 (some ⟨h54.size, 0, none⟩) new8 ∧ (∀ v ∈ new8, v.oneCell' = true) ∧
  AppendP ti22 22 q.gA q.gs.length q.gC 1 new8 h55 fun sA22 sL22 sC22 h56 =>
  KF sA20 sL20 sC20 sA22 sL22 sC22 h56) ∧
  New [m] 3 h51 fun h57 =>
  (cellOf h57 (Addr.add b13 (Int.toNat (i : Int))) = some (.slice p.ls[i].a p.ls[i].l p.ls[i].c)) ∧
  (cellOf h57 (Addr.add b13 (Int.toNat (i : Int))) = some (.slice p.ls[i].a p.ls[i].l p.ls[i].c)) ∧
  (cellOf h57 (Addr.add b15 (Int.toNat (i : Int))) = some (.slice q.ls[i].a q.ls[i].l q.ls[i].c)) ∧
  ∃ new9 : List Value, List.length new9 = 1 * 1 ∧ SlCells h57 (some ⟨h50.size, 0, none⟩) new9 ∧ (∀ v ∈ new9, v.oneCell' = true) ∧
  AppendP ti51 51 p.gA p.gs.length p.gC 1 new9 h57 fun sA23 sL23 sC23 h58 =>
  (cellOf h58 (Addr.add b15 (Int.toNat (i : Int))) = some (.slice q.ls[i].a q.ls[i].l q.ls[i].c)) ∧
  ∃ new10 : List Value, List.length new10 = 1 * 1 ∧ SlCells h58 (some ⟨h51.size, 0, none⟩) new10 ∧ (∀ v ∈ new10, v.oneCell' = true) ∧
  AppendP ti3 3 q.ls[i].a q.ls[i].l q.ls[i].c 1 new10 h58 fun sA24 sL24 sC24 h59 =>
  New [.slice sA24 sL24 sC24] 22 h59 fun h60 =>
  ∃ new11 : List Value, List.length new11 = 1 * 1 ∧ SlCells h60 (some ⟨h59.size, 0, none⟩) new11 ∧ (∀ v ∈ new11, v.oneCell' = true) ∧
  AppendP ti22 22 q.gA q.gs.length q.gC 1 new11 h60 fun sA25 sL25 sC25 h61 =>
  KF sA23 sL23 sC23 sA25 sL25 sC25 h61) ∧
  New [m] 3 h50 fun h62 =>
  (cellOf h62 (Addr.add b13 (Int.toNat (i : Int))) = some (.slice p.ls[i].a p.ls[i].l p.ls[i].c)) ∧
  (cellOf h62 (Addr.add b13 (Int.toNat (i : Int))) = some (.slice p.ls[i].a p.ls[i].l p.ls[i].c)) ∧
  (cellOf h62 (Addr.add b15 (Int.toNat (i : Int))) = some (.slice q.ls[i].a q.ls[i].l q.ls[i].c)) ∧
  New [.slice sA19 sL19 sC19] 51 h62 fun h63 =>
  (cellOf h63 (Addr.add b15 (Int.toNat (i : Int))) = some (.slice q.ls[i].a q.ls[i].l q.ls[i].c)) ∧
  ∃ new12 : List Value, List.length new12 = 1 * 1 ∧ SlCells h63 (some ⟨h62.size, 0, none⟩) new12 ∧ (∀ v ∈ new12, v.oneCell' = true) ∧
  AppendP ti51 51 p.gA p.gs.length p.gC 1 new12 h63 fun sA26 sL26 sC26 h64 =>
  (cellOf h64 (Addr.add b15 (Int.toNat (i : Int))) = some (.slice q.ls[i].a q.ls[i].l q.ls[i].c)) ∧
  ∃ new13 : List Value, List.length new13 = 1 * 1 ∧ SlCells h64 (some ⟨h50.size, 0, none⟩) new13 ∧ (∀ v ∈ new13, v.oneCell' = true) ∧
  AppendP ti3 3 q.ls[i].a q.ls[i].l q.ls[i].c 1 new13 h64 fun sA27 sL27 sC27 h65 =>
  New [.slice sA27 sL27 sC27] 22 h65 fun h66 =>
  ∃ new14 : List Value, List.length new14 = 1 * 1 ∧ SlCells h66 (some ⟨h65.size, 0, none⟩) new14 ∧ (∀ v ∈ new14, v.oneCell' = true) ∧
  AppendP ti22 22 q.gA q.gs.length q.gC 1 new14 h66 fun sA28 sL28 sC28 h67 =>
  KF sA26 sL26 sC26 sA28 sL28 sC28 h67) ∧
  New [m] 3 h49 fun h68 =>
  (cellOf h68 (Addr.add b13 (Int.toNat (i : Int))) = some (.slice p.ls[i].a p.ls[i].l p.ls[i].c)) ∧
  (cellOf h68 (Addr.add b13 (Int.toNat (i : Int))) = some (.slice p.ls[i].a p.ls[i].l p.ls[i].c)) ∧
  (cellOf h68 (Addr.add b15 (Int.toNat (i : Int))) = some (.slice q.ls[i].a q.ls[i].l q.ls[i].c)) ∧
  ∃ new15 : List Value, List.length new15 = 1 * 2 ∧ SlCells h68 (some ⟨h.size, 0, none⟩) new15 ∧ (∀ v ∈ new15, v.oneCell' = true) ∧
  AppendP ti56 56 p.ls[i].a p.ls[i].l p.ls[i].c 1 new15 h68 fun sA29 sL29 sC29 h69 =>
  (cellOf h69 (Addr.add b15 (Int.toNat (i : Int))) = some (.slice q.ls[i].a q.ls[i].l q.ls[i].c)) ∧
  New [.slice sA29 sL29 sC29] 51 h69 fun h70 =>
  (cellOf h70 (Addr.add b15 (Int.toNat (i : Int))) = some (.slice q.ls[i].a q.ls[i].l q.ls[i].c)) ∧
  ∃ new16 : List Value, List.length new16 = 1 * 1 ∧ SlCells h70 (some ⟨h69.size, 0, none⟩) new16 ∧ (∀ v ∈ new16, v.oneCell' = true) ∧
  AppendP ti51 51 p.gA p.gs.length p.gC 1 new16 h70 fun sA30 sL30 sC30 h71 =>
  (cellOf h71 (Addr.add b15 (Int.toNat (i : Int))) = some (.slice q.ls[i].a q.ls[i].l q.ls[i].c)) ∧
  ∃ new17 : List Value, List.length new17 = 1 * 1 ∧ SlCells h71 (some ⟨h49.size, 0, none⟩) new17 ∧ (∀ v ∈ new17, v.oneCell' = true) ∧
  AppendP ti3 3 q.ls[i].a q.ls[i].l q.ls[i].c 1 new17 h71 fun sA31 sL31 sC31 h72 =>
  New [.slice sA31 sL31 sC31] 22 h72 fun h73 =>
  ∃ new18 : List Value, List.length new18 = 1 * 1 ∧ SlCells h73 (some ⟨h72.size, 0, none⟩) new18 ∧ (∀ v ∈ new18, v.oneCell' = true) ∧
  AppendP ti22 22 q.gA q.gs.length q.gC 1 new18 h73 fun sA32 sL32 sC32 h74 =>
  KF sA30 sL30 sC30 sA32 sL32 sC32 h74) ∧
  New [m] 3 h fun h75 =>
  (cellOf h75 (Addr.add b13 (Int.toNat (i : Int))) = some (.slice p.ls[i].a p.ls[i].l p.ls[i].c)) ∧
  (cellOf h75 (Addr.add b13 (Int.toNat (i : Int))) = some (.slice p.ls[i].a p.ls[i].l p.ls[i].c)) ∧
  (cellOf h75 (Addr.add b15 (Int.toNat (i : Int))) = some (.slice q.ls[i].a q.ls[i].l q.ls[i].c)) ∧
  List.length ([v, w] : List Value) = 2 ∧
  New [v, w] 56 h75 fun h76 =>
  (cellOf h76 (Addr.add b13 (Int.toNat (i : Int))) = some (.slice p.ls[i].a p.ls[i].l p.ls[i].c)) ∧
  (cellOf h76 (Addr.add b15 (Int.toNat (i : Int))) = some (.slice q.ls[i].a q.ls[i].l q.ls[i].c)) ∧
  ∃ new19 : List Value, List.length new19 = 1 * 2 ∧ SlCells h76 (some ⟨h75.size, 0, none⟩) new19 ∧ (∀ v ∈ new19, v.oneCell' = true) ∧
  AppendP ti56 56 p.ls[i].a p.ls[i].l p.ls[i].c 1 new19 h76 fun sA33 sL33 sC33 h77 =>
  (cellOf h77 (Addr.add b15 (Int.toNat (i : Int))) = some (.slice q.ls[i].a q.ls[i].l q.ls[i].c)) ∧
  New [.slice sA33 sL33 sC33] 51 h77 fun h78 =>
  (cellOf h78 (Addr.add b15 (Int.toNat (i : Int))) = some (.slice q.ls[i].a q.ls[i].l q.ls[i].c)) ∧
  ∃ new20 : List Value, List.length new20 = 1 * 1 ∧ SlCells h78 (some ⟨h77.size, 0, none⟩) new20 ∧ (∀ v ∈ new20, v.oneCell' = true) ∧
  AppendP ti51 51 p.gA p.gs.length p.gC 1 new20 h78 fun sA34 sL34 sC34 h79 =>
  (cellOf h79 (Addr.add b15 (Int.toNat (i : Int))) = some (.slice q.ls[i].a q.ls[i].l q.ls[i].c)) ∧
  ∃ new21 : List Value, List.length new21 = 1 * 1 ∧ SlCells h79 (some ⟨h.size, 0, none⟩) new21 ∧ (∀ v ∈ new21, v.oneCell' = true) ∧
  AppendP ti3 3 q.ls[i].a q.ls[i].l q.ls[i].c 1 new21 h79 fun sA35 sL35 sC35 h80 =>
  New [.slice sA35 sL35 sC35] 22 h80 fun h81 =>
  ∃ new22 : List Value, List.length new22 = 1 * 1 ∧ SlCells h81 (some ⟨h80.size, 0, none⟩) new22 ∧ (∀ v ∈ new22, v.oneCell' = true) ∧
  AppendP ti22 22 q.gA q.gs.length q.gC 1 new22 h81 fun sA36 sL36 sC36 h82 =>
  KF sA34 sL34 sC34 sA36 sL36 sC36 h82 := by
  refine ⟨⟨rfl, New.intro fun h49 n49 => ?_⟩, New.intro fun h75 n75 => ?_⟩
  · have s49 := s.new kB n49
    have k49 := kB.and (Kept.fz (some ⟨h.size, 0, none⟩) [v, w])
    have f49 := fin.mono (B' := fun h2 col2 => B h2 col2 ∧ Fz h2 col2 (some ⟨h.size, 0, none⟩) [v, w]) fun _ _ y => y.1
    refine ⟨tCell s49 e13 hi, tCellQ s49 e15 hj, stP k49 s49 ep hi hv s49.base.2.1 ov ow pb fun a1 c1 h50 col50 s50 => ⟨tCellQ s50 e15 hj, New.intro fun h51 n51 => ?_, New.intro fun h62 n62 => ?_⟩, New.intro fun h68 n68 => ?_⟩
    · have s51 := s50.new k49 n51
      have k51 := k49.and (Kept.fz (some ⟨h50.size, 0, none⟩) [.slice a1 (p.ls[i].l + 1) c1])
      refine ⟨tCellQ s51 e15 hj, stL k51 s51 (a := some ⟨h50.size, 0, none⟩) s51.base.2.1 fun a2 c2 h52 col52 s52 => ⟨tCellQ s52 e15 hj, New.intro fun h53 n53 => ?_⟩, New.intro fun h57 n57 => ?_⟩
      · have s53 := s52.new k51 n53
        have c := tCell (p := { p with gA := a2, gC := c2, gs := p.gs ++ [⟨a1, p.ls[i].l + 1, c1⟩], gv := p.gv ++ [p.ws[i] ++ [v, w]] }) s53 e13 hi
        exact ⟨c, c, tCellQ s53 e15 hj, tQ (k51.and (Kept.fz _ _)) s53 (fin.mono fun _ _ y => y.1.1.1) eq_ qb s53.base.2.1 om⟩
      · have s57 := s51.new k51 n57
        exact ⟨tCell s57 e13 hi, tCell s57 e13 hi, tCellQ s57 e15 hj, tL (k51.and (Kept.fz _ _)) e15 s57 (fin.mono fun _ _ y => y.1.1.1) eq_ qb s57.base.1.2.1 (fun _ _ y => y.2.1) om⟩
    · have s62 := s50.new k49 n62
      exact ⟨tCell s62 e13 hi, tCell s62 e13 hi, tCellQ s62 e15 hj, tN2 (k49.and (Kept.fz _ _)) e15 s62 (fin.mono fun _ _ y => y.1.1) eq_ qb (fun _ _ y => y.2.1) om⟩
    · have s68 := s49.new k49 n68
      exact ⟨tCell s68 e13 hi, tCell s68 e13 hi, tCellQ s68 e15 hj, tP (k49.and (Kept.fz _ _)) e15 s68 (fin.mono fun _ _ y => y.1.1) ep eq_ pb qb s68.base.1.2.1 (fun _ _ y => y.2.1) ov ow om⟩
  · have s75 := s.new kB n75
    have k75 := kB.and (Kept.fz (some ⟨h.size, 0, none⟩) [m])
    refine ⟨tCell s75 e13 hi, tCell s75 e13 hi, tCellQ s75 e15 hj, rfl, New.intro fun h76 n76 => ?_⟩
    have s76 := s75.new k75 n76
    exact ⟨tCell s76 e13 hi, tCellQ s76 e15 hj, tP (k75.and (Kept.fz _ _)) e15 s76 (fin.mono fun _ _ y => y.1.1) ep eq_ pb qb s76.base.2.1 (fun _ _ y => y.1.2.1) ov ow om⟩
end Go.Proofs.YtcdpakjhjmchhaaDoor.Bm
namespace Go.Proofs.YtcdpakjhjmchhaaDoor.Bm
open Go Go.Proofs Go.Proofs.YtcdpakjhjmchhaaDoor.Wx Go.Proofs.YtcdpakjhjmchhaaDoor.Hp Go.Proofs.YtcdpakjhjmchhaaDoor.W Go.Proofs.YtcdpakjhjmchhaaDoor.Ad Go.Proofs.YtcdpakjhjmchhaaDoor.Tm Go.Proofs.YtcdpakjhjmchhaaDoor.Bt Go.Proofs.YtcdpakjhjmchhaaDoor.Spc Go.Proofs.YtcdpakjhjmchhaaDoor.Re Go.Proofs.YtcdpakjhjmchhaaDoor.Av Go.Proofs.YtcdpakjhjmchhaaDoor.Rm
open Go.Proofs.YtcdpakjhjmchhaaDoor.Rz (Ow Fam Kept Fz mixed upB kM kA kG kW Sl.keep')
open Go.Proofs.YtcdpakjhjmchhaaDoor.Hd (ints)
open Go.Proofs.YtcdpakjhjmchhaaDoor.In (Glo ints_length ints_one)
variable {h hh h' : Heap} {col col' : Nat → Nat} {B : Heap → (Nat → Nat) → Prop} {pA qA : Option Addr} {pC qC : Nat} {ls qs : List Rz.Sc} {X : List (List (Int × Int))} {Y : List (List Int)}
/-- the longer lists -/
structure Lg (w : Nat) (ls gs : List Rz.Sc) (gv : List (List Value)) (f : Nat → Nat → List Value) : Prop where
  len : ∀ k (h1 : k < gs.length) (h2 : k < ls.length), gs[k].l = ls[k].l + 1
  at_ : ∀ k (_ : k < gs.length) (h2 : k < ls.length) (h3 : k < gv.length), gv[k] = f k (ls[k].l + 1)
theorem Lg.nil (w : Nat) (ls : List Rz.Sc) (f : Nat → Nat → List Value) : Lg w ls [] [] f := ⟨fun _ h => absurd h (Nat.not_lt_zero _), fun _ h => absurd h (Nat.not_lt_zero _)⟩
theorem Lg.push {w i : Nat} {ls gs : List Rz.Sc} {gv : List (List Value)} {f : Nat → Nat → List Value} (l : Lg w ls gs gv f) (hi : i < ls.length) (e : gs.length = i) (e2 : gv.length = i) {a : Option Addr} {c : Nat} {v : List Value} (hv : v = f i (ls[i].l + 1)) : Lg w ls (gs ++ [⟨a, ls[i].l + 1, c⟩]) (gv ++ [v]) f := by
  refine ⟨fun k h1 h2 => ?_, fun k h1 h2 h3 => ?_⟩
  · rw [List.length_append, List.length_singleton] at h1
    by_cases hk : k < gs.length
    · rw [List.getElem_append_left hk]; exact l.len k hk h2
    · have : k = i := by omega
      subst this
      rw [List.getElem_append_right (by omega)]
      simp only [e, Nat.sub_self, List.getElem_singleton]
  · rw [List.length_append, List.length_singleton] at h1 h3
    by_cases hk : k < gs.length
    · have hk3 : k < gv.length := by omega
      rw [List.getElem_append_left hk3]; exact l.at_ k hk h2 hk3
    · have : k = i := by omega
      subst this
      rw [List.getElem_append_right (by omega)]
      simp only [e2, Nat.sub_self, List.getElem_singleton]; exact hv
def gX (i l : Nat) : List Value := (mkX i l).flatMap pcellA
def gY (i l : Nat) : List Value := (mkY i l).flatMap cT
theorem own_long {NEXT : Option Addr → Nat → Nat → Option Addr → Nat → Nat → Heap → Prop} (kB : Kept B) (s : Ow B (D2 (fam pA pC ls (fX X)) (fam qA qC qs (fY Y))) (fun _ => none) hh col) (l3 : ls.length = 3) (q3 : qs.length = 3) (lb : ∀ i (hi : i < ls.length), ls[i].l ≤ 20000) (qb : ∀ i (hi : i < qs.length), qs[i].l ≤ 20000)
    (hX : ∀ i (hi : i < ls.length), X[i]? = some (mkX i ls[i].l)) (hY : ∀ i (hi : i < qs.length), Y[i]? = some (mkY i qs[i].l))
    (hN : ∀ h' col' gA gC gs gv rA rC rs rv, Ow B (D2 ⟨pA, pC, ls, fX X, gA, gC, gs, gv⟩ ⟨qA, qC, qs, fY Y, rA, rC, rs, rv⟩) (P2 none none) h' col' → gs.length = 3 → rs.length = 3 → Lg 2 ls gs gv gX → Lg 1 qs rs rv gY → NEXT gA gs.length gC rA rs.length rC h') :
  ∃ (I7 : Option Addr → Nat → Nat → Option Addr → Nat → Nat → Int → Heap → Prop) (M7 : Option Addr → Nat → Nat → Option Addr → Nat → Nat → Int → Heap → Nat), I7 none 0 0 none 0 0 0 hh ∧
  ∀ (longsA1 : Option Addr) (longsL1 : Nat) (longsC1 : Nat) (longerA1 : Option Addr) (longerL1 : Nat) (longerC1 : Nat) (n19 : Int), ∀ h48 : Heap, I7 longsA1 longsL1 longsC1 longerA1 longerL1 longerC1 n19 h48 →
  bif (decide (n19 < (ls.length : Int))) then (
  (0 ≤ n19 ∧ n19 < (ls.length : Int)) ∧
  onSome pA fun p13 =>
  ∃ (sA16 : Option Addr) (sL16 : Nat) (sC16 : Nat), cellOf h48 (Addr.add p13 (Int.toNat n19)) = some (.slice sA16 sL16 sC16) ∧
  (0 ≤ n19 ∧ n19 < (ls.length : Int)) ∧
  onSome pA fun p14 =>
  ∃ (sA17 : Option Addr) (sL17 : Nat) (sC17 : Nat), cellOf h48 (Addr.add p14 (Int.toNat n19)) = some (.slice sA17 sL17 sC17) ∧
  (0 ≤ n19 ∧ n19 < (qs.length : Int)) ∧
  onSome qA fun p15 =>
  ∃ (sA18 : Option Addr) (sL18 : Nat) (sC18 : Nat), cellOf h48 (Addr.add p15 (Int.toNat n19)) = some (.slice sA18 sL18 sC18) ∧
  (
  List.length ([.int .i64 (IntKind.wrap .i64 ((-1) - n19)), .int .i64 (sL17 : Int)] : List Value) = 2 ∧
  New [.int .i64 (IntKind.wrap .i64 ((-1) - n19)), .int .i64 (sL17 : Int)] 56 h48 fun h49 =>
  (cellOf h49 (Addr.add p13 (Int.toNat n19)) = some (.slice sA16 sL16 sC16)) ∧
  (cellOf h49 (Addr.add p15 (Int.toNat n19)) = some (.slice sA18 sL18 sC18)) ∧
  (
  ∃ new5 : List Value, List.length new5 = 1 * 2 ∧ SlCells h49 (some ⟨h48.size, 0, none⟩) new5 ∧ (∀ v ∈ new5, v.oneCell' = true) ∧
  AppendP ti56 56 sA16 sL16 sC16 1 new5 h49 fun sA19 sL19 sC19 h50 =>
  (cellOf h50 (Addr.add p15 (Int.toNat n19)) = some (.slice sA18 sL18 sC18)) ∧
  (
  New [.slice sA19 sL19 sC19] 51 h50 fun h51 =>
  (cellOf h51 (Addr.add p15 (Int.toNat n19)) = some (.slice sA18 sL18 sC18)) ∧
  (
  ∃ new6 : List Value, List.length new6 = 1 * 1 ∧ SlCells h51 (some ⟨h50.size, 0, none⟩) new6 ∧ (∀ v ∈ new6, v.oneCell' = true) ∧
  AppendP ti51 51 longsA1 longsL1 longsC1 1 new6 h51 fun sA20 sL20 sC20 h52 =>
  (cellOf h52 (Addr.add p15 (Int.toNat n19)) = some (.slice sA18 sL18 sC18)) ∧
  New [.int .i64 (IntKind.wrap .i64 ((-100) - n19))] 3 h52 fun h53 =>
  (cellOf h53 (Addr.add p13 (Int.toNat n19)) = some (.slice sA16 sL16 sC16)) ∧
  (cellOf h53 (Addr.add p14 (Int.toNat n19)) = some (.slice sA17 sL17 sC17)) ∧
  (cellOf h53 (Addr.add p15 (Int.toNat n19)) = some (.slice sA18 sL18 sC18)) ∧
  ∃ new7 : List Value, List.length new7 = 1 * 1 ∧ SlCells h53 (some ⟨h52.size, 0, none⟩) new7 ∧ (∀ v ∈ new7, v.oneCell' = true) ∧
  AppendP ti3 3 sA18 sL18 sC18 1 new7 h53 fun sA21 sL21 sC21 h54 =>
  New [.slice sA21 sL21 sC21] 22 h54 fun h55 =>
  ∃ new8 : List Value, List.length new8 = 1 * 1 ∧ SlCells h55 (some ⟨h54.size, 0, none⟩) new8 ∧ (∀ v ∈ new8, v.oneCell' = true) ∧
  AppendP ti22 22 longerA1 longerL1 longerC1 1 new8 h55 fun sA22 sL22 sC22 h56 =>
  I7 sA20 sL20 sC20 sA22 sL22 sC22 (IntKind.wrap .i64 (n19 + 1)) h56 ∧ M7 sA20 sL20 sC20 sA22 sL22 sC22 (IntKind.wrap .i64 (n19 + 1)) h56 < M7 longsA1 longsL1 longsC1 longerA1 longerL1 longerC1 n19 h48) ∧
  New [.int .i64 (IntKind.wrap .i64 ((-100) - n19))] 3 h51 fun h57 =>
  (cellOf h57 (Addr.add p13 (Int.toNat n19)) = some (.slice sA16 sL16 sC16)) ∧
  (cellOf h57 (Addr.add p14 (Int.toNat n19)) = some (.slice sA17 sL17 sC17)) ∧
  (cellOf h57 (Addr.add p15 (Int.toNat n19)) = some (.slice sA18 sL18 sC18)) ∧
  ∃ new9 : List Value, List.length new9 = 1 * 1 ∧ SlCells h57 (some ⟨h50.size, 0, none⟩) new9 ∧ (∀ v ∈ new9, v.oneCell' = true) ∧
  AppendP ti51 51 longsA1 longsL1 longsC1 1 new9 h57 fun sA23 sL23 sC23 h58 =>
  (cellOf h58 (Addr.add p15 (Int.toNat n19)) = some (.slice sA18 sL18 sC18)) ∧
  ∃ new10 : List Value, List.length new10 = 1 * 1 ∧ SlCells h58 (some ⟨h51.size, 0, none⟩) new10 ∧ (∀ v ∈ new10, v.oneCell' = true) ∧
  AppendP ti3 3 sA18 sL18 sC18 1 new10 h58 fun sA24 sL24 sC24 h59 =>
  New [.slice sA24 sL24 sC24] 22 h59 fun h60 =>
  ∃ new11 : List Value, List.length new11 = 1 * 1 ∧ SlCells h60 (some ⟨h59.size, 0, none⟩) new11 ∧ (∀ v ∈ new11, v.oneCell' = true) ∧
  AppendP ti22 22 longerA1 longerL1 longerC1 1 new11 h60 fun sA25 sL25 sC25 h61 =>
  I7 sA23 sL23 sC23 sA25 sL25 sC25 (IntKind.wrap .i64 (n19 + 1)) h61 ∧ M7 sA23 sL23 sC23 sA25 sL25 sC25 (IntKind.wrap .i64 (n19 + 1)) h61 < M7 longsA1 longsL1 longsC1 longerA1 longerL1 longerC1 n19 h48) ∧
  New [.int .i64 (IntKind.wrap .i64 ((-100) - n19))] 3 h50 fun h62 =>
  (cellOf h62 (Addr.add p13 (Int.toNat n19)) = some (.slice sA16 sL16 sC16)) ∧
  (cellOf h62 (Addr.add p14 (Int.toNat n19)) = some (.slice sA17 sL17 sC17)) ∧
  (cellOf h62 (Addr.add p15 (Int.toNat n19)) = some (.slice sA18 sL18 sC18)) ∧
  New [.slice sA19 sL19 sC19] 51 h62 fun h63 =>
  (cellOf h63 (Addr.add p15 (Int.toNat n19)) = some (.slice sA18 sL18 sC18)) ∧
  ∃ new12 : List Value, List.length new12 = 1 * 1 ∧ SlCells h63 (some ⟨h62.size, 0, none⟩) new12 ∧ (∀ v ∈ new12, v.oneCell' = true) ∧
  AppendP ti51 51 longsA1 longsL1 longsC1 1 new12 h63 fun sA26 sL26 sC26 h64 =>
  (cellOf h64 (Addr.add p15 (Int.toNat n19)) = some (.slice sA18 sL18 sC18)) ∧
  ∃ new13 : List Value, List.length new13 = 1 * 1 ∧ SlCells h64 (some ⟨h50.size, 0, none⟩) new13 ∧ (∀ v ∈ new13, v.oneCell' = true) ∧
  AppendP ti3 3 sA18 sL18 sC18 1 new13 h64 fun sA27 sL27 sC27 h65 =>
  New [.slice sA27 sL27 sC27] 22 h65 fun h66 =>
  ∃ new14 : List Value, List.length new14 = 1 * 1 ∧ SlCells h66 (some ⟨h65.size, 0, none⟩) new14 ∧ (∀ v ∈ new14, v.oneCell' = true) ∧
  AppendP ti22 22 longerA1 longerL1 longerC1 1 new14 h66 fun sA28 sL28 sC28 h67 =>
  I7 sA26 sL26 sC26 sA28 sL28 sC28 (IntKind.wrap .i64 (n19 + 1)) h67 ∧ M7 sA26 sL26 sC26 sA28 sL28 sC28 (IntKind.wrap .i64 (n19 + 1)) h67 < M7 longsA1 longsL1 longsC1 longerA1 longerL1 longerC1 n19 h48) ∧
  New [.int .i64 (IntKind.wrap .i64 ((-100) - n19))] 3 h49 fun h68 =>
  (cellOf h68 (Addr.add p13 (Int.toNat n19)) = some (.slice sA16 sL16 sC16)) ∧
  (cellOf h68 (Addr.add p14 (Int.toNat n19)) = some (.slice sA17 sL17 sC17)) ∧
  (cellOf h68 (Addr.add p15 (Int.toNat n19)) = some (.slice sA18 sL18 sC18)) ∧
  ∃ new15 : List Value, List.length new15 = 1 * 2 ∧ SlCells h68 (some ⟨h48.size, 0, none⟩) new15 ∧ (∀ v ∈ new15, v.oneCell' = true) ∧
  AppendP ti56 56 sA16 sL16 sC16 1 new15 h68 fun sA29 sL29 sC29 h69 =>
  (cellOf h69 (Addr.add p15 (Int.toNat n19)) = some (.slice sA18 sL18 sC18)) ∧
  New [.slice sA29 sL29 sC29] 51 h69 fun h70 =>
  (cellOf h70 (Addr.add p15 (Int.toNat n19)) = some (.slice sA18 sL18 sC18)) ∧
  ∃ new16 : List Value, List.length new16 = 1 * 1 ∧ SlCells h70 (some ⟨h69.size, 0, none⟩) new16 ∧ (∀ v ∈ new16, v.oneCell' = true) ∧
  AppendP ti51 51 longsA1 longsL1 longsC1 1 new16 h70 fun sA30 sL30 sC30 h71 =>
  (cellOf h71 (Addr.add p15 (Int.toNat n19)) = some (.slice sA18 sL18 sC18)) ∧
  ∃ new17 : List Value, List.length new17 = 1 * 1 ∧ SlCells h71 (some ⟨h49.size, 0, none⟩) new17 ∧ (∀ v ∈ new17, v.oneCell' = true) ∧
  AppendP ti3 3 sA18 sL18 sC18 1 new17 h71 fun sA31 sL31 sC31 h72 =>
  New [.slice sA31 sL31 sC31] 22 h72 fun h73 =>
  ∃ new18 : List Value, List.length new18 = 1 * 1 ∧ SlCells h73 (some ⟨h72.size, 0, none⟩) new18 ∧ (∀ v ∈ new18, v.oneCell' = true) ∧
  AppendP ti22 22 longerA1 longerL1 longerC1 1 new18 h73 fun sA32 sL32 sC32 h74 =>
  I7 sA30 sL30 sC30 sA32 sL32 sC32 (IntKind.wrap .i64 (n19 + 1)) h74 ∧ M7 sA30 sL30 sC30 sA32 sL32 sC32 (IntKind.wrap .i64 (n19 + 1)) h74 < M7 longsA1 longsL1 longsC1 longerA1 longerL1 longerC1 n19 h48) ∧
  New [.int .i64 (IntKind.wrap .i64 ((-100) - n19))] 3 h48 fun h75 =>
  (cellOf h75 (Addr.add p13 (Int.toNat n19)) = some (.slice sA16 sL16 sC16)) ∧
  (cellOf h75 (Addr.add p14 (Int.toNat n19)) = some (.slice sA17 sL17 sC17)) ∧
  (cellOf h75 (Addr.add p15 (Int.toNat n19)) = some (.slice sA18 sL18 sC18)) ∧
  List.length ([.int .i64 (IntKind.wrap .i64 ((-1) - n19)), .int .i64 (sL17 : Int)] : List Value) = 2 ∧
  New [.int .i64 (IntKind.wrap .i64 ((-1) - n19)), .int .i64 (sL17 : Int)] 56 h75 fun h76 =>
  (cellOf h76 (Addr.add p13 (Int.toNat n19)) = some (.slice sA16 sL16 sC16)) ∧
  (cellOf h76 (Addr.add p15 (Int.toNat n19)) = some (.slice sA18 sL18 sC18)) ∧
  ∃ new19 : List Value, List.length new19 = 1 * 2 ∧ SlCells h76 (some ⟨h75.size, 0, none⟩) new19 ∧ (∀ v ∈ new19, v.oneCell' = true) ∧
  AppendP ti56 56 sA16 sL16 sC16 1 new19 h76 fun sA33 sL33 sC33 h77 =>
  (cellOf h77 (Addr.add p15 (Int.toNat n19)) = some (.slice sA18 sL18 sC18)) ∧
  New [.slice sA33 sL33 sC33] 51 h77 fun h78 =>
  (cellOf h78 (Addr.add p15 (Int.toNat n19)) = some (.slice sA18 sL18 sC18)) ∧
  ∃ new20 : List Value, List.length new20 = 1 * 1 ∧ SlCells h78 (some ⟨h77.size, 0, none⟩) new20 ∧ (∀ v ∈ new20, v.oneCell' = true) ∧
  AppendP ti51 51 longsA1 longsL1 longsC1 1 new20 h78 fun sA34 sL34 sC34 h79 =>
  (cellOf h79 (Addr.add p15 (Int.toNat n19)) = some (.slice sA18 sL18 sC18)) ∧
  ∃ new21 : List Value, List.length new21 = 1 * 1 ∧ SlCells h79 (some ⟨h48.size, 0, none⟩) new21 ∧ (∀ v ∈ new21, v.oneCell' = true) ∧
  AppendP ti3 3 sA18 sL18 sC18 1 new21 h79 fun sA35 sL35 sC35 h80 =>
  New [.slice sA35 sL35 sC35] 22 h80 fun h81 =>
  ∃ new22 : List Value, List.length new22 = 1 * 1 ∧ SlCells h81 (some ⟨h80.size, 0, none⟩) new22 ∧ (∀ v ∈ new22, v.oneCell' = true) ∧
  AppendP ti22 22 longerA1 longerL1 longerC1 1 new22 h81 fun sA36 sL36 sC36 h82 =>
  I7 sA34 sL34 sC34 sA36 sL36 sC36 (IntKind.wrap .i64 (n19 + 1)) h82 ∧ M7 sA34 sL34 sC34 sA36 sL36 sC36 (IntKind.wrap .i64 (n19 + 1)) h82 < M7 longsA1 longsL1 longsC1 longerA1 longerL1 longerC1 n19 h48) else NEXT longsA1 longsL1 longsC1 longerA1 longerL1 longerC1 h48 := by
  refine ⟨fun gA gL gC rA rL rC m hh => ∃ i : Nat, m = i ∧ i ≤ 3 ∧ ∃ col gs gv rs rv, Ow B (D2 ⟨pA, pC, ls, fX X, gA, gC, gs, gv⟩ ⟨qA, qC, qs, fY Y, rA, rC, rs, rv⟩) (P2 none none) hh col ∧ gs.length = i ∧ rs.length = i ∧ gL = gs.length ∧ rL = rs.length ∧ Lg 2 ls gs gv gX ∧ Lg 1 qs rs rv gY, fun _ _ _ _ _ _ m _ => ((ls.length : Int) - m).toNat,
    ⟨0, rfl, by omega, col, [], [], [], [], by rw [P2_none]; exact s, rfl, rfl, rfl, rfl, Lg.nil _ _ _, Lg.nil _ _ _⟩, ?_⟩
  clear s
  rintro gA _ gC rA _ rC _ h48 ⟨i, rfl, hi3, col, gs, gv, rs, rv, s, g1, r1, rfl, rfl, G, R⟩
  refine cd (fun hlt => ?_) fun hlt => hN h48 col gA gC gs gv rA rC rs rv s (by omega) (by omega) G R
  have hi : i < ls.length := by omega
  have hq : i < qs.length := by omega
  have hx := hX i hi
  have hy := hY i hq
  have hx1 : i < X.length := by
    rcases Nat.lt_or_ge i X.length with z | z
    · exact z
    · rw [List.getElem?_eq_none z] at hx; cases hx
  have hy1 : i < Y.length := by
    rcases Nat.lt_or_ge i Y.length with z | z
    · exact z
    · rw [List.getElem?_eq_none z] at hy; cases hy
  have ex : X[i] = mkX i ls[i].l := by rw [List.getElem?_eq_getElem hx1] at hx; exact Option.some.inj hx
  have ey : Y[i] = mkY i qs[i].l := by rw [List.getElem?_eq_getElem hy1] at hy; exact Option.some.inj hy
  obtain ⟨b13, e13, c13⟩ := own_cellX s false (A := pA) rfl (ls := ls) rfl hi
  obtain ⟨b15, e15, c15⟩ := own_cellX s true (A := qA) rfl (ls := qs) rfl hq
  have lg := (s.fam false).longs.len
  have lg : gs.length = gv.length := lg
  have lr := (s.fam true).longs.len
  have lr : rs.length = rv.length := lr
  refine ⟨⟨by omega, hlt⟩, Rz.oe e13 ⟨_, _, _, c13, ⟨by omega, hlt⟩, Rz.oe e13 ⟨_, _, _, c13, ⟨by omega, by omega⟩, Rz.oe e15 ⟨_, _, _, c15, ?_⟩⟩⟩⟩
  rw [neg_wrap (a := -1) ⟨by decide, by decide⟩ hi3, neg_wrap (a := -100) ⟨by decide, by decide⟩ hi3, wrap_i64 (n := (i : Int) + 1) (by omega) (by omega)]
  refine own_round (p := ⟨pA, pC, ls, fX X, gA, gC, gs, gv⟩) (q := ⟨qA, qC, qs, fY Y, rA, rC, rs, rv⟩) (hi := hi) (hv := by show i < (fX X).length; rw [fX_len]; exact hx1) (hj := hq) (hw := by show i < (fY Y).length; rw [fY_len]; exact hy1) kB e13 e15 s ?_ g1.symm r1.symm (lb i hi) (qb i hq) rfl rfl rfl
  intro a1 c1 a2 c2 a3 c3 a4 c4 h' col' s'
  refine ⟨⟨i + 1, by omega, by omega, col', _, _, _, _, s', by rw [List.length_append, List.length_singleton, g1], by rw [List.length_append, List.length_singleton, r1], by rw [List.length_append]; rfl, by rw [List.length_append]; rfl, G.push hi g1 (by omega) ?_, R.push hq r1 (by omega) ?_⟩, falls hlt⟩
  · show (fX X)[i]'(by rw [fX_len]; exact hx1) ++ _ = _
    rw [fX_get, ex]
    unfold gX
    rw [mkX_succ, List.flatMap_append]; rfl
  · show (fY Y)[i]'(by rw [fY_len]; exact hy1) ++ _ = _
    rw [fY_get, ey]
    unfold gY
    rw [mkY_succ, List.flatMap_append]; rfl
/-- what the looks ask -/
structure Sn (hh : Heap) (pA : Option Addr) (ls : List Rz.Sc) (gA : Option Addr) (gs : List Rz.Sc) (qA : Option Addr) (qs : List Rz.Sc) (rA : Option Addr) (rs : List Rz.Sc) : Prop where
  pr : SlCells hh pA (ls.map Rz.Sc.v)
  gr : SlCells hh gA (gs.map Rz.Sc.v)
  qr : SlCells hh qA (qs.map Rz.Sc.v)
  rr : SlCells hh rA (rs.map Rz.Sc.v)
  pl : ∀ i (hi : i < ls.length), SlCells hh ls[i].a (gX i ls[i].l)
  ql : ∀ i (hi : i < qs.length), SlCells hh qs[i].a (gY i qs[i].l)
  gl : ∀ i (hi : i < gs.length) (h2 : i < ls.length), gs[i].l = ls[i].l + 1 ∧ SlCells hh gs[i].a (gX i (ls[i].l + 1))
  rl : ∀ i (hi : i < rs.length) (h2 : i < qs.length), rs[i].l = qs[i].l + 1 ∧ SlCells hh rs[i].a (gY i (qs[i].l + 1))
variable {gA rA : Option Addr} {gs rs : List Rz.Sc}
theorem Sn.no (s : Sn hh pA ls gA gs qA qs rA rs) (f : Fr No hh h') : Sn h' pA ls gA gs qA qs rA rs :=
  ⟨SlCells.fr f s.pr fun _ _ y => y, SlCells.fr f s.gr fun _ _ y => y, SlCells.fr f s.qr fun _ _ y => y, SlCells.fr f s.rr fun _ _ y => y, fun i hi => SlCells.fr f (s.pl i hi) fun _ _ y => y, fun i hi => SlCells.fr f (s.ql i hi) fun _ _ y => y,
    fun i hi h2 => ⟨(s.gl i hi h2).1, SlCells.fr f (s.gl i hi h2).2 fun _ _ y => y⟩, fun i hi h2 => ⟨(s.rl i hi h2).1, SlCells.fr f (s.rl i hi h2).2 fun _ _ y => y⟩⟩
theorem sn_cell {a : Option Addr} {ss : List Rz.Sc} (A : SlCells h a (ss.map Rz.Sc.v)) {i : Nat} (hi : i < ss.length) : ∃ p, a = some p ∧ cellOf h (Addr.add p (Int.toNat (i : Int))) = some (.slice ss[i].a ss[i].l ss[i].c) := by
  cases a with
  | none => have A : ss.map Rz.Sc.v = [] := A; rw [List.map_eq_nil_iff] at A; subst A; cases hi
  | some p => exact ⟨p, rfl, Cells.cell A (by rw [List.getElem?_map, Int.toNat_natCast, List.getElem?_eq_getElem hi]; rfl)⟩
theorem sn_pair {a : Option Addr} {i l : Nat} (A : SlCells h a (gX i l)) {j : Nat} (hj : j < l) : ∃ p, a = some p ∧ Cells h (p.add (j * 2)) [.int .i64 (-1 - (i : Int)), .int .i64 (j : Int)] := by
  obtain ⟨p, e, c⟩ := pair_at (xs := mkX i l) A (j := j) (by rw [mkX_len]; exact hj)
  have := mkX_at (i := i) hj
  rw [List.getElem?_eq_getElem (by rw [mkX_len]; exact hj)] at this
  rw [Option.some.inj this] at c
  exact ⟨p, e, c⟩
theorem sn_int {a : Option Addr} {i l : Nat} (A : SlCells h a (gY i l)) {j : Nat} (hj : j < l) : ∃ p, a = some p ∧ cellOf h (p.add j) = some (.int .i64 (-100 - (i : Int))) := by
  unfold gY at A
  rw [ints_flat] at A
  obtain ⟨p, e, c⟩ := Hd.ints_get A (i := j) (by rw [mkY_len]; exact hj)
  have := mkY_at (i := i) hj
  rw [List.getElem?_eq_getElem (by rw [mkY_len]; exact hj)] at this
  rw [Option.some.inj this] at c
  exact ⟨p, e, c⟩
theorem own_see {K : Value → Heap → Prop} {NEXT : Heap → Prop} (S : Sn hh pA ls gA gs qA qs rA rs) (l3 : ls.length = 3) (q3 : qs.length = 3) (g3 : gs.length = 3) (r3 : rs.length = 3) (lb : ∀ i (hi : i < ls.length), ls[i].l ≤ 20000) (qb : ∀ i (hi : i < qs.length), qs[i].l ≤ 20000) (hN : ∀ h', Fr No hh h' → NEXT h') :
  ∃ (I8 : Int → Heap → Prop) (M8 : Int → Heap → Nat), I8 0 hh ∧
  ∀ (n20 : Int), ∀ h83 : Heap, I8 n20 h83 →
  bif (decide (n20 < (gs.length : Int))) then (
  (0 ≤ n20 ∧ n20 < (gs.length : Int)) ∧
  onSome gA fun p16 =>
  ∃ (sA37 : Option Addr) (sL37 : Nat) (sC37 : Nat), cellOf h83 (Addr.add p16 (Int.toNat n20)) = some (.slice sA37 sL37 sC37) ∧
  ∃ (I9 : Int → Heap → Prop) (M9 : Int → Heap → Nat), I9 0 h83 ∧
  ∀ (n21 : Int), ∀ h84 : Heap, I9 n21 h84 →
  bif (decide (n21 < (sL37 : Int))) then (
  (0 ≤ n21 ∧ n21 < (sL37 : Int)) ∧
  onSome sA37 fun p17 =>
  ∃ cs15 : List Value, List.length cs15 = 2 ∧ Cells h84 (Addr.add p17 ((Int.toNat n21) * 2)) cs15 ∧
  NewRow z56 56 cs15 2 h84 fun h86 =>
  ∃ cs16 : List Value, List.length cs16 = 2 ∧ Cells h86 ⟨h84.size, 0, none⟩ cs16 ∧
  pairsOk [(.int .i64), (.int .i64)] cs16 [.int .i64 (IntKind.wrap .i64 ((-1) - n20)), .int .i64 n21] = true ∧
  bif (!(cellsEq cs16 [.int .i64 (IntKind.wrap .i64 ((-1) - n20)), .int .i64 n21])) then (
  K (.bool false) h86) else (
  (0 ≤ n20 ∧ n20 < (ls.length : Int)) ∧
  onSome pA fun p18 =>
  ∃ (sA38 : Option Addr) (sL38 : Nat) (sC38 : Nat), cellOf h86 (Addr.add p18 (Int.toNat n20)) = some (.slice sA38 sL38 sC38) ∧
  bif (decide (n21 < (sL38 : Int))) then (
  (0 ≤ n20 ∧ n20 < (ls.length : Int)) ∧
  onSome pA fun p19 =>
  ∃ (sA39 : Option Addr) (sL39 : Nat) (sC39 : Nat), cellOf h86 (Addr.add p19 (Int.toNat n20)) = some (.slice sA39 sL39 sC39) ∧
  (0 ≤ n21 ∧ n21 < (sL39 : Int)) ∧
  onSome sA39 fun p20 =>
  ∃ cs17 : List Value, List.length cs17 = 2 ∧ Cells h86 (Addr.add p20 ((Int.toNat n21) * 2)) cs17 ∧
  ∃ cs18 : List Value, List.length cs18 = 2 ∧ Cells h86 ⟨h84.size, 0, none⟩ cs18 ∧
  pairsOk [(.int .i64), (.int .i64)] cs17 cs18 = true ∧
  bif (!(cellsEq cs17 cs18)) then (
  K (.bool false) h86) else (
  I9 (IntKind.wrap .i64 (n21 + 1)) h86 ∧ M9 (IntKind.wrap .i64 (n21 + 1)) h86 < M9 n21 h84)) else (
  I9 (IntKind.wrap .i64 (n21 + 1)) h86 ∧ M9 (IntKind.wrap .i64 (n21 + 1)) h86 < M9 n21 h84))) else (
  (0 ≤ n20 ∧ n20 < (rs.length : Int)) ∧
  onSome rA fun p21 =>
  ∃ (sA40 : Option Addr) (sL40 : Nat) (sC40 : Nat), cellOf h84 (Addr.add p21 (Int.toNat n20)) = some (.slice sA40 sL40 sC40) ∧
  ∃ (I10 : Int → Heap → Prop) (M10 : Int → Heap → Nat), I10 0 h84 ∧
  ∀ (n22 : Int), ∀ h87 : Heap, I10 n22 h87 →
  bif (decide (n22 < (sL40 : Int))) then (
  (0 ≤ n22 ∧ n22 < (sL40 : Int)) ∧
  onSome sA40 fun p22 =>
  ∃ (n23 : Int), cellOf h87 (Addr.add p22 (Int.toNat n22)) = some (.int .i64 n23) ∧
  bif (n23 != (IntKind.wrap .i64 ((-100) - n20))) then (
  K (.bool false) h87) else (
  (0 ≤ n20 ∧ n20 < (qs.length : Int)) ∧
  onSome qA fun p23 =>
  ∃ (sA41 : Option Addr) (sL41 : Nat) (sC41 : Nat), cellOf h87 (Addr.add p23 (Int.toNat n20)) = some (.slice sA41 sL41 sC41) ∧
  bif (decide (n22 < (sL41 : Int))) then (
  (0 ≤ n20 ∧ n20 < (qs.length : Int)) ∧
  onSome qA fun p24 =>
  ∃ (sA42 : Option Addr) (sL42 : Nat) (sC42 : Nat), cellOf h87 (Addr.add p24 (Int.toNat n20)) = some (.slice sA42 sL42 sC42) ∧
  (0 ≤ n22 ∧ n22 < (sL42 : Int)) ∧
  onSome sA42 fun p25 =>
  ∃ (n24 : Int), cellOf h87 (Addr.add p25 (Int.toNat n22)) = some (.int .i64 n24) ∧
  bif (n24 != n23) then (
  K (.bool false) h87) else (
  I10 (IntKind.wrap .i64 (n22 + 1)) h87 ∧ M10 (IntKind.wrap .i64 (n22 + 1)) h87 < M10 n22 h87)) else (
  I10 (IntKind.wrap .i64 (n22 + 1)) h87 ∧ M10 (IntKind.wrap .i64 (n22 + 1)) h87 < M10 n22 h87))) else (
  I8 (IntKind.wrap .i64 (n20 + 1)) h87 ∧ M8 (IntKind.wrap .i64 (n20 + 1)) h87 < M8 n20 h83))) else NEXT h83 := by
  refine ⟨fun m h => ∃ i : Nat, m = i ∧ i ≤ 3 ∧ Fr No hh h, fun m _ => ((gs.length : Int) - m).toNat, ⟨0, rfl, by omega, Fr.refl _ _⟩, ?_⟩
  rintro _ h83 ⟨i, rfl, hi3, f83⟩
  refine cd (fun hlt => ?_) fun _ => hN h83 f83
  have hi : i < ls.length := by omega
  have hq : i < qs.length := by omega
  have hg : i < gs.length := by omega
  have hr : i < rs.length := by omega
  have b1 := lb i hi
  have b2 := qb i hq
  have eg := (S.gl i hg hi).1
  have er := (S.rl i hr hq).1
  have w1 : IntKind.wrap .i64 (-1 - (i : Int)) = -1 - (i : Int) := neg_wrap (a := -1) ⟨by decide, by decide⟩ hi3
  have w2 : IntKind.wrap .i64 (-100 - (i : Int)) = -100 - (i : Int) := neg_wrap (a := -100) ⟨by decide, by decide⟩ hi3
  obtain ⟨p16, e16, c16⟩ := sn_cell (S.no f83).gr hg
  refine ⟨⟨by omega, hlt⟩, Rz.oe e16 ⟨_, _, _, c16, fun m h => ∃ j : Nat, m = j ∧ j ≤ gs[i].l ∧ Fr No hh h, fun m _ => ((gs[i].l : Int) - m).toNat, ⟨0, rfl, Nat.zero_le _, f83⟩, ?_⟩⟩
  rintro _ h84 ⟨j, rfl, hj, f84⟩
  refine cd (fun hlt2 => ?_) fun _ => ?_
  · have hj2 : j < ls[i].l + 1 := by omega
    obtain ⟨p17, e17, c17⟩ := sn_pair (((S.no f84).gl i hg hi).2) hj2
    rw [Int.toNat_natCast, w1, wrap_i64 (n := (j : Int) + 1) (by omega) (by omega)]
    refine ⟨⟨by omega, hlt2⟩, Rz.oe e17 ⟨_, rfl, c17, NewRow.intro rfl (one2 rfl rfl) rfl fun h86 n86 => ?_⟩⟩
    have f86 := f84.new n86
    have eqP : pairsOk [(.int .i64), (.int .i64)] [.int .i64 (-1 - (i : Int)), .int .i64 (j : Int)] [.int .i64 (-1 - (i : Int)), .int .i64 (j : Int)] = true := rfl
    have eqC : cellsEq [.int .i64 (-1 - (i : Int)), .int .i64 (j : Int)] [.int .i64 (-1 - (i : Int)), .int .i64 (j : Int)] = true := by
      have := pcell_eq (-1 - (i : Int), (j : Int)) (-1 - (i : Int), (j : Int))
      rw [decide_eq_true rfl] at this; exact this
    have last : (∃ j' : Nat, (j : Int) + 1 = j' ∧ j' ≤ gs[i].l ∧ Fr No hh h86) ∧ ((gs[i].l : Int) - ((j : Int) + 1)).toNat < ((gs[i].l : Int) - (j : Int)).toNat := ⟨⟨j + 1, by omega, by omega, f86⟩, falls hlt2⟩
    obtain ⟨p18, e18, c18⟩ := sn_cell (S.no f86).pr hi
    refine ⟨_, rfl, cellsAll n86.rd, eqP, cf (by rw [eqC]; rfl) ⟨⟨by omega, by omega⟩, Rz.oe e18 ⟨_, _, _, c18, cd (fun hl => ?_) fun _ => last⟩⟩⟩
    obtain ⟨p20, e20, c20⟩ := sn_pair ((S.no f86).pl i hi) (j := j) (by omega)
    exact ⟨⟨by omega, by omega⟩, Rz.oe e18 ⟨_, _, _, c18, ⟨by omega, hl⟩, Rz.oe e20 ⟨_, rfl, c20, _, rfl, cellsAll n86.rd, eqP, cf (by rw [eqC]; rfl) last⟩⟩⟩
  obtain ⟨p21, e21, c21⟩ := sn_cell (S.no f84).rr hr
  refine ⟨⟨by omega, by omega⟩, Rz.oe e21 ⟨_, _, _, c21, fun m h => ∃ j : Nat, m = j ∧ j ≤ rs[i].l ∧ Fr No hh h, fun m _ => ((rs[i].l : Int) - m).toNat, ⟨0, rfl, Nat.zero_le _, f84⟩, ?_⟩⟩
  rintro _ h87 ⟨j, rfl, hj, f87⟩
  rw [w2]
  refine cd (fun hlt2 => ?_) fun _ => ?_
  · have hj2 : j < qs[i].l + 1 := by omega
    obtain ⟨p22, e22, c22⟩ := sn_int (((S.no f87).rl i hr hq).2) hj2
    rw [Int.toNat_natCast, wrap_i64 (n := (j : Int) + 1) (by omega) (by omega)]
    obtain ⟨p23, e23, c23⟩ := sn_cell (S.no f87).qr hq
    have last : (∃ j' : Nat, (j : Int) + 1 = j' ∧ j' ≤ rs[i].l ∧ Fr No hh h87) ∧ ((rs[i].l : Int) - ((j : Int) + 1)).toNat < ((rs[i].l : Int) - (j : Int)).toNat := ⟨⟨j + 1, by omega, by omega, f87⟩, falls hlt2⟩
    refine ⟨⟨by omega, hlt2⟩, Rz.oe e22 ⟨_, c22, cn (fun y => absurd rfl y) fun _ => ⟨⟨by omega, by omega⟩, Rz.oe e23 ⟨_, _, _, c23, cd (fun hl => ?_) fun _ => last⟩⟩⟩⟩
    obtain ⟨p25, e25, c25⟩ := sn_int ((S.no f87).ql i hq) (j := j) (by omega)
    exact ⟨⟨by omega, by omega⟩, Rz.oe e23 ⟨_, _, _, c23, ⟨by omega, hl⟩, Rz.oe e25 ⟨_, c25, cn (fun y => absurd rfl y) fun _ => last⟩⟩⟩
  rw [wrap_i64 (n := (i : Int) + 1) (by omega) (by omega)]
  exact ⟨⟨i + 1, by omega, by omega, f87⟩, falls hlt⟩
end Go.Proofs.YtcdpakjhjmchhaaDoor.Bm
namespace Go.Proofs.YtcdpakjhjmchhaaDoor.Bm
open Go Go.Proofs Go.Proofs.YtcdpakjhjmchhaaDoor.Wx Go.Proofs.YtcdpakjhjmchhaaDoor.Hp Go.Proofs.YtcdpakjhjmchhaaDoor.W Go.Proofs.YtcdpakjhjmchhaaDoor.Ad Go.Proofs.YtcdpakjhjmchhaaDoor.Tm Go.Proofs.YtcdpakjhjmchhaaDoor.Bt Go.Proofs.YtcdpakjhjmchhaaDoor.Spc Go.Proofs.YtcdpakjhjmchhaaDoor.Re Go.Proofs.YtcdpakjhjmchhaaDoor.Av Go.Proofs.YtcdpakjhjmchhaaDoor.Rm
open Go.Proofs.YtcdpakjhjmchhaaDoor.Rz (Ow Fam Kept Fz mixed upB kM kA kG kW Sl.keep')
open Go.Proofs.YtcdpakjhjmchhaaDoor.Hd (ints)
open Go.Proofs.YtcdpakjhjmchhaaDoor.In (Glo ints_length ints_one)
variable {n : Nat} {h1 h hh h' : Heap} {t d : Option Addr} {F : Nat → Prop} {T : TM} {R0 R1 : List Int} {wa va : Option Addr} {wc vc : Nat} {P0 : List (Int × Int)} {M0 : List Int} {col col' : Nat → Nat}
variable {B : Heap → (Nat → Nat) → Prop} {pA qA gA rA : Option Addr} {pC qC gC rC : Nat} {ls qs gs rs : List Rz.Sc} {X : List (List (Int × Int))} {Y : List (List Int)} {gv rv : List (List Value)}
theorem sn_of (s : Ow B (D2 ⟨pA, pC, ls, fX X, gA, gC, gs, gv⟩ ⟨qA, qC, qs, fY Y, rA, rC, rs, rv⟩) (P2 none none) h col) (hX : ∀ i (hi : i < ls.length), X[i]? = some (mkX i ls[i].l)) (hY : ∀ i (hi : i < qs.length), Y[i]? = some (mkY i qs[i].l)) (G : Lg 2 ls gs gv gX) (R : Lg 1 qs rs rv gY) : Sn h pA ls gA gs qA qs rA rs := by
  have lg : gs.length = gv.length := (s.fam false).longs.len
  have lr : rs.length = rv.length := (s.fam true).longs.len
  have lx : ls.length = (fX X).length := (s.fam false).lists.len
  have ly : qs.length = (fY Y).length := (s.fam true).lists.len
  refine ⟨(s.fam false).lists.row.cells, (s.fam false).longs.row.cells, (s.fam true).lists.row.cells, (s.fam true).longs.row.cells, fun i hi => ?_, fun i hi => ?_, fun i hi h2 => ⟨G.len i hi h2, ?_⟩, fun i hi h2 => ⟨R.len i hi h2, ?_⟩⟩
  · have it : Sl h 2 ls[i].a ls[i].l ls[i].c ((fX X)[i]'(by omega)) (On col (10 + i)) := (s.fam false).lists.at_ i hi (by show i < (fX X).length; omega)
    rw [fX_get] at it
    have e := hX i hi
    rw [List.getElem?_eq_getElem (by rw [fX_len] at lx; omega)] at e
    rw [Option.some.inj e] at it
    exact it.cells
  · have it : Sl h 1 qs[i].a qs[i].l qs[i].c ((fY Y)[i]'(by omega)) (On col (20 + i)) := (s.fam true).lists.at_ i hi (by show i < (fY Y).length; omega)
    rw [fY_get] at it
    have e := hY i hi
    rw [List.getElem?_eq_getElem (by rw [fY_len] at ly; omega)] at e
    rw [Option.some.inj e] at it
    exact it.cells
  · have it : Sl h 2 gs[i].a gs[i].l gs[i].c (gv[i]'(by omega)) (On col (10 + i)) := (s.fam false).longs.at_ i hi (by show i < gv.length; omega)
    rw [G.at_ i hi h2 (by omega)] at it
    exact it.cells
  · have it : Sl h 1 rs[i].a rs[i].l rs[i].c (rv[i]'(by omega)) (On col (20 + i)) := (s.fam true).longs.at_ i hi (by show i < rv.length; omega)
    rw [R.at_ i hi h2 (by omega)] at it
    exact it.cells
theorem own_k3 {h3 h7 h42 : Heap} {K : Value → Heap → Prop} (gl : Glo h1) (hR0 : R0.length = 15) (e0 : allM T (geoN n) R0 = (P0, M0, 0)) (hP : P0.length ≤ 20000) (hM : M0.length ≤ 20000)
    (s : Ow (Ob n h1 h3.size h7.size t d F T R0 R1 wa P0 va M0) (D2 (fam pA pC ls (fX X)) (fam qA qC qs (fY Y))) (fun _ => none) h42 col) (l3 : ls.length = 3) (q3 : qs.length = 3) (x3 : X.length = 3) (y3 : Y.length = 3) (lb : ∀ i (hi : i < ls.length), ls[i].l ≤ 20000) (qb : ∀ i (hi : i < qs.length), qs[i].l ≤ 20000)
    (hK : ∀ h', Fr No h1 h' → K (.bool true) h') : bolelaw10_BmapOwn.k3 h3 t h7 pA ls.length qA qs.length wa P0.length wc va M0.length vc h42 K := by
  have kB := Ob.kept (n := n) (h1 := h1) (gb := h3.size) (xb := h7.size) (t := t) (d := d) (F := F) (T := T) (R0 := R0) (R1 := R1) (wa := wa) (P0 := P0) (va := va) (M0 := M0) hR0
  unfold bolelaw10_BmapOwn.k3
  refine own_mark (K := K) kB s l3 q3 x3 y3 lb qb fun h43 col43 X' Y' s43 x3' y3' hX hY => ?_
  refine own_long kB s43 l3 q3 lb qb hX hY fun h48 col48 gA gC gs gv rA rC rs rv s48 g3 r3 G R => ?_
  refine own_see (sn_of s48 hX hY G R) l3 q3 g3 r3 lb qb fun h83 f83 => ?_
  have b := (s48.quiet kB f83).base
  refine ⟨_, rfl, cellsAll b.rg, ⟨by decide, by decide⟩, ints R0, by rw [ints_length, hR0], cellsa b.rx (by rw [show (0 + Int.toNat 0 * 15 : Nat) = 0 from rfl, List.drop_zero, List.take_left]), ?_⟩
  refine All_as (gl.no b.fr) b.x hR0 e0 fun P1 P2 a1 c1 a2 c2 h88 f88 s1 s2 _ _ => ⟨_, _, _, _, _, _, _, rfl, num_spec ⟨_, rfl, ce (fun _ => ?_) fun y => absurd rfl y⟩⟩
  refine samePairs_spec s1.cells (SlCells.fr f88 b.was.1 fun _ _ y => y) (by omega) ⟨_, rfl, ct (decide_eq_true rfl) (same_spec s2.cells (SlCells.fr f88 b.also.1 fun _ _ y => y) (by omega) ⟨_, rfl, ?_⟩)⟩
  rw [decide_eq_true rfl]
  exact hK h88 (b.fr.no f88)
def rK (R0 R1 : List Int) : Nat → List Int | 1 => R1 | _ => R0
def pK (P0 P1 : List (Int × Int)) : Nat → List (Int × Int) | 1 => P1 | _ => P0
def mK (M0 M1 : List Int) : Nat → List Int | 1 => M1 | _ => M0
theorem fam_lpush {a : Option Addr} {c : Nat} {x : Rz.Sc} {P : List (Int × Int)} : ({ fam pA pC ls (fX X) with A := a, C := c, ls := (fam pA pC ls (fX X)).ls ++ [x], ws := (fam pA pC ls (fX X)).ws ++ [P.flatMap pcellA] } : Fam) = fam a c (ls ++ [x]) (fX (X ++ [P])) := by
  unfold fX
  rw [List.map_append]; rfl
theorem fam_qpush {a : Option Addr} {c : Nat} {x : Rz.Sc} {M : List Int} : ({ fam qA qC qs (fY Y) with A := a, C := c, ls := (fam qA qC qs (fY Y)).ls ++ [x], ws := (fam qA qC qs (fY Y)).ws ++ [ints M] } : Fam) = fam a c (qs ++ [x]) (fY (Y ++ [M])) := by
  unfold fY
  rw [List.map_append, ← ints_flat]; rfl
theorem range_snoc {α : Type} (f : Nat → α) (i : Nat) : (List.range (i + 1)).map f = (List.range i).map f ++ [f i] := by rw [List.range_succ, List.map_append]; rfl
open Classical in
/-- All's answer, in colours -/
noncomputable def colA (col : Nat → Nat) (n : Nat) (P Q : Nat → Prop) (i : Nat) : Nat → Nat := fun b => if b < n then col b else if P b then 10 + i else if Q b then 20 + i else 0
theorem colA_ag (col : Nat → Nat) (n : Nat) (P Q : Nat → Prop) (i : Nat) : Ag n col (colA col n P Q i) := fun b hb => if_pos hb
theorem colA_p {col : Nat → Nat} {n : Nat} {P Q : Nat → Prop} {i b : Nat} (h : P b) (hb : n ≤ b) : colA col n P Q i b = 10 + i := by unfold colA; rw [if_neg (by omega), if_pos h]
theorem colA_q {col : Nat → Nat} {n : Nat} {P Q : Nat → Prop} {i b : Nat} (h : Q b) (hn : ¬ P b) (hb : n ≤ b) : colA col n P Q i b = 20 + i := by unfold colA; rw [if_neg (by omega), if_neg hn, if_pos h]
end Go.Proofs.YtcdpakjhjmchhaaDoor.Bm
namespace Go.Proofs.YtcdpakjhjmchhaaDoor.Bm
open Go Go.Proofs Go.Proofs.YtcdpakjhjmchhaaDoor.Wx Go.Proofs.YtcdpakjhjmchhaaDoor.Hp Go.Proofs.YtcdpakjhjmchhaaDoor.W Go.Proofs.YtcdpakjhjmchhaaDoor.Ad Go.Proofs.YtcdpakjhjmchhaaDoor.Tm Go.Proofs.YtcdpakjhjmchhaaDoor.Bt Go.Proofs.YtcdpakjhjmchhaaDoor.Spc Go.Proofs.YtcdpakjhjmchhaaDoor.Re Go.Proofs.YtcdpakjhjmchhaaDoor.Av Go.Proofs.YtcdpakjhjmchhaaDoor.Rm
open Go.Proofs.YtcdpakjhjmchhaaDoor.Rz (Ow Fam Kept Fz mixed upB kM kA kG kW Sl.keep')
open Go.Proofs.YtcdpakjhjmchhaaDoor.Hd (ints)
open Go.Proofs.YtcdpakjhjmchhaaDoor.In (Glo ints_length ints_one)
variable {n : Nat} {h1 h hh h' : Heap} {t d : Option Addr} {F : Nat → Prop} {T : TM} {R0 R1 : List Int} {P0 P1 : List (Int × Int)} {M0 M1 : List Int} {col col' : Nat → Nat}
theorem cut_three {R0 R1 : List Int} (l0 : R0.length = 15) (l1 : R1.length = 15) {i : Nat} (hi : i < 3) : ((ints R0 ++ (ints R1 ++ ints R0)).drop (0 + i * 15)).take (ints (rK R0 R1 i)).length = ints (rK R0 R1 i) := by
  have e0 : (ints R0).length = 15 := by rw [ints_length, l0]
  have e1 : (ints R1).length = 15 := by rw [ints_length, l1]
  obtain rfl | rfl | rfl : i = 0 ∨ i = 1 ∨ i = 2 := by omega
  · show (List.drop (0 + 0 * 15) _).take (ints R0).length = ints R0
    rw [Nat.zero_mul, Nat.add_zero, List.drop_zero, List.take_left]
  · show (List.drop (0 + 1 * 15) _).take (ints R1).length = ints R1
    rw [show 0 + 1 * 15 = (ints R0).length by omega, List.drop_left, List.take_left]
  · show (List.drop (0 + 2 * 15) _).take (ints R0).length = ints R0
    rw [show 0 + 2 * 15 = (ints R0).length + (ints R1).length by omega, ← List.drop_drop, List.drop_left, List.drop_left, List.take_length]
theorem rK_len (l0 : R0.length = 15) (l1 : R1.length = 15) (i : Nat) : (rK R0 R1 i).length = 15 := by unfold rK; split <;> assumption
set_option linter.unusedVariables false in
theorem own_take {h3 h7 : Heap} {ab : Nat} {K : Value → Heap → Prop} (gl : Glo h1) (l0 : R0.length = 15) (l1 : R1.length = 15) (e0 : allM T (geoN n) R0 = (P0, M0, 0)) (e1 : allM T (geoN n) R1 = (P1, M1, 0)) (bP0 : P0.length ≤ 20000) (bP1 : P1.length ≤ 20000) (bM0 : M0.length ≤ 20000) (bM1 : M1.length ≤ 20000)
    (s : Ow (fun h col => Ob n h1 h3.size h7.size t d F T R0 R1 none [] none [] h col ∧ Fz h col (some ⟨ab, 0, none⟩) (ints R0 ++ (ints R1 ++ ints R0))) (D2 (fam none 0 [] (fX [])) (fam none 0 [] (fY []))) (fun _ => none) hh col)
    (hK : ∀ h', Fr No h1 h' → K (.bool true) h') :
  ∃ (I3 : Option Addr → Nat → Nat → Option Addr → Nat → Nat → Int → Heap → Prop) (M3 : Option Addr → Nat → Nat → Option Addr → Nat → Nat → Int → Heap → Nat), I3 none 0 0 none 0 0 0 hh ∧
  ∀ (pairsA1 : Option Addr) (pairsL1 : Nat) (pairsC1 : Nat) (tablesA1 : Option Addr) (tablesL1 : Nat) (tablesC1 : Nat) (n13 : Int), ∀ h27 : Heap, I3 pairsA1 pairsL1 pairsC1 tablesA1 tablesL1 tablesC1 n13 h27 →
  bif (decide (n13 < (3 : Int))) then (
  (0 ≤ n13 ∧ n13 < (3 : Int)) ∧
  ∃ cs12 : List Value, List.length cs12 = 15 ∧ Cells h27 (Addr.add ⟨ab, 0, none⟩ ((Int.toNat n13) * 15)) cs12 ∧
  NewRow z35 35 cs12 15 h27 fun h29 =>
  ∃ cs13 : List Value, List.length cs13 = 5 ∧ Cells h29 ⟨h3.size, 0, none⟩ cs13 ∧
  ∃ cs14 : List Value, List.length cs14 = 15 ∧ Cells h29 ⟨h27.size, 0, none⟩ cs14 ∧
  C.bmap_All t cs13 cs14 h29 fun r9 h30 =>
  ∃ (sA2 : Option Addr) (sL2 : Nat) (sC2 : Nat) (sA3 : Option Addr) (sL3 : Nat) (sC3 : Nat) (n14 : Int), r9 = .tuple #[.slice sA2 sL2 sC2, .slice sA3 sL3 sC3, .int .i64 n14] ∧
  C.bolelaw10_num n14 h30 fun r10 h31 =>
  ∃ (n15 : Int), r10 = .int .i64 n15 ∧
  bif (n15 != 0) then (
  K (.bool false) h31) else (
  New [.slice sA2 sL2 sC2] 51 h31 fun h32 =>
  ∃ new1 : List Value, List.length new1 = 1 * 1 ∧ SlCells h32 (some ⟨h31.size, 0, none⟩) new1 ∧ (∀ v ∈ new1, v.oneCell' = true) ∧
  AppendP ti51 51 pairsA1 pairsL1 pairsC1 1 new1 h32 fun sA4 sL4 sC4 h33 =>
  New [.slice sA3 sL3 sC3] 22 h33 fun h34 =>
  ∃ new2 : List Value, List.length new2 = 1 * 1 ∧ SlCells h34 (some ⟨h33.size, 0, none⟩) new2 ∧ (∀ v ∈ new2, v.oneCell' = true) ∧
  AppendP ti22 22 tablesA1 tablesL1 tablesC1 1 new2 h34 fun sA5 sL5 sC5 h35 =>
  I3 sA4 sL4 sC4 sA5 sL5 sC5 (IntKind.wrap .i64 (n13 + 1)) h35 ∧ M3 sA4 sL4 sC4 sA5 sL5 sC5 (IntKind.wrap .i64 (n13 + 1)) h35 < M3 pairsA1 pairsL1 pairsC1 tablesA1 tablesL1 tablesC1 n13 h27)) else (
  New [] 56 h27 fun h36 =>
  (0 ≤ (0 : Int) ∧ 0 < (pairsL1 : Int)) ∧
  onSome pairsA1 fun p3 =>
  ∃ (sA6 : Option Addr) (sL6 : Nat) (sC6 : Nat), cellOf h36 (Addr.add p3 (Int.toNat 0)) = some (.slice sA6 sL6 sC6) ∧
  ∃ new3 : List Value, List.length new3 = sL6 * 2 ∧ SlCells h36 sA6 new3 ∧ (∀ v ∈ new3, v.oneCell' = true) ∧
  AppendP ti56 56 (some ⟨h27.size, 0, none⟩) 0 0 sL6 new3 h36 fun sA7 sL7 sC7 h37 =>
  New [] 3 h37 fun h38 =>
  (0 ≤ (0 : Int) ∧ 0 < (tablesL1 : Int)) ∧
  onSome tablesA1 fun p4 =>
  ∃ (sA8 : Option Addr) (sL8 : Nat) (sC8 : Nat), cellOf h38 (Addr.add p4 (Int.toNat 0)) = some (.slice sA8 sL8 sC8) ∧
  ∃ new4 : List Value, List.length new4 = sL8 * 1 ∧ SlCells h38 sA8 new4 ∧ (∀ v ∈ new4, v.oneCell' = true) ∧
  AppendP ti3 3 (some ⟨h37.size, 0, none⟩) 0 0 sL8 new4 h38 fun sA9 sL9 sC9 h39 =>
  (0 ≤ (2 : Int) ∧ 2 < (pairsL1 : Int)) ∧
  onSome pairsA1 fun p5 =>
  ∃ (sA10 : Option Addr) (sL10 : Nat) (sC10 : Nat), cellOf h39 (Addr.add p5 (Int.toNat 2)) = some (.slice sA10 sL10 sC10) ∧
  C.bolelaw10_samePairs sA10 sL10 sC10 sA7 sL7 sC7 h39 fun r11 h40 =>
  ∃ (b3 : Bool), r11 = .bool b3 ∧
  bif (!b3) then (
  K (.bool false) h40) else (
  (0 ≤ (2 : Int) ∧ 2 < (tablesL1 : Int)) ∧
  onSome tablesA1 fun p6 =>
  ∃ (sA11 : Option Addr) (sL11 : Nat) (sC11 : Nat), cellOf h40 (Addr.add p6 (Int.toNat 2)) = some (.slice sA11 sL11 sC11) ∧
  C.bolelaw10_same sA11 sL11 sC11 sA9 sL9 sC9 h40 fun r12 h41 =>
  ∃ (b4 : Bool), r12 = .bool b4 ∧
  bif (!b4) then (
  K (.bool false) h41) else (
  bolelaw10_BmapOwn.k3 h3 t h7 pairsA1 pairsL1 tablesA1 tablesL1 sA7 sL7 sC7 sA9 sL9 sC9 h41 K))) := by
  have kB := (Ob.kept (n := n) (h1 := h1) (gb := h3.size) (xb := h7.size) (t := t) (d := d) (F := F) (T := T) (R0 := R0) (R1 := R1) (wa := none) (P0 := []) (va := none) (M0 := []) l0).and (Kept.fz (some ⟨ab, 0, none⟩) (ints R0 ++ (ints R1 ++ ints R0)))
  have eK : ∀ i, allM T (geoN n) (rK R0 R1 i) = (pK P0 P1 i, mK M0 M1 i, 0) := fun i => by
    by_cases hi : i = 1
    · subst hi; exact e1
    · have h1 : rK R0 R1 i = R0 := by unfold rK; split <;> first | rfl | (exfalso; exact hi rfl)
      have h2 : pK P0 P1 i = P0 := by unfold pK; split <;> first | rfl | (exfalso; exact hi rfl)
      have h3 : mK M0 M1 i = M0 := by unfold mK; split <;> first | rfl | (exfalso; exact hi rfl)
      rw [h1, h2, h3]; exact e0
  have bP : ∀ i, (pK P0 P1 i).length ≤ 20000 := fun i => by unfold pK; split <;> assumption
  have bM : ∀ i, (mK M0 M1 i).length ≤ 20000 := fun i => by unfold mK; split <;> assumption
  refine ⟨fun pA pL pC qA qL qC m hh => ∃ i : Nat, m = i ∧ i ≤ 3 ∧ ∃ col ls qs, Ow (fun h col => Ob n h1 h3.size h7.size t d F T R0 R1 none [] none [] h col ∧ Fz h col (some ⟨ab, 0, none⟩) (ints R0 ++ (ints R1 ++ ints R0))) (D2 (fam pA pC ls (fX ((List.range i).map (pK P0 P1)))) (fam qA qC qs (fY ((List.range i).map (mK M0 M1))))) (fun _ => none) hh col ∧ ls.length = i ∧ qs.length = i ∧ pL = ls.length ∧ qL = qs.length, fun _ _ _ _ _ _ m _ => ((3 : Int) - m).toNat,
    ⟨0, rfl, by omega, col, [], [], s, rfl, rfl, rfl, rfl⟩, ?_⟩
  clear s
  rintro pA _ pC qA _ qC _ h27 ⟨i, rfl, hi3, col27, ls, qs, s27, hl, hq, rfl, rfl⟩
  refine cd (fun hlt => ?_) fun hlt => ?_
  · have hi : i < 3 := by omega
    have lr := rK_len l0 l1 i
    have b27 := s27.base
    have cellA : Cells h27 (Addr.add ⟨ab, 0, none⟩ (i * 15)) (ints (rK R0 R1 i)) := by
      have c := Cells.part b27.2.1 (i * 15) 15
      have e := cut_three l0 l1 hi
      rw [ints_length, lr, Nat.zero_add] at e
      rw [e] at c
      exact c
    rw [Int.toNat_natCast, wrap_i64 (n := (i : Int) + 1) (by omega) (by omega)]
    refine ⟨⟨by omega, hlt⟩, _, by rw [ints_length, lr], cellA, NewRow.intro (by rw [ints_length, lr]) (ints_one _) rfl fun h29 n29 => ?_⟩
    have s29 := s27.quiet kB n29.fr
    have b29 := s29.base
    have z29 := n29.size
    refine ⟨_, rfl, cellsAll b29.1.rg, _, by rw [ints_length, lr], cellsAll n29.rd, All_as (gl.no b29.1.fr) b29.1.x lr (eK i) fun P Q a1 c1 a2 c2 h30 f30 s1 s2 hP hQ => ⟨_, _, _, _, _, _, _, rfl, num_spec ⟨_, rfl, cn (fun y => absurd rfl y) fun _ => ?_⟩⟩⟩
    have s30 := s29.calm kB f30 (colA_ag (upd col27 h27.size 0) h29.size P Q i)
    have t1 : Sl h30 2 a1 (pK P0 P1 i).length c1 ((pK P0 P1 i).flatMap pcellA) (On (colA (upd col27 h27.size 0) h29.size P Q i) (10 + i)) := s1.mono fun b hb => colA_p hb (hP b hb).1
    have t2 : Sl h30 1 a2 (mK M0 M1 i).length c2 (ints (mK M0 M1 i)) (On (colA (upd col27 h27.size 0) h29.size P Q i) (20 + i)) := s2.mono fun b hb => colA_q hb (fun y => (hP b y).2 hb) (hQ b hb)
    generalize colA (upd col27 h27.size 0) h29.size P Q i = col30 at s30 t1 t2
    have ls3 : ls.length < 3 := by omega
    have qs3 : qs.length < 3 := by omega
    refine New.intro fun h32 n32 => ⟨[.slice a1 (pK P0 P1 i).length c1], rfl, cellsAll n32.rd, one1 rfl, ?_⟩
    have s32 := s30.quiet kB n32.fr
    have t1 := Sl.keep' t1 n32.fr (ag_upd col30 h30.size 0) fun _ _ _ y => y
    have t2 := Sl.keep' t2 n32.fr (ag_upd col30 h30.size 0) fun _ _ _ y => y
    generalize upd col30 h30.size 0 = col32 at s32 t1 t2
    refine Ow.lpush false kB s32 rfl ls3 (x := ⟨a1, (pK P0 P1 i).length, c1⟩) (by rw [show kM false + (D2 (fam pA pC ls (fX ((List.range i).map (pK P0 P1)))) (fam qA qC qs (fY ((List.range i).map (mK M0 M1)))) false).ls.length = 10 + i by show 10 + ls.length = _; omega]; exact t1) (elem := ti51) rfl rfl (by decide) fun a3 c3 h33 col33 s33 hag => New.intro fun h34 n34 => ⟨[.slice a2 (mK M0 M1 i).length c2], rfl, cellsAll n34.rd, one1 rfl, ?_⟩
    rw [D2_f] at s33
    have s33 : Ow (fun h col => Ob n h1 h3.size h7.size t d F T R0 R1 none [] none [] h col ∧ Fz h col (some ⟨ab, 0, none⟩) (ints R0 ++ (ints R1 ++ ints R0))) (D2 (fam a3 c3 (ls ++ [⟨a1, (pK P0 P1 i).length, c1⟩]) (fX ((List.range i).map (pK P0 P1) ++ [pK P0 P1 i]))) (fam qA qC qs (fY ((List.range i).map (mK M0 M1))))) (fun _ => none) h33 col33 := by
      have e := fam_lpush (pA := pA) (pC := pC) (ls := ls) (X := (List.range i).map (pK P0 P1)) (a := a3) (c := c3) (x := ⟨a1, (pK P0 P1 i).length, c1⟩) (P := pK P0 P1 i)
      rw [← e]; exact s33
    have t2 := Sl.keep' t2 hag.2 hag.1 fun b _ hb hF => by
      have hF : col32 b = 1 := hF
      have hb : col32 b = 20 + i := hb
      omega
    have s34 := s33.quiet kB n34.fr
    have t2 := Sl.keep' t2 n34.fr (ag_upd col33 h33.size 0) fun _ _ _ y => y
    generalize upd col33 h33.size 0 = col34 at s34 t2
    refine Ow.lpush true kB s34 rfl qs3 (x := ⟨a2, (mK M0 M1 i).length, c2⟩) (by rw [show kM true + (D2 (fam a3 c3 (ls ++ [⟨a1, (pK P0 P1 i).length, c1⟩]) (fX ((List.range i).map (pK P0 P1) ++ [pK P0 P1 i]))) (fam qA qC qs (fY ((List.range i).map (mK M0 M1)))) true).ls.length = 20 + i by show 20 + qs.length = _; omega]; exact t2) (elem := ti22) rfl rfl (by decide) fun a4 c4 h35 col35 s35 _ => ?_
    rw [D2_t] at s35
    have s35 : Ow (fun h col => Ob n h1 h3.size h7.size t d F T R0 R1 none [] none [] h col ∧ Fz h col (some ⟨ab, 0, none⟩) (ints R0 ++ (ints R1 ++ ints R0))) (D2 (fam a3 c3 (ls ++ [⟨a1, (pK P0 P1 i).length, c1⟩]) (fX ((List.range (i + 1)).map (pK P0 P1)))) (fam a4 c4 (qs ++ [⟨a2, (mK M0 M1 i).length, c2⟩]) (fY ((List.range (i + 1)).map (mK M0 M1))))) (fun _ => none) h35 col35 := by
      have e := fam_qpush (qA := qA) (qC := qC) (qs := qs) (Y := (List.range i).map (mK M0 M1)) (a := a4) (c := c4) (x := ⟨a2, (mK M0 M1 i).length, c2⟩) (M := mK M0 M1 i)
      rw [range_snoc, range_snoc, ← e]; exact s35
    refine ⟨⟨i + 1, rfl, by omega, col35, _, _, s35, by rw [List.length_append, List.length_singleton, hl], by rw [List.length_append, List.length_singleton, hq], by rw [List.length_append]; rfl, by rw [List.length_append]; rfl⟩, falls (m := 3) hlt⟩
  have ei : i = 3 := by omega
  subst ei
  have hX : (List.range 3).map (pK P0 P1) = [P0, P1, P0] := rfl
  have hY : (List.range 3).map (mK M0 M1) = [M0, M1, M0] := rfl
  rw [hX, hY] at s27
  have lb : ∀ i (hi : i < ls.length), ls[i].l ≤ 20000 := fun i hi => by
    have := own_lenX s27 hi (by show i < 3; omega)
    rw [← this]
    obtain rfl | rfl | rfl : i = 0 ∨ i = 1 ∨ i = 2 := by omega
    · exact bP0
    · exact bP1
    · exact bP0
  have qb : ∀ i (hi : i < qs.length), qs[i].l ≤ 20000 := fun i hi => by
    have := own_lenY s27 hi (by show i < 3; omega)
    rw [← this]
    obtain rfl | rfl | rfl : i = 0 ∨ i = 1 ∨ i = 2 := by omega
    · exact bM0
    · exact bM1
    · exact bM0
  have h0 : 0 < ls.length := by omega
  have h2 : 2 < ls.length := by omega
  have q0 : 0 < qs.length := by omega
  have q2 : 2 < qs.length := by omega
  have el0 : P0.length = ls[0].l := own_lenX s27 h0 (by show 0 < 3; omega)
  have el2 : P0.length = ls[2].l := own_lenX s27 h2 (by show 2 < 3; omega)
  have eq0 : M0.length = qs[0].l := own_lenY s27 q0 (by show 0 < 3; omega)
  have eq2 : M0.length = qs[2].l := own_lenY s27 q2 (by show 2 < 3; omega)
  have z27 := s27.base.1.fr.size
  refine New.intro fun h36 n36 => ?_
  have z36 := n36.size
  have s36 := s27.quiet kB n36.fr
  have it0 : Sl h36 2 ls[0].a ls[0].l ls[0].c (P0.flatMap pcellA) (On (upd col27 h27.size 0) (10 + 0)) := (s36.fam false).lists.at_ 0 h0 (by show 0 < 3; omega)
  obtain ⟨p3, e3, c3⟩ := own_cellX s36 false (A := pA) rfl (ls := ls) rfl h0
  have hz2 : (ti56).cells = 2 := rfl
  have hb2 : (ti56).bytes = 16 := rfl
  have hz1 : (ti3).cells = 1 := rfl
  have hb1 : (ti3).bytes = 8 := rfl
  have lb0 := lb 0 h0
  have qb0 := qb 0 q0
  refine ⟨⟨by omega, by omega⟩, Rz.oe e3 ⟨_, _, _, c3, P0.flatMap pcellA, by rw [flat_length _ 2 _ (pcell_len _), el0], it0.cells, (by
    intro v hv
    obtain ⟨x, _, hx⟩ := List.mem_flatMap.mp hv
    exact one2 rfl rfl v hx), ?_⟩⟩
  refine append_own (F := fun b => b = h27.size) (show Sl h36 (ti56).cells (some ⟨h27.size, 0, none⟩) 0 0 [] (fun b => b = h27.size) from ⟨rfl, rfl, rfl, n36.own, Nat.le_refl _, rfl, by show 0 + 0 * 2 ≤ _; omega⟩) (by rw [flat_length _ 2 _ (pcell_len _), el0, hz2]) rfl (by rw [hb2]; omega) (by omega) fun a7 c7 h37 f37 w37 => ?_
  rw [Nat.zero_add, List.nil_append, hz2] at w37
  rw [Nat.zero_add]
  have F37 : Fr No h27 h37 := n36.fr.trans f37 fun b hb y => by have y : b = h27.size := y; omega
  have z37 := f37.size
  refine New.intro fun h38 n38 => ?_
  have z38 := n38.size
  have F38 : Fr No h27 h38 := F37.new n38
  have s38 := s27.quiet kB F38
  have jt0 : Sl h38 1 qs[0].a qs[0].l qs[0].c (M0.flatMap cT) (On (upd col27 h27.size 0) (20 + 0)) := (s38.fam true).lists.at_ 0 q0 (by show 0 < 3; omega)
  rw [ints_flat] at jt0
  obtain ⟨p4, e4, c4⟩ := own_cellX s38 true (A := qA) rfl (ls := qs) rfl q0
  refine ⟨⟨by omega, by omega⟩, Rz.oe e4 ⟨_, _, _, c4, ints M0, by rw [ints_length, eq0, Nat.mul_one], jt0.cells, ints_one _, ?_⟩⟩
  refine append_own (F := fun b => b = h37.size) (show Sl h38 (ti3).cells (some ⟨h37.size, 0, none⟩) 0 0 [] (fun b => b = h37.size) from ⟨rfl, rfl, rfl, n38.own, Nat.le_refl _, rfl, by show 0 + 0 * 1 ≤ _; omega⟩) (by rw [ints_length, eq0, hz1, Nat.mul_one]) rfl (by rw [hb1]; omega) (by omega) fun a9 c9 h39 f39 w39 => ?_
  rw [Nat.zero_add, List.nil_append, hz1] at w39
  rw [Nat.zero_add]
  have F39 : Fr No h27 h39 := F38.trans f39 fun b hb y => by have y : b = h37.size := y; omega
  have s39 := s27.quiet kB F39
  have F379 : Fr No h37 h39 := n38.fr.trans f39 fun b hb y => by have y : b = h37.size := y; omega
  have w37 := w37.fr F379 fun _ _ _ y => y
  have z39 := f39.size
  have W : Fz h39 (upd col27 h27.size 0) a7 (P0.flatMap pcellA) := Fz.of w37 fun b hb hF => upd_ge (by rcases hF with y | y <;> omega)
  have V : Fz h39 (upd col27 h27.size 0) a9 (ints M0) := Fz.of w39 fun b hb hF => upd_ge (by rcases hF with y | y <;> omega)
  have s39 : Ow (Ob n h1 h3.size h7.size t d F T R0 R1 a7 P0 a9 M0) (D2 (fam pA pC ls (fX [P0, P1, P0])) (fam qA qC qs (fY [M0, M1, M0]))) (fun _ => none) h39 (upd col27 h27.size 0) := s39.mono fun b => { b.1 with was := W, also := V }
  have it2 : Sl h39 2 ls[2].a ls[2].l ls[2].c (P0.flatMap pcellA) (On (upd col27 h27.size 0) (10 + 2)) := (s39.fam false).lists.at_ 2 h2 (by show 2 < 3; omega)
  have jt2 : Sl h39 1 qs[2].a qs[2].l qs[2].c (M0.flatMap cT) (On (upd col27 h27.size 0) (20 + 2)) := (s39.fam true).lists.at_ 2 q2 (by show 2 < 3; omega)
  rw [ints_flat] at jt2
  obtain ⟨p5, e5, c5⟩ := own_cellX s39 false (A := pA) rfl (ls := ls) rfl h2
  obtain ⟨p6, e6, c6⟩ := own_cellX s39 true (A := qA) rfl (ls := qs) rfl q2
  refine ⟨⟨by omega, by omega⟩, Rz.oe e5 ⟨_, _, _, c5, ?_⟩⟩
  rw [← el0, ← el2, ← eq0]
  refine samePairs_spec it2.cells W.1 (by omega) ⟨_, rfl, cf (by rw [decide_eq_true rfl]; rfl) ⟨⟨by omega, by omega⟩, Rz.oe e6 ⟨_, _, _, c6, ?_⟩⟩⟩
  rw [← eq2]
  refine same_spec jt2.cells V.1 (by omega) ⟨_, rfl, cf (by rw [decide_eq_true rfl]; rfl) ?_⟩
  exact own_k3 gl l0 e0 bP0 bM0 s39 hl hq rfl rfl lb qb hK
end Go.Proofs.YtcdpakjhjmchhaaDoor.Bm
namespace Go.Proofs.YtcdpakjhjmchhaaDoor.Bm
open Go Go.Proofs Go.Proofs.YtcdpakjhjmchhaaDoor.Wx Go.Proofs.YtcdpakjhjmchhaaDoor.Hp Go.Proofs.YtcdpakjhjmchhaaDoor.W Go.Proofs.YtcdpakjhjmchhaaDoor.Ad Go.Proofs.YtcdpakjhjmchhaaDoor.Tm Go.Proofs.YtcdpakjhjmchhaaDoor.Bt Go.Proofs.YtcdpakjhjmchhaaDoor.Spc Go.Proofs.YtcdpakjhjmchhaaDoor.Re Go.Proofs.YtcdpakjhjmchhaaDoor.Av Go.Proofs.YtcdpakjhjmchhaaDoor.Rm
open Go.Proofs.YtcdpakjhjmchhaaDoor.Rz (Ow Fam Kept Fz mixed upB kM kA kG kW Sl.keep')
open Go.Proofs.YtcdpakjhjmchhaaDoor.Hd (ints)
open Go.Proofs.YtcdpakjhjmchhaaDoor.In (Glo ints_length ints_one)
theorem other_step {n k : Nat} {Z Z' : Nat → Txt} {R R' S : List Int} (a : Added n Z R none (path k) Z' R') (w : Wf n Z S) (hk : k < 16522) (dis : ∀ s s', s < nS → s' < nS → num Z R s = num Z S s' → num Z R s = 0) :
    Wf n Z' S ∧ ∀ s s', s < nS → s' < nS → num Z' R' s = num Z' S s' → num Z' R' s = 0 := by
  have pn := chain_nS (path_chain hk).1
  have hin : (geoN n).inodes ≤ (geoN n).data := Nat.le_add_right _ _
  have cont : ∀ s', s' < nS → num Z S s' ≠ 0 → Z' (num Z S s') = Z (num Z S s') := fun s' hs' h0 => by
    obtain ⟨r1, r2, r3⟩ := w.rng s' hs' h0
    refine a.cont _ r2 (by omega) (.inr r3) (fun q hq e => ?_) fun q h => by cases h
    by_cases hz : num Z R q = 0
    · have := a.new q hq hz
      rw [← e, r3] at this; cases this
    · have e2 := a.old q hq hz
      rw [e2] at e
      exact hz (dis q s' (pn q hq) hs' e.symm)
  have N : ∀ s, s < nS → num Z' S s = num Z S s := num_congr (fun _ _ _ => rfl) fun q _ h2 h3 p _ => by rw [cont q h2 h3]
  refine ⟨⟨w.rl, w.rr, fun s hs h => ?_, fun s s' hs hs' h e => ?_⟩, fun s s' hs hs' e => ?_⟩
  · rw [N s hs] at h ⊢
    obtain ⟨r1, r2, r3⟩ := w.rng s hs h
    exact ⟨r1, r2, a.bits _ r2 r3⟩
  · rw [N s hs] at h e
    rw [N s' hs'] at e
    exact w.inj s s' hs hs' h e
  · rw [N s' hs'] at e
    refine Classical.byContradiction fun h0 => ?_
    have h1 : num Z S s' ≠ 0 := by rw [← e]; exact h0
    obtain ⟨r1, r2, r3⟩ := w.rng s' hs' h1
    by_cases hp : s ∈ path k
    · by_cases hz : num Z R s = 0
      · have := a.new s hp hz
        rw [e, r3] at this; cases this
      · have e2 := a.old s hp hz
        rw [e2] at e h0
        exact h0 (dis s s' hs hs' e)
    · have e2 := a.off s hs hp
      rw [e2] at e h0
      exact h0 (dis s s' hs hs' e)
def updR (R : Nat → List Int) (i : Nat) (y : List Int) : Nat → List Int := fun m => if m = i then y else R m
theorem updR_at (R : Nat → List Int) (i : Nat) (y : List Int) : updR R i y i = y := if_pos rfl
theorem updR_ne (R : Nat → List Int) {i m : Nat} (y : List Int) (h : m ≠ i) : updR R i y m = R m := if_neg h
structure Opl (n : Nat) (T : TM) (Z : Nat → Txt) (R : Nat → List Int) (u : Nat) : Prop where
  a : Av n Z T
  w : ∀ i, i < 2 → Wf n Z (R i)
  dis : ∀ i j, i < 2 → j < 2 → i ≠ j → ∀ s s', s < nS → s' < nS → num Z (R i) s = num Z (R j) s' → num Z (R i) s = 0
  un : T.undo.length ≤ u
theorem Opl.add {n k i u : Nat} {T T' : TM} {Z Z' : Nat → Txt} {R : Nat → List Int} {R' : List Int} (o : Opl n T Z R u) (hi : i < 2) (hk : k < 16522) (a' : Av n Z' T') (ad : Added n Z (R i) none (path k) Z' R') (un : T'.undo.length ≤ u + 9) : Opl n T' Z' (updR R i R') (u + 9) := by
  have os : ∀ j, j < 2 → j ≠ i → _ := fun j hj hne => other_step ad (o.w j hj) hk (o.dis i j hi hj (Ne.symm hne))
  refine ⟨a', fun j hj => ?_, fun j m hj hm hne s s' hs hs' e => ?_, un⟩
  · by_cases h : j = i
    · subst h; rw [updR_at]; exact ad.w
    · rw [updR_ne _ _ h]; exact (os j hj h).1
  · by_cases h : j = i
    · subst h
      have hm' : m ≠ j := Ne.symm hne
      rw [updR_at] at e ⊢
      rw [updR_ne _ _ hm'] at e
      exact (os m hm hm').2 s s' hs hs' e
    · have em : m = i := by omega
      subst em
      rw [updR_at, updR_ne _ _ h] at e
      rw [updR_ne _ _ h]
      have := (os j hj h).2 s' s hs' hs e.symm
      rw [this] at e
      exact e
structure Omm (n : Nat) (h1 : Heap) (gb xb lb : Nat) (sl : List Value) (t d : Option Addr) (hh : Heap) (F : Nat → Prop) (T : TM) (R : Nat → List Int) : Prop where
  fr : Fr No h1 hh
  rg : rd hh gb = (geoN n).v
  rx : rd hh xb = ints (R 0) ++ ints (R 1)
  ox : Own hh xb
  rl : rd hh lb = sl
  ll : lb < hh.size
  ne : xb ≠ gb ∧ xb ≠ lb ∧ h1.size ≤ xb
  x : Tx hh F t d T
  nf : ¬ F gb ∧ ¬ F xb ∧ ¬ F lb
  fl : ∀ b, F b → h1.size ≤ b
  l : ∀ i, i < 2 → (R i).length = 15
variable {n gb xb lb : Nat} {h1 h hh h' : Heap} {sl : List Value} {t d : Option Addr} {F F' : Nat → Prop} {T T' : TM} {R : Nat → List Int}
theorem Omm.lt (m : Omm n h1 gb xb lb sl t d hh F T R) : gb < hh.size ∧ xb < hh.size := ⟨rd_lt (o := 0) (v := .int .i64 (geoN n).blocks) (by rw [m.rg]; rfl), m.ox.lt⟩
theorem Omm.no (m : Omm n h1 gb xb lb sl t d hh F T R) (f : Fr No hh h') : Omm n h1 gb xb lb sl t d h' F T R := by
  obtain ⟨l1, l2⟩ := m.lt
  have ll := m.ll
  have z := f.size
  exact { m with fr := m.fr.no f, rg := (f.rd l1 fun y => y).trans m.rg, rx := (f.rd l2 fun y => y).trans m.rx, ox := f.own l2 (fun y => y) m.ox, rl := (f.rd ll fun y => y).trans m.rl, ll := by omega, x := m.x.no f }
theorem Omm.call (m : Omm n h1 gb xb lb sl t d hh F T R) (f : Fr F hh h') (g : Gw hh F h' F') (x : Tx h' F' t d T') : Omm n h1 gb xb lb sl t d h' F' T' R := by
  obtain ⟨l1, l2⟩ := m.lt
  have ll := m.ll
  have z := f.size
  obtain ⟨n1, n2, n3⟩ := m.nf
  have s := m.fr.size
  refine ⟨m.fr.trans f fun b hb y => by have := m.fl b y; omega, (f.rd l1 n1).trans m.rg, (f.rd l2 n2).trans m.rx, f.own l2 n2 m.ox, (f.rd ll n3).trans m.rl, by omega, m.ne, x, ⟨fun y => n1 ((g.old _ l1).mp y), fun y => n2 ((g.old _ l2).mp y), fun y => n3 ((g.old _ ll).mp y)⟩, fun b y => ?_, m.l⟩
  rcases g.new y with y | y
  · exact m.fl b y
  · omega
theorem put_two {R : Nat → List Int} (l : ∀ i, i < 2 → (R i).length = 15) {i : Nat} (hi : i < 2) {y : List Int} (ly : y.length = 15) : put (ints (R 0) ++ ints (R 1)) (i * 15) (ints y) = ints (updR R i y 0) ++ ints (updR R i y 1) := by
  have e0 : (ints (R 0)).length = 15 := by rw [ints_length, l 0 (by decide)]
  have e1 : (ints (R 1)).length = 15 := by rw [ints_length, l 1 (by decide)]
  have ey : (ints y).length = 15 := by rw [ints_length, ly]
  have a0 : (List.take 0 (ints (R 0) ++ ints (R 1))) = [] := List.take_zero
  obtain rfl | rfl : i = 0 ∨ i = 1 := by omega
  · rw [Nat.zero_mul, put_eq _ _ _ (by rw [List.length_append]; omega), a0, updR_at, updR_ne _ _ (by decide), List.nil_append, Nat.zero_add, ey, ← e0, List.drop_left]
  · rw [Nat.one_mul, put_eq _ _ _ (by rw [List.length_append]; omega), updR_at, updR_ne _ _ (by decide), ey, ← e0, List.take_left, ← List.drop_drop, List.drop_left, show (ints (R 0)).length = (ints (R 1)).length by omega, List.drop_length, List.append_nil]
theorem get_two {R : Nat → List Int} (l : ∀ i, i < 2 → (R i).length = 15) {i : Nat} (hi : i < 2) : ((ints (R 0) ++ ints (R 1)).drop (0 + i * 15)).take (ints (R i)).length = ints (R i) := by
  have e0 : (ints (R 0)).length = 15 := by rw [ints_length, l 0 (by decide)]
  obtain rfl | rfl : i = 0 ∨ i = 1 := by omega
  · rw [Nat.zero_mul, Nat.zero_add, List.drop_zero, List.take_left]
  · rw [Nat.one_mul, Nat.zero_add, ← e0, List.drop_left, List.take_length]
theorem Omm.recd (m : Omm n h1 gb xb lb sl t d hh F T R) {i : Nat} (hi : i < 2) : List.length (ints (R i)) = 15 ∧ Cells hh (Addr.add ⟨xb, 0, none⟩ (i * 15)) (ints (R i)) :=
  ⟨by rw [ints_length, m.l i hi], cellsa m.rx (get_two m.l hi)⟩
theorem Omm.put (m : Omm n h1 gb xb lb sl t d hh F T R) {i : Nat} (hi : i < 2) {y : List Int} (ly : y.length = 15) (dd : Did xb hh h' (put (rd hh xb) (0 + i * 15) (ints y))) : Omm n h1 gb xb lb sl t d h' F T (updR R i y) := by
  obtain ⟨l1, l2⟩ := m.lt
  have ll := m.ll
  obtain ⟨e1, e2, e3⟩ := m.ne
  have s := m.fr.size
  have z := dd.size
  refine { m with fr := m.fr.did dd fun hb => (by omega), rg := (dd.at_ l1 (Ne.symm e1)).trans m.rg, rx := ?_, ox := dd.own, rl := (dd.at_ ll (Ne.symm e2)).trans m.rl, ll := by omega, x := m.x.fr dd.fr fun b hb y => m.nf.2.1 (by have y : b = xb := y; rw [← y]; exact hb), l := fun j hj => ?_ }
  · rw [dd.rd, m.rx, Nat.zero_add]; exact put_two m.l hi ly
  · by_cases h : j = i
    · subst h; rw [updR_at]; exact ly
    · rw [updR_ne _ _ h]; exact m.l j hj
theorem Omm.side (m : Omm n h1 gb xb lb sl t d hh F T R) {yb : Nat} {cs : List Value} (dd : Did yb hh h' cs) (h0 : h1.size ≤ yb) (hg : yb ≠ gb) (hx : yb ≠ xb) (hl : yb ≠ lb) (hF : ¬ F yb) : Omm n h1 gb xb lb sl t d h' F T R := by
  obtain ⟨l1, l2⟩ := m.lt
  have ll := m.ll
  have z := dd.size
  exact { m with fr := m.fr.did dd fun hb => (by omega), rg := (dd.at_ l1 (Ne.symm hg)).trans m.rg, rx := (dd.at_ l2 (Ne.symm hx)).trans m.rx, ox := dd.ow m.ox, rl := (dd.at_ ll (Ne.symm hl)).trans m.rl, ll := by omega, x := m.x.fr dd.fr fun b hb y => hF (by have y : b = yb := y; rw [← y]; exact hb) }
variable {K : Value → Heap → Prop} {h7 h11 h16 : Heap} {I2 : Int → Heap → Prop} {M2 : Int → Heap → Nat}
theorem own_k2 {i j yb : Nat} {y : List Int} {e : Int} (m : Omm n h1 gb h7.size lb sl t d h16 F T R) (hi : i < 2) (hj : j < 1000) (ry : rd h16 yb = ints y) (ly : y.length = 15) (hok : e = 0 → ∀ hw, Omm n h1 gb h7.size lb sl t d hw F T (updR R i y) → I2 ((j : Int) + 1) hw ∧ M2 ((j : Int) + 1) hw < M2 (j : Int) h11)
    (hbad : e ≠ 0 → I2 ((j : Int) + 1) h16 ∧ M2 ((j : Int) + 1) h16 < M2 (j : Int) h11) : bolelaw10_BmapOwn.k2 h7 (i : Int) (j : Int) h11 I2 M2 (some ⟨yb, 0, none⟩) e h16 K := by
  unfold bolelaw10_BmapOwn.k2
  rw [wrap_i64 (n := (j : Int) + 1) (by omega) (by omega), Int.toNat_natCast]
  refine num_spec ⟨_, rfl, ce (fun he => ⟨_, by rw [ints_length, ly], cellsAll ry, ⟨by omega, by omega⟩, ?_⟩) fun he => hbad he⟩
  have l : (rd h16 h7.size).length = 30 := by rw [m.rx, List.length_append, ints_length, ints_length, m.l 0 (by decide), m.l 1 (by decide)]
  exact PutRow.add m.ox (by rw [ints_length, ly]) (ints_one _) (by omega) fun hw dd => hok he hw (m.put hi ly dd)
/-- an Add, and what comes of it -/
theorem own_add {i j u : Nat} {Z : Nat → Txt} (gl : Glo h1) (dm : Dim n) (m : Omm n h1 gb h7.size lb sl t d h F T R) (o : Opl n T Z R u) (hu : u < 100000) (hi : i < 2) (hj : j < 1000) {k : Nat} (hk : k < 16522)
    (hI : ∀ hw F' T' Z' R', Omm n h1 gb h7.size lb sl t d hw F' T' R' → Opl n T' Z' R' (u + 9) → I2 ((j : Int) + 1) hw ∧ M2 ((j : Int) + 1) hw < M2 (j : Int) h11) {K' : Value → Heap → Prop}
    (hK : ∀ R' v e h13 F13 T13, (h.size ≤ h13.size) → Fr F h h13 → Gw h F h13 F13 → Omm n h1 gb h7.size lb sl t d h13 F13 T13 R → R'.length = 15 → (∀ h16 yb, Omm n h1 gb h7.size lb sl t d h16 F13 T13 R → rd h16 yb = ints R' → bolelaw10_BmapOwn.k2 h7 (i : Int) (j : Int) h11 I2 M2 (some ⟨yb, 0, none⟩) e h16 K) → K' (.tuple #[.agg ⟨ints R'⟩, .int .i64 v, .int .i64 e]) h13) :
    C.bmap_Add t (geoN n).v (ints (R i)) (k : Int) h K' := by
  have un := o.un
  have gl1 := gl.lt
  have g0 : ∀ b, b < 1 → ¬ F b := fun b hb y => by have := m.fl b y; omega
  have mono : ∀ {Z' T' R'}, Opl n T' Z' R' u → Opl n T' Z' R' (u + 9) := fun q => ⟨q.a, q.w, q.dis, by have := q.un; omega⟩
  rcases add_ok (k := k) dm o.a (o.w i hi) hk with ⟨e, _⟩ | ⟨e, _⟩ | ⟨T2, R2, Z2, e, a2, ad, nf, _, _, _⟩
  · refine Add_as (gl.no m.fr) dm m.x o.a.live (m.l i hi) g0 (by omega) e fun h13 F13 f13 g13 x13 => ?_
    have m13 := m.call f13 g13 x13
    exact hK z15 0 60 h13 F13 T f13.size f13 g13 m13 rfl fun h16 yb m16 ry => own_k2 m16 hi hj ry rfl (fun h => absurd h (by decide)) fun _ => hI h16 F13 T Z R m16 (mono o)
  · refine Add_as (gl.no m.fr) dm m.x o.a.live (m.l i hi) g0 (by omega) e fun h13 F13 f13 g13 x13 => ?_
    have m13 := m.call f13 g13 x13
    exact hK z15 0 90 h13 F13 T f13.size f13 g13 m13 rfl fun h16 yb m16 ry => own_k2 m16 hi hj ry rfl (fun h => absurd h (by decide)) fun _ => hI h16 F13 T Z R m16 (mono o)
  · have un2 := addM_un (T := T) (g := geoN n) (R := R i) (k := (k : Int))
    rw [e] at un2
    have un2 : T2.undo.length ≤ T.undo.length + 9 := un2
    refine Add_as (gl.no m.fr) dm m.x o.a.live (m.l i hi) g0 (by omega) e fun h13 F13 f13 g13 x13 => ?_
    have m13 := m.call f13 g13 x13
    exact hK R2 _ 0 h13 F13 T2 f13.size f13 g13 m13 ad.w.rl fun h16 yb m16 ry => own_k2 m16 hi hj ry ad.w.rl (fun _ hw mw => hI hw F13 T2 Z2 _ mw (o.add hi hk a2 ad (by omega))) fun h => absurd rfl h
end Go.Proofs.YtcdpakjhjmchhaaDoor.Bm
namespace Go.Proofs.YtcdpakjhjmchhaaDoor.Bm
open Go Go.Proofs Go.Proofs.YtcdpakjhjmchhaaDoor.Wx Go.Proofs.YtcdpakjhjmchhaaDoor.Hp Go.Proofs.YtcdpakjhjmchhaaDoor.W Go.Proofs.YtcdpakjhjmchhaaDoor.Ad Go.Proofs.YtcdpakjhjmchhaaDoor.Tm Go.Proofs.YtcdpakjhjmchhaaDoor.Bt Go.Proofs.YtcdpakjhjmchhaaDoor.Spc Go.Proofs.YtcdpakjhjmchhaaDoor.Re Go.Proofs.YtcdpakjhjmchhaaDoor.Av Go.Proofs.YtcdpakjhjmchhaaDoor.Rm
open Go.Proofs.YtcdpakjhjmchhaaDoor.Hd (ints)
open Go.Proofs.YtcdpakjhjmchhaaDoor.In (Glo ints_length ints_one)
theorem start_spec {more : Int} {ta ra : Option Addr} {tc rc : Nat} {ks : List Int} {rs : List RawI} {h : Heap} (gl : Glo h) (X : SlCells h ta (ints ks)) (Y : SlCells h ra (rs.flatMap RawI.v)) (hY : ∀ r ∈ rs, StrAt h r.a r.l r.bs) (hkl : ks.length ≤ 140737488355328) (hrl : rs.length ≤ 140737488355328) {ti tj : Nat} {K : Value → Heap → Prop} {k1 : Heap → Option Addr → Heap → Prop}
    (hk : ∀ n t d F T Z h3 h6, Dim n → n < 5000 → Fr No h h6 → h.size ≤ h3.size → rd h6 h3.size = (geoN n).v → Tx h6 F t d T → (∀ b, F b → h.size ≤ b ∧ b < h3.size) → Av n Z T → Av.ks T = [] → T.undo = [] → k1 h3 t h6) :
    New (setupV more ta ks.length tc ra rs.length rc) ti h fun h2 => ∃ cs1 : List Value, List.length cs1 = 3 ∧ Cells h2 ⟨h.size, 0, none⟩ cs1 ∧ C.bolelaw10_Setup_begin cs1 h2 fun r1 h3 =>
      ∃ (q1 : Option Addr) (q2 : Option Addr) (cs2 : List Value) (b1 : Bool), r1 = .tuple #[.pointer q1, .pointer q2, .agg ⟨cs2⟩, .bool b1] ∧ NewRow z29 tj cs2 5 h3 fun h5 =>
      bif (!b1) then K (.bool false) h5 else C.bolelaw10_known h5 fun r2 h6 => ∃ (b2 : Bool), r2 = .bool b2 ∧ bif (!b2) then K (.bool false) h6 else k1 h3 q1 h6 := by
  refine New.intro fun h2 n2 => ⟨_, rfl, cellsAll n2.rd, begin_spec (SlCells.fr n2.fr X fun _ _ y => y) (SlCells.fr n2.fr Y fun _ _ y => y) (fun r hr => StrAt.fr n2.fr (hY r hr) fun _ _ y => y) hkl hrl fun t u q d F H L h3 f3 x3 _ I hF _ => ⟨_, _, _, _, rfl, NewRow.intro rfl (G.one _) rfl fun h5 n5 => ?_⟩⟩
  have hn := nOf_rng more
  have dm : Dim (nOf more) := ⟨hn.1, by omega⟩
  have F3 : Fr No h h3 := n2.fr.no f3
  have F5 : Fr No h h5 := F3.new n5
  refine cf rfl (known_spec (gl.no F5) fun h6 f6 => ⟨_, rfl, cf rfl ?_⟩)
  have z2 := n2.size
  have z3 := f3.size
  have z5 := n5.size
  refine hk (nOf more) t d F _ (Z0 L) h3 h6 dm (by omega) (F5.no f6) (by omega) ((f6.rd (by omega) fun y => y).trans n5.rd) ((x3.no n5.fr).no f6) (fun b hb => ⟨by have := hF b hb; omega, x3.lt hb⟩) (fresh_av I.len) rfl rfl
end Go.Proofs.YtcdpakjhjmchhaaDoor.Bm
namespace Go.Proofs.YtcdpakjhjmchhaaDoor.Bm
open Go Go.Proofs Go.Proofs.YtcdpakjhjmchhaaDoor.Wx Go.Proofs.YtcdpakjhjmchhaaDoor.Hp Go.Proofs.YtcdpakjhjmchhaaDoor.W Go.Proofs.YtcdpakjhjmchhaaDoor.Ad Go.Proofs.YtcdpakjhjmchhaaDoor.Tm Go.Proofs.YtcdpakjhjmchhaaDoor.Bt Go.Proofs.YtcdpakjhjmchhaaDoor.Spc Go.Proofs.YtcdpakjhjmchhaaDoor.Re Go.Proofs.YtcdpakjhjmchhaaDoor.Av Go.Proofs.YtcdpakjhjmchhaaDoor.Rm
open Go.Proofs.YtcdpakjhjmchhaaDoor.Rz (Ow Fam Kept Fz mixed upB kM kA kG kW Sl.keep')
open Go.Proofs.YtcdpakjhjmchhaaDoor.Hd (ints)
open Go.Proofs.YtcdpakjhjmchhaaDoor.In (Glo ints_length ints_one)
variable {n gb xb lb : Nat} {h1 h hh h' : Heap} {sl : List Value} {t d : Option Addr} {F F' : Nat → Prop} {T T' : TM} {R : Nat → List Int}
theorem own_end {h3 h7 h10 : Heap} {Z : Nat → Txt} {u : Nat} {K : Value → Heap → Prop} (gl : Glo h1) (m : Omm n h1 h3.size h7.size lb sl t d h10 F T R) (o : Opl n T Z R u) (hK : ∀ h', Fr No h1 h' → K (.bool true) h') {h26 : Heap} (n26 : Newly h10 h26 (ints (R 0) ++ (ints (R 1) ++ ints (R 0)))) :
    ∃ P0 M0 P1 M1, allM T (geoN n) (R 0) = (P0, M0, 0) ∧ allM T (geoN n) (R 1) = (P1, M1, 0) ∧ P0.length ≤ 20000 ∧ P1.length ≤ 20000 ∧ M0.length ≤ 20000 ∧ M1.length ≤ 20000 ∧
      Ow (fun h col => Ob n h1 h3.size h7.size t d F T (R 0) (R 1) none [] none [] h col ∧ Fz h col (some ⟨h10.size, 0, none⟩) (ints (R 0) ++ (ints (R 1) ++ ints (R 0)))) (D2 (fam none 0 [] (fX [])) (fam none 0 [] (fY []))) (fun _ => none) h26 (fun _ => 0) := by
  have e0 := allS_ok o.a (o.w 0 (by decide))
  have e1 := allS_ok o.a (o.w 1 (by decide))
  rw [tabs_eq] at e0 e1
  refine ⟨_, _, _, _, e0, e1, Nat.le_trans (rowN_le _ 16522 0) (by decide), Nat.le_trans (rowN_le _ 16522 0) (by decide), Nat.le_trans (tabN_le _ 130 16522) (by decide), Nat.le_trans (tabN_le _ 130 16522) (by decide), ?_⟩
  have m26 := m.no n26.fr
  refine ⟨⟨⟨m26.fr, fun _ _ => rfl, rfl, m26.rg, rfl, m26.rx, m26.x, fun _ _ => rfl, ⟨rfl, fun p e => by cases e⟩, ⟨rfl, fun p e => by cases e⟩⟩, cellsAll n26.rd, fun p e => by cases e; exact ⟨by rw [n26.size]; exact Nat.lt_succ_self _, rfl⟩⟩, fun b => ?_, fun b x v e => by cases e⟩
  cases b
  · exact ⟨Rz.Rx.nil _ _ _ _ _, Rz.Rx.nil _ _ _ _ _, by decide, by decide⟩
  · exact ⟨Rz.Rx.nil _ _ _ _ _, Rz.Rx.nil _ _ _ _ _, by decide, by decide⟩
theorem BmapOwn_spec {more : Int} {ta ra oa za : Option Addr} {tc rc oc zc : Nat} {ks vs ws : List Int} {rs : List RawI} {h : Heap} {K : Value → Heap → Prop} (gl : Glo h) (X : SlCells h ta (ints ks)) (Y : SlCells h ra (rs.flatMap RawI.v)) (hY : ∀ r ∈ rs, StrAt h r.a r.l r.bs) (hkl : ks.length ≤ 140737488355328) (hrl : rs.length ≤ 140737488355328)
    (V : SlCells h oa (ints vs)) (hv : vs.length ≤ 140737488355328) (W : SlCells h za (ints ws)) (hw : ws.length ≤ 140737488355328) (hK : ∀ h', Fr No h h' → K (.bool true) h') : C.bolelaw10_BmapOwn (setupV more ta ks.length tc ra rs.length rc) oa vs.length oc za ws.length zc h K := by
  refine bolelaw10_BmapOwn.ok (start_spec gl X Y hY hkl hrl fun n t d F T Z h3 h6 dm hn F6 lo rg x hF a hks hun => ?_)
  unfold bolelaw10_BmapOwn.k1
  refine New.intro fun h8 n8 => New.intro fun h9 n9 => ?_
  have z6 := F6.size
  have z8 := n8.size
  have z9 := n9.size
  have l3 : h3.size < h6.size := rd_lt (o := 0) (v := .int .i64 (geoN n).blocks) (by rw [rg]; rfl)
  have m0 : Omm n h h3.size h6.size h8.size [.slice oa vs.length oc, .slice za ws.length zc] t d h9 F T (fun _ => z15) :=
    ⟨(F6.new n8).new n9, (n9.at_ (by omega)).trans ((n8.at_ l3).trans rg), (n9.at_ (by omega)).trans n8.rd, n9.ow n8.own, n9.rd, by omega, ⟨by omega, by omega, by omega⟩, (x.no n8.fr).no n9.fr, ⟨fun y => by have := (hF _ y).2; omega, fun y => by have := (hF _ y).2; omega, fun y => by have := (hF _ y).2; omega⟩, fun b y => (hF b y).1, fun _ _ => rfl⟩
  have z0 : ∀ s, s < nS → num Z z15 s = 0 := num_nil fun i _ _ => z15_get i
  have o0 : Opl n T Z (fun _ => z15) 0 := ⟨a, fun _ _ => wf_nil rfl fun i _ _ => z15_get i, fun _ _ _ _ _ s _ hs _ _ => z0 s hs, by rw [hun]; exact Nat.le_refl _⟩
  refine ⟨fun m hh => ∃ i : Nat, m = i ∧ i ≤ 2 ∧ ∃ F T Z R, Omm n h h3.size h6.size h8.size [.slice oa vs.length oc, .slice za ws.length zc] t d hh F T R ∧ Opl n T Z R (200 * i), fun m _ => ((2 : Int) - m).toNat, ⟨0, rfl, by decide, F, T, Z, _, m0, o0⟩, ?_⟩
  clear m0 o0 z0 x hF a hks hun rg
  rintro _ h10 ⟨i, rfl, hi2, F1, T1, Z1, R1, m10, o10⟩
  refine cd (fun hlt => ?_) fun hlt => ?_
  · have hi : i < 2 := by omega
    obtain ⟨a, c, us, es, U, hu⟩ : ∃ a c, ∃ us : List Int, ([.slice oa vs.length oc, .slice za ws.length zc] : List Value)[i]? = some (.slice a us.length c) ∧ SlCells h a (ints us) ∧ us.length ≤ 140737488355328 := by
      obtain rfl | rfl : i = 0 ∨ i = 1 := by omega
      · exact ⟨oa, oc, vs, rfl, V, hv⟩
      · exact ⟨za, zc, ws, rfl, W, hw⟩
    rw [Int.toNat_natCast, wrap_i64 (n := (i : Int) + 1) (by omega) (by omega)]
    refine ⟨⟨by omega, hlt⟩, a, us.length, c, rda m10.rl (by rw [Nat.zero_add]; exact es), fun m hh => ∃ j : Nat, m = j ∧ j ≤ us.length ∧ j ≤ 20 ∧ ∃ F T Z R, Omm n h h3.size h6.size h8.size [.slice oa vs.length oc, .slice za ws.length zc] t d hh F T R ∧ Opl n T Z R (200 * i + 9 * j), fun m _ => ((us.length : Int) - m).toNat, ⟨0, rfl, Nat.zero_le _, by decide, F1, T1, Z1, R1, m10, o10⟩, ?_⟩
    clear m10 o10
    rintro _ h11 ⟨j, rfl, hj, hj20, F2, T2, Z2, R2, m11, o11⟩
    have next : (∃ i' : Nat, (i : Int) + 1 = i' ∧ i' ≤ 2 ∧ ∃ F T Z R, Omm n h h3.size h6.size h8.size [.slice oa vs.length oc, .slice za ws.length zc] t d h11 F T R ∧ Opl n T Z R (200 * i')) ∧ ((2 : Int) - ((i : Int) + 1)).toNat < ((2 : Int) - (i : Int)).toNat :=
      ⟨⟨i + 1, rfl, by omega, F2, T2, Z2, R2, m11, ⟨o11.a, o11.w, o11.dis, by have := o11.un; omega⟩⟩, falls (m := 2) hlt⟩
    refine cd (fun hlt2 => ?_) fun _ => next
    obtain ⟨p, ep, cp⟩ := Hd.ints_get (SlCells.fr m11.fr U fun _ _ y => y) (i := j) (by omega)
    refine ⟨⟨by omega, hlt2⟩, Tm.oe ep ⟨_, cp, cd (fun _ => next) fun h20 => ?_⟩⟩
    have hk2 := idxN_lt (us[j]'(by omega))
    have done : ∀ hw F' T' Z' R', Omm n h h3.size h6.size h8.size [.slice oa vs.length oc, .slice za ws.length zc] t d hw F' T' R' → Opl n T' Z' R' ((200 * i + 9 * j) + 9) → (∃ j' : Nat, (j : Int) + 1 = j' ∧ j' ≤ us.length ∧ j' ≤ 20 ∧ ∃ F T Z R, Omm n h h3.size h6.size h8.size [.slice oa vs.length oc, .slice za ws.length zc] t d hw F T R ∧ Opl n T Z R (200 * i + 9 * j')) ∧ ((us.length : Int) - ((j : Int) + 1)).toNat < ((us.length : Int) - (j : Int)).toNat :=
      fun hw F' T' Z' R' m o => ⟨⟨j + 1, by omega, by omega, by omega, F', T', Z', R', m, by rw [show 200 * i + 9 * (j + 1) = 200 * i + 9 * j + 9 by omega]; exact o⟩, falls hlt2⟩
    have geo : ∀ {hw : Heap} {F T R}, Omm n h h3.size h6.size h8.size [.slice oa vs.length oc, .slice za ws.length zc] t d hw F T R → List.length (geoN n).v = 5 ∧ Cells hw ⟨h3.size, 0, none⟩ (geoN n).v := fun m => ⟨rfl, cellsAll m.rg⟩
    have nF : ∀ {hw : Heap} {F T R}, Omm n h h3.size h6.size h8.size [.slice oa vs.length oc, .slice za ws.length zc] t d hw F T R → ¬ F hw.size := fun m y => Nat.lt_irrefl _ (m.x.lt y)
    obtain ⟨q1, q2⟩ := m11.recd hi
    refine ⟨_, rfl, (geo m11).2, ⟨by omega, hlt⟩, _, q1, q2, index_spec ⟨_, rfl, geo m11, m11.recd hi, ?_, New.intro fun h19 n19 => ?_⟩, New.intro fun h22 n22 => ?_⟩
    · refine own_add gl dm m11 o11 (by omega) hi (by omega) hk2 done fun R' v e h13 F13 T13 z13 f13 g13 m13 lR hk => ⟨_, _, _, rfl, New.intro fun h14 n14 => ⟨geo (m13.no n14.fr), (m13.no n14.fr).recd hi, PutRow.intro n14.own (by rw [ints_length, lR]) (ints_one _) (by rw [n14.rd]; exact Nat.le_refl _) fun h15 d15 => hk h15 h13.size ?_ ?_⟩⟩
      · exact m13.no (n14.fr.trans d15.fr fun b hb y => by have y : b = h13.size := y; omega)
      · rw [d15.rd, n14.rd]; exact put_all _ _ (by rw [ints_length, lR]; rfl)
    · have m19 := m11.no n19.fr
      have z19 := n19.size
      obtain ⟨b1, b2⟩ := m11.lt
      have b3 := m11.ll
      have s11 := m11.fr.size
      refine ⟨geo m19, m19.recd hi, own_add gl dm m19 o11 (by omega) hi (by omega) hk2 done fun R' v e h13 F13 T13 z13 f13 g13 m13 lR hk => ⟨_, _, _, rfl, PutRow.intro (f13.own (by omega) (nF m11) n19.own) (by rw [ints_length, lR]) (ints_one _) (by rw [f13.rd (by omega) (nF m11), n19.rd]; exact Nat.le_refl _) fun h15 d15 => hk h15 h11.size ?_ ?_⟩⟩
      · exact m13.side d15 (by omega) (by omega) (by omega) (by omega) fun y => nF m11 ((g13.old _ (by omega)).mp y)
      · rw [d15.rd, f13.rd (by omega) (nF m11), n19.rd]; exact put_all _ _ (by rw [ints_length, lR]; rfl)
    · have m22 := m11.no n22.fr
      have z22 := n22.size
      obtain ⟨b1, b2⟩ := m11.lt
      have b3 := m11.ll
      have s11 := m11.fr.size
      refine ⟨geo m22, m22.recd hi, index_spec ⟨_, rfl, geo m22, m22.recd hi, own_add gl dm m22 o11 (by omega) hi (by omega) hk2 done fun R' v e h13 F13 T13 z13 f13 g13 m13 lR hk => ⟨_, _, _, rfl, PutRow.intro (f13.own (by omega) (nF m11) n22.own) (by rw [ints_length, lR]) (ints_one _) (by rw [f13.rd (by omega) (nF m11), n22.rd]; exact Nat.le_refl _) fun h15 d15 => hk h15 h11.size ?_ ?_⟩⟩⟩
      · exact m13.side d15 (by omega) (by omega) (by omega) (by omega) fun y => nF m11 ((g13.old _ (by omega)).mp y)
      · rw [d15.rd, f13.rd (by omega) (nF m11), n22.rd]; exact put_all _ _ (by rw [ints_length, lR]; rfl)
  obtain ⟨a0, c0⟩ := m10.recd (i := 0) (by decide)
  obtain ⟨a1, c1⟩ := m10.recd (i := 1) (by decide)
  refine ⟨⟨by decide, by decide⟩, _, a0, c0, ⟨by decide, by decide⟩, _, a1, c1, ⟨by decide, by decide⟩, _, a0, c0, a0, a1, a0, New.intro fun h26 n26 => ?_⟩
  obtain ⟨P0, M0, P1, M1, e0, e1, b1, b2, b3, b4, s⟩ := own_end gl m10 o10 hK n26
  exact own_take gl (m10.l 0 (by decide)) (m10.l 1 (by decide)) e0 e1 b1 b2 b3 b4 s hK
end Go.Proofs.YtcdpakjhjmchhaaDoor.Bm
namespace Go.Proofs.YtcdpakjhjmchhaaDoor
open Go Go.ChangeShapes Go.WideShapes Go.ChangeAt Go.RowKit Go.Proofs.YtcdpakjhjmchhaaDoor.Wx Go.Proofs.YtcdpakjhjmchhaaDoor.Hp Go.Proofs.YtcdpakjhjmchhaaDoor.Gl
theorem laid_met (os : Os) : laidMet Tryd.prog Rows.bmapOwnRow.laid ((laidWorld os).forCall (fun _ _ => 0) ⟨#[], #[.agg ⟨[.int .i64 0, .slice none 0 0, .slice none 0 0]⟩, .slice none 0 0, .slice none 0 0], []⟩).memory :=
  laidMet_of_run' 8 (by kernel_rfl) (by kernel_rfl)
theorem reads (os : Os) {H : Type} (enc : TypeId × Value → H) : ∃ places, DataW.whole enc Tryd.prog ((laidWorld os).forCall (fun _ _ => 0) ⟨#[], #[.agg ⟨[.int .i64 0, .slice none 0 0, .slice none 0 0]⟩, .slice none 0 0, .slice none 0 0], []⟩).memory Tryd.f4.params.toList Rows.bmapOwnSpec.vars false #[Value.agg ⟨[.int .i64 0, .slice none 0 0, .slice none 0 0]⟩, .slice none 0 0, .slice none 0 0].toList 8 = some ([.agg [.lit (.int .i64 0), .nil, .nil], .nil, .nil], [], places) :=
  ⟨[], by kernel_rfl⟩
set_option maxRecDepth 100000 in
theorem bown_lifted (os : Os) (started : os.Started) (H : Type) (enc : TypeId × Value → H) (F : Stop.Interp) :
    ReturnsInHanded {} Tryd.checked os 4 .any ((OpenSpec.ofChange Rows.bmapOwnSpec).preRow enc Tryd.prog Tryd.f4 Rows.bmapOwnRow.domain false Rows.bmapOwnRow.laid) (((OpenSpec.ofChange Rows.bmapOwnSpec).at F).post enc Tryd.prog Tryd.f4 false true false false) := by
  obtain ⟨places, hx⟩ := reads os enc
  refine lifted_row (C := Tryd.checked) (P := Tryd.prog) (s := Rows.bmapOwnSpec) (tb := 4) rfl Tryd.own started (by kernel_rfl) Tryd.func4
    (witness_row_at (enc := enc) (C := Tryd.checked) false (laidWorld os) #[.agg ⟨[.int .i64 0, .slice none 0 0, .slice none 0 0]⟩, .slice none 0 0, .slice none 0 0] rfl (by kernel_rfl) (by kernel_rfl) (by kernel_rfl)
      (OpenSpec.preRow_of_cond 8 hx (by kernel_rfl) (fun k hk => by cases hk) (by kernel_rfl) (laid_met os)))
    Tryd.laidOut (by kernel_rfl) (by kernel_rfl) Tryd.underlying4 rfl ?_ ?_
  · intro ds hl
    rw [Tryd.params4] at hl
    match ds, hl with
    | [_, _, _], _ => exact ⟨rfl, rfl, rfl⟩
  · intro W base args ds ps hval hA hsz hL
    rw [Tryd.params4] at hA hval hsz
    obtain ⟨v0, v1, v2, d0, d1, d2, p0, p1, p2, rfl, rfl, rfl, h0, h1, h2⟩ := trodAll_three hA
    obtain ⟨more, ta, tc, ra, rc, ks, rs, rfl, X, Y, hY, l1, l2⟩ := open_setup (hval 0 25 v0 rfl rfl) h0 (light_arg hsz (j := 0) rfl rfl)
    obtain ⟨a1, il, ic, xs, rfl, B1, hy1, hlc1, room1⟩ := open_row (α := Int) (fun x => [Value.int .i64 x]) (fun _ => rfl) Tryd.underlying22 Tryd.cellsInt (hval 1 22 v1 rfl rfl) h1 one_int
    have m1 := light_room (light_arg hsz (j := 1) rfl rfl) Tryd.underlying22 room1
    rw [Tryd.bytesInt] at m1
    rw [flat_map1] at B1
    subst hy1
    obtain ⟨a2, jl, jc, ys, rfl, B2, hy2, hlc2, room2⟩ := open_row (α := Int) (fun x => [Value.int .i64 x]) (fun _ => rfl) Tryd.underlying22 Tryd.cellsInt (hval 2 22 v2 rfl rfl) h2 one_int
    have m2 := light_room (light_arg hsz (j := 2) rfl rfl) Tryd.underlying22 room2
    rw [Tryd.bytesInt] at m2
    rw [flat_map1] at B2
    subst hy2
    exact Bm.BmapOwn_spec (table1 hL) X Y hY l1 l2 B1 (by omega) B2 (by omega) true_mk
theorem bown_said : Rows.BmapOwnSaid :=
  OpenClaim.holds_of_cond 4 Tryd.f4 rfl rfl rfl rfl rfl rfl rfl ⟨rfl, rfl, rfl, rfl, rfl⟩ rfl rfl rfl rfl rfl (by kernel_rfl) Tryd.func4 (by kernel_rfl)
    (of_decide_eq_true (by kernel_rfl)) (by unfold Func.isWrapper; first | (rw [if_pos (by decide +kernel)]; kernel_rfl) | (rw [if_neg (by decide +kernel)]; exact ⟨rfl, rfl⟩))
    (fun os started H enc _ F => by rw [OpenClaim.pre_eq_preRow]; exact bown_lifted os started H enc F)
theorem bown_plain (f : FuncId) (fn : Func) (hf : Tryd.pinned.checked.prog.funcNamed "bole/bolelaw10.BmapOwn" = some f) (hfn : Tryd.pinned.checked.prog.funcs[f]? = some fn) :
    false = Tryd.pinned.checked.prog.looks [] ∧ ∀ (j : Nat) t, fn.params[j]? = some t → Tryd.pinned.checked.prog.wantsStandIn t = false := by
  obtain rfl : f = 4 := Option.some.inj ((show Tryd.prog.funcNamed "bole/bolelaw10.BmapOwn" = some 4 by kernel_rfl).symm.trans hf) |>.symm
  obtain rfl : fn = Tryd.f4 := (Option.some.inj (Tryd.func4.symm.trans hfn)).symm
  refine ⟨by kernel_rfl, fun j t ht => ?_⟩
  rw [Tryd.params4] at ht
  have := Array.mem_of_getElem? ht
  have : t = 25 ∨ t = 22 := by simpa using this
  rcases this with rfl | rfl
  · exact (show Tryd.prog.wantsStandIn 25 = false by kernel_rfl)
  · exact (show Tryd.prog.wantsStandIn 22 = false by kernel_rfl)
theorem bmapOwn_card : Rows.BmapOwnCardSaid :=
  Claim7.holds_tied_plain_at .later [] _ _ _ _ bown_said (fun _ h => by cases h) (by kernel_rfl) (fun _ h => by cases h) bmapOwn_row_tie rfl ⟨rfl, rfl⟩ (by kernel_rfl) rfl bown_plain (by kernel_rfl)
end Go.Proofs.YtcdpakjhjmchhaaDoor
