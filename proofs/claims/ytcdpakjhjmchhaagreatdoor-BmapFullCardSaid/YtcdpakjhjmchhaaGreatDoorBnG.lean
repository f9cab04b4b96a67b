/-
  bolelaw10: BmapFull, walked.
-/
import Derived.Test.YtcdpakjhjmchhaaGreatDoorBnF
namespace Go.Proofs.YtcdpakjhjmchhaaGreatDoor.Bm
open Go Go.Proofs Go.Proofs.YtcdpakjhjmchhaaGreatDoor.Wx Go.Proofs.YtcdpakjhjmchhaaGreatDoor.Hp Go.Proofs.YtcdpakjhjmchhaaGreatDoor.W Go.Proofs.YtcdpakjhjmchhaaGreatDoor.Ad Go.Proofs.YtcdpakjhjmchhaaGreatDoor.Tm Go.Proofs.YtcdpakjhjmchhaaGreatDoor.Bt Go.Proofs.YtcdpakjhjmchhaaGreatDoor.Spc Go.Proofs.YtcdpakjhjmchhaaGreatDoor.Re Go.Proofs.YtcdpakjhjmchhaaGreatDoor.Av Go.Proofs.YtcdpakjhjmchhaaGreatDoor.Rm
open Go.Proofs.YtcdpakjhjmchhaaGreatDoor.Hd (ints)
open Go.Proofs.YtcdpakjhjmchhaaGreatDoor.In (Glo ints_length ints_one)

theorem step_wrap {k0 d j : Nat} {step : Int} (hd : d = stepN step) : Int.tmod (IntKind.wrap .i64 ((IntKind.wrap .i64 (((ixF k0 d j : Nat) : Int) + 1)) + (IntKind.wrap .i64 ((Int.tmod (IntKind.wrap .u64 step) 300))))) 16522 = ((ixF k0 d (j + 1) : Nat) : Int) := by
  have u := u64_nat step
  have h1 := ixF_lt k0 d j
  have e1 : Int.tmod (IntKind.wrap .u64 step) 300 = IntKind.wrap .u64 step % 300 := Int.tmod_eq_emod_of_nonneg u.1
  rw [e1, wrap_i64 (n := IntKind.wrap .u64 step % 300) (by omega) (by omega), wrap_i64 (n := ((ixF k0 d j : Nat) : Int) + 1) (by omega) (by omega), wrap_i64 (by omega) (by omega)]
  have e2 : ((ixF k0 d j : Nat) : Int) + 1 + IntKind.wrap .u64 step % 300 = ((ixF k0 d j + d : Nat) : Int) := by
    rw [hd]; unfold stepN; omega
  rw [e2]
  have e3 : Int.tmod (((ixF k0 d j + d : Nat) : Int)) 16522 = (((ixF k0 d j + d) % 16522 : Nat) : Int) := rfl
  rw [e3, ixF_next]
def FullI (n : Nat) (h1 : Heap) (gb xb : Nat) (t d : Option Addr) (k0 dd : Nat) : Int → Int → Heap → Prop := fun k i hh =>
  ∃ (j : Nat) (F : Nat → Prop) (T : TM) (Z : Nat → Txt) (R : List Int), k = ((ixF k0 dd j : Nat) : Int) ∧ i = j ∧ j ≤ 200 ∧ Fx n h1 gb xb t d hh F T R ∧ Av n Z T ∧ Wf n Z R ∧ PutS Z R T ∧ (ks T).length ≤ 96 ∧ (∀ i, i < j → num Z R (ixF k0 dd i) ≠ 0) ∧ T.undo.length ≤ 9 * j
def FullM : Int → Int → Heap → Nat := fun _ i _ => ((200 : Int) - i).toNat
/-- what is refused changes nothing -/
theorem full_k3 {n : Nat} {h1 hh : Heap} {gb xb : Nat} {t d : Option Addr} {F : Nat → Prop} {T : TM} {Z : Nat → Txt} {R : List Int} {W M : List Int} {P : List (Int × Int)} {a1 a2 a3 a4 a5 : Option Addr} {c1 c2 c3 c4 c5 : Nat} {e : Int} {K : Value → Heap → Prop} (c : Fx n h1 gb xb t d hh F T R) (_ : Av n Z T) (hW : W = T.written) (hwl : T.put.length ≤ 96)
    (s1 : SlCells hh a1 (ints W)) (s2 : SlCells hh a2 (P.flatMap pcellA)) (s3 : SlCells hh a3 (ints M)) (s4 : SlCells hh a4 (P.flatMap pcellA)) (s5 : SlCells hh a5 (ints M)) (hP : P.length ≤ 140737488355328) (hM : M.length ≤ 140737488355328) (he : e = 90 → frees n Z < 4) (hwlen : W.length = T.put.length)
    (hK : ∀ h', Fr No h1 h' → K (.bool true) h') : bolelaw10_BmapFull.k3 t ((frees n Z : Nat) : Int) a1 W.length c1 a2 P.length c2 a3 M.length c3 e ((frees n Z : Nat) : Int) 0 a4 P.length c4 a5 M.length c5 0 hh K := by
  unfold bolelaw10_BmapFull.k3
  refine num_spec ⟨_, rfl, ce (fun _ => num_spec ⟨_, rfl, ce (fun _ => ce (fun _ => ?_) fun y => absurd rfl y) fun y => absurd rfl y⟩) fun y => absurd rfl y⟩
  refine Written_spec c.x (by omega) fun a l c' h' f el s => ⟨_, _, _, rfl, ?_⟩
  have el2 : l = T.written.length := by rw [el, ← hwlen, hW]
  subst el2
  have s1' := SlCells.fr f s1 fun _ _ y => y
  rw [hW] at s1' ⊢
  refine same_spec s.cells s1' (by have := hwlen; rw [hW] at this; omega) ⟨_, rfl, ?_⟩
  refine ct (decide_eq_true rfl) (samePairs_spec (SlCells.fr f s2 fun _ _ y => y) (SlCells.fr f s4 fun _ _ y => y) hP ⟨_, rfl, ct (decide_eq_true rfl) (same_spec (SlCells.fr f s3 fun _ _ y => y) (SlCells.fr f s5 fun _ _ y => y) hM ⟨_, rfl, ct (decide_eq_true rfl) (num_spec ⟨_, rfl, cn (fun _ => ?_) fun y => ?_⟩)⟩)⟩)
  · exact hK h' (c.fr.no f)
  · have := he y
    rw [decide_eq_true (show ((frees n Z : Nat) : Int) < 4 by omega)]
    exact hK h' (c.fr.no f)
theorem Full_spec {more from_ step : Int} {ta ra : Option Addr} {tc rc : Nat} {ks : List Int} {rs : List RawI} {h : Heap} {K : Value → Heap → Prop} (gl : Glo h) (X : SlCells h ta (ints ks)) (Y : SlCells h ra (rs.flatMap RawI.v)) (hY : ∀ r ∈ rs, StrAt h r.a r.l r.bs) (hkl : ks.length ≤ 140737488355328) (hrl : rs.length ≤ 140737488355328)
    (hK : ∀ h', Fr No h h' → K (.bool true) h') : C.bolelaw10_BmapFull (setupV more ta ks.length tc ra rs.length rc) from_ step h K := by
  refine bolelaw10_BmapFull.ok (start_spec gl X Y hY hkl hrl fun n t d F T Z h3 h6 dm hn F6 lo rg x hF a hks hun => ?_)
  clear X Y hY
  unfold bolelaw10_BmapFull.k1
  refine NewRow.intro rfl (ints_one z15) rfl fun h9 n9 => index_spec ⟨_, rfl, ?_⟩
  have gl1 := gl.lt
  have z9 := n9.size
  have l3 : h3.size < h6.size := rd_lt (o := 0) (v := .int .i64 (geoN n).blocks) (by rw [rg]; rfl)
  have c0 : Fx n h h3.size h6.size t d h9 F T z15 := ⟨F6.new n9, lo, (n9.at_ l3).trans rg, n9.rd, n9.own, l3, x.no n9.fr, ⟨fun y => by have := hF _ y; omega, fun y => by have := hF _ y; omega⟩, fun b hb => (hF b hb).1, rfl⟩
  have n0 : ∀ s, s < nS → num Z z15 s = 0 := num_nil fun i _ _ => z15_get i
  obtain ⟨dd, hdd⟩ : ∃ dd, dd = stepN step := ⟨_, rfl⟩
  have rdd := stepN_rng step
  rw [← hdd] at rdd
  have hk0 := idxN_lt from_
  generalize idxN from_ = k0 at hk0 ⊢
  refine ⟨FullI n h h3.size h6.size t d k0 dd, FullM, ⟨0, F, T, Z, z15, by unfold ixF; omega, rfl, by decide, c0, a, wf_nil rfl fun i _ _ => z15_get i, fun s hs y => absurd (n0 s hs) y, by rw [hks]; decide, fun i hi => by omega, by rw [hun]; exact Nat.zero_le _⟩, ?_⟩
  clear c0 n0 hF x rg F6 hks hun a n9
  intro k i h11 hI
  obtain ⟨j, F1, T1, Z1, R1, ek, ei, hj, c, a, w, pu, h96, hix, un⟩ := hI
  subst ek
  have hj96 : j ≤ (Av.ks T1).length := count_in (f := fun i => ((num Z1 R1 (ixF k0 dd i) : Nat) : Int)) (fun i hi => pu _ (by have := ixF_lt k0 dd i; unfold nS; omega) (hix i hi)) fun i i' hii hi' e => by
    have e : ((num Z1 R1 (ixF k0 dd i) : Nat) : Int) = ((num Z1 R1 (ixF k0 dd i') : Nat) : Int) := e
    have := w.inj (ixF k0 dd i) (ixF k0 dd i') (by have := ixF_lt k0 dd i; unfold nS; omega) (by have := ixF_lt k0 dd i'; unfold nS; omega) (hix i (by omega)) (by omega)
    exact ixF_ne rdd.1 rdd.2 hii (by omega) this
  refine cd (fun hlt => ?_) fun hlt => (by exfalso; omega)
  have hk2 := ixF_lt k0 dd j
  have g0 : ∀ b, b < 1 → ¬ F1 b := fun b hb y => by have := c.fl b y; omega
  have hpl : T1.put.length = (Av.ks T1).length := (List.length_map ..).symm
  refine ⟨_, rfl, cellsAll c.rg, free_as dm c.x a fun h12 f12 => ⟨_, _, rfl, ?_⟩⟩
  have c12 := c.no f12
  refine Written_spec c12.x (by omega) fun a1 l1 c1 h13 f13 el1 s1 => ⟨_, _, _, rfl, ?_⟩
  have c13 := c12.no f13
  have hwl : T1.written.length = T1.put.length := by
    have := s1.1
    rw [List.length_map, Nat.mul_one] at this
    omega
  have el1 : l1 = T1.written.length := by omega
  subst el1
  refine ⟨_, rfl, cellsAll c13.rg, _, by rw [ints_length, w.rl], cellsAll c13.rx, All_as (gl.no c13.fr) c13.x w.rl (allS_ok a w) fun P1 P2 a2 c2 a3 c3 h14 f14 s2 s3 hP1 hP2 => ⟨_, _, _, _, _, _, _, rfl, ?_⟩⟩
  have c14 := c13.no f14
  have hPl : (rowN (num Z1 R1) 0 16522).length ≤ 16522 := rowN_le _ _ _
  have hall := allS_ok a w
  have hMl : (tabN (num Z1 R1) 16522 1 ++ (tabN (num Z1 R1) 16523 1 ++ if num Z1 R1 16523 = 0 then [] else tabN (num Z1 R1) 16524 128)).length ≤ 130 := by rw [tabs_eq]; exact tabN_le _ _ _
  generalize rowN (num Z1 R1) 0 16522 = P at *
  generalize (tabN (num Z1 R1) 16522 1 ++ (tabN (num Z1 R1) 16523 1 ++ if num Z1 R1 16523 = 0 then [] else tabN (num Z1 R1) 16524 128)) = M at *
  refine ⟨_, rfl, cellsAll c14.rg, _, by rw [ints_length, w.rl], cellsAll c14.rx, ?_⟩
  have z12 := f12.size
  have z13 := f13.size
  have z14 := f14.size
  have Flt : ∀ b, F1 b → b < h11.size := fun b => c.x.lt
  have s1 := (s1.fr f14 fun _ _ _ y => y)
  -- what follows a refused Add
  have bad : ∀ e, (e = 60 ∨ e = 90 ∧ frees n Z1 < 4) → addM T1 (geoN n) R1 ((ixF k0 dd j : Nat) : Int) = (T1, z15, 0, e) → C.bmap_Add t (geoN n).v (ints R1) ((ixF k0 dd j : Nat) : Int) h14 fun r7 h15 => ∃ (cs8 : List Value) (n6 : Int) (n7 : Int), r7 = .tuple #[.agg ⟨cs8⟩, .int .i64 n6, .int .i64 n7] ∧
      NewRow z44 44 cs8 15 h15 fun h17 => C.bolelaw10_num 0 h17 fun r8 h18 => ∃ (n8 : Int), r8 = .int .i64 n8 ∧ bif (n8 != 0) then (K (.bool false) h18) else (C.bolelaw10_num 0 h18 fun r9 h19 => ∃ (n9 : Int), r9 = .int .i64 n9 ∧ bif (n9 != 0) then (K (.bool false) h19) else (
      bolelaw10_BmapFull.k2 step h3 t h6 ((ixF k0 dd j : Nat) : Int) i h11 (FullI n h h3.size h6.size t d k0 dd) FullM ((frees n Z1 : Nat) : Int) a1 T1.written.length c1 a2 P.length c2 a3 M.length c3 h15 n7 h19 K)) := by
    intro e he ea
    refine Add_as (gl.no c14.fr) dm c14.x a.live w.rl g0 (by omega) ea fun h15 F15 f15 g15 x15 => ⟨_, _, _, rfl, NewRow.intro rfl (ints_one _) rfl fun h17 n17 => num_spec ⟨_, rfl, cn (fun y => absurd rfl y) fun _ => num_spec ⟨_, rfl, cn (fun y => absurd rfl y) fun _ => ?_⟩⟩⟩
    have c17 := (c14.call f15 g15 x15).no n17.fr
    have z15' := f15.size
    have z17 := n17.size
    have u1 := (s1.fr f15 fun b _ hb y => by have hb : h12.size ≤ b := hb; have := Flt b y; omega).fr n17.fr fun _ _ _ y => y
    have u2 := (s2.fr f15 fun b _ hb y => by have := hP1 b hb; have := Flt b y; omega).fr n17.fr fun _ _ _ y => y
    have u3 := (s3.fr f15 fun b _ hb y => by have := hP2 b hb; have := Flt b y; omega).fr n17.fr fun _ _ _ y => y
    have hne : e ≠ 0 := by omega
    have lt15 : ∀ b, F15 b → b < h15.size := fun b => x15.lt
    unfold bolelaw10_BmapFull.k2
    refine num_spec ⟨_, rfl, ce (fun y => absurd y hne) fun _ => ?_⟩
    have g15' : ∀ b, b < 1 → ¬ F15 b := fun b hb y => by have := c17.fl b y; omega
    refine ⟨_, rfl, cellsAll c17.rg, _, by rw [ints_length, w.rl], cellsAll c17.rx, Add_as (gl.no c17.fr) dm c17.x a.live w.rl g15' (by omega) (addM_far T1 (geoN n) R1) fun h23 F23 f23 g23 x23 => ⟨_, _, _, rfl, NewRow.intro rfl (ints_one _) rfl fun h25 n25 => ?_⟩⟩
    have c25 := (c17.call f23 g23 x23).no n25.fr
    have z23 := f23.size
    have z25 := n25.size
    have F23o : ∀ b, b < h17.size → F23 b → F15 b := fun b hb y => (g23.old b hb).mp y
    have g23' : ∀ b, b < 1 → ¬ F23 b := fun b hb y => by have := c25.fl b y; omega
    refine ⟨_, rfl, cellsAll c25.rg, _, by rw [ints_length, w.rl], cellsAll c25.rx, Cut_as (gl.no c25.fr) (geoN_ok dm.hi) c25.x a.live w.rl g23' (by omega) (cutM_far T1 (geoN n) R1) fun h26 F26 f26 g26 x26 => ⟨_, _, rfl, NewRow.intro rfl (ints_one _) rfl fun h28 n28 => ?_⟩⟩
    have c28 := (c25.call f26 g26 x26).no n28.fr
    have z26 := f26.size
    have z28 := n28.size
    have nF15 : ∀ b, h12.size ≤ b → b < h14.size → ¬ F15 b := fun b h1 h2 y => by
      have := (g15.old b h2).mp y
      have := Flt b this
      omega
    have nF23 : ∀ b, h12.size ≤ b → b < h14.size → ¬ F23 b := fun b h1 h2 y => nF15 b h1 h2 (F23o b (by omega) y)
    have ny15 : ¬ F15 h15.size := fun y => by have := lt15 _ y; omega
    have ny23 : ¬ F23 h15.size := fun y => ny15 (F23o _ (by omega) y)
    have ry : rd h28 h15.size = ints z15 := (n28.at_ (by omega)).trans ((f26.rd (by omega) ny23).trans ((n25.at_ (by omega)).trans ((f23.rd (by omega) ny15).trans n17.rd)))
    -- slices made before the refused calls
    have kp : ∀ {ec l c' : Nat} {aa : Option Addr} {xs : List Value} {Q : Nat → Prop}, Sl h17 ec aa l c' xs Q → (∀ b, Q b → h12.size ≤ b) → (∀ p, aa = some p → p.block < h14.size) → SlCells h28 aa xs := fun {ec l c' aa xs Q} s hQ hl => by
      cases aa with
      | none => exact s.cells
      | some p =>
        have hp := hl p rfl
        have hq := hQ _ s.2.2.1
        refine SlCells.fr (F := fun b => b ≠ p.block) ⟨by omega, fun b hb y => ?_⟩ s.cells fun p' e y => by cases e; exact y rfl
        have y : b = p.block := Classical.byContradiction fun z => y z
        subst y
        exact (n28.fr.same _ (by omega) fun z => z).trans ((f26.same _ (by omega) (nF23 _ hq hp)).trans ((n25.fr.same _ (by omega) fun z => z).trans (f23.same _ (by omega) (nF15 _ hq hp))))
    refine ⟨_, rfl, cellsAll c28.rg, free_as dm c28.x a fun h29 f29 => ⟨_, _, rfl, ?_⟩⟩
    have c29 := c28.no f29
    refine ⟨_, rfl, cellsAll c29.rg, _, by rw [ints_length, w.rl], cellsAll c29.rx, All_as (gl.no c29.fr) c29.x w.rl hall fun P3 P4 a4 c4 a5 c5 h30 f30 s4 s5 _ _ => ⟨_, _, _, _, _, _, _, rfl, ?_⟩⟩
    have c30 := c29.no f30
    have ry30 : rd h30 h15.size = ints z15 := (f30.rd (by have := f29.size; omega) fun y => y).trans ((f29.rd (by omega) fun y => y).trans ry)
    have f2930 := f29.no f30
    have t1 : SlCells h30 a1 (ints T1.written) := SlCells.fr f2930 (kp u1 (fun b hb => hb) fun p e => by subst e; exact s1.lt) fun _ _ y => y
    have t2 : SlCells h30 a2 (P.flatMap pcellA) := SlCells.fr f2930 (kp u2 (fun b hb => by have := hP1 b hb; omega) fun p e => by subst e; exact s2.lt) fun _ _ y => y
    have t3 : SlCells h30 a3 (ints M) := SlCells.fr f2930 (kp u3 (fun b hb => by have := hP2 b hb; omega) fun p e => by subst e; exact s3.lt) fun _ _ y => y
    have k3 := full_k3 (K := K) (e := e) (c1 := c1) (c2 := c2) (c3 := c3) (c4 := c4) (c5 := c5) c30 a rfl (by omega) t1 t2 t3 s4.cells s5.cells (by omega) (by omega) (fun y => by omega) hwl hK
    refine num_spec ⟨_, rfl, ?_⟩
    rcases he with rfl | ⟨rfl, hfr⟩
    · exact cn (fun _ => num_spec ⟨_, rfl, cn (fun y => absurd rfl y) fun _ => num_spec ⟨_, rfl, cn (fun y => absurd rfl y) fun _ => num_spec ⟨_, rfl, cn (fun y => absurd rfl y) fun _ => ⟨ints z15, rfl, cellsAll ry30, rfl, cf rfl k3⟩⟩⟩⟩) fun y => absurd y (by decide)
    · exact cn (fun y => absurd rfl y) fun _ => num_spec ⟨_, rfl, cn (fun y => absurd rfl y) fun _ => num_spec ⟨_, rfl, cn (fun y => absurd rfl y) fun _ => ⟨ints z15, rfl, cellsAll ry30, rfl, cf rfl k3⟩⟩⟩
  rcases add_ok (k := ixF k0 dd j) dm a w hk2 with ⟨e, _⟩ | ⟨e, hfr⟩ | ⟨T2, R2, Z2, e, a2', ad, nf, _, lk1, lk2⟩
  · exact bad 60 (.inl rfl) e
  · exact bad 90 (.inr ⟨rfl, by
      have := miss_le Z1 R1 (path (ixF k0 dd j))
      have hp3 : (path (ixF k0 dd j)).length ≤ 3 := by
        unfold path
        split
        · simp
        · split <;> simp
      omega⟩) e
  have le2 := addM_le h96 e
  have un2 := addM_un (T := T1) (g := geoN n) (R := R1) (k := ((ixF k0 dd j : Nat) : Int))
  rw [e] at un2
  have un2 : T2.undo.length ≤ T1.undo.length + 9 := un2
  refine Add_as (gl.no c14.fr) dm c14.x a.live w.rl g0 (by omega) e fun h15 F15 f15 g15 x15 => ⟨_, _, _, rfl, NewRow.intro (by rw [ints_length, ad.w.rl]) (ints_one _) rfl fun h17 n17 => num_spec ⟨_, rfl, cn (fun y => absurd rfl y) fun _ => num_spec ⟨_, rfl, cn (fun y => absurd rfl y) fun _ => ?_⟩⟩⟩
  have c17 := (c14.call f15 g15 x15).no n17.fr
  unfold bolelaw10_BmapFull.k2
  refine num_spec ⟨_, rfl, ce (fun _ => ?_) fun y => absurd rfl y⟩
  refine ⟨_, by rw [ints_length, ad.w.rl], cellsAll n17.rd, PutRow.intro c17.ox (by rw [ints_length, ad.w.rl]) (ints_one _) (by rw [c17.rx, ints_length, w.rl]; exact Nat.le_refl _) fun h22 d22 => ?_⟩
  rw [step_wrap hdd, wrap_i64 (n := i + 1) (by omega) (by omega)]
  refine ⟨⟨j + 1, F15, T2, Z2, R2, rfl, by omega, by omega, c17.put d22 ad.w.rl, a2', ad.w, pu.add ad lk1 lk2, le2, fun i' hi => ?_, by omega⟩, by show ((200 : Int) - (i + 1)).toNat < ((200 : Int) - i).toNat; omega⟩
  by_cases e' : ixF k0 dd i' = ixF k0 dd j
  · rw [e']; exact ad.got _ (path_self _)
  · have hij : i' < j := by
      rcases Nat.lt_or_ge i' j with y | y
      · exact y
      · exact absurd (by rw [show i' = j by omega]) e'
    rw [ad.data (ixF_lt k0 dd i') e']; exact hix i' hij
end Go.Proofs.YtcdpakjhjmchhaaGreatDoor.Bm
