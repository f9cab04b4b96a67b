import Derived.Test.YtcdpakjhjmchhaaGreatDoorBnA
import Derived.Test.YtcdpakjhjmchhaaGreatDoorBmO
/-
  bolelaw10: known, told.
-/
namespace Go.Proofs.YtcdpakjhjmchhaaGreatDoor.Bm
open Go Go.Proofs Go.Proofs.YtcdpakjhjmchhaaGreatDoor.Wx Go.Proofs.YtcdpakjhjmchhaaGreatDoor.Hp Go.Proofs.YtcdpakjhjmchhaaGreatDoor.W Go.Proofs.YtcdpakjhjmchhaaGreatDoor.Ad Go.Proofs.YtcdpakjhjmchhaaGreatDoor.Tm Go.Proofs.YtcdpakjhjmchhaaGreatDoor.Bt Go.Proofs.YtcdpakjhjmchhaaGreatDoor.Spc Go.Proofs.YtcdpakjhjmchhaaGreatDoor.Re Go.Proofs.YtcdpakjhjmchhaaGreatDoor.Av Go.Proofs.YtcdpakjhjmchhaaGreatDoor.Rm
open Go.Proofs.YtcdpakjhjmchhaaGreatDoor.Hd (ints)
open Go.Proofs.YtcdpakjhjmchhaaGreatDoor.In (Glo ints_length ints_one)

theorem Add_as {h : Heap} {F : Nat → Prop} {t d : Option Addr} {T T' : TM} {n : Nat} {R R' : List Int} {k v er : Int} {K : Value → Heap → Prop} (gl : Glo h) (dm : Dim n) (x : Tx h F t d T) (live : T.over = false) (hR : R.length = 15) (g0 : ∀ b, b < 1 → ¬ F b) (hu : T.undo.length < 700000000) (e : addM T (geoN n) R k = (T', R', v, er))
    (hK : ∀ h' F', Fr F h h' → Gw h F h' F' → Tx h' F' t d T' → K (.tuple #[.agg ⟨ints R'⟩, .int .i64 v, .int .i64 er]) h') : C.bmap_Add t (geoN n).v (ints R) k h K := by
  refine Add_spec gl dm x live hR g0 hu ?_
  rw [e]; exact hK
theorem Cut_as {h : Heap} {F : Nat → Prop} {t d : Option Addr} {T T' : TM} {g : G} {R R' : List Int} {k er : Int} {K : Value → Heap → Prop} (gl : Glo h) (ok : g.ok) (x : Tx h F t d T) (live : T.over = false) (hR : R.length = 15) (g0 : ∀ b, b < 1 → ¬ F b) (hu : T.undo.length < 900000000) (e : cutM T g R k = (T', R', er))
    (hK : ∀ h' F', Fr F h h' → Gw h F h' F' → Tx h' F' t d T' → K (.tuple #[.agg ⟨ints R'⟩, .int .i64 er]) h') : C.bmap_Cut t g.v (ints R) k h K := by
  refine Cut_spec gl ok x live hR g0 hu ?_
  rw [e]; exact hK
theorem Find_as {h : Heap} {F : Nat → Prop} {t d : Option Addr} {T : TM} {g : G} {R : List Int} {k v er : Int} {K : Value → Heap → Prop} (gl : Glo h) (x : Tx h F t d T) (hR : R.length = 15) (e : findM T g R k = (v, er))
    (hK : ∀ h', Fr No h h' → K (.tuple #[.int .i64 v, .int .i64 er]) h') : C.bmap_Find t g.v (ints R) k h K := by
  refine Find_spec gl x hR ?_
  rw [e]; exact hK
theorem All_as {h : Heap} {F : Nat → Prop} {t d : Option Addr} {T : TM} {g : G} {R : List Int} {P : List (Int × Int)} {M : List Int} {er : Int} {K : Value → Heap → Prop} (gl : Glo h) (x : Tx h F t d T) (hR : R.length = 15) (e : allM T g R = (P, M, er))
    (hK : ∀ P1 P2 a1 c1 a2 c2 h', Fr No h h' → Sl h' 2 a1 P.length c1 (P.flatMap pcellA) P1 → Sl h' 1 a2 M.length c2 (ints M) P2 → (∀ b, P1 b → h.size ≤ b ∧ ¬ P2 b) → (∀ b, P2 b → h.size ≤ b) →
      K (.tuple #[.slice a1 P.length c1, .slice a2 M.length c2, .int .i64 er]) h') : C.bmap_All t g.v (ints R) h K := by
  refine All_spec gl x hR ?_
  rw [e]; exact hK
theorem used_as {h : Heap} {F : Nat → Prop} {t d : Option Addr} {T : TM} {n : Nat} {Z : Nat → Txt} {i : Nat} {K : Value → Heap → Prop} (dm : Dim n) (x : Tx h F t d T) (a : Av n Z T) (hi : i < n)
    (hK : ∀ h', Fr No h h' → K (.tuple #[.bool (bit Z i), .int .i64 0]) h') : C.space_Used t (geoN n).v i h K := by
  have hz := a.z _ (dm.map hi).2.2.2
  have ea : ((geoN n).at_ ((i : Nat) : Int).toNat) = ((98 + i / 4096 : Nat) : Int) := rfl
  have hbl : (geoN n).blocks = n := rfl
  refine Used_spec x (geoN_ok dm.hi) (fun hn => absurd ⟨by omega, by omega⟩ hn) (fun _ _ hb => absurd (by rw [ea, hz]) hb) fun _ _ _ h' f => ?_
  rw [ea, hz]; exact hK h' f
theorem nOf_zero : nOf 0 = 128 := rfl
theorem known_spec {h : Heap} {K : Value → Heap → Prop} (gl : Glo h) (hK : ∀ h', Fr No h h' → K (.bool true) h') : C.bolelaw10_known h K := by
  have dm : Dim 128 := ⟨by decide, by decide⟩
  have gl1 := gl.lt
  refine bolelaw10_known.ok (begin_spec (more := 0) (ta := none) (tc := 0) (ra := none) (rc := 0) (ks := []) (rs := []) rfl rfl (fun r hr => by cases hr) (by simp) (by simp) fun t u q d F H L h2 f2 x2 y2 I hF _ => ⟨_, _, _, _, rfl, NewRow.intro rfl (G.one _) rfl fun h4 n4 => cf rfl ⟨_, rfl, cellsAll n4.rd, ?_⟩⟩)
  rw [nOf_zero] at I n4 ⊢
  have hL := I.len
  have A0 := fresh_av hL
  obtain ⟨T1, T2, T3, R1, R2, kr⟩ := known_plain A0 rfl fun j hj => by
    rw [I.bit (by decide) hj]
    unfold tkU
    rw [List.any_nil, Bool.or_false]
  have z4 := n4.size
  have Flt : ∀ b, F b → b < h2.size := fun b => x2.lt
  have x4 := x2.no n4.fr
  have F4 : Fr No h h4 := f2.new n4
  have u0 : (TM.mk (fresh (chunks L)) [] [] false).undo.length = 0 := rfl
  have u1 := addM_un (T := ⟨fresh (chunks L), [], [], false⟩) (g := geoN 128) (R := z15) (k := 0)
  have u2 := addM_un (T := T1) (g := geoN 128) (R := R1) (k := 10)
  rw [kr.a1] at u1
  rw [kr.a2] at u2
  have u1 : T1.undo.length ≤ 0 + 9 := u1
  have u2 : T2.undo.length ≤ T1.undo.length + 9 := u2
  refine Add_as (R := z15) (gl.no F4) dm x4 rfl rfl (fun b hb y => by have := hF b y; omega) (by rw [u0]; decide) kr.a1 fun h5 F5 f5 g5 x5 => ⟨_, _, _, rfl, NewRow.intro (by rw [ints_length, kr.l1]) (ints_one _) rfl fun h7 n7 => ?_⟩
  have z5 := f5.size
  have z7 := n7.size
  have k5 : ∀ b, b < h4.size → (F5 b ↔ F b) := g5.old
  have nf5 : ¬ F5 h2.size := fun y => by have := Flt _ ((k5 _ (by omega)).mp y); omega
  have o5 : ∀ b, F5 b → h.size ≤ b := fun b y => by
    rcases g5.new y with y | y
    · exact hF b y
    · have := F4.size; omega
  have F5' : Fr No h h5 := F4.trans f5 fun b hb y => by have := hF b y; omega
  have F7 : Fr No h h7 := F5'.new n7
  have rg7 : rd h7 h2.size = (geoN 128).v := (n7.at_ (by omega)).trans ((f5.rd (by omega) (fun y => by have := Flt _ y; omega)).trans n4.rd)
  refine ⟨_, rfl, cellsAll rg7, _, by rw [ints_length, kr.l1], cellsAll n7.rd, ?_⟩
  have lt5 : ∀ b, F5 b → b < h5.size := fun b => x5.lt
  refine Add_as (gl.no F7) dm (x5.no n7.fr) kr.v1 kr.l1 (fun b hb y => by have := o5 b y; omega) (by omega) kr.a2 fun h8 F8 f8 g8 x8 => ⟨_, _, _, rfl, NewRow.intro (by rw [ints_length, kr.l2]) (ints_one _) rfl fun h10 n10 => ?_⟩
  have z8 := f8.size
  have z10 := n10.size
  have o8 : ∀ b, F8 b → h.size ≤ b := fun b y => by
    rcases g8.new y with y | y
    · exact o5 b y
    · have := F7.size; omega
  have nf8 : ¬ F8 h2.size := fun y => nf5 ((g8.old _ (by omega)).mp y)
  have F8' : Fr No h h8 := F7.trans f8 fun b hb y => by have := o5 b y; omega
  have F10 : Fr No h h10 := F8'.new n10
  have rg10 : rd h10 h2.size = (geoN 128).v := (n10.at_ (by omega)).trans ((f8.rd (by omega) nf5).trans rg7)
  have lt8 : ∀ b, F8 b → b < h8.size := fun b => x8.lt
  have x10 := x8.no n10.fr
  refine ⟨_, rfl, cellsAll rg10, _, by rw [ints_length, kr.l2], cellsAll n10.rd, Find_as (gl.no F10) x10 kr.l2 kr.f fun h11 f11 => ⟨_, _, rfl, ?_⟩⟩
  have z11 := f11.size
  have rg11 : rd h11 h2.size = (geoN 128).v := (f11.rd (by omega) fun y => y).trans rg10
  have rr11 : rd h11 h8.size = ints R2 := (f11.rd (by omega) fun y => y).trans n10.rd
  refine ⟨_, rfl, cellsAll rg11, _, by rw [ints_length, kr.l2], cellsAll rr11, All_as (gl.no (F10.no f11)) (x10.no f11) kr.l2 kr.l fun P1 P2 a1 c1 a2 c2 h12 f12 s1 s2 hP1 hP2 => ⟨_, _, _, _, _, _, _, rfl, ?_⟩⟩
  have z12 := f12.size
  have rg12 : rd h12 h2.size = (geoN 128).v := (f12.rd (by omega) fun y => y).trans rg11
  have rr12 : rd h12 h8.size = ints R2 := (f12.rd (by omega) fun y => y).trans rr11
  have F12 : Fr No h h12 := (F10.no f11).no f12
  refine ⟨_, rfl, cellsAll rg12, _, by rw [ints_length, kr.l2], cellsAll rr12, Cut_as (gl.no F12) (geoN_ok (by decide)) ((x10.no f11).no f12) kr.v2 kr.l2 (fun b hb y => by have := o8 b y; omega) (by omega) kr.c fun h13 F13 f13 g13 x13 => ⟨_, _, rfl, NewRow.intro rfl (ints_one _) rfl fun h15 n15 => ?_⟩⟩
  have z13 := f13.size
  have zz15 := n15.size
  have F13' : Fr No h h13 := F12.trans f13 fun b hb y => by have := o8 b y; omega
  have rg15 : rd h15 h2.size = (geoN 128).v := (n15.at_ (by omega)).trans ((f13.rd (by omega) nf8).trans rg12)
  have rr15 : rd h15 h8.size = ints R2 := (n15.at_ (by omega)).trans ((f13.rd (by omega) fun y => by have := lt8 _ y; omega).trans rr12)
  have hino : (geoN 128).inodes = 99 := rfl
  have hbit : (geoN 128).bitmap = 98 := rfl
  refine ⟨_, rfl, cellsAll rg15, Spc.Free_spec (x13.no n15.fr) (geoN_ok (by decide)) (by decide) (fun k h1 h2 hb => absurd (kr.rd k (by omega)) hb) fun h16 f16 => ⟨_, _, rfl, ?_⟩⟩
  rw [kr.n]
  have z16 := f16.size
  have rr16 : rd h16 h8.size = ints R2 := (f16.rd (by omega) fun y => y).trans rr15
  refine num_spec ⟨_, rfl, cn (fun y => absurd rfl y) fun _ => num_spec ⟨_, rfl, cn (fun y => absurd rfl y) fun _ => num_spec ⟨_, rfl, cn (fun y => absurd rfl y) fun _ => num_spec ⟨_, rfl, cn (fun y => absurd rfl y) fun _ => num_spec ⟨_, rfl, cn (fun y => absurd rfl y) fun _ => num_spec ⟨_, rfl, cn (fun y => absurd rfl y) fun _ =>
    cn (fun y => absurd rfl y) fun _ => cn (fun y => absurd rfl y) fun _ => cn (fun y => absurd rfl y) fun _ => ?_⟩⟩⟩⟩⟩⟩
  have gi : ∀ i, i < 15 → (ints R2)[i]? = some (.int .i64 (R2.getD i 0)) := fun i hi => by
    unfold ints
    rw [List.getElem?_map, List.getD_eq_getElem?_getD, List.getElem?_eq_getElem (by rw [kr.l2]; exact hi)]; rfl
  refine ⟨102, rda rr16 ((gi 13 (by decide)).trans (by rw [kr.one])), cn (fun y => absurd rfl y) fun _ => ⟨⟨by decide, by decide⟩, 101, cell2 rr16 ((gi 3 (by decide)).trans (by rw [kr.dir])), cn (fun y => absurd rfl y) fun _ => ?_⟩⟩
  refine ⟨rfl, rfl, New.intro fun h24 n24 => ?_⟩
  have z24 := n24.size
  have q : Fr No h13 h24 := (n15.fr.no f16).new n24
  have s1' := (s1.fr f13 fun b _ hb y => by have := hP1 b hb; have := lt8 b y; omega).fr q fun _ _ _ y => y
  have s2' := (s2.fr f13 fun b _ hb y => by have := hP2 b hb; have := lt8 b y; omega).fr q fun _ _ _ y => y
  have F24 : Fr No h h24 := F13'.no q
  refine samePairs_spec (xs := [(0, 101), (10, 103)]) (ys := [(0, 101), (10, 103)]) s1'.cells (cellsAll n24.rd) (by decide) ⟨_, rfl, ct rfl (New.intro fun h26 n26 => ?_)⟩
  have z26 := n26.size
  refine same_spec (xs := [102]) (ys := [102]) (s2'.fr n26.fr fun _ _ _ y => y).cells (cellsAll n26.rd) (by decide) ⟨_, rfl, ct rfl ?_⟩
  have r15 : rd h26 h13.size = ints z15 := ((n26.at_ (by omega)).trans ((n24.at_ (by omega)).trans (f16.rd (by omega) fun y => y))).trans n15.rd
  exact ⟨ints z15, rfl, cellsAll r15, rfl, ct rfl (hK h26 (F24.new n26))⟩
end Go.Proofs.YtcdpakjhjmchhaaGreatDoor.Bm
/-
  bolelaw10: told.
-/
namespace Go.Proofs.YtcdpakjhjmchhaaGreatDoor.Bm
open Go Go.Proofs Go.Proofs.YtcdpakjhjmchhaaGreatDoor.Wx Go.Proofs.YtcdpakjhjmchhaaGreatDoor.Hp Go.Proofs.YtcdpakjhjmchhaaGreatDoor.W Go.Proofs.YtcdpakjhjmchhaaGreatDoor.Ad Go.Proofs.YtcdpakjhjmchhaaGreatDoor.Tm Go.Proofs.YtcdpakjhjmchhaaGreatDoor.Bt Go.Proofs.YtcdpakjhjmchhaaGreatDoor.Spc Go.Proofs.YtcdpakjhjmchhaaGreatDoor.Re Go.Proofs.YtcdpakjhjmchhaaGreatDoor.Av Go.Proofs.YtcdpakjhjmchhaaGreatDoor.Rm
open Go.Proofs.YtcdpakjhjmchhaaGreatDoor.Hd (ints)
open Go.Proofs.YtcdpakjhjmchhaaGreatDoor.In (Glo ints_length ints_one)

/-! all numbers of a record, none twice -/
theorem tabN_row (f : Nat → Nat) : ∀ (m k : Nat), tabN f k m = (rowN f k m).map (·.2)
  | 0, _ => rfl
  | m + 1, k => by
    show (if f k = 0 then [] else [((f k : Nat) : Int)]) ++ tabN f (k + 1) m = ((if f k = 0 then [] else [(((k : Nat) : Int), ((f k : Nat) : Int))]) ++ rowN f (k + 1) m).map (·.2)
    rw [List.map_append, tabN_row f m (k + 1)]
    split <;> rfl
def allN (Z : Nat → Txt) (R : List Int) : List Int := (rowN (num Z R) 0 16522).map (·.2) ++ tabN (num Z R) 16522 130
theorem allN_row (Z : Nat → Txt) (R : List Int) : allN Z R = (rowN (num Z R) 0 nS).map (·.2) := by
  unfold allN nS
  rw [tabN_row, ← List.map_append]
  congr 1
  have := rowN_add (f := num Z R) 16522 0 130
  rw [Nat.zero_add] at this
  exact this.symm
theorem mem_allN {Z : Nat → Txt} {R : List Int} {v : Int} : v ∈ allN Z R ↔ ∃ s, s < nS ∧ num Z R s ≠ 0 ∧ v = ((num Z R s : Nat) : Int) := by
  rw [allN_row, List.mem_map]
  constructor
  · rintro ⟨p, hp, rfl⟩
    obtain ⟨j, _, h2, h3, rfl⟩ := (mem_rowN nS 0).mp hp
    exact ⟨j, by omega, h3, rfl⟩
  · rintro ⟨s, h1, h2, rfl⟩
    exact ⟨_, (mem_rowN nS 0).mpr ⟨s, by omega, by omega, h2, rfl⟩, rfl⟩
theorem allN_nodup {n : Nat} {Z : Nat → Txt} {R : List Int} (w : Wf n Z R) : (allN Z R).Nodup := by
  rw [allN_row]
  have hp := rowN_lt (f := num Z R) nS 0
  have hm : ∀ p ∈ rowN (num Z R) 0 nS, ∃ j : Nat, j < nS ∧ num Z R j ≠ 0 ∧ p = ((j : Int), ((num Z R j : Nat) : Int)) := fun p h => by
    obtain ⟨j, _, h2, h3, e⟩ := (mem_rowN nS 0).mp h
    exact ⟨j, by omega, h3, e⟩
  generalize rowN (num Z R) 0 nS = l at hp hm
  induction l with
  | nil => exact List.nodup_nil
  | cons x l ih =>
    rw [List.pairwise_cons] at hp
    rw [List.map_cons, List.nodup_cons]
    refine ⟨fun y => ?_, ih hp.2 fun p h => hm p (List.mem_cons_of_mem _ h)⟩
    obtain ⟨z, hz, ez⟩ := List.mem_map.mp y
    obtain ⟨i, h1, h2, rfl⟩ := hm x (List.mem_cons_self ..)
    obtain ⟨j, h3, h4, rfl⟩ := hm z (List.mem_cons_of_mem _ hz)
    have hlt := hp.1 _ hz
    have hlt : (i : Int) < (j : Int) := hlt
    have ez : ((num Z R j : Nat) : Int) = ((num Z R i : Nat) : Int) := ez
    have := w.inj i j h1 h3 h2 (by omega)
    omega
/-- each number once -/
def ones (l : List Int) : MapI := l.map fun v => (v, 1)
theorem ones_get {l : List Int} {v : Int} (h : v ∉ l) : aget (ones l) v = none :=
  aget_none.mpr fun p hp e => by
    obtain ⟨x, hx, rfl⟩ := List.mem_map.mp hp
    exact h (e ▸ hx)
theorem aput_new {α : Type} {i : Int} {v : α} : ∀ {m : List (Int × α)}, aget m i = none → aput m i v = m ++ [(i, v)]
  | [], _ => rfl
  | (k, u) :: r, h => by
    have h : (bif i == k then some u else aget r i) = none := h
    by_cases e : i = k
    · rw [e, beq_self_eq_true] at h; cases h
    · rw [beq_eq_false_iff_ne.mpr e] at h
      show (bif i == k then _ else (k, u) :: aput r i v) = _
      rw [beq_eq_false_iff_ne.mpr e, aput_new h]; rfl
theorem ones_put {l : List Int} {v : Int} (h : v ∉ l) : aput (ones l) v 1 = ones (l ++ [v]) := by
  rw [aput_new (ones_get h)]
  unfold ones
  rw [List.map_append]; rfl
theorem nodup_next {l : List Int} (nd : l.Nodup) {j : Nat} (hj : j < l.length) : l[j] ∉ l.take j := fun y => by
  obtain ⟨i, hi, e⟩ := List.mem_iff_getElem.mp y
  rw [List.length_take] at hi
  rw [List.getElem_take] at e
  have := (List.getElem_inj nd).mp e
  omega
/-- one more number is met -/
theorem meet {l : List Int} {v : Int} {h : Heap} {b : Nat} {X : Heap → Prop} (M : MapAt (.int .i64) h b (mI (ones l))) (hv : v ∉ l)
    (hX : ∀ h', (∀ c, c ≠ b → h'[c]? = h[c]?) → h'.size = h.size → MapAt (.int .i64) h' b (mI (ones (l ++ [v]))) → X h') :
    MapIn (.int .i64) (some b) h fun mm => ∃ n : Int, Option.getD (mget mm (.i v)) (zeroV ti3) = .int .i64 n ∧ MapPut (.int .i64) b (.i v) (.int .i64 (IntKind.wrap .i64 (n + 1))) h X := by
  refine ⟨_, M, 0, ?_, _, M, fun h' T => ?_⟩
  · rw [mI_mm, mget_mm, ones_get hv]; rfl
  · have ha := T.at_
    have e : IntKind.wrap .i64 (0 + 1) = 1 := rfl
    rw [e, mI_mm, mput_mm, ones_put hv] at ha
    exact hX h' T.same T.size ha
/-- blocks from b on may differ, and b -/
theorem fr_map {h h' hh : Heap} {b : Nat} (f : Fr No h hh) (hb : h.size ≤ b) (same : ∀ c, c ≠ b → h'[c]? = hh[c]?) (sz : h'.size = hh.size) : Fr No h h' :=
  ⟨by rw [sz]; exact f.size, fun c hc y => (same c (by omega)).trans (f.same c hc y)⟩
theorem told_spec {h : Heap} {F : Nat → Prop} {t d : Option Addr} {T : TM} {n r : Nat} {Z : Nat → Txt} {R : List Int} {has : MapI} {K : Value → Heap → Prop} (gl : Glo h) (dm : Dim n) (x : Tx h F t d T) (a : Av n Z T) (w : Wf n Z R) (tg : Tight Z R) (H : Has Z R has) (M : MapAt (.int .i64) h r (mI has))
    (hK : ∀ h', Fr No h h' → K (.bool true) h') : C.bolelaw10_told t (geoN n).v (ints R) (some r) h K := by
  have hr : r < h.size := map_lt M
  have gl1 := gl.lt
  have eall := allS_ok a w
  rw [tabs_eq] at eall
  have D := H.dom
  have lP := D.len
  have lM := tabN_le (num Z R) 130 16522
  have lP2 : (rowN (num Z R) 0 16522).length ≤ 16522 := by
    have : ∀ (m k : Nat), (rowN (num Z R) k m).length ≤ m := by
      intro m
      induction m with
      | zero => intro k; exact Nat.le_refl _
      | succ m ih =>
        intro k
        have := ih (k + 1)
        show ((if num Z R k = 0 then [] else [(((k : Nat) : Int), ((num Z R k : Nat) : Int))]) ++ rowN (num Z R) (k + 1) m).length ≤ _
        rw [List.length_append]
        split
        · rw [List.length_nil]; omega
        · rw [List.length_singleton]; omega
    exact this _ _
  refine bolelaw10_told.ok (New.intro fun h2 n2 => New.intro fun h3 n3 => ⟨_, rfl, cellsAll ((n3.at_ n2.own.lt).trans n2.rd), _, by rw [ints_length, w.rl], cellsAll n3.rd, ?_⟩)
  have z2 := n2.size
  have z3 := n3.size
  have F3 := n2.fr.new n3
  refine All_as (gl.no F3) (x.no F3) w.rl eall fun P1 P2 a1 c1 a2 c2 h4 f4 s1 s2 hP1 hP2 => ⟨_, _, _, _, _, _, _, rfl, num_spec ⟨_, rfl, cn (fun y => absurd rfl y) fun _ => ?_⟩⟩
  have z4 := f4.size
  have F4 := F3.no f4
  refine ⟨_, map_fr M F4 fun y => y, cn (fun y => absurd (by rw [lP, mI, List.length_map]) y) fun _ => ?_⟩
  refine takes_spec (map_fr M F4 fun y => y) H.rng H.nd (by omega) fun tb h6 f6 nd ktb => ⟨_, rfl, ?_⟩
  have etb := D.tabs tg (up_f Z R) nd ktb
  rw [lP, ← etb]
  refine cn (fun y => absurd rfl y) fun _ => ?_
  have z6 := f6.size
  have F6 := F4.no f6
  have s1 := s1.fr f6 fun _ _ _ y => y
  have s2 := s2.fr f6 fun _ _ _ y => y
  have hmemP : ∀ p ∈ rowN (num Z R) 0 16522, ∃ j : Nat, j < 16522 ∧ num Z R j ≠ 0 ∧ p = ((j : Int), ((num Z R j : Nat) : Int)) := fun p h => by
    obtain ⟨j, _, h2, h3, e⟩ := (mem_rowN 16522 0).mp h
    exact ⟨j, by omega, h3, e⟩
  have hord := rowN_lt (f := num Z R) 16522 0
  have hall : allN Z R = (rowN (num Z R) 0 16522).map (·.2) ++ tabN (num Z R) 16522 130 := rfl
  have hnd := allN_nodup w
  have hmem := fun v => mem_allN (Z := Z) (R := R) (v := v)
  rw [hall] at hnd hmem
  generalize rowN (num Z R) 0 16522 = P at *
  generalize tabN (num Z R) 16522 130 = MT at *
  unfold bolelaw10_told.k1
  show _
  have f8 : Fr No h6 (newM h6) := newM_fr h6
  have z8 := newM_size h6
  have m8 := newM_at h6
  have rg : ∀ {hh : Heap}, Fr No h6 hh → rd hh h.size = (geoN n).v := fun f => by
    have := ((n3.fr.no f4).no f6).no f
    exact (this.rd n2.own.lt fun y => y).trans n2.rd
  have rR : ∀ {hh : Heap}, Fr No h6 hh → rd hh h2.size = ints R := fun f => by
    have := ((f4.no f6).no f)
    exact (this.rd n3.own.lt fun y => y).trans n3.rd
  have Cg : ∀ {hh : Heap}, Fr No h6 hh → Cells hh ⟨h.size, 0, none⟩ (geoN n).v := fun f => cellsAll (rg f)
  have CR : ∀ {hh : Heap}, Fr No h6 hh → Cells hh ⟨h2.size, 0, none⟩ (ints R) := fun f => cellsAll (rR f)
  have lR : (ints R).length = 15 := by rw [ints_length, w.rl]
  refine ⟨fun i hh => ∃ j : Nat, i = j ∧ j ≤ P.length ∧ Fr No h6 hh ∧ h6.size < hh.size ∧ MapAt (.int .i64) hh h6.size (mI (ones ((P.take j).map (·.2)))), fun i _ => ((P.length : Int) - i).toNat, ⟨0, rfl, Nat.zero_le _, f8, by omega, m8⟩, ?_⟩
  rintro _ h9 ⟨j, rfl, hj, f9, z9, M9⟩
  refine cd (fun hlt => ?_) fun hlt => ?_
  · have hj' : j < P.length := by omega
    have hlt' : (j : Int) < (P.length : Int) := by omega
    obtain ⟨p, ep, cp⟩ := pair_at (s1.fr f9 fun _ _ _ y => y).cells hj'
    obtain ⟨s, hs, s0, es⟩ := hmemP P[j] (List.getElem_mem hj')
    rw [Int.toNat_natCast]
    refine ⟨⟨by omega, hlt⟩, Tm.oe ep ⟨_, rfl, cp, NewRow.intro rfl (one2 rfl rfl) rfl fun h11 n11 => ⟨⟨by decide, by decide⟩, ?_⟩⟩⟩
    have z11 := n11.size
    have f11 := f9.new n11
    have r11 : rd h11 h9.size = pcellA P[j] := n11.rd
    refine ⟨P[j].1, rda r11 rfl, _, map_fr M (F6.no f11) fun y => y, ?_⟩
    have eg : mget (mI has) (.i P[j].1) = some (.int .i64 P[j].2) := by
      rw [mI_mm, mget_mm, es, H.get s hs, if_neg s0]; rfl
    refine ⟨P[j].2, by rw [eg]; rfl, _, rfl, Cg f11, _, lR, CR f11, ⟨by decide, by decide⟩, P[j].1, rda r11 rfl, ?_⟩
    have ef : findM T (geoN n) R P[j].1 = (P[j].2, 0) := by rw [es]; exact find_ok a w hs
    refine Find_as (gl.no (F6.no f11)) (x.no (F6.no f11)) w.rl ef fun h12 f12 => ⟨_, _, rfl, ?_⟩
    rw [eg]
    have z12 := f12.size
    have f12' := f11.no f12
    have r12 : rd h12 h9.size = pcellA P[j] := (f12.rd (by omega) fun y => y).trans r11
    have M12 : MapAt (.int .i64) h12 h6.size (mI (ones ((P.take j).map (·.2)))) := map_fr M9 (n11.fr.no f12) fun y => y
    refine cf rfl ⟨⟨by decide, by decide⟩, P[j].2, rda r12 rfl, cn (fun y => absurd rfl y) fun _ => num_spec ⟨_, rfl, cn (fun y => absurd rfl y) fun _ => cn (fun y => absurd rfl y) fun _ => ?_⟩⟩
    have hv : P[j].2 ∉ (P.take j).map (·.2) := by
      have nd1 := (List.nodup_append.mp hnd).1
      have := nodup_next nd1 (j := j) (by rw [List.length_map]; exact hj')
      rw [List.getElem_map, ← List.map_take] at this; exact this
    have done : ∀ h', (∀ c, c ≠ h6.size → h'[c]? = h12[c]?) → h'.size = h12.size → MapAt (.int .i64) h' h6.size (mI (ones ((P.take j).map (·.2) ++ [P[j].2]))) →
        (∃ j' : Nat, IntKind.wrap .i64 ((j : Int) + 1) = j' ∧ j' ≤ P.length ∧ Fr No h6 h' ∧ h6.size < h'.size ∧ MapAt (.int .i64) h' h6.size (mI (ones ((P.take j').map (·.2))))) ∧ ((P.length : Int) - IntKind.wrap .i64 ((j : Int) + 1)).toNat < ((P.length : Int) - (j : Int)).toNat := fun h' e1 e2 e3 => by
      rw [wrap_i64 (n := (j : Int) + 1) (by omega) (by omega)]
      refine ⟨⟨j + 1, by omega, hj', fr_map f12' (Nat.le_refl _) e1 e2, by omega, ?_⟩, falls hlt'⟩
      rw [take_snoc _ _ hj', List.map_append]; exact e3
    refine cd (fun hpos => ?_) fun hpos => meet M12 hv done
    obtain ⟨j', rfl⟩ : ∃ j', j = j' + 1 := ⟨j - 1, by omega⟩
    have hj2 : j' < P.length := by omega
    have ew : IntKind.wrap .i64 (((j' + 1 : Nat) : Int) - 1) = (j' : Int) := by rw [wrap_i64 (by omega) (by omega)]; omega
    rw [ew, Int.toNat_natCast]
    obtain ⟨p', ep', cp'⟩ := pair_at (s1.fr f12' fun _ _ _ y => y).cells hj2
    have ep'' := ep.symm.trans ep'
    cases ep''
    have c0 := cp' 0 (.int .i64 P[j'].1) rfl
    refine ⟨⟨by decide, by decide⟩, P[j' + 1].1, rda r12 rfl, ⟨by omega, by omega⟩, Tm.oe ep ⟨⟨by decide, by decide⟩, P[j'].1, c0, cd (fun hle => ?_) fun _ => meet M12 hv done⟩⟩
    have := List.pairwise_iff_getElem.mp hord j' (j' + 1) hj2 hj' (by omega)
    omega
  have ej : j = P.length := by omega
  subst ej
  rw [List.take_length] at M9
  refine ⟨fun i hh => ∃ j : Nat, i = j ∧ j ≤ MT.length ∧ Fr No h6 hh ∧ h6.size < hh.size ∧ MapAt (.int .i64) hh h6.size (mI (ones (P.map (·.2) ++ MT.take j))), fun i _ => ((MT.length : Int) - i).toNat, ⟨0, rfl, Nat.zero_le _, f9, z9, by rw [List.take_zero, List.append_nil]; exact M9⟩, ?_⟩
  clear M9 f9 z9 hlt hj h9
  rintro _ h16 ⟨j, rfl, hj, f16, z16, M16⟩
  refine cd (fun hlt => ?_) fun hlt => ?_
  · have hj' : j < MT.length := by omega
    obtain ⟨p, ep, cp⟩ := Hd.ints_get (s2.fr f16 fun _ _ _ y => y).cells hj'
    rw [Int.toNat_natCast]
    have hv : MT[j] ∉ P.map (·.2) ++ MT.take j := by
      have := nodup_next hnd (j := P.length + j) (by rw [List.length_append, List.length_map]; omega)
      rw [List.getElem_append_right (by rw [List.length_map]; omega), List.take_append, List.take_of_length_le (by rw [List.length_map]; omega)] at this
      simp only [List.length_map, Nat.add_sub_cancel_left] at this
      exact this
    refine ⟨⟨by omega, hlt⟩, Tm.oe ep ⟨_, cp, meet M16 hv fun h' e1 e2 e3 => ?_⟩⟩
    rw [wrap_i64 (n := (j : Int) + 1) (by omega) (by omega)]
    refine ⟨⟨j + 1, by omega, hj', fr_map f16 (Nat.le_refl _) e1 e2, by omega, ?_⟩, falls hlt⟩
    rw [take_snoc _ _ hj', ← List.append_assoc]; exact e3
  have ej : j = MT.length := by omega
  subst ej
  rw [List.take_length] at M16
  refine ⟨_, M16, fun h18 N => ?_⟩
  have z18 := N.size
  refine ⟨fun hh => ∃ left, MItAt hh h16.size h6.size (ones (P.map (·.2) ++ MT)) left ∧ (∀ q ∈ left, q ∈ ones (P.map (·.2) ++ MT)) ∧ h16.size < hh.size ∧ ∀ c, c < h16.size → hh[c]? = h16[c]?, fun hh => leftLen hh h16.size, ⟨_, N.at_, fun q hq => hq, by omega, N.same⟩, ?_⟩
  rintro h19 ⟨left, I, sub, sz, sm⟩
  have f19 : Fr No h6 h19 := ⟨by omega, fun c hc y => (sm c (by omega)).trans (f16.same c hc y)⟩
  refine ⟨rfl, _, _, left, I, fun _ => hK h19 (F6.no f19), fun e he h20 N20 => ⟨rfl, _, _, _, N20.cur, ?_⟩⟩
  have N20 : ItTo h19 h16.size h6.size (ones (P.map (·.2) ++ MT)) left e h20 := N20
  obtain ⟨v, hv, ee⟩ := List.mem_map.mp (sub e he)
  obtain ⟨s, hs, s0, ev⟩ := (hmem v).mp hv
  have e1 : e.1 = ((num Z R s : Nat) : Int) := by rw [← ee]; exact ev
  have e2 : e.2 = 1 := by rw [← ee]
  have z20 := N20.size
  have f20 : Fr No h6 h20 := ⟨by omega, fun c hc y => (N20.same c (by omega)).trans (f19.same c hc y)⟩
  obtain ⟨r1, r2, r3⟩ := w.rng s hs s0
  rw [e1, e2]
  refine ⟨_, rfl, Cg f20, used_as dm (x.no (F6.no f20)) a r2 fun h21 f21 => ⟨_, _, rfl, cn (fun y => absurd rfl y) fun _ => num_spec ⟨_, rfl, cn (fun y => absurd rfl y) fun _ => ?_⟩⟩⟩
  rw [r3]
  have f21' := f20.no f21
  have hbl : (geoN n).blocks = n := rfl
  refine cf rfl ⟨((geoN n).data : Int), rda (rg f21') rfl, cd (fun y => by omega) fun _ => ⟨((geoN n).blocks : Int), rda (rg f21') rfl, cd (fun y => by omega) fun _ => ?_⟩⟩
  have I' : MItAt h21 h16.size h6.size (ones (P.map (·.2) ++ MT)) (left.filter fun p => p.1 != e.1) := it_keep N20.at_ (f21.same _ (by omega) fun y => y) (f21.same _ (by omega) fun y => y)
  refine ⟨⟨_, I', fun q hq => sub q (List.mem_filter.mp hq).1, by have := f21.size; omega, fun c hc => (f21.same c (by omega) fun y => y).trans ((N20.same c (by omega)).trans (sm c hc))⟩, ?_⟩
  show leftLen h21 h16.size < leftLen h19 h16.size
  rw [left_len I', left_len I]; exact left_lt he
end Go.Proofs.YtcdpakjhjmchhaaGreatDoor.Bm
/-
  bolelaw10: BmapLowest.
-/
namespace Go.Proofs.YtcdpakjhjmchhaaGreatDoor.Bm
open Go Go.Proofs Go.Proofs.YtcdpakjhjmchhaaGreatDoor.Wx Go.Proofs.YtcdpakjhjmchhaaGreatDoor.Hp Go.Proofs.YtcdpakjhjmchhaaGreatDoor.W Go.Proofs.YtcdpakjhjmchhaaGreatDoor.Ad Go.Proofs.YtcdpakjhjmchhaaGreatDoor.Tm Go.Proofs.YtcdpakjhjmchhaaGreatDoor.Bt Go.Proofs.YtcdpakjhjmchhaaGreatDoor.Spc Go.Proofs.YtcdpakjhjmchhaaGreatDoor.Re Go.Proofs.YtcdpakjhjmchhaaGreatDoor.Av Go.Proofs.YtcdpakjhjmchhaaGreatDoor.Rm
open Go.Proofs.YtcdpakjhjmchhaaGreatDoor.Hd (ints)
open Go.Proofs.YtcdpakjhjmchhaaGreatDoor.In (Glo ints_length ints_one)

theorem rowN_le (f : Nat → Nat) : ∀ (m k : Nat), (rowN f k m).length ≤ m
  | 0, _ => Nat.le_refl _
  | m + 1, k => by
    have := rowN_le f m (k + 1)
    show ((if f k = 0 then [] else [(((k : Nat) : Int), ((f k : Nat) : Int))]) ++ rowN f (k + 1) m).length ≤ _
    rw [List.length_append]
    split
    · rw [List.length_nil]; omega
    · rw [List.length_singleton]; omega
theorem Dom.le {f : Nat → Nat} {has : MapI} (a : Dom f has) : has.length ≤ 16522 := by rw [← a.len]; exact rowN_le f 16522 0
/-- a case under way -/
structure Lx (n : Nat) (h1 : Heap) (gb xb mb : Nat) (t d : Option Addr) (hh : Heap) (F : Nat → Prop) (T : TM) (Z : Nat → Txt) (R : List Int) (has : MapI) (u : Nat) : Prop where
  fr : Fr No h1 hh
  lo : h1.size ≤ gb
  rg : rd hh gb = (geoN n).v
  rx : rd hh xb = ints R
  ox : Own hh xb
  M : MapAt (.int .i64) hh mb (mI has)
  ne : xb ≠ mb ∧ gb < xb ∧ gb ≠ mb ∧ h1.size ≤ mb
  x : Tx hh F t d T
  nf : ¬ F gb ∧ ¬ F xb ∧ ¬ F mb
  fl : ∀ b, F b → h1.size ≤ b
  a : Av n Z T
  w : Wf n Z R
  tg : Tight Z R
  H : Has Z R has
  un : T.undo.length ≤ u
theorem Lx.lt {n u : Nat} {h1 hh : Heap} {gb xb mb : Nat} {t d : Option Addr} {F : Nat → Prop} {T : TM} {Z : Nat → Txt} {R : List Int} {has : MapI} (c : Lx n h1 gb xb mb t d hh F T Z R has u) : gb < hh.size ∧ xb < hh.size ∧ mb < hh.size :=
  ⟨rd_lt (o := 0) (v := .int .i64 (geoN n).blocks) (by rw [c.rg]; rfl), c.ox.lt, map_lt c.M⟩
theorem Lx.no {n u : Nat} {h1 hh h' : Heap} {gb xb mb : Nat} {t d : Option Addr} {F : Nat → Prop} {T : TM} {Z : Nat → Txt} {R : List Int} {has : MapI} (c : Lx n h1 gb xb mb t d hh F T Z R has u) (f : Fr No hh h') : Lx n h1 gb xb mb t d h' F T Z R has u := by
  obtain ⟨l1, l2, l3⟩ := c.lt
  exact { c with fr := c.fr.no f, rg := (f.rd l1 fun y => y).trans c.rg, rx := (f.rd l2 fun y => y).trans c.rx, ox := f.own l2 (fun y => y) c.ox, M := map_fr c.M f fun y => y, x := c.x.no f }
/-- a call in the transaction -/
theorem Lx.call {n u u' : Nat} {h1 hh h' : Heap} {gb xb mb : Nat} {t d : Option Addr} {F F' : Nat → Prop} {T T' : TM} {Z Z' : Nat → Txt} {R R' : List Int} {has has' : MapI} (c : Lx n h1 gb xb mb t d hh F T Z R has u) (f : Fr F hh h') (g : Gw hh F h' F') (x : Tx h' F' t d T') :
    Fr No h1 h' ∧ rd h' gb = (geoN n).v ∧ rd h' xb = ints R ∧ Own h' xb ∧ MapAt (.int .i64) h' mb (mI has) ∧ (¬ F' gb ∧ ¬ F' xb ∧ ¬ F' mb) ∧ ∀ b, F' b → h1.size ≤ b := by
  obtain ⟨l1, l2, l3⟩ := c.lt
  obtain ⟨n1, n2, n3⟩ := c.nf
  have s := c.fr.size
  refine ⟨c.fr.trans f fun b hb y => by have := c.fl b y; omega, (f.rd l1 n1).trans c.rg, (f.rd l2 n2).trans c.rx, f.own l2 n2 c.ox, map_fr c.M f n3, ⟨fun y => n1 ((g.old _ l1).mp y), fun y => n2 ((g.old _ l2).mp y), fun y => n3 ((g.old _ l3).mp y)⟩, fun b y => ?_⟩
  rcases g.new y with y | y
  · exact c.fl b y
  · omega
end Go.Proofs.YtcdpakjhjmchhaaGreatDoor.Bm
