import Derived.Test.YtcdpakjhjmchhaaGreatDoorBnA
import Derived.Test.YtcdpakjhjmchhaaGreatDoorBmO
/-
  bolelaw10: known, told.
-/
namespace Go.Proofs.YtcdpakjhjmchhaaGreatDoor.Bm
open Go Go.Proofs Go.Proofs.YtcdpakjhjmchhaaGreatDoor.Wx Go.Proofs.YtcdpakjhjmchhaaGreatDoor.Hp Go.Proofs.YtcdpakjhjmchhaaGreatDoor.W Go.Proofs.YtcdpakjhjmchhaaGreatDoor.Ad Go.Proofs.YtcdpakjhjmchhaaGreatDoor.Tm Go.Proofs.YtcdpakjhjmchhaaGreatDoor.Bt Go.Proofs.YtcdpakjhjmchhaaGreatDoor.Spc Go.Proofs.YtcdpakjhjmchhaaGreatDoor.Re Go.Proofs.YtcdpakjhjmchhaaGreatDoor.Av Go.Proofs.YtcdpakjhjmchhaaGreatDoor.Rm
open Go.Proofs.YtcdpakjhjmchhaaGreatDoor.Hd (ints)
open Go.Proofs.YtcdpakjhjmchhaaGreatDoor.In (Glo ints_length ints_one)

theorem Add_as {h : Heap} {F : Nat → Prop} {t d : Option Addr} {T T' : TM} {n : Nat} {R R' : List Int} {k v er : Int} {K : Value → Heap → Prop} (gl : Glo h) (dm : Dim n) (x : Tx h F t d T) (live : T.over = false) (hR : R.length = 15) (g0 : ∀ b, b < 1 → ¬ F b) (hu : T.undo.length < 700000000) (e : addM T (geoN n) R k = (T', R', v, er))
    (hK : ∀ h' F', Fr F h h' → Gw h F h' F' → Tx h' F' t d T' → K (.tuple #[.agg ⟨ints R'⟩, .int .i64 v, .int .i64 er]) h') : C.bmap_Add t (geoN n).v (ints R) k h K := by
  refine Add_spec gl dm x live hR g0 hu ?_
  rw [e]; exact hK
theorem Cut_as {h : Heap} {F : Nat → Prop} {t d : Option Addr} {T T' : TM} {g : G} {R R' : List Int} {k er : Int} {K : Value → Heap → Prop} (gl : Glo h) (ok : g.ok) (x : Tx h F t d T) (live : T.over = false) (hR : R.length = 15) (g0 : ∀ b, b < 1 → ¬ F b) (hu : T.undo.length < 900000000) (e : cutM T g R k = (T', R', er))
    (hK : ∀ h' F', Fr F h h' → Gw h F h' F' → Tx h' F' t d T' → K (.tuple #[.agg ⟨ints R'⟩, .int .i64 er]) h') : C.bmap_Cut t g.v (ints R) k h K := by
  refine Cut_spec gl ok x live hR g0 hu ?_
  rw [e]; exact hK
theorem Find_as {h : Heap} {F : Nat → Prop} {t d : Option Addr} {T : TM} {g : G} {R : List Int} {k v er : Int} {K : Value → Heap → Prop} (gl : Glo h) (x : Tx h F t d T) (hR : R.length = 15) (e : findM T g R k = (v, er))
    (hK : ∀ h', Fr No h h' → K (.tuple #[.int .i64 v, .int .i64 er]) h') : C.bmap_Find t g.v (ints R) k h K := by
  refine Find_spec gl x hR ?_
  rw [e]; exact hK
theorem All_as {h : Heap} {F : Nat → Prop} {t d : Option Addr} {T : TM} {g : G} {R : List Int} {P : List (Int × Int)} {M : List Int} {er : Int} {K : Value → Heap → Prop} (gl : Glo h) (x : Tx h F t d T) (hR : R.length = 15) (e : allM T g R = (P, M, er))
    (hK : ∀ P1 P2 a1 c1 a2 c2 h', Fr No h h' → Sl h' 2 a1 P.length c1 (P.flatMap pcellA) P1 → Sl h' 1 a2 M.length c2 (ints M) P2 → (∀ b, P1 b → h.size ≤ b ∧ ¬ P2 b) → (∀ b, P2 b → h.size ≤ b) →
      K (.tuple #[.slice a1 P.length c1, .slice a2 M.length c2, .int .i64 er]) h') : C.bmap_All t g.v (ints R) h K := by
  refine All_spec gl x hR ?_
  rw [e]; exact hK
theorem free_as {h : Heap} {F : Nat → Prop} {t d : Option Addr} {T : TM} {n : Nat} {Z : Nat → Txt} {K : Value → Heap → Prop} (dm : Dim n) (x : Tx h F t d T) (a : Av n Z T)
    (hK : ∀ h', Fr No h h' → K (.tuple #[.int .i64 (frees n Z : Nat), .int .i64 0]) h') : C.space_Free t (geoN n).v h K := by
  have hd := dm.data
  have hhi := dm.hi
  have hino : (geoN n).inodes = 98 + (n + 4095) / 4096 := rfl
  refine Spc.Free_spec x (geoN_ok dm.hi) (by show 98 ≤ (geoN n).inodes; omega) (fun k _ h2 hb => absurd (by rw [a.z k (by omega)]) hb) fun h' f => ?_
  rw [a.cntZ dm]; exact hK h' f
theorem nOf_zero : nOf 0 = 128 := rfl
theorem known_spec {h : Heap} {K : Value → Heap → Prop} (gl : Glo h) (hK : ∀ h', Fr No h h' → K (.bool true) h') : C.bolelaw10_known h K := by
  have dm : Dim 128 := ⟨by decide, by decide⟩
  have gl1 := gl.lt
  refine bolelaw10_known.ok (begin_spec (more := 0) (ta := none) (tc := 0) (ra := none) (rc := 0) (ks := []) (rs := []) rfl rfl (fun r hr => by cases hr) (by simp) (by simp) fun t u q d F H L h2 f2 x2 y2 I hF _ => ⟨_, _, _, _, rfl, NewRow.intro rfl (G.one _) rfl fun h4 n4 => cf rfl ⟨_, rfl, cellsAll n4.rd, ?_⟩⟩)
  rw [nOf_zero] at I n4 ⊢
  have hL := I.len
  have A0 := fresh_av hL
  obtain ⟨T1, T2, T3, R1, R2, kr⟩ := known_plain A0 rfl fun j hj => by
    rw [I.bit (by decide) hj]
    unfold tkU
    rw [List.any_nil, Bool.or_false]
  have z4 := n4.size
  have Flt : ∀ b, F b → b < h2.size := fun b => x2.lt
  have x4 := x2.no n4.fr
  have F4 : Fr No h h4 := f2.new n4
  have u0 : (TM.mk (fresh (chunks L)) [] [] false).undo.length = 0 := rfl
  have u1 := addM_un (T := ⟨fresh (chunks L), [], [], false⟩) (g := geoN 128) (R := z15) (k := 0)
  have u2 := addM_un (T := T1) (g := geoN 128) (R := R1) (k := 10)
  rw [kr.a1] at u1
  rw [kr.a2] at u2
  have u1 : T1.undo.length ≤ 0 + 9 := u1
  have u2 : T2.undo.length ≤ T1.undo.length + 9 := u2
  refine Add_as (R := z15) (gl.no F4) dm x4 rfl rfl (fun b hb y => by have := hF b y; omega) (by rw [u0]; decide) kr.a1 fun h5 F5 f5 g5 x5 => ⟨_, _, _, rfl, NewRow.intro (by rw [ints_length, kr.l1]) (ints_one _) rfl fun h7 n7 => ?_⟩
  have z5 := f5.size
  have z7 := n7.size
  have k5 : ∀ b, b < h4.size → (F5 b ↔ F b) := g5.old
  have nf5 : ¬ F5 h2.size := fun y => by have := Flt _ ((k5 _ (by omega)).mp y); omega
  have o5 : ∀ b, F5 b → h.size ≤ b := fun b y => by
    rcases g5.new y with y | y
    · exact hF b y
    · have := F4.size; omega
  have F5' : Fr No h h5 := F4.trans f5 fun b hb y => by have := hF b y; omega
  have F7 : Fr No h h7 := F5'.new n7
  have rg7 : rd h7 h2.size = (geoN 128).v := (n7.at_ (by omega)).trans ((f5.rd (by omega) (fun y => by have := Flt _ y; omega)).trans n4.rd)
  refine ⟨_, rfl, cellsAll rg7, _, by rw [ints_length, kr.l1], cellsAll n7.rd, ?_⟩
  have lt5 : ∀ b, F5 b → b < h5.size := fun b => x5.lt
  refine Add_as (gl.no F7) dm (x5.no n7.fr) kr.v1 kr.l1 (fun b hb y => by have := o5 b y; omega) (by omega) kr.a2 fun h8 F8 f8 g8 x8 => ⟨_, _, _, rfl, NewRow.intro (by rw [ints_length, kr.l2]) (ints_one _) rfl fun h10 n10 => ?_⟩
  have z8 := f8.size
  have z10 := n10.size
  have o8 : ∀ b, F8 b → h.size ≤ b := fun b y => by
    rcases g8.new y with y | y
    · exact o5 b y
    · have := F7.size; omega
  have nf8 : ¬ F8 h2.size := fun y => nf5 ((g8.old _ (by omega)).mp y)
  have F8' : Fr No h h8 := F7.trans f8 fun b hb y => by have := o5 b y; omega
  have F10 : Fr No h h10 := F8'.new n10
  have rg10 : rd h10 h2.size = (geoN 128).v := (n10.at_ (by omega)).trans ((f8.rd (by omega) nf5).trans rg7)
  have lt8 : ∀ b, F8 b → b < h8.size := fun b => x8.lt
  have x10 := x8.no n10.fr
  refine ⟨_, rfl, cellsAll rg10, _, by rw [ints_length, kr.l2], cellsAll n10.rd, Find_as (gl.no F10) x10 kr.l2 kr.f fun h11 f11 => ⟨_, _, rfl, ?_⟩⟩
  have z11 := f11.size
  have rg11 : rd h11 h2.size = (geoN 128).v := (f11.rd (by omega) fun y => y).trans rg10
  have rr11 : rd h11 h8.size = ints R2 := (f11.rd (by omega) fun y => y).trans n10.rd
  refine ⟨_, rfl, cellsAll rg11, _, by rw [ints_length, kr.l2], cellsAll rr11, All_as (gl.no (F10.no f11)) (x10.no f11) kr.l2 kr.l fun P1 P2 a1 c1 a2 c2 h12 f12 s1 s2 hP1 hP2 => ⟨_, _, _, _, _, _, _, rfl, ?_⟩⟩
  have z12 := f12.size
  have rg12 : rd h12 h2.size = (geoN 128).v := (f12.rd (by omega) fun y => y).trans rg11
  have rr12 : rd h12 h8.size = ints R2 := (f12.rd (by omega) fun y => y).trans rr11
  have F12 : Fr No h h12 := (F10.no f11).no f12
  refine ⟨_, rfl, cellsAll rg12, _, by rw [ints_length, kr.l2], cellsAll rr12, Cut_as (gl.no F12) (geoN_ok (by decide)) ((x10.no f11).no f12) kr.v2 kr.l2 (fun b hb y => by have := o8 b y; omega) (by omega) kr.c fun h13 F13 f13 g13 x13 => ⟨_, _, rfl, NewRow.intro rfl (ints_one _) rfl fun h15 n15 => ?_⟩⟩
  have z13 := f13.size
  have zz15 := n15.size
  have F13' : Fr No h h13 := F12.trans f13 fun b hb y => by have := o8 b y; omega
  have rg15 : rd h15 h2.size = (geoN 128).v := (n15.at_ (by omega)).trans ((f13.rd (by omega) nf8).trans rg12)
  have rr15 : rd h15 h8.size = ints R2 := (n15.at_ (by omega)).trans ((f13.rd (by omega) fun y => by have := lt8 _ y; omega).trans rr12)
  have hino : (geoN 128).inodes = 99 := rfl
  have hbit : (geoN 128).bitmap = 98 := rfl
  refine ⟨_, rfl, cellsAll rg15, Spc.Free_spec (x13.no n15.fr) (geoN_ok (by decide)) (by decide) (fun k h1 h2 hb => absurd (kr.rd k (by omega)) hb) fun h16 f16 => ⟨_, _, rfl, ?_⟩⟩
  rw [kr.n]
  have z16 := f16.size
  have rr16 : rd h16 h8.size = ints R2 := (f16.rd (by omega) fun y => y).trans rr15
  refine num_spec ⟨_, rfl, cn (fun y => absurd rfl y) fun _ => num_spec ⟨_, rfl, cn (fun y => absurd rfl y) fun _ => num_spec ⟨_, rfl, cn (fun y => absurd rfl y) fun _ => num_spec ⟨_, rfl, cn (fun y => absurd rfl y) fun _ => num_spec ⟨_, rfl, cn (fun y => absurd rfl y) fun _ => num_spec ⟨_, rfl, cn (fun y => absurd rfl y) fun _ =>
    cn (fun y => absurd rfl y) fun _ => cn (fun y => absurd rfl y) fun _ => cn (fun y => absurd rfl y) fun _ => ?_⟩⟩⟩⟩⟩⟩
  have gi : ∀ i, i < 15 → (ints R2)[i]? = some (.int .i64 (R2.getD i 0)) := fun i hi => by
    unfold ints
    rw [List.getElem?_map, List.getD_eq_getElem?_getD, List.getElem?_eq_getElem (by rw [kr.l2]; exact hi)]; rfl
  refine ⟨102, rda rr16 ((gi 13 (by decide)).trans (by rw [kr.one])), cn (fun y => absurd rfl y) fun _ => ⟨⟨by decide, by decide⟩, 101, cell2 rr16 ((gi 3 (by decide)).trans (by rw [kr.dir])), cn (fun y => absurd rfl y) fun _ => ?_⟩⟩
  refine ⟨rfl, rfl, New.intro fun h24 n24 => ?_⟩
  have z24 := n24.size
  have q : Fr No h13 h24 := (n15.fr.no f16).new n24
  have s1' := (s1.fr f13 fun b _ hb y => by have := hP1 b hb; have := lt8 b y; omega).fr q fun _ _ _ y => y
  have s2' := (s2.fr f13 fun b _ hb y => by have := hP2 b hb; have := lt8 b y; omega).fr q fun _ _ _ y => y
  have F24 : Fr No h h24 := F13'.no q
  refine samePairs_spec (xs := [(0, 101), (10, 103)]) (ys := [(0, 101), (10, 103)]) s1'.cells (cellsAll n24.rd) (by decide) ⟨_, rfl, ct rfl (New.intro fun h26 n26 => ?_)⟩
  have z26 := n26.size
  refine same_spec (xs := [102]) (ys := [102]) (s2'.fr n26.fr fun _ _ _ y => y).cells (cellsAll n26.rd) (by decide) ⟨_, rfl, ct rfl ?_⟩
  have r15 : rd h26 h13.size = ints z15 := ((n26.at_ (by omega)).trans ((n24.at_ (by omega)).trans (f16.rd (by omega) fun y => y))).trans n15.rd
  exact ⟨ints z15, rfl, cellsAll r15, rfl, ct rfl (hK h26 (F24.new n26))⟩
end Go.Proofs.YtcdpakjhjmchhaaGreatDoor.Bm
/-
  bolelaw10: told.
-/
namespace Go.Proofs.YtcdpakjhjmchhaaGreatDoor.Bm
open Go Go.Proofs Go.Proofs.YtcdpakjhjmchhaaGreatDoor.Wx Go.Proofs.YtcdpakjhjmchhaaGreatDoor.Hp Go.Proofs.YtcdpakjhjmchhaaGreatDoor.W Go.Proofs.YtcdpakjhjmchhaaGreatDoor.Ad Go.Proofs.YtcdpakjhjmchhaaGreatDoor.Tm Go.Proofs.YtcdpakjhjmchhaaGreatDoor.Bt Go.Proofs.YtcdpakjhjmchhaaGreatDoor.Spc Go.Proofs.YtcdpakjhjmchhaaGreatDoor.Re Go.Proofs.YtcdpakjhjmchhaaGreatDoor.Av Go.Proofs.YtcdpakjhjmchhaaGreatDoor.Rm
open Go.Proofs.YtcdpakjhjmchhaaGreatDoor.Hd (ints)
open Go.Proofs.YtcdpakjhjmchhaaGreatDoor.In (Glo ints_length ints_one)

/-! all numbers of a record, none twice -/
end Go.Proofs.YtcdpakjhjmchhaaGreatDoor.Bm
/-
  bolelaw10: BmapLowest.
-/
namespace Go.Proofs.YtcdpakjhjmchhaaGreatDoor.Bm
open Go Go.Proofs Go.Proofs.YtcdpakjhjmchhaaGreatDoor.Wx Go.Proofs.YtcdpakjhjmchhaaGreatDoor.Hp Go.Proofs.YtcdpakjhjmchhaaGreatDoor.W Go.Proofs.YtcdpakjhjmchhaaGreatDoor.Ad Go.Proofs.YtcdpakjhjmchhaaGreatDoor.Tm Go.Proofs.YtcdpakjhjmchhaaGreatDoor.Bt Go.Proofs.YtcdpakjhjmchhaaGreatDoor.Spc Go.Proofs.YtcdpakjhjmchhaaGreatDoor.Re Go.Proofs.YtcdpakjhjmchhaaGreatDoor.Av Go.Proofs.YtcdpakjhjmchhaaGreatDoor.Rm
open Go.Proofs.YtcdpakjhjmchhaaGreatDoor.Hd (ints)
open Go.Proofs.YtcdpakjhjmchhaaGreatDoor.In (Glo ints_length ints_one)

theorem rowN_le (f : Nat → Nat) : ∀ (m k : Nat), (rowN f k m).length ≤ m
  | 0, _ => Nat.le_refl _
  | m + 1, k => by
    have := rowN_le f m (k + 1)
    show ((if f k = 0 then [] else [(((k : Nat) : Int), ((f k : Nat) : Int))]) ++ rowN f (k + 1) m).length ≤ _
    rw [List.length_append]
    split
    · rw [List.length_nil]; omega
    · rw [List.length_singleton]; omega
theorem Dom.le {f : Nat → Nat} {has : MapI} (a : Dom f has) : has.length ≤ 16522 := by rw [← a.len]; exact rowN_le f 16522 0
/-- a case under way -/
structure Lx (n : Nat) (h1 : Heap) (gb xb mb : Nat) (t d : Option Addr) (hh : Heap) (F : Nat → Prop) (T : TM) (Z : Nat → Txt) (R : List Int) (has : MapI) (u : Nat) : Prop where
  fr : Fr No h1 hh
  lo : h1.size ≤ gb
  rg : rd hh gb = (geoN n).v
  rx : rd hh xb = ints R
  ox : Own hh xb
  M : MapAt (.int .i64) hh mb (mI has)
  ne : xb ≠ mb ∧ gb < xb ∧ gb ≠ mb ∧ h1.size ≤ mb
  x : Tx hh F t d T
  nf : ¬ F gb ∧ ¬ F xb ∧ ¬ F mb
  fl : ∀ b, F b → h1.size ≤ b
  a : Av n Z T
  w : Wf n Z R
  tg : Tight Z R
  H : Has Z R has
  un : T.undo.length ≤ u
theorem Lx.lt {n u : Nat} {h1 hh : Heap} {gb xb mb : Nat} {t d : Option Addr} {F : Nat → Prop} {T : TM} {Z : Nat → Txt} {R : List Int} {has : MapI} (c : Lx n h1 gb xb mb t d hh F T Z R has u) : gb < hh.size ∧ xb < hh.size ∧ mb < hh.size :=
  ⟨rd_lt (o := 0) (v := .int .i64 (geoN n).blocks) (by rw [c.rg]; rfl), c.ox.lt, map_lt c.M⟩
theorem Lx.no {n u : Nat} {h1 hh h' : Heap} {gb xb mb : Nat} {t d : Option Addr} {F : Nat → Prop} {T : TM} {Z : Nat → Txt} {R : List Int} {has : MapI} (c : Lx n h1 gb xb mb t d hh F T Z R has u) (f : Fr No hh h') : Lx n h1 gb xb mb t d h' F T Z R has u := by
  obtain ⟨l1, l2, l3⟩ := c.lt
  exact { c with fr := c.fr.no f, rg := (f.rd l1 fun y => y).trans c.rg, rx := (f.rd l2 fun y => y).trans c.rx, ox := f.own l2 (fun y => y) c.ox, M := map_fr c.M f fun y => y, x := c.x.no f }
/-- a call in the transaction -/
theorem Lx.call {n u u' : Nat} {h1 hh h' : Heap} {gb xb mb : Nat} {t d : Option Addr} {F F' : Nat → Prop} {T T' : TM} {Z Z' : Nat → Txt} {R R' : List Int} {has has' : MapI} (c : Lx n h1 gb xb mb t d hh F T Z R has u) (f : Fr F hh h') (g : Gw hh F h' F') (x : Tx h' F' t d T') :
    Fr No h1 h' ∧ rd h' gb = (geoN n).v ∧ rd h' xb = ints R ∧ Own h' xb ∧ MapAt (.int .i64) h' mb (mI has) ∧ (¬ F' gb ∧ ¬ F' xb ∧ ¬ F' mb) ∧ ∀ b, F' b → h1.size ≤ b := by
  obtain ⟨l1, l2, l3⟩ := c.lt
  obtain ⟨n1, n2, n3⟩ := c.nf
  have s := c.fr.size
  refine ⟨c.fr.trans f fun b hb y => by have := c.fl b y; omega, (f.rd l1 n1).trans c.rg, (f.rd l2 n2).trans c.rx, f.own l2 n2 c.ox, map_fr c.M f n3, ⟨fun y => n1 ((g.old _ l1).mp y), fun y => n2 ((g.old _ l2).mp y), fun y => n3 ((g.old _ l3).mp y)⟩, fun b y => ?_⟩
  rcases g.new y with y | y
  · exact c.fl b y
  · omega
end Go.Proofs.YtcdpakjhjmchhaaGreatDoor.Bm
