/-
  bolelaw10: BmapLowest, walked.
-/
import Derived.Test.YtcdpakjhjmchhaaDoorBnD
namespace Go.Proofs.YtcdpakjhjmchhaaDoor.Bm
open Go Go.Proofs Go.Proofs.YtcdpakjhjmchhaaDoor.Wx Go.Proofs.YtcdpakjhjmchhaaDoor.Hp Go.Proofs.YtcdpakjhjmchhaaDoor.W Go.Proofs.YtcdpakjhjmchhaaDoor.Ad Go.Proofs.YtcdpakjhjmchhaaDoor.Tm Go.Proofs.YtcdpakjhjmchhaaDoor.Bt Go.Proofs.YtcdpakjhjmchhaaDoor.Spc Go.Proofs.YtcdpakjhjmchhaaDoor.Re Go.Proofs.YtcdpakjhjmchhaaDoor.Av Go.Proofs.YtcdpakjhjmchhaaDoor.Rm
open Go.Proofs.YtcdpakjhjmchhaaDoor.Hd (ints)
open Go.Proofs.YtcdpakjhjmchhaaDoor.In (Glo ints_length ints_one)

theorem from_edge {n : Nat} {Z : Nat → Txt} (hb : ∀ j, j < n → bit Z j = edge n j) : From_ n Z (geoN n).data := fun j => by
  rw [isFree_iff]
  constructor
  · rintro ⟨h1, h2, _⟩; exact ⟨h1, h2⟩
  · rintro ⟨h1, h2⟩
    refine ⟨h1, h2, ?_⟩
    rw [hb j h2]
    unfold edge
    rw [decide_eq_false (by omega), decide_eq_false (by omega)]; rfl
theorem setup_one {more : Int} {ta ra : Option Addr} {tl tc rl rc : Nat} : ∀ v ∈ setupV more ta tl tc ra rl rc, v.oneCell' = true := by
  intro v hv
  rcases List.mem_cons.mp hv with rfl | hv
  · rfl
  · rcases List.mem_cons.mp hv with rfl | hv
    · rfl
    · rw [List.mem_singleton.mp hv]; rfl
theorem Lx.stay {n u : Nat} {h1 hh h' : Heap} {gb xb mb : Nat} {t d : Option Addr} {F F' : Nat → Prop} {T : TM} {Z : Nat → Txt} {R : List Int} {has : MapI} (c : Lx n h1 gb xb mb t d hh F T Z R has u) (f : Fr F hh h') (g : Gw hh F h' F') (x : Tx h' F' t d T) : Lx n h1 gb xb mb t d h' F' T Z R has u := by
  obtain ⟨c1, c2, c3, c4, c5, c6, c7⟩ := c.call (u' := u) (Z' := Z) (R' := R) (has' := has) f g x
  exact ⟨c1, c.lo, c2, c3, c4, c5, c.ne, x, c6, c7, c.a, c.w, c.tg, c.H, c.un⟩
def LowI (n m : Nat) (h : Heap) (gb xb mb : Nat) (t d : Option Addr) : Int → Int → Heap → Prop := fun next i hh =>
  ∃ (j nx : Nat) (F' : Nat → Prop) (T' : TM) (Z' : Nat → Txt) (R' : List Int) (has : MapI), next = nx ∧ i = j ∧ j ≤ m ∧ Lx n h gb xb mb t d hh F' T' Z' R' has (9 * j) ∧ From_ n Z' nx ∧ nx ≤ n
def LowM (m : Nat) : Int → Int → Heap → Nat := fun _ i _ => ((m : Int) - i).toNat
theorem low_k2 {h8 h10 h12 h21 h24 : Heap} {next1 n2 n4 n5 n6 n7 a1 b1 a2 b2 : Int} {mi : Nat} {I : Int → Int → Heap → Prop} {M : Int → Int → Heap → Nat} {K : Value → Heap → Prop} (ew : IntKind.wrap .i64 (n5 - n6) = (mi : Int))
    (cA : cellOf h24 (Addr.add ⟨h8.size, 0, none⟩ 13) = some (.int .i64 a1)) (cB : cellOf h24 (Addr.add ⟨h21.size, 0, none⟩ 13) = some (.int .i64 b1)) (cC : cellOf h24 (Addr.add ⟨h8.size, 0, none⟩ 14) = some (.int .i64 a2)) (cD : cellOf h24 (Addr.add ⟨h21.size, 0, none⟩ 14) = some (.int .i64 b2))
    (l1 : a1 = 0 → b1 ≠ 0 → b1 = next1) (l2 : a2 = 0 → b2 ≠ 0 → b2 = next1) (k3 : bolelaw10_BmapLowest.k3 h8 h10 next1 n2 h12 I M n4 n5 n6 h21 n7 h24 K) : bolelaw10_BmapLowest.k2 h8 h10 next1 n2 h12 I M n4 n5 n6 h21 n7 h24 K := by
  unfold bolelaw10_BmapLowest.k2
  rw [ew]
  refine cd (fun _ => ⟨_, cA, ce (fun e1 => ⟨_, cB, cn (fun e2 => ⟨_, cB, cn (fun y => absurd (l1 e1 e2) y) fun _ => ?_⟩) fun _ => ?_⟩) fun _ => ?_⟩) fun _ => ?_
  · exact cd (fun _ => ⟨_, cC, ce (fun e1 => ⟨_, cD, cn (fun e2 => ⟨_, cD, cn (fun y => absurd (l2 e1 e2) y) fun _ => k3⟩) fun _ => k3⟩) fun _ => k3⟩) fun _ => k3
  · exact cd (fun _ => ⟨_, cC, ce (fun e1 => ⟨_, cD, cn (fun e2 => ⟨_, cD, cn (fun y => absurd (l2 e1 e2) y) fun _ => k3⟩) fun _ => k3⟩) fun _ => k3⟩) fun _ => k3
  · exact cd (fun _ => ⟨_, cC, ce (fun e1 => ⟨_, cD, cn (fun e2 => ⟨_, cD, cn (fun y => absurd (l2 e1 e2) y) fun _ => k3⟩) fun _ => k3⟩) fun _ => k3⟩) fun _ => k3
  · exact cd (fun _ => ⟨_, cC, ce (fun e1 => ⟨_, cD, cn (fun e2 => ⟨_, cD, cn (fun y => absurd (l2 e1 e2) y) fun _ => k3⟩) fun _ => k3⟩) fun _ => k3⟩) fun _ => k3
theorem low_k3 {n m j nx k mi : Nat} {h h7 h10 h12 h20 h21 h23 : Heap} {gb : Nat} {t d : Option Addr} {F F' : Nat → Prop} {T T' : TM} {Z Z' : Nat → Txt} {R R' : List Int} {has : MapI} {n5 n6 : Int} {K : Value → Heap → Prop} (X : Lx n h gb h7.size h10.size t d h20 F T Z R has (9 * j)) (f : Fr F h20 h21) (g : Gw h20 F h21 F') (x : Tx h21 F' t d T') (n23 : Newly h21 h23 (ints R'))
    (hk : k < 16522) (hlt : (j : Int) < (m : Int)) (hm : m ≤ 200) (hn : n < 5000) (hnx : nx ≤ n) (hmi : mi ≤ 3) (a2 : Av n Z' T') (ad : Added n Z R none (path k) Z' R') (un : T'.undo.length ≤ T.undo.length + 9) (ew : IntKind.wrap .i64 (n5 - n6) = (mi : Int)) (Fm : From_ n Z' (nx + mi)) (hle : nx + mi ≤ n) :
    bolelaw10_BmapLowest.k3 h7 h10 (nx : Int) (j : Int) h12 (LowI n m h gb h7.size h10.size t d) (LowM m) (k : Int) n5 n6 h21 ((num Z' R' k : Nat) : Int) h23 K := by
  obtain ⟨c1, c2, c3, c4, c5, ⟨c6, c7, c8⟩, c9⟩ := X.call (u' := 0) (Z' := Z') (R' := R') (has' := has) f g x
  have z21 := f.size
  have z23 := n23.size
  obtain ⟨y1, y2, y3⟩ := X.lt
  have hne := X.ne
  have lo := X.lo
  have ux := X.un
  have r23 : rd h23 h21.size = ints R' := n23.rd
  have rx23 : rd h23 h7.size = ints R := (n23.at_ (by omega)).trans c3
  unfold bolelaw10_BmapLowest.k3
  rw [ew]
  refine ⟨_, by rw [ints_length, ad.w.rl], cellsAll r23, _, map_fr c5 n23.fr fun y => y, fun h31 T31 => ?_⟩
  have z31 := T31.size
  have ha := T31.at_
  rw [mI_mm, mput_mm] at ha
  have f31 := mapTo_fr T31
  have r31 : rd h31 h21.size = ints R' := (f31.rd (by omega) (by omega)).trans r23
  have rx31 : rd h31 h7.size = ints R := (f31.rd (by omega) (by omega)).trans rx23
  have o31 : Own h31 h7.size := f31.own (by omega) (by omega) (n23.ow c4)
  refine ⟨⟨by rw [ints_length, ad.w.rl], cellsAll r31⟩, PutRow.intro o31 (by rw [ints_length, ad.w.rl]) (ints_one _) (by rw [rx31, ints_length, X.w.rl]; exact Nat.le_refl _) fun h32 d32 => ?_⟩
  have z32 := d32.size
  rw [wrap_i64 (n := (nx : Int) + (mi : Int)) (by omega) (by omega), wrap_i64 (n := (j : Int) + 1) (by omega) (by omega)]
  refine ⟨⟨j + 1, nx + mi, F', T', Z', R', aput has k ((num Z' R' k : Nat) : Int), by omega, by omega, by omega, ⟨?_, lo, ?_, ?_, d32.own, ?_, hne, ?_, ⟨c6, c7, c8⟩, c9, a2, ad.w, ad.tight hk X.tg, X.H.add ad hk, by omega⟩, Fm, hle⟩, falls hlt⟩
  · exact ((c1.new n23).trans f31 fun b hb y => by have y : b = h10.size := y; omega).trans d32.fr fun b hb y => by have y : b = h7.size := y; omega
  · exact (d32.at_ (by omega) (by omega)).trans ((f31.rd (by omega) (by omega)).trans ((n23.at_ (by omega)).trans c2))
  · rw [d32.rd, rx31]; exact put_all _ _ (by rw [ints_length, ints_length, ad.w.rl, X.w.rl])
  · exact map_fr (by rw [mI_mm]; exact ha) d32.fr (by show ¬ h10.size = h7.size; omega)
  · exact ((x.no n23.fr).fr f31 fun b hb y => c8 (by have y : b = h10.size := y; rw [← y]; exact hb)).fr d32.fr fun b hb y => c7 (by have y : b = h7.size := y; rw [← y]; exact hb)
theorem Lowest_spec {more : Int} {a : Option Addr} {c : Nat} {vs : List Int} {h : Heap} {K : Value → Heap → Prop} (gl : Glo h) (V : SlCells h a (ints vs)) (hl : vs.length ≤ 140737488355328) (hc : vs.length ≤ c)
    (hK : ∀ h', Fr No h h' → K (.bool true) h') : C.bolelaw10_BmapLowest more a vs.length c h K := by
  have gl1 := gl.lt
  refine bolelaw10_BmapLowest.ok (NewRow.intro rfl (setup_one (more := more)) rfl fun h3 n3 => ⟨_, rfl, cellsAll n3.rd, begin_spec (more := more) (ta := none) (tc := 0) (ra := none) (rc := 0) (ks := []) (rs := []) rfl rfl (fun r hr => by cases hr) (by simp) (by simp) fun t u q d F H L h4 f4 x4 y4 I hF _ => ⟨_, _, _, _, rfl, NewRow.intro rfl (G.one _) rfl fun h6 n6 => ?_⟩⟩)
  have hn := nOf_rng more
  generalize nOf more = n at hn I n6 ⊢
  have dm : Dim n := ⟨hn.1, by omega⟩
  have F4 : Fr No h h4 := n3.fr.no f4
  have F6 : Fr No h h6 := F4.new n6
  refine cf rfl (known_spec (gl.no F6) fun h7 f7 => ⟨_, rfl, cf rfl ?_⟩)
  have z3 := n3.size
  have z4 := f4.size
  have z6 := n6.size
  have z7 := f7.size
  unfold bolelaw10_BmapLowest.k1
  refine NewRow.intro rfl (ints_one z15) rfl fun h10 n10 => ?_
  have z10 := n10.size
  have rg10 : rd h10 h4.size = (geoN n).v := (n10.at_ (by omega)).trans ((f7.rd (by omega) fun y => y).trans n6.rd)
  refine ⟨((geoN n).data : Int), rda rg10 rfl, ?_⟩
  have fm : Fr No h10 (newM h10) := newM_fr h10
  have zm := newM_size h10
  obtain ⟨m, em, hm1, hm2⟩ : ∃ m : Nat, (if (200 : Int) < (vs.length : Int) then 200 else (vs.length : Int)) = (m : Int) ∧ m ≤ vs.length ∧ m ≤ 200 := by
    split
    · exact ⟨200, rfl, by omega, Nat.le_refl _⟩
    · exact ⟨vs.length, rfl, Nat.le_refl _, by omega⟩
  rw [em, Int.toNat_natCast]
  have hL := I.len
  have A0 := fresh_av hL
  have dat := dm.data
  have F10 : Fr No h h10 := (F6.no f7).new n10
  have hFlt : ∀ b, F b → b < h4.size := fun b => x4.lt
  have L0 : Lx n h h4.size h7.size h10.size t d (newM h10) F ⟨fresh (chunks L), [], [], false⟩ (Z0 L) z15 [] (9 * 0) :=
    ⟨F10.no fm, by omega, (fm.rd (by omega) fun y => y).trans rg10, (fm.rd (by omega) fun y => y).trans n10.rd, fm.own (by omega) (fun y => y) n10.own, newM_at h10, ⟨by omega, by omega, by omega, by omega⟩, (x4.no ((n6.fr.no f7).new n10)).no fm,
      ⟨fun y => by have := hFlt _ y; omega, fun y => by have := hFlt _ y; omega, fun y => by have := hFlt _ y; omega⟩, fun b hb => by have := hF b hb; omega, A0, wf_nil rfl fun i _ _ => z15_get i, tight_nil fun i _ _ => z15_get i, Has.nil (num_nil fun i _ _ => z15_get i), Nat.le_refl _⟩
  have Fm0 : From_ n (Z0 L) (geoN n).data := from_edge fun j hj => by
    rw [I.bit hn hj]
    unfold tkU
    rw [List.any_nil, Bool.or_false]
  refine ⟨⟨by omega, by omega⟩, LowI n m h h4.size h7.size h10.size t d, LowM m,
    ⟨0, (geoN n).data, F, _, Z0 L, z15, [], rfl, rfl, Nat.zero_le _, L0, Fm0, by omega⟩, ?_⟩
  clear L0 Fm0 A0 I n10 rg10 fm
  rintro _ _ h12 ⟨j, nx, F1, T1, Z1, R1, has, rfl, rfl, hj, X, Fm, hnx⟩
  refine cd (fun hlt => ?_) fun hlt => X.told gl dm hK
  have hj' : j < vs.length := by omega
  obtain ⟨p, ep, cp⟩ := Hd.ints_get (SlCells.fr X.fr V fun _ _ y => y) hj'
  rw [Int.toNat_natCast]
  refine ⟨⟨by omega, hlt⟩, Tm.oe ep ⟨_, cp, index_spec ⟨_, rfl, ?_⟩⟩⟩
  have hk2 := idxN_lt vs[j]
  generalize idxN vs[j] = k at hk2 ⊢
  obtain ⟨xl1, xl2, xl3⟩ := X.lt
  refine ⟨[], newM_at h12, fun h15 T15 => ?_⟩
  have M15 : MapAt (.int .i64) h15 h12.size (mI [((k : Int), 1)]) := T15.at_
  have z12 := newM_size h12
  have zz15 := T15.size
  have f15 : Fr No h12 h15 := ⟨by omega, fun b hb _ => (T15.same b (by omega)).trans ((newM_fr h12).same b hb fun y => y)⟩
  have X15 := X.no f15
  refine ⟨has, X15.M, fun h16 N => ?_⟩
  have z16 := N.size
  have N15 := N.at_
  refine ⟨fun hh => ∃ left need, NdI h15 hh h12.size h15.size h10.size k has left need, fun hh => leftLen hh h15.size, ⟨has, [((k : Int), 1)], by omega, fun b h1 _ _ => N.same b h1, N15, ?_, by simp, fun p hp => hp, fun x => ?_⟩, ?_⟩
  · obtain ⟨es, ck, e, q⟩ := M15
    exact ⟨es, ck, (N.same _ (by omega)).trans e, q⟩
  · constructor
    · intro y
      exact .inl (by simpa using y)
    · rintro (y | ⟨p, y, y2, _⟩)
      · rw [y]; simp
      · exact absurd y y2
  rintro h17 ⟨left, need, D⟩
  have s17 := D.sz
  have f17 : Fr No h12 h17 := ⟨by omega, fun b hb y => (D.fr b (by omega) (by omega) (by omega)).trans (f15.same b hb y)⟩
  refine ⟨rfl, _, has, left, D.I, fun e0 => ?_, fun e he h18 N18 => ⟨rfl, _, _, _, N18.cur, ?_⟩⟩
  rotate_left
  · have N18 : ItTo h17 h15.size h10.size has left e h18 := N18
    have hne : h12.size ≠ h15.size := by omega
    have hin := D.sub e he
    have M18 : MapAt (.int .i64) h18 h12.size (mI need) := by
      obtain ⟨es, ck, e', q⟩ := D.M
      exact ⟨es, ck, (N18.same _ hne).trans e', q⟩
    refine ⟨_, M18, fun h33 T33 => ?_⟩
    have ha := T33.at_
    rw [mI_mm, mput_mm] at ha
    obtain ⟨d1, d2⟩ := aput_dom e.1 1 need D.nd
    have I' : MItAt h33 h15.size h10.size has (left.filter fun p => p.1 != e.1) := it_keep N18.at_ (T33.same _ (by omega)) (T33.same _ hne.symm)
    refine ⟨⟨_, aput need e.1 1, by have := T33.size; have := N18.size; omega, fun b h1 h2 h3 => (T33.same b h2).trans ((N18.same b h3).trans (D.fr b h1 h2 h3)), I', ha, d1, fun p hp => D.sub p (List.mem_filter.mp hp).1, fun x => ?_⟩, ?_⟩
    · rw [d2 x, D.keys x]
      constructor
      · rintro (y | y | ⟨p, q1, q2, q3⟩)
        · exact .inr ⟨e, hin, fun z => by have := (List.mem_filter.mp z).2; simp at this, y⟩
        · exact .inl y
        · exact .inr ⟨p, q1, fun z => q2 (List.mem_filter.mp z).1, q3⟩
      · rintro (y | ⟨p, q1, q2, q3⟩)
        · exact .inr (.inl y)
        · by_cases hp : p ∈ left
          · have e1 : p.1 = e.1 := Decidable.byContradiction fun z => q2 (List.mem_filter.mpr ⟨hp, by simpa using z⟩)
            exact .inl (q3.trans e1)
          · exact .inr (.inr ⟨p, q1, hp, q3⟩)
    · show leftLen h33 h15.size < leftLen h17 h15.size
      rw [left_len I', left_len D.I]; exact left_lt he
  have X17 := X.no f17
  have dneed := dom_plus X.H.dom hk2 D.nd fun x => by
    rw [D.keys x]
    refine ⟨fun y => y.imp id fun ⟨p, q1, _, q3⟩ => List.mem_map.mpr ⟨p, q1, q3.symm⟩, fun y => y.imp id fun z => ?_⟩
    obtain ⟨p, q1, q2⟩ := List.mem_map.mp z
    exact ⟨p, q1, by rw [e0]; exact fun y => (by cases y), q2.symm⟩
  refine takes_as D.M dneed (plus_tight hk2 X.tg) (plus_up (up_f Z1 R1)) fun t1 h19 et1 ht1 f19 => ⟨_, rfl, takes_as (X17.no f19).M X.H.dom X.tg (up_f Z1 R1) fun t2 h20 et2 ht2 f20 => ⟨_, rfl, ?_⟩⟩
  have msl := miss_le Z1 R1 (path k)
  have hp3 : miss Z1 R1 (path k) ≤ 3 := Nat.le_trans msl (by
    unfold path
    split
    · simp
    · split <;> simp)
  rw [many_plus hk2] at et1
  have et2 : t2 = many Z1 R1 := et2
  have ew : IntKind.wrap .i64 ((t1 : Int) - (t2 : Int)) = ((miss Z1 R1 (path k) : Nat) : Int) := by rw [wrap_i64 (by omega) (by omega)]; omega
  rw [ew]
  have X20 := (X17.no f19).no f20
  have un := X.un
  have un20 : T1.undo.length < 700000000 := by omega
  have g0 : ∀ b, b < 1 → ¬ F1 b := fun b hb y => by have := X.fl b y; omega
  refine ⟨_, rfl, cellsAll X20.rg, _, by rw [ints_length, X.w.rl], cellsAll X20.rx, ?_⟩
  rcases add_ok (k := k) dm X.a X.w hk2 with ⟨e, _⟩ | ⟨e, hfr⟩ | ⟨T2, R2, Z2, e, a2, ad, nf, _⟩
  · refine Add_as (gl.no X20.fr) dm X20.x X20.a.live X20.w.rl g0 un20 e fun h21 F21 f21 g21 x21 => ⟨_, _, _, rfl, NewRow.intro rfl (ints_one _) rfl fun h23 n23 => num_spec ⟨_, rfl, cn (fun _ => ?_) fun y => absurd y (by decide)⟩⟩
    have X23 := (X20.stay f21 g21 x21).no n23.fr
    exact ⟨_, rfl, cellsAll X23.rg, free_as dm X23.x X23.a fun h25 f25 => ⟨_, _, rfl, num_spec ⟨_, rfl, ce (fun _ => num_spec ⟨_, rfl, ce (fun _ => (X23.no f25).told gl dm hK) fun y => absurd rfl y⟩) fun y => absurd rfl y⟩⟩⟩
  · refine Add_as (gl.no X20.fr) dm X20.x X20.a.live X20.w.rl g0 un20 e fun h21 F21 f21 g21 x21 => ⟨_, _, _, rfl, NewRow.intro rfl (ints_one _) rfl fun h23 n23 => num_spec ⟨_, rfl, cn (fun _ => ?_) fun y => absurd y (by decide)⟩⟩
    have X23 := (X20.stay f21 g21 x21).no n23.fr
    exact ⟨_, rfl, cellsAll X23.rg, free_as dm X23.x X23.a fun h25 f25 => ⟨_, _, rfl, num_spec ⟨_, rfl, ce (fun _ => num_spec ⟨_, rfl, ce (fun y => absurd y (by decide)) fun _ => num_spec ⟨_, rfl, ce (fun _ => cd (fun _ => (X23.no f25).told gl dm hK) fun y => absurd (by omega) y) fun y => absurd rfl y⟩⟩) fun y => absurd rfl y⟩⟩⟩
  refine Add_as (gl.no X20.fr) dm X20.x X20.a.live X20.w.rl g0 un20 e fun h21 F21 f21 g21 x21 => ⟨_, _, _, rfl, NewRow.intro (by rw [ints_length, ad.w.rl]) (ints_one _) rfl fun h23 n23 => num_spec ⟨_, rfl, cn (fun y => absurd rfl y) fun _ => ?_⟩⟩
  obtain ⟨Fm2, lk, l1, l2⟩ := ad.lowest hk2 Fm
  have z21 := f21.size
  obtain ⟨y1, y2, y3⟩ := X20.lt
  have hne := X.ne
  have un2 := addM_un (T := T1) (g := geoN n) (R := R1) (k := k)
  rw [e] at un2
  have nk := (ad.w.rng k (by unfold nS; omega) (ad.got k (path_self k))).2.1
  have hle : nx + miss Z1 R1 (path k) ≤ n := by
    by_cases hm0 : 0 < miss Z1 R1 (path k)
    · have := lk hm0; omega
    · omega
  have r23 : rd h23 h21.size = ints R2 := n23.rd
  have rx23 : rd h23 h7.size = ints R1 := (n23.at_ (by omega)).trans ((f21.rd y2 X20.nf.2.1).trans X20.rx)
  have k3 := low_k3 (K := K) (h12 := h12) X20 f21 g21 x21 n23 hk2 hlt hm2 (by omega) hnx hp3 a2 ad un2 ew Fm2 hle
  obtain ⟨_, ro1, rt1⟩ := roots_num X.w
  obtain ⟨_, ro2, rt2⟩ := roots_num ad.w
  have gi : ∀ (R : List Int) i, R.length = 15 → i < 15 → (ints R)[i]? = some (.int .i64 (R.getD i 0)) := fun R i hR hi => by
    unfold ints
    rw [List.getElem?_map, List.getD_eq_getElem?_getD, List.getElem?_eq_getElem (by rw [hR]; exact hi)]; rfl
  have cA : cellOf h23 (Addr.add ⟨h7.size, 0, none⟩ 13) = some (.int .i64 ((num Z1 R1 16522 : Nat) : Int)) := rda rx23 ((gi R1 13 X.w.rl (by decide)).trans (by rw [ro1]))
  have cB : cellOf h23 (Addr.add ⟨h21.size, 0, none⟩ 13) = some (.int .i64 ((num Z2 R2 16522 : Nat) : Int)) := rda r23 ((gi R2 13 ad.w.rl (by decide)).trans (by rw [ro2]))
  have cC : cellOf h23 (Addr.add ⟨h7.size, 0, none⟩ 14) = some (.int .i64 ((num Z1 R1 16523 : Nat) : Int)) := rda rx23 ((gi R1 14 X.w.rl (by decide)).trans (by rw [rt1]))
  have cD : cellOf h23 (Addr.add ⟨h21.size, 0, none⟩ 14) = some (.int .i64 ((num Z2 R2 16523 : Nat) : Int)) := rda r23 ((gi R2 14 ad.w.rl (by decide)).trans (by rw [rt2]))
  have k2 := low_k2 ew cA cB cC cD (fun e1 e2 => by have := l1 (by omega) (by omega); omega) (fun e1 e2 => by have := l2 (by omega) (by omega); omega) k3
  refine cd (fun hm => cn (fun y => absurd ?_ y) fun _ => k2) fun _ => k2
  have := lk (by omega)
  rw [wrap_i64 (n := (nx : Int) + ((miss Z1 R1 (path k) : Nat) : Int)) (by omega) (by omega), wrap_i64 (by omega) (by omega)]
  omega
end Go.Proofs.YtcdpakjhjmchhaaDoor.Bm
