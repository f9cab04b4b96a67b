/-
  bolelaw10: BmapGrows, walked.
-/
import Derived.Test.YtcdpakjhjmchhaaGreatDoorBnH
import Derived.Test.YtcdpakjhjmchhaaGreatDoorWtA
namespace Go.Proofs.YtcdpakjhjmchhaaGreatDoor.Bm
open Go Go.Proofs Go.Proofs.YtcdpakjhjmchhaaGreatDoor.Wx Go.Proofs.YtcdpakjhjmchhaaGreatDoor.Hp Go.Proofs.YtcdpakjhjmchhaaGreatDoor.W Go.Proofs.YtcdpakjhjmchhaaGreatDoor.Ad Go.Proofs.YtcdpakjhjmchhaaGreatDoor.Tm Go.Proofs.YtcdpakjhjmchhaaGreatDoor.Bt Go.Proofs.YtcdpakjhjmchhaaGreatDoor.Spc Go.Proofs.YtcdpakjhjmchhaaGreatDoor.Re Go.Proofs.YtcdpakjhjmchhaaGreatDoor.Av Go.Proofs.YtcdpakjhjmchhaaGreatDoor.Rm
open Go.Proofs.YtcdpakjhjmchhaaGreatDoor.Hd (ints)
open Go.Proofs.YtcdpakjhjmchhaaGreatDoor.In (Glo ints_length ints_one)

theorem many_le (Z : Nat → Txt) (R : List Int) : many Z R ≤ 16652 := cntB_le _ nS
theorem free_le (n : Nat) (Z : Nat → Txt) : frees n Z ≤ n := cntB_le _ n
theorem dk_zero (Z : Nat → Txt) (R : List Int) (s : Nat) : Dk Z R 0 s := ⟨fun _ => Nat.zero_le _, fun _ x _ _ h => by omega⟩
theorem grow_k5 {n u f0 xb mb : Nat} {h1 hh h4 h10 h12 : Heap} {t d : Option Addr} {F : Nat → Prop} {T : TM} {Z : Nat → Txt} {R : List Int} {has : MapI} {K : Value → Heap → Prop} (gl : Glo h1) (dm : Dim n) (c : Gx n h1 h4.size h10.size h12.size t d f0 hh F T Z R has u) (hu : u < 600000000) (hK : ∀ h', Fr No h1 h' → K (.bool true) h') (_ : xb = mb) :
    bolelaw10_BmapGrows.k5 h4 t ((f0 : Nat) : Int) h10 h12 ((frees n Z : Nat) : Int) hh K := by
  have X := c.l
  have un := X.un
  have gl1 := gl.lt
  unfold bolelaw10_BmapGrows.k5
  refine ⟨_, rfl, cellsAll X.rg, _, by rw [ints_length, X.w.rl], cellsAll X.rx, ?_⟩
  have g0 : ∀ b, b < 1 → ¬ F b := fun b hb y => by have := X.fl b y; omega
  rcases cut_ok (k := 0) dm X.a X.w X.tg (by decide) with ⟨e, _⟩ | ⟨T', R', Z', e, a', cd', _, _, _⟩
  · refine Cut_as (gl.no X.fr) (geoN_ok dm.hi) X.x X.a.live X.w.rl g0 (by omega) e fun h42 F42 f42 g42 x42 => ⟨_, _, rfl, NewRow.intro rfl (ints_one _) rfl fun h44 n44 => ?_⟩
    have X44 := (X.same f42 g42 x42).no n44.fr
    refine ⟨_, rfl, cellsAll X44.rg, free_as dm X44.x X44.a fun h45 f45 => ⟨_, _, rfl, num_spec ⟨_, rfl, ce (fun _ => num_spec ⟨_, rfl, ce (fun _ => ce (fun _ => (X44.no f45).told gl dm hK) fun y => absurd rfl y) fun y => absurd rfl y⟩) fun y => absurd rfl y⟩⟩⟩
  · have z : ∀ s, s < nS → num Z' R' s = 0 := fun s hs => cd'.gone s hs (dk_zero Z R s)
    have m0 : many Z' R' = 0 := cnt_zero fun s hs => by rw [z s hs]; rfl
    have hfm := cd'.frees X.w
    have htot := c.tot
    have ff : frees n Z' = f0 := by omega
    have w7 : Wf n Z' x77 := wf_nil rfl x77_get
    have eR : R' = x77 := rec_ext cd'.w w7 (fun i hi => by rw [cd'.head i hi, c.head i hi]) fun s hs _ => by rw [z s hs, num_nil x77_get s hs]
    refine Cut_as (gl.no X.fr) (geoN_ok dm.hi) X.x X.a.live X.w.rl g0 (by omega) e fun h42 F42 f42 g42 x42 => ⟨_, _, rfl, NewRow.intro (by rw [ints_length, cd'.w.rl]) (ints_one _) rfl fun h44 n44 => ?_⟩
    obtain ⟨c1, c2, c3, c4, c5, _, _⟩ := X.call (u' := 0) (Z' := Z') (R' := R') (has' := has) f42 g42 x42
    obtain ⟨l1, l2, l3⟩ := X.lt
    have z42 := f42.size
    have z44 := n44.size
    have rg44 : rd h44 h4.size = (geoN n).v := (n44.at_ (by omega)).trans c2
    refine ⟨_, rfl, cellsAll rg44, free_as dm (x42.no n44.fr) a' fun h45 f45 => ⟨_, _, rfl, num_spec ⟨_, rfl, ce (fun y => absurd y (by decide)) fun _ => num_spec ⟨_, rfl, ce (fun _ => num_spec ⟨_, rfl, ce (fun _ => ce (fun _ => ?_) fun y => absurd (by rw [ff]) y) fun y => absurd rfl y⟩) fun y => absurd rfl y⟩⟩⟩⟩
    have rx45 : rd h45 h10.size = ints R := (f45.rd (by omega) fun y => y).trans ((n44.at_ (by omega)).trans c3)
    have ry45 : rd h45 h42.size = ints R' := (f45.rd (by omega) fun y => y).trans n44.rd
    have hd := c.head
    have q0 : R.getD 0 0 = 1 := hd 0 (by decide)
    have q1 : R.getD 1 0 = 3 := hd 1 (by decide)
    have q2 : R.getD 2 0 = 77 := hd 2 (by decide)
    subst eR
    refine ⟨ints x77, rfl, cellsAll ry45, 1, rda rx45 ((ints_at X.w.rl (by decide)).trans (by rw [q0])), 3, rda rx45 ((ints_at X.w.rl (by decide)).trans (by rw [q1])), 77, rda rx45 ((ints_at X.w.rl (by decide)).trans (by rw [q2])), rfl, ?_⟩
    exact hK h45 ((c1.new n44).no f45)
theorem grow_k3 {n u f0 cb : Nat} {c0 c1 : Int} {h1 hh h4 h10 h12 : Heap} {h2 : Heap} {t d : Option Addr} {F : Nat → Prop} {T : TM} {Z : Nat → Txt} {R : List Int} {has : MapI} {K : Value → Heap → Prop} (gl : Glo h1) (dm : Dim n) (hn : n < 5000) (hcb : h2.size < h1.size) (rc : rd h1 h2.size = ints [c0, c1]) (c : Gx n h1 h4.size h10.size h12.size t d f0 hh F T Z R has u) (hu : u < 600000000) (hK : ∀ h', Fr No h1 h' → K (.bool true) h') (_ : cb = cb) :
    bolelaw10_BmapGrows.k3 h2 h4 t ((f0 : Nat) : Int) h10 h12 hh K := by
  have X := c.l
  have htot := c.tot
  have mle := many_le Z R
  have fle := free_le n Z
  unfold bolelaw10_BmapGrows.k3
  refine ⟨_, rfl, cellsAll X.rg, free_as dm X.x X.a fun h33 f33 => ⟨_, _, rfl, num_spec ⟨_, rfl, cn (fun y => absurd rfl y) fun _ => ?_⟩⟩⟩
  have X33 := X.no f33
  refine ⟨_, rfl, cellsAll X33.rg, _, by rw [ints_length, X.w.rl], cellsAll X33.rx, told_spec (gl.no X33.fr) dm X33.x X.a X.w X.tg X.H X33.M fun h35 f35 => ⟨_, rfl, cf rfl ?_⟩⟩
  have X35 := X33.no f35
  refine takes_as X35.M X.H.dom X.tg (up_f Z R) fun tk h36 et ht f36 => ⟨_, rfl, ?_⟩
  have et : tk = many Z R := et
  rw [wrap_i64 (n := ((f0 : Nat) : Int) - ((frees n Z : Nat) : Int)) (by omega) (by omega)]
  refine cn (fun y => absurd (by omega) y) fun _ => ?_
  have X36 := X35.no f36
  unfold bolelaw10_BmapGrows.k4
  have r36 : rd h36 h2.size = ints [c0, c1] := (X36.fr.rd hcb fun y => y).trans rc
  refine ⟨⟨by decide, by decide⟩, c1, rda r36 rfl, index_spec ⟨_, rfl, ?_⟩⟩
  have hk2 := idxN_lt c1
  generalize idxN c1 = k at hk2 ⊢
  refine ⟨_, rfl, cellsAll X36.rg, _, by rw [ints_length, X.w.rl], cellsAll X36.rx, Find_as (gl.no X36.fr) X36.x X.w.rl (find_ok X.a X.w hk2) fun h39 f39 => ⟨_, _, rfl, num_spec ⟨_, rfl, cn (fun y => absurd rfl y) fun _ => ?_⟩⟩⟩
  have X39 := X36.no f39
  refine ⟨_, X39.M, _, has_get X.H hk2, cn (fun y => absurd rfl y) fun _ => ?_⟩
  exact grow_k5 gl dm ⟨X39, c.tot, c.head⟩ hu hK (rfl : (0 : Nat) = 0)
def GrI (n m : Nat) (h1 : Heap) (gb xb mb : Nat) (t d : Option Addr) (f0 : Nat) : Int → Heap → Prop := fun i hh =>
  ∃ (j : Nat) (F : Nat → Prop) (T : TM) (Z : Nat → Txt) (R : List Int) (has : MapI), i = j ∧ j ≤ m ∧ Gx n h1 gb xb mb t d f0 hh F T Z R has (17000 * j)
def GrM (m : Nat) : Int → Heap → Nat := fun i _ => ((m : Int) - i).toNat
/-- an Add's answer is taken over -/
theorem grow_k6 {n u f0 m j k : Nat} {h1 h10 h12 h14 h26 h27 h28 h30 : Heap} {gb : Nat} {t d : Option Addr} {F F' : Nat → Prop} {T T' : TM} {Z Z' : Nat → Txt} {R R' : List Int} {has : MapI} {K : Value → Heap → Prop} (dm : n < 5000) (c : Gx n h1 gb h10.size h12.size t d f0 h27 F T Z R has u) (f : Fr F h27 h28) (g : Gw h27 F h28 F') (x : Tx h28 F' t d T') (n30 : Newly h28 h30 (ints R'))
    (hk : k < 16522) (hlt : (j : Int) < (m : Int)) (hm : m ≤ 200) (a : Av n Z' T') (ad : Added n Z R none (path k) Z' R') (nf : miss Z R (path k) = 0 → T' = T) (un : T'.undo.length ≤ 17000 * (j + 1)) (_ : h26 = h26) :
    bolelaw10_BmapGrows.k6 t h10 h12 (j : Int) h14 (GrI n m h1 gb h10.size h12.size t d f0) (GrM m) (k : Int) T.put.length h28 ((num Z' R' k : Nat) : Int) 0 h30 K := by
  have X := c.l
  obtain ⟨c1, c2, c3, c4, c5, ⟨c6, c7, c8⟩, c9⟩ := X.call (u' := 0) (Z' := Z') (R' := R') (has' := has) f g x
  obtain ⟨y1, y2, y3⟩ := X.lt
  have z28 := f.size
  have z30 := n30.size
  have hne := X.ne
  have ry : rd h30 h28.size = ints R' := n30.rd
  have rx : rd h30 h10.size = ints R := (n30.at_ (by omega)).trans c3
  have M30 : MapAt (.int .i64) h30 h12.size (mI has) := map_fr c5 n30.fr fun y => y
  have hd := ad.head
  have last : ∀ {hh h' hw : Heap}, Fr No h30 hh → MapTo (.int .i64) hh h12.size (mI (aput has k ((num Z' R' k : Nat) : Int))) h' → Did h10.size h' hw (put (rd h' h10.size) 0 (ints R')) → GrI n m h1 gb h10.size h12.size t d f0 (IntKind.wrap .i64 ((j : Int) + 1)) hw ∧ GrM m (IntKind.wrap .i64 ((j : Int) + 1)) hw < GrM m (j : Int) h14 := fun {hh h' hw} fh T3 d4 => by
    rw [wrap_i64 (n := (j : Int) + 1) (by omega) (by omega)]
    refine ⟨⟨j + 1, F', T', Z', R', _, by omega, by omega, X.put f g x (n30.fr.no fh) T3 (rfl : h28.size = h28.size) d4 a ad.w (ad.tight hk X.tg) (X.H.add ad hk) un, ?_, fun i hi => by rw [hd i hi, c.head i hi]⟩, falls hlt⟩
    rw [ad.total]; exact c.tot
  have o30 : Own h30 h10.size := n30.ow c4
  unfold bolelaw10_BmapGrows.k6
  have hc : ∀ i, i < 3 → cellOf h30 (Addr.add ⟨h28.size, 0, none⟩ i) = some (.int .i64 (R.getD i 0)) ∧ cellOf h30 (Addr.add ⟨h10.size, 0, none⟩ i) = some (.int .i64 (R.getD i 0)) := fun i hi =>
    ⟨rda ry (by rw [Nat.zero_add, ints_at ad.w.rl (by omega), hd i hi]), rda rx (by rw [Nat.zero_add, ints_at X.w.rl (by omega)])⟩
  refine num_spec ⟨_, rfl, cn (fun y => absurd rfl y) fun _ => ⟨_, (hc 0 (by decide)).1, _, (hc 0 (by decide)).2, cn (fun y => absurd rfl y) fun _ => ⟨_, (hc 1 (by decide)).1, _, (hc 1 (by decide)).2, cn (fun y => absurd rfl y) fun _ => ⟨_, (hc 2 (by decide)).1, _, (hc 2 (by decide)).2, cn (fun y => absurd rfl y) fun _ => ?_⟩⟩⟩⟩
  unfold bolelaw10_BmapGrows.k7
  refine ⟨_, M30, _, has_get X.H hk, ?_⟩
  have eg : mget (mI has) (.i (k : Int)) = if num Z R k = 0 then none else some (.int .i64 ((num Z R k : Nat) : Int)) := by
    rw [mI_mm, mget_mm, X.H.get k hk]
    split <;> rfl
  have puts : ∀ {hh : Heap}, Fr No h30 hh → ∀ h', MapTo (.int .i64) hh h12.size (mput (mI has) (.i (k : Int)) (.int .i64 ((num Z' R' k : Nat) : Int))) h' → (List.length (ints R') = 15 ∧ Cells h' ⟨h28.size, 0, none⟩ (ints R')) ∧
      PutRow ⟨h10.size, 0, none⟩ (ints R') 15 h' fun hw => GrI n m h1 gb h10.size h12.size t d f0 (IntKind.wrap .i64 ((j : Int) + 1)) hw ∧ GrM m (IntKind.wrap .i64 ((j : Int) + 1)) hw < GrM m (j : Int) h14 := fun {hh} fh h' T3 => by
    have zh := fh.size
    have f3 := mapTo_fr T3
    have ry' : rd h' h28.size = ints R' := (f3.rd (by omega) (by omega)).trans ((fh.rd (by omega) fun y => y).trans ry)
    have rx' : rd h' h10.size = ints R := (f3.rd (by omega) (by omega)).trans ((fh.rd (by omega) fun y => y).trans rx)
    have o' : Own h' h10.size := f3.own (by omega) (by omega) (fh.own (by omega) (fun y => y) o30)
    rw [mI_mm, mput_mm] at T3
    exact ⟨⟨by rw [ints_length, ad.w.rl], cellsAll ry'⟩, PutRow.intro o' (by rw [ints_length, ad.w.rl]) (ints_one _) (by rw [rx', ints_length, X.w.rl]; exact Nat.le_refl _) fun hw d4 => last fh T3 d4⟩
  by_cases h0 : num Z R k = 0
  · rw [eg, if_pos h0]
    refine cf rfl ⟨_, by rw [ints_length, ad.w.rl], cellsAll ry, _, M30, fun h' T3 => puts (Fr.refl _ _) h' T3⟩
  · rw [eg, if_neg h0]
    have m0 := miss_zero hk h0
    obtain ⟨eZ, eR⟩ := ad.same m0
    have eT := nf m0
    refine ct rfl (cn (fun y => absurd (by rw [ad.old k (path_self k) h0]) y) fun _ => ?_)
    have ry2 : rd h30 h28.size = ints R := by rw [ry, eR]
    refine ⟨ints R, by rw [ints_length, X.w.rl], cellsAll ry2, ints R, by rw [ints_length, X.w.rl], cellsAll rx, ?_, ?_⟩
    · obtain ⟨R0, hR0⟩ : ∃ R0, R0 = R := ⟨_, rfl⟩
      have hl : R.length = 15 := X.w.rl
      match R, hl with
      | [a0, a1, a2, a3, a4, a5, a6, a7, a8, a9, a10, a11, a12, a13, a14], _ => rfl
    · have ceq : cellsEq (ints R) (ints R) = true := by
        have : ∀ l : List Int, cellsEq (ints l) (ints l) = true := by
          intro l
          induction l with
          | nil => rfl
          | cons v l ih =>
            show ((v == v) && cellsEq (ints l) (ints l)) = true
            rw [ih, beq_self_eq_true]; rfl
        exact this R
      rw [ceq]
      refine cf rfl (Written_spec (x.no n30.fr) (by have := Bm.Av.put_le a; omega) fun a1 l1 c1' h55 f55 el _ => ⟨_, _, _, rfl, cn (fun y => absurd (by rw [el, eT]) y) fun _ => ?_⟩)
      have z55 := f55.size
      exact ⟨_, by rw [ints_length, ad.w.rl], cellsAll ((f55.rd (by omega) fun y => y).trans ry), _, map_fr M30 f55 fun y => y, fun h' T3 => puts f55 h' T3⟩
theorem grow_k2 {n u f0 m j k : Nat} {c0 c1 : Int} {h1 h2 h4 h10 h12 h14 hh : Heap} {t d : Option Addr} {F : Nat → Prop} {T : TM} {Z : Nat → Txt} {R : List Int} {has : MapI} {K : Value → Heap → Prop} (gl : Glo h1) (dm : Dim n) (hn : n < 5000) (hcb : h2.size < h1.size) (rc : rd h1 h2.size = ints [c0, c1]) (c : Gx n h1 h4.size h10.size h12.size t d f0 hh F T Z R has u) (hu : u + 9 ≤ 17000 * (j + 1))
    (hk : k < 16522) (hlt : (j : Int) < (m : Int)) (hm : m ≤ 200) (hK : ∀ h', Fr No h1 h' → K (.bool true) h') :
    bolelaw10_BmapGrows.k2 h2 h4 t ((f0 : Nat) : Int) h10 h12 (j : Int) h14 (GrI n m h1 h4.size h10.size h12.size t d f0) (GrM m) (k : Int) hh K := by
  have X := c.l
  have gl1 := gl.lt
  have un := X.un
  unfold bolelaw10_BmapGrows.k2
  refine Written_spec X.x (by have := Bm.Av.put_le X.a; omega) fun a1 l1 c1' h27 f27 el _ => ⟨_, _, _, rfl, ?_⟩
  have c27 := c.no f27
  have X27 := c27.l
  subst el
  have g0 : ∀ b, b < 1 → ¬ F b := fun b hb y => by have := X.fl b y; omega
  refine ⟨_, rfl, cellsAll X27.rg, _, by rw [ints_length, X.w.rl], cellsAll X27.rx, ?_⟩
  rcases add_ok (k := k) dm X.a X.w hk with ⟨e, _⟩ | ⟨e, _⟩ | ⟨T2, R2, Z2, e, a2, ad, nf, _, _, _⟩
  · refine Add_as (gl.no X27.fr) dm X27.x X.a.live X.w.rl g0 (by omega) e fun h28 F28 f28 g28 x28 => ⟨_, _, _, rfl, NewRow.intro rfl (ints_one _) rfl fun h30 n30 => num_spec ⟨_, rfl, ce (fun y => absurd y (by decide)) fun _ => num_spec ⟨_, rfl, ce (fun _ => ?_) fun y => absurd rfl y⟩⟩⟩
    exact grow_k3 gl dm hn hcb rc ⟨(X27.same f28 g28 x28).no n30.fr, c.tot, c.head⟩ (by omega) hK (rfl : (0 : Nat) = 0)
  · refine Add_as (gl.no X27.fr) dm X27.x X.a.live X.w.rl g0 (by omega) e fun h28 F28 f28 g28 x28 => ⟨_, _, _, rfl, NewRow.intro rfl (ints_one _) rfl fun h30 n30 => num_spec ⟨_, rfl, ce (fun _ => ?_) fun y => absurd rfl y⟩⟩
    exact grow_k3 gl dm hn hcb rc ⟨(X27.same f28 g28 x28).no n30.fr, c.tot, c.head⟩ (by omega) hK (rfl : (0 : Nat) = 0)
  · have un2 := addM_un (T := T) (g := geoN n) (R := R) (k := (k : Int))
    rw [e] at un2
    have un2 : T2.undo.length ≤ T.undo.length + 9 := un2
    refine Add_as (gl.no X27.fr) dm X27.x X.a.live X.w.rl g0 (by omega) e fun h28 F28 f28 g28 x28 => ⟨_, _, _, rfl, NewRow.intro (by rw [ints_length, ad.w.rl]) (ints_one _) rfl fun h30 n30 => num_spec ⟨_, rfl, ce (fun y => absurd y (by decide)) fun _ => num_spec ⟨_, rfl, ce (fun y => absurd y (by decide)) fun _ => ?_⟩⟩⟩
    exact grow_k6 hn c27 f28 g28 x28 n30 hk hlt hm a2 ad nf (by omega) (rfl : h27 = h27)
/-- the map while indices go -/
structure DlI (h0 hh : Heap) (it mb : Nat) (k : Nat) (has left hasc : MapI) : Prop where
  sz : h0.size ≤ hh.size
  fr : ∀ c, c < h0.size → c ≠ mb → c ≠ it → hh[c]? = h0[c]?
  I : MItAt hh it mb hasc left
  nd : (hasc.map (·.1)).Nodup
  sub : ∀ p ∈ left, p ∈ has
  get : ∀ j : Int, aget hasc j = if (k : Int) ≤ j ∧ (∀ p ∈ left, p.1 ≠ j) then none else aget has j
theorem Grows_spec {more c0 c1 : Int} {ta ra ia : Option Addr} {tc rc ic : Nat} {ks vs : List Int} {rs : List RawI} {h : Heap} {K : Value → Heap → Prop} (gl : Glo h) (X : SlCells h ta (ints ks)) (Y : SlCells h ra (rs.flatMap RawI.v)) (hY : ∀ r ∈ rs, StrAt h r.a r.l r.bs) (hkl : ks.length ≤ 140737488355328) (hrl : rs.length ≤ 140737488355328)
    (V : SlCells h ia (ints vs)) (_ : vs.length ≤ 140737488355328) (hc : vs.length ≤ ic) (hK : ∀ h', Fr No h h' → K (.bool true) h') : C.bolelaw10_BmapGrows (setupV more ta ks.length tc ra rs.length rc) ia vs.length ic (ints [c0, c1]) h K := by
  refine bolelaw10_BmapGrows.ok (New.intro fun h2 n2 => New.intro fun h3 n3 => ?_)
  have gl1 := gl.lt
  have z2 := n2.size
  have z3 := n3.size
  have F3 : Fr No h h3 := n2.fr.new n3
  have gl3 := gl.no F3
  have rc3 : rd h3 h2.size = ints [c0, c1] := n3.rd
  refine start_at gl3 ((n3.at_ n2.own.lt).trans n2.rd) (SlCells.fr F3 X fun _ _ y => y) (SlCells.fr F3 Y fun _ _ y => y) (fun r hr => StrAt.fr F3 (hY r hr) fun _ _ y => y) hkl hrl fun n t d F T Z h4 h6 dm hn F6 lo rg x hF a hks hun => ?_
  have V3 : SlCells h3 ia (ints vs) := SlCells.fr F3 V fun _ _ y => y
  have hcb : h2.size < h3.size := by omega
  have hK3 : ∀ h', Fr No h3 h' → K (.bool true) h' := fun h' f => hK h' (F3.no f)
  clear X Y hY V n2 n3 hK
  unfold bolelaw10_BmapGrows.k1
  refine ⟨_, rfl, cellsAll rg, free_as dm x a fun h9 f9 => ⟨_, _, rfl, num_spec ⟨_, rfl, cn (fun y => absurd rfl y) fun _ => NewRow.intro rfl (ints_one x77) rfl fun h12 n12 => ?_⟩⟩⟩
  have l4 : h4.size < h6.size := rd_lt (o := 0) (v := .int .i64 (geoN n).blocks) (by rw [rg]; rfl)
  have z9 := f9.size
  have z12 := n12.size
  have fm : Fr No h12 (newM h12) := newM_fr h12
  have zm := newM_size h12
  have F12 : Fr No h3 h12 := (F6.no f9).new n12
  have n0 : ∀ s, s < nS → num Z x77 s = 0 := num_nil x77_get
  have m0 : many Z x77 = 0 := cnt_zero fun s hs => by rw [n0 s hs]; rfl
  have rg9 : rd h9 h4.size = (geoN n).v := (f9.rd l4 fun y => y).trans rg
  obtain ⟨m, em, hm1, hm2⟩ : ∃ m : Nat, (if (200 : Int) < (vs.length : Int) then 200 else (vs.length : Int)) = (m : Int) ∧ m ≤ vs.length ∧ m ≤ 200 := by
    split
    · exact ⟨200, rfl, by omega, Nat.le_refl _⟩
    · exact ⟨vs.length, rfl, Nat.le_refl _, by omega⟩
  rw [em, Int.toNat_natCast]
  have L0 : Gx n h3 h4.size h9.size h12.size t d (frees n Z) (newM h12) F T Z x77 [] (17000 * 0) :=
    ⟨⟨F12.no fm, by omega, (fm.rd (by omega) fun y => y).trans ((n12.at_ (by omega)).trans rg9), (fm.rd (by omega) fun y => y).trans n12.rd, fm.own (by omega) (fun y => y) n12.own, newM_at h12, ⟨by omega, by omega, by omega, by omega⟩, (x.no (f9.new n12)).no fm,
      ⟨fun y => by have := hF _ y; omega, fun y => by have := hF _ y; omega, fun y => by have := hF _ y; omega⟩, fun b hb => (hF b hb).1, a, wf_nil rfl x77_get, tight_nil x77_get, Has.nil n0, by rw [hun]; exact Nat.zero_le _⟩, by rw [m0]; rfl, fun _ _ => rfl⟩
  generalize hf0 : frees n Z = f0 at L0 ⊢
  refine ⟨⟨by omega, by omega⟩, GrI n m h3 h4.size h9.size h12.size t d f0, GrM m, ⟨0, F, T, Z, x77, [], rfl, Nat.zero_le _, L0⟩, ?_⟩
  clear L0 n0 m0 rg9 hF x a rg hks hun hf0 fm F12 n12 f9
  intro i h14 hI
  obtain ⟨j, F1, T1, Z1, R1, has, ei, hj, c⟩ := hI
  have X := c.l
  subst ei
  refine cd (fun hlt => ?_) fun hlt => grow_k3 gl3 dm hn hcb rc3 c (by omega) hK3 (rfl : (0 : Nat) = 0)
  have hj' : j < vs.length := by omega
  obtain ⟨p, ep, cp⟩ := Hd.ints_get (SlCells.fr X.fr V3 fun _ _ y => y) hj'
  rw [Int.toNat_natCast]
  refine ⟨⟨by omega, hlt⟩, Tm.oe ep ⟨_, cp, index_spec ⟨_, rfl, ?_⟩⟩⟩
  have hk2 := idxN_lt vs[j]
  generalize idxN vs[j] = k at hk2 ⊢
  refine ce (fun _ => ?_) fun _ => grow_k2 gl3 dm hn hcb rc3 c (by omega) hk2 hlt hm2 hK3
  have r14 : rd h14 h2.size = ints [c0, c1] := (X.fr.rd hcb fun y => y).trans rc3
  refine ⟨⟨by decide, by decide⟩, c0, rda r14 rfl, index_spec ⟨_, rfl, ?_⟩⟩
  have ha2 := idxN_lt c0
  generalize idxN c0 = at_ at ha2 ⊢
  have g0 : ∀ b, b < 1 → ¬ F1 b := fun b hb y => by have := X.fl b y; omega
  have un := X.un
  refine ⟨_, rfl, cellsAll X.rg, _, by rw [ints_length, X.w.rl], cellsAll X.rx, ?_⟩
  rcases cut_ok (k := at_) dm X.a X.w X.tg (by omega) with ⟨e, _⟩ | ⟨T', R', Z', e, a', cd', _, _, _⟩
  · refine Cut_as (gl3.no X.fr) (geoN_ok dm.hi) X.x X.a.live X.w.rl g0 (by omega) e fun h17 F17 f17 g17 x17 => ⟨_, _, rfl, NewRow.intro rfl (ints_one _) rfl fun h19 n19 => num_spec ⟨_, rfl, ce (fun _ => ?_) fun y => absurd rfl y⟩⟩
    exact hK3 h19 (((X.same f17 g17 x17).no n19.fr).fr)
  have un2 := cutM_un (T := T1) (g := geoN n) (R := R1) (k := (at_ : Int))
  rw [e] at un2
  have un2 : T'.undo.length ≤ T1.undo.length + 16710 := un2
  refine Cut_as (gl3.no X.fr) (geoN_ok dm.hi) X.x X.a.live X.w.rl g0 (by omega) e fun h17 F17 f17 g17 x17 => ⟨_, _, rfl, NewRow.intro (by rw [ints_length, cd'.w.rl]) (ints_one _) rfl fun h19 n19 => num_spec ⟨_, rfl, ce (fun y => absurd y (by decide)) fun _ => num_spec ⟨_, rfl, cn (fun y => absurd rfl y) fun _ => ?_⟩⟩⟩
  obtain ⟨c1', c2, c3, c4, c5, ⟨c6, c7, c8⟩, c9⟩ := X.call (u' := 0) (Z' := Z') (R' := R') (has' := has) f17 g17 x17
  obtain ⟨y1, y2, y3⟩ := X.lt
  have z17 := f17.size
  have z19 := n19.size
  have hne := X.ne
  have rx19 : rd h19 h9.size = ints R1 := (n19.at_ (by omega)).trans c3
  refine ⟨_, by rw [ints_length, cd'.w.rl], cellsAll n19.rd, PutRow.intro (n19.ow c4) (by rw [ints_length, cd'.w.rl]) (ints_one _) (by rw [rx19, ints_length, X.w.rl]; exact Nat.le_refl _) fun h22 d22 => ?_⟩
  have z22 := d22.size
  have M22 : MapAt (.int .i64) h22 h12.size (mI has) := map_fr (map_fr c5 n19.fr fun y => y) d22.fr (by show ¬ h12.size = h9.size; omega)
  refine ⟨has, M22, fun h23 N => ?_⟩
  have z23 := N.size
  have N23 := N.at_
  have rx22 : rd h22 h9.size = ints R' := by rw [d22.rd, rx19]; exact put_all _ _ (by rw [ints_length, ints_length, cd'.w.rl, X.w.rl])
  have hdn : ∀ {hh : Heap} {left hasc : MapI}, DlI h22 hh h22.size h12.size at_ has left hasc → left = [] → Gx n h3 h4.size h9.size h12.size t d f0 hh F17 T' Z' R' hasc (17000 * j + 16710) := fun {hh left hasc} D e0 => by
    subst e0
    have sz := D.sz
    have H' := X.H.cut cd' D.nd fun jj => by
      rw [D.get jj]
      by_cases hle : (at_ : Int) ≤ jj
      · rw [if_pos ⟨hle, fun p hp => by cases hp⟩, if_pos hle]
      · rw [if_neg fun y => hle y.1, if_neg hle]
    have fw : Fr (fun b => b = h12.size) h22 hh := ⟨sz, fun b hb y => D.fr b hb y (by omega)⟩
    refine ⟨⟨?_, X.lo, ?_, ?_, ?_, ?_, hne, ?_, ⟨c6, c7, c8⟩, c9, a', cd'.w, cd'.tg, H', by omega⟩, ?_, fun i hi => by rw [cd'.head i hi, c.head i hi]⟩
    · exact ((c1'.new n19).trans d22.fr fun b hb y => by have y : b = h9.size := y; omega).trans fw fun b hb y => by have y : b = h12.size := y; omega
    · exact (fw.rd (by omega) (by omega)).trans ((d22.at_ (by omega) (by omega)).trans ((n19.at_ (by omega)).trans c2))
    · exact (fw.rd (by omega) (by omega)).trans rx22
    · exact fw.own (by omega) (by omega) d22.own
    · exact it_map D.I
    · exact ((x17.no n19.fr).fr d22.fr fun b hb y => c7 (by have y : b = h9.size := y; rw [← y]; exact hb)).fr fw fun b hb y => c8 (by have y : b = h12.size := y; rw [← y]; exact hb)
    · have := cd'.frees X.w
      have := c.tot
      omega
  refine ⟨fun hh => ∃ left hasc, DlI h22 hh h22.size h12.size at_ has left hasc, fun hh => leftLen hh h22.size, ⟨has, has, by omega, fun b h1 _ _ => N.same b h1, N23, X.H.nd, fun p hp => hp, fun jj => ?_⟩, ?_⟩
  · by_cases hle : (at_ : Int) ≤ jj ∧ ∀ p ∈ has, p.1 ≠ jj
    · rw [if_pos hle]; exact aget_none.mpr hle.2
    · rw [if_neg hle]
  rintro h24 ⟨left, hasc, D⟩
  have sz := D.sz
  refine ⟨rfl, _, hasc, left, D.I, fun e0 => grow_k2 gl3 dm hn hcb rc3 (hdn D e0) (by omega) hk2 hlt hm2 hK3, fun e he h25 N25 => ⟨rfl, _, _, _, N25.cur, ?_⟩⟩
  have N25 : ItTo h24 h22.size h12.size hasc left e h25 := N25
  have z25 := N25.size
  have hin := D.sub e he
  have hfil : ∀ p, p ∈ left.filter (fun p => p.1 != e.1) ↔ p ∈ left ∧ p.1 ≠ e.1 := fun p => by rw [List.mem_filter]; simp
  refine cd (fun hge => ?_) fun hge => ⟨⟨left.filter fun p => p.1 != e.1, hasc, by omega, fun b h1 h2 h3 => (N25.same b h3).trans (D.fr b h1 h2 h3), N25.at_, D.nd, fun p hp => D.sub p ((hfil p).mp hp).1, fun jj => ?_⟩, ?_⟩
  · refine ⟨_, it_map N25.at_, fun h60 T60 => ?_⟩
    have T60 : MapDl (.int .i64) h25 h12.size (.i e.1) (mdel (mI hasc) (.i e.1)) h60 := T60
    have I60 := it_del N25.at_ T60 (by omega)
    rw [List.filter_filter] at I60
    have ef : (left.filter fun a => a.1 != e.1 && a.1 != e.1) = left.filter fun p => p.1 != e.1 := by congr 1; funext a; exact Bool.and_self _
    rw [ef] at I60
    refine ⟨⟨left.filter fun p => p.1 != e.1, adel hasc e.1, by have := T60.size; omega, fun b h1 h2 h3 => (T60.same b h2).trans ((N25.same b h3).trans (D.fr b h1 h2 h3)), I60, adel_nodup D.nd, fun p hp => D.sub p ((hfil p).mp hp).1, fun jj => ?_⟩, ?_⟩
    · rw [aget_adel D.nd, D.get jj]
      by_cases hje : jj = e.1
      · rw [if_pos hje, if_pos ⟨by omega, fun p hp => by rw [hje]; exact ((hfil p).mp hp).2⟩]
      · rw [if_neg hje]
        by_cases hc2 : (at_ : Int) ≤ jj ∧ ∀ p ∈ left, p.1 ≠ jj
        · rw [if_pos hc2, if_pos ⟨hc2.1, fun p hp => hc2.2 p ((hfil p).mp hp).1⟩]
        · rw [if_neg hc2, if_neg fun y => hc2 ⟨y.1, fun p hp e' => y.2 p ((hfil p).mpr ⟨hp, by omega⟩) e'⟩]
    · show leftLen h60 h22.size < leftLen h24 h22.size
      rw [left_len I60, left_len D.I]; exact left_lt he
  · rw [D.get jj]
    by_cases hc2 : (at_ : Int) ≤ jj ∧ ∀ p ∈ left, p.1 ≠ jj
    · rw [if_pos hc2, if_pos ⟨hc2.1, fun p hp => hc2.2 p ((hfil p).mp hp).1⟩]
    · rw [if_neg hc2, if_neg fun y => hc2 ⟨y.1, fun p hp e' => ?_⟩]
      by_cases hpe : p.1 = e.1
      · omega
      · exact y.2 p ((hfil p).mpr ⟨hp, hpe⟩) e'
  · show leftLen h25 h22.size < leftLen h24 h22.size
    rw [left_len N25.at_, left_len D.I]; exact left_lt he
end Go.Proofs.YtcdpakjhjmchhaaGreatDoor.Bm
