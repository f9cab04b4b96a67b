/-
  bolelaw10: BmapCuts, its end.
-/
import Derived.Test.YtcdpakjhjmchhaaGreatDoorBnJ
import Derived.Test.YtcdpakjhjmchhaaGreatDoorWtA
namespace Go.Proofs.YtcdpakjhjmchhaaGreatDoor.Bm
open Go Go.Proofs Go.Proofs.YtcdpakjhjmchhaaGreatDoor.Wx Go.Proofs.YtcdpakjhjmchhaaGreatDoor.Hp Go.Proofs.YtcdpakjhjmchhaaGreatDoor.W Go.Proofs.YtcdpakjhjmchhaaGreatDoor.Ad Go.Proofs.YtcdpakjhjmchhaaGreatDoor.Tm Go.Proofs.YtcdpakjhjmchhaaGreatDoor.Bt Go.Proofs.YtcdpakjhjmchhaaGreatDoor.Spc Go.Proofs.YtcdpakjhjmchhaaGreatDoor.Re Go.Proofs.YtcdpakjhjmchhaaGreatDoor.Av Go.Proofs.YtcdpakjhjmchhaaGreatDoor.Rm
open Go.Proofs.YtcdpakjhjmchhaaGreatDoor.Hd (ints)
open Go.Proofs.YtcdpakjhjmchhaaGreatDoor.In (Glo ints_length ints_one)

def strV (Z : Nat → Txt) (v : Int) : Value := .string (mkStr (Z v.toNat))
/-- the map of what is left, under way -/
structure LfI (h0 hh : Heap) (nb it r : Nat) (low : Nat) (has left lm : MapI) : Prop where
  sz : h0.size < hh.size
  fr : ∀ c, c < h0.size → c ≠ nb → c ≠ it → hh[c]? = h0[c]?
  I : MItAt hh it r has left
  M : MapAt (.int .i64) hh nb (mI lm)
  nd : (lm.map (·.1)).Nodup
  sub : ∀ p ∈ left, p ∈ has
  get : ∀ j : Int, aget lm j = if j < (low : Int) ∧ (∀ p ∈ left, p.1 ≠ j) then aget has j else none
theorem aget_of_mem {has : MapI} (nd : (has.map (·.1)).Nodup) {e : Int × Int} (h : e ∈ has) : aget has e.1 = some e.2 := by
  induction has with
  | nil => cases h
  | cons p r ih =>
    obtain ⟨k, u⟩ := p
    rw [List.map_cons, List.nodup_cons] at nd
    show (bif e.1 == k then some u else aget r e.1) = some e.2
    rcases List.mem_cons.mp h with rfl | h
    · show (bif k == k then _ else _) = _
      rw [beq_self_eq_true]; rfl
    · have : e.1 ≠ k := fun y => nd.1 (y ▸ List.mem_map.mpr ⟨e, h, rfl⟩)
      rw [beq_eq_false_iff_ne.mpr this]
      exact ih nd.2 h
theorem cuts_k6 {n low : Nat} {h1 h4 h10 h45 h : Heap} {t d : Option Addr} {F : Nat → Prop} {T3 : TM} {Z Z1 Z3 : Nat → Txt} {R R3 : List Int} {has : MapI} {W : List Int} {a1 ba : Option Addr} {K : Value → Heap → Prop} (gl : Glo h1) (dm : Dim n) (fb : Fr No h1 h) (rg : rd h h4.size = (geoN n).v) (r3 : rd h h45.size = ints R3) (M : MapAt (.int .i64) h h10.size (mI has)) (x : Tx h F t d T3)
    (a3 : Av n Z3 T3) (w3 : Wf n Z3 R3) (tg3 : Tight Z3 R3) (w : Wf n Z R) (H : Has Z R has) (hW : ∀ v ∈ W, 98 ≤ v ∧ v < n) (hl : W.length ≤ 140737488355328) (s1 : SlCells h a1 (ints W)) (sb : SlCells h ba (W.map (strV Z1))) (l1 : ∀ i, i < n → (Z1 i).length = 512)
    (eb : ∀ j, 98 + j / 4096 < (geoN n).inodes → bit Z3 j = bit Z1 j) (kept : ∀ s, s < 16522 → num Z3 R3 s = if s < low then num Z R s else 0) (gone : ∀ s, s < 16522 → num Z R s ≠ 0 → bit Z3 (num Z R s) = decide (s < low)) (hK : ∀ h', Fr No h1 h' → K (.bool true) h') :
    bolelaw10_BmapCuts.k6 h4 t h10 (low : Int) a1 W.length ba W.length h45 h K := by
  have lg : h4.size < h.size := rd_lt (o := 0) (v := .int .i64 (geoN n).blocks) (by rw [rg]; rfl)
  have lr : h45.size < h.size := rd_lt (o := 0) (v := .int .i64 (R3.getD 0 0)) (by rw [r3]; exact ints_at w3.rl (by decide))
  have lm0 := map_lt M
  unfold bolelaw10_BmapCuts.k6
  have f0 : Fr No h (newM h) := newM_fr h
  have z0 := newM_size h
  have m0 := newM_at h
  refine ⟨has, map_fr M f0 fun y => y, fun h61 N => ?_⟩
  have z61 := N.size
  have N1 := N.at_
  refine ⟨fun hh => ∃ left lm, LfI (newM h) hh h.size (newM h).size h10.size low has left lm, fun hh => leftLen hh (newM h).size, ⟨has, [], by omega, fun b hb _ _ => N.same b hb, N1, ?_, List.nodup_nil, fun p hp => hp, fun j => ?_⟩, ?_⟩
  · obtain ⟨es, ck, e, q⟩ := m0
    exact ⟨es, ck, (N.same _ (by omega)).trans e, q⟩
  · by_cases hj : j < (low : Int) ∧ ∀ p ∈ has, p.1 ≠ j
    · rw [if_pos hj]; exact (aget_none.mpr hj.2).symm
    · rw [if_neg hj]; rfl
  rintro h62 ⟨left, lm, D⟩
  have sz := D.sz
  have f62 : Fr No h h62 := ⟨by omega, fun b hb y => (D.fr b (by omega) (by omega) (by omega)).trans (f0.same b hb y)⟩
  refine ⟨rfl, _, has, left, D.I, fun e0 => ?_, fun e he h63 N63 => ⟨rfl, _, _, _, N63.cur, ?_⟩⟩
  · -- all is walked
    have H3 : Has Z3 R3 lm := by
      refine ⟨D.nd, fun p hp => ?_, fun j hj => ?_⟩
      · have e := aget_of_mem D.nd hp
        rw [D.get] at e
        split at e
        · exact H.rng (p.1, p.2) (aget_mem e)
        · cases e
      · rw [D.get, kept j hj, e0]
        by_cases hjl : j < low
        · rw [if_pos ⟨by omega, fun p hp => by cases hp⟩, if_pos hjl, H.get j hj]
        · rw [if_neg fun y => hjl (by have := y.1; omega), if_neg hjl, if_pos rfl]
    refine ⟨fun i hh => ∃ j : Nat, i = j ∧ j ≤ W.length ∧ Fr No h62 hh, fun i _ => ((W.length : Int) - i).toNat, ⟨0, rfl, Nat.zero_le _, Fr.refl _ _⟩, ?_⟩
    rintro _ h64 ⟨j, rfl, hj, f64⟩
    have f64' := f62.no f64
    have rg64 : rd h64 h4.size = (geoN n).v := (f64'.rd lg fun y => y).trans rg
    refine cd (fun hlt => ?_) fun hlt => ?_
    · have hj' : j < W.length := by omega
      obtain ⟨p, ep, cp⟩ := Hd.ints_get (SlCells.fr f64' s1 fun _ _ y => y) hj'
      rw [Int.toNat_natCast]
      have hv := hW W[j] (List.getElem_mem hj')
      refine ⟨⟨by omega, hlt⟩, Tm.oe ep ⟨_, cp, Tm.Read_spec (x.no f64') fun sa sl sc h65 f65 el s => ⟨_, _, _, _, rfl, num_spec ⟨_, rfl, ?_⟩⟩⟩⟩
      have ev : W[j] = ((W[j].toNat : Nat) : Int) := by omega
      have er := a3.z W[j].toNat (by omega)
      rw [← ev] at er
      rw [er] at s el ⊢
      have f65' := f64'.no f65
      refine cn (fun y => absurd rfl y) fun _ => ⟨((geoN n).inodes : Int), rda ((f65'.rd lg fun y => y).trans rg) rfl, ?_⟩
      rw [wrap_i64 (n := (j : Int) + 1) (by omega) (by omega)]
      have nxt : (∃ j' : Nat, (j : Int) + 1 = j' ∧ j' ≤ W.length ∧ Fr No h62 h65) ∧ ((W.length : Int) - ((j : Int) + 1)).toNat < ((W.length : Int) - (j : Int)).toNat := ⟨⟨j + 1, by omega, hj', f64.no f65⟩, falls hlt⟩
      refine cd (fun hi => ?_) fun _ => nxt
      have hs := s.str
      have eZ : Z3 W[j].toNat = Z1 W[j].toNat := map_bits (by omega) (by omega) (a3.len _ (by omega)) (l1 _ (by omega)) eb
      have cb : ∃ q, ba = some q ∧ cellOf h65 (q.add j) = some (strV Z1 W[j]) := by
        have c := SlCells.fr f65' sb fun _ _ y => y
        cases ba with
        | none =>
          have c : W.map (strV Z1) = [] := c
          have := List.map_eq_nil_iff.mp c
          rw [this] at hj'; exact absurd hj' (by simp)
        | some q => exact ⟨q, rfl, c j _ (by rw [List.getElem?_map, List.getElem?_eq_getElem hj']; rfl)⟩
      obtain ⟨q, eq, cq⟩ := cb
      have el : sl = 512 := by rw [el]; exact a3.len _ (by omega)
      refine ⟨Z3 W[j].toNat, ?_, ⟨by omega, hlt⟩, Tm.oe eq ⟨_, cq, ?_⟩⟩
      · exact hs
      · rw [eZ]
        have et : ((mkStr (Z1 W[j].toNat)).toList == (mkStr (Z1 W[j].toNat)).toList) = true := beq_self_eq_true _
        rw [et]
        exact cf rfl nxt
    · refine ⟨_, rfl, cellsAll rg64, _, by rw [ints_length, w3.rl], cellsAll ((f64'.rd lr fun y => y).trans r3), told_spec (gl.no (fb.no f64')) dm (x.no f64') a3 w3 tg3 H3 ?_ fun h' f' => ⟨true, rfl, hK h' ((fb.no f64').no f')⟩⟩
      exact map_fr D.M f64 fun y => y
  · have N63 : ItTo h62 (newM h).size h10.size has left e h63 := N63
    have hin := D.sub e he
    obtain ⟨k, hk, ek, k0⟩ := H.dom.mem.mp (List.mem_map.mpr ⟨e, hin, rfl⟩)
    have ge := aget_of_mem H.nd hin
    rw [ek, H.get k hk, if_neg k0] at ge
    have ev : e.2 = ((num Z R k : Nat) : Int) := (Option.some.inj ge).symm
    have rk := w.rng k (by unfold nS; omega) k0
    have z63 := N63.size
    have f63 : Fr No h h63 := ⟨by omega, fun b hb y => (N63.same b (by omega)).trans (f62.same b hb y)⟩
    rw [ek, ev]
    refine ⟨_, rfl, cellsAll ((f63.rd lg fun y => y).trans rg), used_as dm (x.no f63) a3 rk.2.1 fun h68 f68 => ⟨_, _, rfl, num_spec ⟨_, rfl, cn (fun y => absurd rfl y) fun _ => ?_⟩⟩⟩
    rw [gone k hk k0]
    have edd : decide ((k : Int) < (low : Int)) = decide (k < low) := decide_eq_decide.mpr (by omega)
    rw [edd]
    refine cnot (ct (beq_self_eq_true _) ?_)
    unfold bolelaw10_BmapCuts.k7
    have hne : h.size ≠ (newM h).size := by omega
    have z68 := f68.size
    have I68 : MItAt h68 (newM h).size h10.size has (left.filter fun p => p.1 != e.1) := it_keep N63.at_ (f68.same _ (by omega) fun y => y) (f68.same _ (by omega) fun y => y)
    have M68 : MapAt (.int .i64) h68 h.size (mI lm) := by
      obtain ⟨es, ck, e', q⟩ := D.M
      exact map_fr ⟨es, ck, (N63.same _ hne).trans e', q⟩ f68 fun y => y
    have hfil : ∀ p, p ∈ left.filter (fun p => p.1 != e.1) ↔ p ∈ left ∧ p.1 ≠ e.1 := fun p => by rw [List.mem_filter]; simp
    have fr68 : ∀ c, c < (newM h).size → c ≠ h.size → c ≠ (newM h).size → h68[c]? = (newM h)[c]? := fun c h1 h2 h3 => (f68.same c (by omega) fun y => y).trans ((N63.same c h3).trans (D.fr c h1 h2 h3))
    refine cd (fun hlt => ⟨_, M68, fun h71 T71 => ?_⟩) fun hge => ⟨⟨_, lm, by omega, fr68, I68, M68, D.nd, fun p hp => D.sub p ((hfil p).mp hp).1, fun j => ?_⟩, ?_⟩
    · have ha := T71.at_
      rw [mI_mm, mput_mm] at ha
      obtain ⟨d1, d2⟩ := aput_dom (k : Int) ((num Z R k : Nat) : Int) lm D.nd
      have I71 : MItAt h71 (newM h).size h10.size has (left.filter fun p => p.1 != e.1) := it_keep I68 (T71.same _ (by omega)) (T71.same _ hne.symm)
      refine ⟨⟨_, aput lm k ((num Z R k : Nat) : Int), by have := T71.size; omega, fun c h1 h2 h3 => (T71.same c h2).trans (fr68 c h1 h2 h3), I71, ha, d1, fun p hp => D.sub p ((hfil p).mp hp).1, fun j => ?_⟩, ?_⟩
      · rw [aget_aput, D.get]
        by_cases hje : j = (k : Int)
        · rw [if_pos hje, if_pos ⟨by omega, fun p hp => by rw [hje, ← ek]; exact ((hfil p).mp hp).2⟩, hje, H.get k hk, if_neg k0]
        · rw [if_neg hje]
          by_cases hc : j < (low : Int) ∧ ∀ p ∈ left, p.1 ≠ j
          · rw [if_pos hc, if_pos ⟨hc.1, fun p hp => hc.2 p ((hfil p).mp hp).1⟩]
          · rw [if_neg hc, if_neg fun y => hc ⟨y.1, fun p hp e' => y.2 p ((hfil p).mpr ⟨hp, fun q => hje (by rw [← e', q, ek])⟩) e'⟩]
      · show leftLen h71 (newM h).size < leftLen h62 (newM h).size
        rw [left_len I71, left_len D.I]; exact left_lt he
    · rw [D.get]
      by_cases hc : j < (low : Int) ∧ ∀ p ∈ left, p.1 ≠ j
      · rw [if_pos hc, if_pos ⟨hc.1, fun p hp => hc.2 p ((hfil p).mp hp).1⟩]
      · rw [if_neg hc, if_neg fun y => hc ⟨y.1, fun p hp e' => ?_⟩]
        by_cases hpe : p.1 = e.1
        · have := y.1; omega
        · exact y.2 p ((hfil p).mpr ⟨hp, hpe⟩) e'
    · show leftLen h68 (newM h).size < leftLen h62 (newM h).size
      rw [left_len I68, left_len D.I]; exact left_lt he
/-! a case whose answer is not yet taken over -/
structure Lc (n : Nat) (h1 : Heap) (gb xb mb : Nat) (t d : Option Addr) (hh : Heap) (F : Nat → Prop) (T : TM) (R : List Int) (has : MapI) : Prop where
  fr : Fr No h1 hh
  lo : h1.size ≤ gb
  rg : rd hh gb = (geoN n).v
  rx : rd hh xb = ints R
  ox : Own hh xb
  M : MapAt (.int .i64) hh mb (mI has)
  ne : xb ≠ mb ∧ gb < xb ∧ gb ≠ mb ∧ h1.size ≤ mb
  x : Tx hh F t d T
  nf : ¬ F gb ∧ ¬ F xb ∧ ¬ F mb
  fl : ∀ b, F b → h1.size ≤ b
  rl : R.length = 15
theorem Lx.c {n u : Nat} {h1 hh : Heap} {gb xb mb : Nat} {t d : Option Addr} {F : Nat → Prop} {T : TM} {Z : Nat → Txt} {R : List Int} {has : MapI} (c : Lx n h1 gb xb mb t d hh F T Z R has u) : Lc n h1 gb xb mb t d hh F T R has :=
  ⟨c.fr, c.lo, c.rg, c.rx, c.ox, c.M, c.ne, c.x, c.nf, c.fl, c.w.rl⟩
theorem Lc.lx {n u : Nat} {h1 hh : Heap} {gb xb mb : Nat} {t d : Option Addr} {F : Nat → Prop} {T : TM} {Z : Nat → Txt} {R : List Int} {has : MapI} (c : Lc n h1 gb xb mb t d hh F T R has) (a : Av n Z T) (w : Wf n Z R) (tg : Tight Z R) (H : Has Z R has) (un : T.undo.length ≤ u) : Lx n h1 gb xb mb t d hh F T Z R has u :=
  ⟨c.fr, c.lo, c.rg, c.rx, c.ox, c.M, c.ne, c.x, c.nf, c.fl, a, w, tg, H, un⟩
theorem Lc.lt {n : Nat} {h1 hh : Heap} {gb xb mb : Nat} {t d : Option Addr} {F : Nat → Prop} {T : TM} {R : List Int} {has : MapI} (c : Lc n h1 gb xb mb t d hh F T R has) : gb < hh.size ∧ xb < hh.size ∧ mb < hh.size :=
  ⟨rd_lt (o := 0) (v := .int .i64 (geoN n).blocks) (by rw [c.rg]; rfl), c.ox.lt, map_lt c.M⟩
theorem Lc.no {n : Nat} {h1 hh h' : Heap} {gb xb mb : Nat} {t d : Option Addr} {F : Nat → Prop} {T : TM} {R : List Int} {has : MapI} (c : Lc n h1 gb xb mb t d hh F T R has) (f : Fr No hh h') : Lc n h1 gb xb mb t d h' F T R has := by
  obtain ⟨l1, l2, l3⟩ := c.lt
  exact { c with fr := c.fr.no f, rg := (f.rd l1 fun y => y).trans c.rg, rx := (f.rd l2 fun y => y).trans c.rx, ox := f.own l2 (fun y => y) c.ox, M := map_fr c.M f fun y => y, x := c.x.no f }
theorem Lc.call {n : Nat} {h1 hh h' : Heap} {gb xb mb : Nat} {t d : Option Addr} {F F' : Nat → Prop} {T T' : TM} {R : List Int} {has : MapI} (c : Lc n h1 gb xb mb t d hh F T R has) (f : Fr F hh h') (g : Gw hh F h' F') (x : Tx h' F' t d T') : Lc n h1 gb xb mb t d h' F' T' R has := by
  obtain ⟨l1, l2, l3⟩ := c.lt
  obtain ⟨n1, n2, n3⟩ := c.nf
  have s := c.fr.size
  refine ⟨c.fr.trans f fun b hb y => by have := c.fl b y; omega, c.lo, (f.rd l1 n1).trans c.rg, (f.rd l2 n2).trans c.rx, f.own l2 n2 c.ox, map_fr c.M f n3, c.ne, x, ⟨fun y => n1 ((g.old _ l1).mp y), fun y => n2 ((g.old _ l2).mp y), fun y => n3 ((g.old _ l3).mp y)⟩, fun b y => ?_, c.rl⟩
  rcases g.new y with y | y
  · exact c.fl b y
  · omega
/-- another block is written -/
theorem Lc.did {n yb : Nat} {h1 hh h' : Heap} {gb xb mb : Nat} {t d : Option Addr} {F : Nat → Prop} {T : TM} {R : List Int} {has : MapI} {cs : List Value} (c : Lc n h1 gb xb mb t d hh F T R has) (dd : Did yb hh h' cs) (h0 : h1.size ≤ yb) (hy : yb ≠ gb ∧ yb ≠ xb ∧ yb ≠ mb) (hn : ¬ F yb) : Lc n h1 gb xb mb t d h' F T R has := by
  obtain ⟨l1, l2, l3⟩ := c.lt
  obtain ⟨y1, y2, y3⟩ := hy
  exact { c with fr := c.fr.did dd fun hb => by omega, rg := (dd.at_ l1 (fun e => y1 e.symm)).trans c.rg, rx := (dd.at_ l2 (fun e => y2 e.symm)).trans c.rx, ox := dd.ow c.ox, M := map_fr c.M dd.fr (by show ¬ mb = yb; exact fun e => y3 e.symm), x := c.x.fr dd.fr fun b hb y => hn (by have y : b = yb := y; rw [← y]; exact hb) }
/-- the map changes -/
theorem Lc.map {n : Nat} {h1 hh h' : Heap} {gb xb mb : Nat} {t d : Option Addr} {F : Nat → Prop} {T : TM} {R : List Int} {has has' : MapI} (c : Lc n h1 gb xb mb t d hh F T R has) (T3 : MapTo (.int .i64) hh mb (mI has') h') : Lc n h1 gb xb mb t d h' F T R has' := by
  obtain ⟨l1, l2, l3⟩ := c.lt
  obtain ⟨y1, y2, y3, y4⟩ := c.ne
  have f3 := mapTo_fr T3
  exact { c with fr := c.fr.trans f3 fun b hb y => (by have y : b = mb := y; omega), rg := (f3.rd l1 y3).trans c.rg, rx := (f3.rd l2 y1).trans c.rx, ox := f3.own l2 y1 c.ox, M := T3.at_, x := c.x.fr f3 fun b hb y => c.nf.2.2 (by have y : b = mb := y; rw [← y]; exact hb) }
/-- the record changes -/
theorem Lc.wr {n : Nat} {h1 hh h' : Heap} {gb xb mb : Nat} {t d : Option Addr} {F : Nat → Prop} {T : TM} {R R' : List Int} {has : MapI} (c : Lc n h1 gb xb mb t d hh F T R has) (dd : Did xb hh h' (put (rd hh xb) 0 (ints R'))) (hl : R'.length = 15) : Lc n h1 gb xb mb t d h' F T R' has := by
  obtain ⟨l1, l2, l3⟩ := c.lt
  obtain ⟨y1, y2, y3, y4⟩ := c.ne
  have lo := c.lo
  refine { c with fr := c.fr.did dd fun hb => by omega, rg := (dd.at_ l1 (by omega)).trans c.rg, rx := ?_, ox := dd.own, M := map_fr c.M dd.fr (by show ¬ mb = xb; omega), x := c.x.fr dd.fr fun b hb y => c.nf.2.1 (by have y : b = xb := y; rw [← y]; exact hb), rl := hl }
  rw [dd.rd, c.rx]; exact put_all _ _ (by rw [ints_length, ints_length, hl, c.rl])
end Go.Proofs.YtcdpakjhjmchhaaGreatDoor.Bm
