/-
  bolelaw10: BmapGrows.
-/
import Derived.Test.YtcdpakjhjmchhaaGreatDoorBnF
namespace Go.Proofs.YtcdpakjhjmchhaaGreatDoor.Rm
open Go Go.Proofs Go.Proofs.YtcdpakjhjmchhaaGreatDoor.Wx Go.Proofs.YtcdpakjhjmchhaaGreatDoor.Hp Go.Proofs.YtcdpakjhjmchhaaGreatDoor.W Go.Proofs.YtcdpakjhjmchhaaGreatDoor.Tm

end Go.Proofs.YtcdpakjhjmchhaaGreatDoor.Rm
namespace Go.Proofs.YtcdpakjhjmchhaaGreatDoor.Bm
open Go Go.Proofs Go.Proofs.YtcdpakjhjmchhaaGreatDoor.Wx Go.Proofs.YtcdpakjhjmchhaaGreatDoor.Hp Go.Proofs.YtcdpakjhjmchhaaGreatDoor.W Go.Proofs.YtcdpakjhjmchhaaGreatDoor.Ad Go.Proofs.YtcdpakjhjmchhaaGreatDoor.Tm Go.Proofs.YtcdpakjhjmchhaaGreatDoor.Bt Go.Proofs.YtcdpakjhjmchhaaGreatDoor.Spc Go.Proofs.YtcdpakjhjmchhaaGreatDoor.Re Go.Proofs.YtcdpakjhjmchhaaGreatDoor.Av Go.Proofs.YtcdpakjhjmchhaaGreatDoor.Rm
open Go.Proofs.YtcdpakjhjmchhaaGreatDoor.Hd (ints)
open Go.Proofs.YtcdpakjhjmchhaaGreatDoor.In (Glo ints_length ints_one)

/-- no more is put than there are blocks -/
theorem Av.put_le {n : Nat} {Z : Nat → Txt} {T : TM} (a : Av n Z T) : T.put.length ≤ n := by
  have := nodup_len (m := (List.range n).map fun i : Nat => ((i : Nat) : Int)) a.keys fun x hx => by
    have := a.rng x hx
    exact List.mem_map.mpr ⟨x.toNat, List.mem_range.mpr (by omega), by omega⟩
  rw [List.length_map, List.length_range] at this
  have e : (ks T).length = T.put.length := List.length_map ..
  omega
/-- a map behind a Cut -/
theorem Has.cut {n k : Nat} {Z Z' : Nat → Txt} {R R' : List Int} {has hasc : MapI} (H : Has Z R has) (c : Cutd n k Z R Z' R') (nd : (hasc.map (·.1)).Nodup) (hg : ∀ j : Int, aget hasc j = if (k : Int) ≤ j then none else aget has j) : Has Z' R' hasc := by
  refine ⟨nd, fun p hp => ?_, fun j hj => ?_⟩
  · have e : aget hasc p.1 ≠ none := fun y => aget_none.mp y p hp rfl
    rw [hg] at e
    split at e
    · exact absurd rfl e
    · cases e2 : aget has p.1 with
      | none => exact absurd e2 e
      | some v => exact H.rng (p.1, v) (aget_mem e2)
  · rw [hg, H.get j hj]
    have hn : j < nS := by unfold nS; omega
    by_cases h : (k : Int) ≤ j
    · rw [if_pos h, c.gone j hn ((dk_data hj).mpr (by omega)), if_pos rfl]
    · rw [if_neg h, c.kept j hn (fun y => by rw [dk_data hj] at y; omega)]
/-- a case begins, its record in a block -/
theorem start_at {more : Int} {ta ra : Option Addr} {tc rc : Nat} {ks : List Int} {rs : List RawI} {hh : Heap} {sb : Nat} (gl : Glo hh) (er : rd hh sb = setupV more ta ks.length tc ra rs.length rc) (X : SlCells hh ta (ints ks)) (Y : SlCells hh ra (rs.flatMap RawI.v)) (hY : ∀ r ∈ rs, StrAt hh r.a r.l r.bs) (hkl : ks.length ≤ 140737488355328) (hrl : rs.length ≤ 140737488355328) {tj : Nat} {K : Value → Heap → Prop} {k1 : Heap → Option Addr → Heap → Prop}
    (hk : ∀ n t d F T Z h3 h6, Dim n → n < 5000 → Fr No hh h6 → hh.size ≤ h3.size → rd h6 h3.size = (geoN n).v → Tx h6 F t d T → (∀ b, F b → hh.size ≤ b ∧ b < h3.size) → Av n Z T → Av.ks T = [] → T.undo = [] → k1 h3 t h6) :
    ∃ cs1 : List Value, List.length cs1 = 3 ∧ Cells hh ⟨sb, 0, none⟩ cs1 ∧ C.bolelaw10_Setup_begin cs1 hh fun r1 h3 =>
      ∃ (q1 : Option Addr) (q2 : Option Addr) (cs2 : List Value) (b1 : Bool), r1 = .tuple #[.pointer q1, .pointer q2, .agg ⟨cs2⟩, .bool b1] ∧ NewRow z25 tj cs2 5 h3 fun h5 =>
      bif (!b1) then K (.bool false) h5 else C.bolelaw10_known h5 fun r2 h6 => ∃ (b2 : Bool), r2 = .bool b2 ∧ bif (!b2) then K (.bool false) h6 else k1 h3 q1 h6 := by
  refine ⟨_, rfl, cellsAll er, begin_spec X Y hY hkl hrl fun t u q d F H L h3 f3 x3 _ I hF _ => ⟨_, _, _, _, rfl, NewRow.intro rfl (G.one _) rfl fun h5 n5 => ?_⟩⟩
  have hn := nOf_rng more
  have dm : Dim (nOf more) := ⟨hn.1, by omega⟩
  have F5 : Fr No hh h5 := f3.new n5
  refine cf rfl (known_spec (gl.no F5) fun h6 f6 => ⟨_, rfl, cf rfl ?_⟩)
  have z3 := f3.size
  have z5 := n5.size
  exact hk (nOf more) t d F _ (Z0 L) h3 h6 dm (by omega) (F5.no f6) z3 ((f6.rd (by omega) fun y => y).trans n5.rd) ((x3.no n5.fr).no f6) (fun b hb => ⟨hF b hb, x3.lt hb⟩) (fresh_av I.len) rfl rfl
/-- the record that the law begins with -/
def x77 : List Int := [1, 3, 77, 0, 0, 0, 0, 0, 0, 0, 0, 0, 0, 0, 0]
/-- how many blocks a case has, taken or not -/
structure Gx (n : Nat) (h1 : Heap) (gb xb mb : Nat) (t d : Option Addr) (f0 : Nat) (hh : Heap) (F : Nat → Prop) (T : TM) (Z : Nat → Txt) (R : List Int) (has : MapI) (u : Nat) : Prop where
  l : Lx n h1 gb xb mb t d hh F T Z R has u
  tot : frees n Z + many Z R = f0
  head : ∀ i, i < 3 → R.getD i 0 = x77.getD i 0
theorem Gx.no {n u f0 : Nat} {h1 hh h' : Heap} {gb xb mb : Nat} {t d : Option Addr} {F : Nat → Prop} {T : TM} {Z : Nat → Txt} {R : List Int} {has : MapI} (c : Gx n h1 gb xb mb t d f0 hh F T Z R has u) (f : Fr No hh h') : Gx n h1 gb xb mb t d f0 h' F T Z R has u := ⟨c.l.no f, c.tot, c.head⟩
theorem Lx.same {n u : Nat} {h1 hh h' : Heap} {gb xb mb : Nat} {t d : Option Addr} {F F' : Nat → Prop} {T : TM} {Z : Nat → Txt} {R : List Int} {has : MapI} (c : Lx n h1 gb xb mb t d hh F T Z R has u) (f : Fr F hh h') (g : Gw hh F h' F') (x : Tx h' F' t d T) : Lx n h1 gb xb mb t d h' F' T Z R has u := by
  obtain ⟨c1, c2, c3, c4, c5, c6, c7⟩ := c.call (u' := u) (Z' := Z) (R' := R) (has' := has) f g x
  exact ⟨c1, c.lo, c2, c3, c4, c5, c.ne, x, c6, c7, c.a, c.w, c.tg, c.H, c.un⟩
/-- the new record and the new map take their places -/
theorem Lx.put {n u u' : Nat} {h1 hh h' h2 h3 h4 : Heap} {gb xb mb yb : Nat} {t d : Option Addr} {F F' : Nat → Prop} {T T' : TM} {Z Z' : Nat → Txt} {R R' : List Int} {has has' : MapI} (c : Lx n h1 gb xb mb t d hh F T Z R has u) (f : Fr F hh h') (g : Gw hh F h' F') (x : Tx h' F' t d T') (ff : Fr No h' h2)
    (T3 : MapTo (.int .i64) h2 mb (mI has') h3) (_ : yb = yb) (d4 : Did xb h3 h4 (put (rd h3 xb) 0 (ints R'))) (a : Av n Z' T') (w : Wf n Z' R') (tg : Tight Z' R') (H : Has Z' R' has') (un : T'.undo.length ≤ u') : Lx n h1 gb xb mb t d h4 F' T' Z' R' has' u' := by
  obtain ⟨c1, c2, c3, c4, c5, ⟨c6, c7, c8⟩, c9⟩ := c.call (u' := u') (Z' := Z') (R' := R') (has' := has') f g x
  obtain ⟨y1, y2, y3⟩ := c.lt
  have hne := c.ne
  have lo := c.lo
  have z1 := f.size
  have z2 := ff.size
  have z3 := T3.size
  have z4 := d4.size
  have f3 := mapTo_fr T3
  have rx3 : rd h3 xb = ints R := (f3.rd (by omega) (by omega)).trans ((ff.rd (by omega) fun y => y).trans c3)
  refine ⟨?_, lo, ?_, ?_, d4.own, ?_, hne, ?_, ⟨c6, c7, c8⟩, c9, a, w, tg, H, un⟩
  · exact ((c1.no ff).trans f3 fun b hb y => by have y : b = mb := y; omega).trans d4.fr fun b hb y => by have y : b = xb := y; omega
  · exact (d4.at_ (by omega) (by omega)).trans ((f3.rd (by omega) (by omega)).trans ((ff.rd (by omega) fun y => y).trans c2))
  · rw [d4.rd, rx3]; exact put_all _ _ (by rw [ints_length, ints_length, w.rl, c.w.rl])
  · exact map_fr T3.at_ d4.fr (by show ¬ mb = xb; omega)
  · exact ((x.no ff).fr f3 fun b hb y => c8 (by have y : b = mb := y; rw [← y]; exact hb)).fr d4.fr fun b hb y => c7 (by have y : b = xb := y; rw [← y]; exact hb)
theorem ints_at {R : List Int} {i : Nat} (hR : R.length = 15) (hi : i < 15) : (ints R)[i]? = some (.int .i64 (R.getD i 0)) := by
  unfold ints
  rw [List.getElem?_map, List.getD_eq_getElem?_getD, List.getElem?_eq_getElem (by rw [hR]; exact hi)]; rfl
end Go.Proofs.YtcdpakjhjmchhaaGreatDoor.Bm
