/-
  SPACE: where the regions of n blocks lie; one transaction come of another by writes.
-/
import Derived.Test.YtcdpakjhjmchhaaGreatDoorSpcC
namespace Go.Proofs.YtcdpakjhjmchhaaGreatDoor.Spc
open Go Go.Proofs Go.Proofs.YtcdpakjhjmchhaaGreatDoor.Wx Go.Proofs.YtcdpakjhjmchhaaGreatDoor.Hp Go.Proofs.YtcdpakjhjmchhaaGreatDoor.W Go.Proofs.YtcdpakjhjmchhaaGreatDoor.Ad Go.Proofs.YtcdpakjhjmchhaaGreatDoor.Tm Go.Proofs.YtcdpakjhjmchhaaGreatDoor.Bt Go.Proofs.YtcdpakjhjmchhaaGreatDoor.Rg

/-- where the regions of n blocks lie -/
def geoN (n : Nat) : G := ⟨n, 98, 98 + (n + 4095) / 4096, 98 + (n + 4095) / 4096 + n / 64, 8 * (n / 64)⟩
theorem geoN_ok {n : Nat} (h : n ≤ 16384) : (geoN n).ok := by
  refine ⟨?_, ?_, ?_, ?_⟩
  · show n ≤ _; omega
  · show 98 ≤ _; omega
  · show 98 + (n + 4095) / 4096 ≤ _; omega
  · show 98 + (n + 4095) / 4096 + n / 64 ≤ _; omega
theorem G.one (g : G) : ∀ v ∈ g.v, v.oneCell' = true := by
  intro v hv
  simp only [G.v, List.mem_cons, List.not_mem_nil, or_false] at hv
  rcases hv with rfl | rfl | rfl | rfl | rfl <;> rfl
theorem Geo_spec {n : Nat} {h : Heap} {K : Value → Heap → Prop} (hn : n ≤ 1099511627776) (hK : ∀ h', Fr No h h' → K (.agg ⟨(geoN n).v⟩) h') : C.boleref09_Geo n h K := by
  refine boleref09_Geo.ok ?_
  unfold boleref09_Geo
  have e1 : Int.tdiv ((n : Int) + 4096 - 1) 4096 = (((n + 4095) / 4096 : Nat) : Int) := by
    rw [show (n : Int) + 4096 - 1 = ((n + 4095 : Nat) : Int) by omega]; rfl
  have e2 : Int.tdiv (n : Int) 64 = ((n / 64 : Nat) : Int) := rfl
  rw [wrap_i64 (n := (n : Int) + 4096) (by omega) (by omega), wrap_i64 (n := (n : Int) + 4096 - 1) (by omega) (by omega), e1, e2, wrap_i64 (n := (((n + 4095) / 4096 : Nat) : Int)) (by omega) (by omega),
    wrap_i64 (n := 98 + (((n + 4095) / 4096 : Nat) : Int)) (by omega) (by omega), wrap_i64 (n := ((n / 64 : Nat) : Int)) (by omega) (by omega), wrap_i64 (n := 98 + (((n + 4095) / 4096 : Nat) : Int) + ((n / 64 : Nat) : Int)) (by omega) (by omega), wrap_i64 (n := 8 * ((n / 64 : Nat) : Int)) (by omega) (by omega)]
  rw [show (98 : Int) + (((n + 4095) / 4096 : Nat) : Int) = ((98 + (n + 4095) / 4096 : Nat) : Int) by omega, show ((98 + (n + 4095) / 4096 : Nat) : Int) + ((n / 64 : Nat) : Int) = ((98 + (n + 4095) / 4096 + n / 64 : Nat) : Int) by omega, show 8 * ((n / 64 : Nat) : Int) = ((8 * (n / 64) : Nat) : Int) by omega]
  exact NewRow.intro (cs := (geoN n).v) rfl (G.one _) rfl fun h3 n3 => ⟨(geoN n).v, rfl, cellsAll n3.rd, hK h3 n3.fr⟩
/-! one transaction come of another by writes -/
structure Ext (T T' : TM) : Prop where
  disk : T'.disk = T.disk
  over : T'.over = T.over
  undo : ∃ us, T'.undo = T.undo ++ us ∧ undoAll T'.put us = T.put
theorem Ext.refl (T : TM) : Ext T T := ⟨rfl, rfl, [], (List.append_nil _).symm, rfl⟩
theorem Ext.write {T T' : TM} (e : Ext T T') (i : Int) (bs : Txt) : Ext T (T'.write i bs).1 := by
  by_cases h : (T'.write i bs).2 = 0
  · obtain ⟨h1, h2, h3, h4, h5, ew⟩ := TM.write_ok h
    obtain ⟨us, e1, e2⟩ := e.undo
    rw [ew]
    refine ⟨e.disk, e.over, us ++ [(i, aget T'.put i)], ?_, ?_⟩
    · show T'.undo ++ [_] = _
      rw [e1, List.append_assoc]
    · show undoAll (aput T'.put i bs) (us ++ [(i, aget T'.put i)]) = T.put
      unfold undoAll
      rw [List.foldr_append]
      have : List.foldr (fun u m => undo1 m u) (aput T'.put i bs) [(i, aget T'.put i)] = T'.put := by
        show undo1 (aput T'.put i bs) (i, aget T'.put i) = _
        unfold undo1
        cases ea : aget T'.put i with
        | none => exact adel_aput ea
        | some b => exact aput_aput ea
      rw [this]; exact e2
  · rw [TM.write_bad h]; exact e
theorem Ext.back {T T' : TM} (e : Ext T T') (h : T.over = false) : T'.back T.undo.length = (T, 0) := by
  obtain ⟨us, e1, e2⟩ := e.undo
  have ho : T'.over = false := e.over.trans h
  unfold TM.back
  rw [if_neg (by rw [ho]; simp), if_neg (by rw [e1, List.length_append]; omega)]
  have et : ((T.undo.length : Nat) : Int).toNat = T.undo.length := rfl
  rw [et, e1, List.drop_left, List.take_left, e2]
  have hd := e.disk
  have hv := e.over
  cases T; cases T'; simp_all
theorem setBit_ext {T T' : TM} (e : Ext T T') (g : G) (i : Nat) (on : Bool) : Ext T (setBit T' g i on).1 := by
  unfold setBit
  split
  · exact e
  · exact e.write _ _
theorem takeAt_ext {T T' : TM} (e : Ext T T') (g : G) (m : Nat) : Ext T (takeAt T' g m).1 := by
  unfold takeAt
  split
  · exact e
  · split
    · exact e
    · exact (setBit_ext e g m true).write _ _
end Go.Proofs.YtcdpakjhjmchhaaGreatDoor.Spc
