/-
  TRANSACTIONS: Back.
-/
import Derived.Test.YtpleolmalbdpnaaDoorTmB
namespace Go.Proofs.YtpleolmalbdpnaaDoor.Tm
open Go Go.Proofs Go.Proofs.YtpleolmalbdpnaaDoor.Wx Go.Proofs.YtpleolmalbdpnaaDoor.Hp Go.Proofs.YtpleolmalbdpnaaDoor.W Go.Proofs.YtpleolmalbdpnaaDoor.Ad

def undoR (m : List (Int × (Sc × Txt))) (u : UR) : List (Int × (Sc × Txt)) := match u.was with
  | some x => aput m u.i x
  | none => adel m u.i
theorem undoR_map (m : List (Int × (Sc × Txt))) (u : UR) : ((undoR m u).map fun p => (p.1, p.2.2)) = undo1 (m.map fun p => (p.1, p.2.2)) (u.i, u.was.map (·.2)) := by
  unfold undoR undo1
  cases u.was with
  | none => exact (adel_map (fun x : Sc × Txt => x.2) u.i m).symm
  | some x => exact (aput_map (fun x : Sc × Txt => x.2) u.i x m).symm
theorem undoAll_drop (m : List (Int × Txt)) (us : List (Int × Option Txt)) {k : Nat} (hk : k < us.length) : undoAll m (us.drop k) = undo1 (undoAll m (us.drop (k + 1))) us[k] := by
  rw [List.drop_eq_getElem_cons hk]; rfl
/-- the map is written -/
theorem TxC.remap {h h' : Heap} {col : Nat → Nat} {d : Option Addr} {r : TR} {T : TM} (x : TxC h col d r T) {ps' : List (Int × (Sc × Txt))} {put' : List (Int × Txt)} (m : MapTo DI h r.mb (mm (fun x => x.1.v) ps') h') (hp : ∀ p ∈ ps', p ∈ r.ps ∨ Blk h col 4 p.2) (e : put' = ps'.map fun p => (p.1, p.2.2)) (hk : ∀ p ∈ put', 98 ≤ p.1 ∧ p.1 < T.N) :
    TxC h' col d { r with ps := ps' } { T with put := put' } := by
  have f := mapTo_fr m
  have s1 := x.sc
  have s2 := x.mc
  have hmt : r.tb ≠ r.mb := fun e => by rw [e] at s1; omega
  have k4 : ∀ b, b < h.size → col b = 4 → ¬ b = r.mb := fun b _ e e2 => by rw [e2] at e; omega
  have hs := m.size
  refine ⟨fun b hb => x.nrm b (by omega), s1, f.own x.own.lt hmt x.own, (f.rd x.own.lt hmt).trans x.cell, s2, m.at_, x.un.fr f fun b _ hb e => ?_, fun p hp' => ?_, fun u hu => (x.uok u hu).keep f (Ag.refl _ _) k4, e, x.undo, x.live, x.dk.fr f fun b hb e => ?_, hk, x.ui⟩
  · have hb : col b = 3 := hb
    have e : b = r.mb := e
    rw [e] at hb; omega
  · rcases hp p hp' with h1 | h1
    · exact (x.pok p h1).keep f (Ag.refl _ _) k4
    · exact h1.keep f (Ag.refl _ _) k4
  · have hb : col b = 5 := hb
    have e : b = r.mb := e
    rw [e] at hb; omega
/-- one put is undone -/
theorem undo_spec {h : Heap} {col : Nat → Nat} {d : Option Addr} {r : TR} {T : TM} {u : UR} {K : Value → Heap → Prop} (x : TxC h col d r T) (hu : u ∈ r.us)
    (hK : ∀ h', Fr (fun b => b = r.mb) h h' → TxC h' col d { r with ps := undoR r.ps u } { T with put := undo1 T.put (u.i, u.was.map (·.2)) } → K (.tuple #[]) h') : HCallsV Tryd.prog u.v [] h K := by
  have U := x.uok u hu
  show C.txn_Txn_Write_c1 (some ⟨u.ok, 0, none⟩) (some ⟨u.w, 0, none⟩) (some ⟨u.tc, 0, none⟩) (some ⟨u.ic, 0, none⟩) h K
  refine txn_Txn_Write_c1.ok (os ⟨_, rdc U.ok rfl, ?_⟩)
  have hk : ∀ p ∈ undo1 T.put (u.i, u.was.map (·.2)), 98 ≤ p.1 ∧ p.1 < T.N := by
    intro p hp
    unfold undo1 at hp
    split at hp
    · rcases aput_mem hp with rfl | hp
      · exact x.ui u hu
      · exact x.pk p hp
    · exact x.pk p (adel_mem hp)
  have ew : undo1 T.put (u.i, u.was.map (·.2)) = (undoR r.ps u).map fun p => (p.1, p.2.2) := by rw [undoR_map, x.put]
  cases e : u.was with
  | none =>
    refine cf rfl (os ⟨_, rdc U.tc rfl, os ⟨_, rda x.cell rfl, os ⟨_, rdc U.ic rfl, _, x.map, fun h3 t3 => ?_⟩⟩⟩)
    rw [mdel_mm] at t3
    have er : undoR r.ps u = adel r.ps u.i := by unfold undoR; rw [e]
    rw [er] at hK ew
    exact hK h3 (mapTo_fr t3) (x.remap t3 (fun p hp => .inl (adel_mem hp)) ew hk)
  | some y =>
    have hw : rd h u.w = [y.1.v] := by rw [U.w, e]; rfl
    refine ct rfl (os ⟨_, rdc U.tc rfl, os ⟨_, rda x.cell rfl, os ⟨_, rdc U.ic rfl, os ⟨_, _, _, rdc hw rfl, os ⟨_, x.map, fun h2 t2 => ?_⟩⟩⟩⟩⟩)
    rw [show Value.slice y.1.a y.1.l y.1.c = (fun x : Sc × Txt => x.1.v) y from rfl, mput_mm] at t2
    have er : undoR r.ps u = aput r.ps u.i y := by unfold undoR; rw [e]
    rw [er] at hK ew
    refine hK h2 (mapTo_fr t2) (x.remap t2 (fun p hp => ?_) ew hk)
    rcases aput_mem hp with rfl | hp
    · exact .inr (U.b y e)
    · exact .inl hp
theorem Back_spec {h : Heap} {F : Nat → Prop} {t d : Option Addr} {T : TM} {mark : Int} {K : Value → Heap → Prop} (x : Tx h F t d T) (hu : T.undo.length < 1000000000)
    (hK : ∀ h', Fr F h h' → Tx h' F t d (T.back mark).1 → K (.int .i64 (T.back mark).2) h') : C.txn_Txn_Back t mark h K := by
  rcases x with ⟨col, r, rfl, X, hF⟩ | ⟨col, tb, rfl, X, hF⟩
  rotate_left
  · refine txn_Txn_Back.ok (os ⟨_, rda X.cell rfl, ct rfl ?_⟩)
    have e0 : T.back mark = (T, 61) := by unfold TM.back; rw [X.over, if_pos rfl]
    rw [e0] at hK
    exact hK h (Fr.refl _ _) (.inr ⟨col, tb, rfl, X, hF⟩)
  · have eul : T.undo.length = r.us.length := by rw [X.undo, List.length_map]
    have live := X.live
    refine txn_Txn_Back.ok (os ⟨_, rda X.cell rfl, cf rfl (cd (fun hn => ?_) fun h0 => os ⟨_, _, _, rda X.cell rfl, cd (fun hn => ?_) fun h1 => ?_⟩)⟩)
    · have e0 : T.back mark = (T, 62) := by unfold TM.back; rw [live, if_neg (by simp), if_pos (.inl hn)]
      rw [e0] at hK
      exact hK h (Fr.refl _ _) (.inl ⟨col, r, rfl, X, hF⟩)
    · have e0 : T.back mark = (T, 62) := by unfold TM.back; rw [live, if_neg (by simp), if_pos (.inr (by omega))]
      rw [e0] at hK
      exact hK h (Fr.refl _ _) (.inl ⟨col, r, rfl, X, hF⟩)
    have e0 : T.back mark = ({ T with put := undoAll T.put (T.undo.drop mark.toNat), undo := T.undo.take mark.toNat }, 0) := by unfold TM.back; rw [live, if_neg (by simp), if_neg (by omega)]
    rw [e0] at hK
    unfold txn_Txn_Back.k1
    refine os ⟨_, _, _, rda X.cell rfl, ?_⟩
    rw [wrap_i64 (n := (r.us.length : Int) - 1) (by omega) (by omega)]
    refine ⟨fun k hh => mark - 1 ≤ k ∧ k < r.us.length ∧ Fr (fun b => b = r.mb) h hh ∧ ∃ ps', TxC hh col d { r with ps := ps' } { T with put := undoAll T.put (T.undo.drop (k + 1).toNat) }, fun k _ => (k + 1).toNat,
      ⟨by omega, by omega, Fr.refl _ _, r.ps, ?_⟩, ?_⟩
    · rw [show ((r.us.length : Int) - 1 + 1).toNat = T.undo.length by omega, List.drop_length]
      exact X
    rintro k h2 ⟨k0, k1, f2, ps', X2⟩
    refine cd (fun hk => ?_) fun hk => ?_
    · have hk' : k.toNat < r.us.length := by omega
      have X2c : rd h2 r.tb = [.pointer d, .map (some r.mb), .slice r.ua r.us.length r.uc, .bool false] := X2.cell
      obtain ⟨p, ep, cc⟩ := X2.un.get (by show 0 < r.us.length; omega)
      have ep : r.ua = some p := ep
      have cc : Cells h2 p (r.us.map UR.v) := cc
      have cv : cellOf h2 (p.add k.toNat) = some (UR.v r.us[k.toNat]) := Cells.cell cc (by rw [List.getElem?_map, List.getElem?_eq_getElem hk']; rfl)
      refine os ⟨_, _, _, rda X2c rfl, ⟨by omega, by omega⟩, oe ep ⟨_, cv, ?_⟩⟩
      refine undo_spec X2 (List.getElem_mem hk') fun h3 f3 X3 => ⟨rfl, ?_, ?_⟩
      · rw [wrap_i64 (n := k - 1) (by omega) (by omega)]
        refine ⟨by omega, by omega, f2.trans f3 fun b _ e => e, undoR ps' r.us[k.toNat], ?_⟩
        have hd : k.toNat < T.undo.length := by omega
        have eu : T.undo[k.toNat] = (r.us[k.toNat].i, r.us[k.toNat].was.map (·.2)) := by simp only [X.undo, List.getElem_map]
        rw [show (k - 1 + 1).toNat = k.toNat by omega, undoAll_drop T.put T.undo hd, eu, show k.toNat + 1 = (k + 1).toNat by omega]
        exact X3
      · show (IntKind.wrap .i64 (k - 1) + 1).toNat < (k + 1).toNat
        rw [wrap_i64 (n := k - 1) (by omega) (by omega)]; omega
    · have X2c : rd h2 r.tb = [.pointer d, .map (some r.mb), .slice r.ua r.us.length r.uc, .bool false] := X2.cell
      have cap : r.us.length ≤ r.uc := X2.un.le
      have ek : (k + 1).toNat = mark.toNat := by omega
      rw [ek] at X2
      have s1 := X2.sc
      have s2 := X2.mc
      have s1 : col r.tb = 1 := s1
      have s2 : col r.mb = 2 := s2
      refine os ⟨_, _, _, rda X2c rfl, ⟨by omega, by omega⟩, os (Put.add X2.own (by rw [show rd h2 _ = _ from X2c]; show 0 + 2 < 4; omega) fun h4 d4 => ?_)⟩
      have s4 := d4.size
      have k4 : ∀ b, b < h2.size → col b = 4 → ¬ b = r.tb := fun b _ e e2 => by rw [e2] at e; omega
      have hml : r.mb < h2.size := map_lt X2.map
      have htk : (r.us.take mark.toNat).length = mark.toNat := by rw [List.length_take]; omega
      refine hK h4 ((f2.mono fun b _ e => (hF b).mpr (by have e : b = r.mb := e; rw [e]; omega)).did d4 fun _ => (hF _).mpr (by show 1 ≤ col r.tb ∧ col r.tb ≤ 5; omega)) (.inl ⟨col, { r with ps := ps', us := r.us.take mark.toNat }, rfl, ⟨fun b hb => X2.nrm b (by omega), s1, d4.own, ?_, s2, map_fr X2.map d4.fr fun e => ?_, ?_, fun p hp => (X2.pok p hp).keep d4.fr (Ag.refl _ _) k4, fun u hu => (X2.uok u (List.mem_of_mem_take hu)).keep d4.fr (Ag.refl _ _) k4, X2.put, ?_, live, X2.dk.fr d4.fr fun b hb e => ?_, X2.pk, fun u hu => X2.ui u (List.mem_of_mem_take hu)⟩, hF⟩)
      · rw [d4.rd, show rd h2 _ = _ from X2c]
        show _ = ([.pointer d, .map (some r.mb), .slice r.ua (r.us.take mark.toNat).length r.uc, .bool false] : List Value)
        rw [htk]; rfl
      · have e : r.mb = r.tb := e
        rw [e] at s2; omega
      · show Sl h4 1 r.ua (r.us.take mark.toNat).length r.uc ((r.us.take mark.toNat).map UR.v) (On col 3)
        rw [htk, List.map_take]
        exact sl_take (X2.un.fr d4.fr fun b _ hb e => by have hb : col b = 3 := hb; have e : b = r.tb := e; rw [e] at hb; omega) (by show mark.toNat ≤ r.us.length; omega)
      · show T.undo.take mark.toNat = (r.us.take mark.toNat).map _
        rw [X.undo, List.map_take]
      · have hb : col b = 5 := hb
        have e : b = r.tb := e
        rw [e] at hb; omega
end Go.Proofs.YtpleolmalbdpnaaDoor.Tm
