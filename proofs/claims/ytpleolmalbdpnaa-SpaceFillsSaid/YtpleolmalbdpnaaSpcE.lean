/-
  SPACE: a case's transaction; what is known of one, plainly.
-/
import Derived.Test.YtpleolmalbdpnaaSpcD
namespace Go.Proofs.Ytpleolmalbdpnaa.Spc
open Go Go.Proofs Go.Proofs.Ytpleolmalbdpnaa.Wx Go.Proofs.Ytpleolmalbdpnaa.Hp Go.Proofs.Ytpleolmalbdpnaa.W Go.Proofs.Ytpleolmalbdpnaa.Ad Go.Proofs.Ytpleolmalbdpnaa.Tm Go.Proofs.Ytpleolmalbdpnaa.Bt Go.Proofs.Ytpleolmalbdpnaa.Rg

theorem getD_chunk (L : Txt) (k j : Nat) (hj : j < 512) : ((L.drop (k * 512)).take 512).getD j 0 = L.getD (k * 512 + j) 0 := by
  rw [List.getD_eq_getElem?_getD, List.getD_eq_getElem?_getD, List.getElem?_take_of_lt hj, List.getElem?_drop]
theorem bitAt_chunk (L : Txt) (k t : Nat) (ht : t < 4096) : bitAt ((L.drop (k * 512)).take 512) t = bitAt L (4096 * k + t) := by
  unfold bitAt
  rw [getD_chunk L k (t / 8) (by omega), show k * 512 + t / 8 = (4096 * k + t) / 8 by omega, show (4096 * k + t) % 8 = t % 8 by omega]
/-- a case's transaction at its beginning -/
structure Opn (n : Nat) (on : Nat → Bool) (T : TM) : Prop where
  put : T.put = []
  undo : T.undo = []
  live : T.over = false
  N : T.N = n
  bits : ∀ j, j < 4096 * ((geoN n).inodes - 98) → bitAt (T.read ((geoN n).at_ j)).1 (j % 4096) = on j
  ok : ∀ k : Nat, k < n → (T.read k).2 = 0
  data : ∀ k : Nat, (geoN n).data ≤ k → k < n → (T.read k).1 = List.replicate 512 7
theorem opn {n : Nat} {on : Nat → Bool} {L : Txt} (hn : 128 ≤ n ∧ n ≤ 8196) (a : Img n on (4096 * ((geoN n).inodes - 98)) L) : Opn n on ⟨fresh (chunks L), [], [], false⟩ := by
  have hdat : (geoN n).data = 98 + (n + 4095) / 4096 + n / 64 := rfl
  have hino : (geoN n).inodes = 98 + (n + 4095) / 4096 := rfl
  have hl := a.len
  have hc : (chunks L).length = n := by rw [chunks_length, hl]; omega
  have hN : TM.N ⟨fresh (chunks L), [], [], false⟩ = n := hc
  have rd_ : ∀ k : Nat, k < n → TM.read ⟨fresh (chunks L), [], [], false⟩ k = ((L.drop (k * 512)).take 512, 0) := by
    intro k hk
    rw [TM.read_live rfl, hN, if_neg (by omega), TM.get_none rfl, if_neg (by intro x; cases x)]
    have : readAt (fresh (chunks L)) ((k : Nat) : Int).toNat = (L.drop (k * 512)).take 512 := by
      show (chunks L).getD k [] = _
      rw [List.getD_eq_getElem?_getD, List.getElem?_eq_getElem (by omega)]
      exact chunks_get L (by omega)
    rw [this]
  refine ⟨rfl, rfl, rfl, hN, fun j hj => ?_, fun k hk => by rw [rd_ k hk], fun k h1 h2 => ?_⟩
  · have e : (geoN n).at_ j = ((98 + j / 4096 : Nat) : Int) := rfl
    rw [e, rd_ _ (by omega)]
    show bitAt ((L.drop ((98 + j / 4096) * 512)).take 512) (j % 4096) = on j
    rw [bitAt_chunk _ _ _ (by omega), show 4096 * (98 + j / 4096) + j % 4096 = 98 * 4096 + j by omega, a.bits j hj, decide_eq_true hj]; rfl
  · rw [rd_ k h2]
    show (L.drop (k * 512)).take 512 = _
    have hle : (k + 1) * 512 ≤ n * 512 := Nat.mul_le_mul_right _ h2
    apply List.ext_getElem
    · rw [List.length_take, List.length_drop, List.length_replicate]; omega
    · intro j h3 h4
      rw [List.length_replicate] at h4
      have e := getD_chunk L k j h4
      rw [a.rest (k * 512 + j) (by omega), if_pos (by omega), List.getD_eq_getElem?_getD, List.getElem?_eq_getElem h3] at e
      rw [List.getElem_replicate]; exact e
theorem opened_spec {v : Int} {bA sA : Option Addr} {bL bC sL sC : Nat} {rest : UInt8} {bits : Txt} {h : Heap} {K : Value → Heap → Prop} (B : StrAt h bA bL bits) (hbl : bL ≤ 140737488355328) (h0 : onC (blkN v) bits rest 0 = true)
    (hK : ∀ F tb d T h', Fr No h h' → (∀ b, F b → h.size ≤ b) → Tx h' F (some ⟨tb, 0, none⟩) d T → Opn (blkN v) (onC (blkN v) bits rest) T → K (.tuple #[.pointer (some ⟨tb, 0, none⟩), .agg ⟨(geoN (blkN v)).v⟩]) h') : C.bolelaw09_opened (caseV v bA bL bC rest sA sL sC) h K := by
  have hn := blkN_range v
  refine bolelaw09_opened.ok (New.intro fun h2 n2 => New.intro fun h3 n3 => ?_)
  have z2 := n2.size
  have z3 := n3.size
  refine ⟨_, rfl, cellsAll ((n3.at_ (by omega)).trans n2.rd), blocks_spec fun h4 f4 => ⟨_, rfl, Geo_spec (by omega) fun h5 f5 => ⟨_, rfl, NewRow.intro rfl (G.one _) rfl fun h7 n7 => ?_⟩⟩⟩
  have z4 := f4.size
  have z5 := f5.size
  have z7 := n7.size
  have F7 : Fr No h h7 := ((((n2.fr.new n3).no f4).no f5).new n7)
  have rc : rd h7 h.size = caseV v bA bL bC rest sA sL sC := by
    rw [n7.at_ (by omega), f5.rd (by omega) fun x => x, f4.rd (by omega) fun x => x, n3.at_ (by omega), n2.rd]
  refine ⟨_, rfl, cellsAll rc, image_spec (StrAt.fr F7 B fun _ _ x => x) hbl fun ib L h8 f8 I S => ⟨_, _, _, rfl, ?_⟩⟩
  have z8 := f8.size
  have hl := I.len
  refine openF_spec S.str (Nat.le_refl _) (by omega) (fun hb => by omega) fun _ _ _ q h9 D f9 hD dk => ⟨_, _, rfl, cf rfl (cf rfl ?_)⟩
  have z9 := f9.size
  unfold bolelaw09_opened.k1
  refine Begin_spec dk fun tb h13 F f13 g13 x13 => ⟨_, rfl, cf rfl ?_⟩
  have z13 := f13.size
  have O := opn hn I
  have f713 : Fr No h7 h13 := (f8.no f9).no f13
  have rg : rd h13 h5.size = (geoN (blkN v)).v := (f713.rd (by omega) fun x => x).trans n7.rd
  have hFlo : ∀ b, F b → h8.size ≤ b := fun b hb => by
    rcases g13.new hb with y | y
    · exact hD b y
    · omega
  have hdat : (geoN (blkN v)).data = 98 + (blkN v + 4095) / 4096 + blkN v / 64 := rfl
  have hino : (geoN (blkN v)).inodes = 98 + (blkN v + 4095) / 4096 := rfl
  have hbl : (geoN (blkN v)).blocks = blkN v := rfl
  have e0 : (geoN (blkN v)).at_ (0 : Int).toNat = ((98 : Nat) : Int) := rfl
  refine ⟨_, rfl, cellsAll rg, Used_spec x13 (geoN_ok (by omega)) (fun hb => absurd ⟨by omega, by omega⟩ hb) (fun _ _ he => ?_) fun _ _ _ h15 f15 => ⟨_, _, rfl, cf rfl ?_⟩⟩
  · rw [e0] at he
    exact absurd (O.ok 98 (by omega)) he
  have hon := O.bits 0 (by omega)
  have e1 : (0 : Int).toNat = 0 := rfl
  rw [e1, show (0 : Nat) % 4096 = 0 from rfl] at *
  rw [hon, h0]
  have z15 := f15.size
  have rg15 : rd h15 h5.size = (geoN (blkN v)).v := (f15.rd (by omega) fun x => x).trans rg
  have o15 : Own h15 h2.size := by
    have o3 := n3.own
    have o7 : Own h7 h2.size := n7.ow (f5.own (by omega) (fun x => x) (f4.own (by omega) (fun x => x) o3))
    exact f15.own (by omega) (fun x => x) (f713.own (by omega) (fun x => x) o7)
  have r15 : (rd h15 h2.size).length = 5 := by
    rw [f15.rd (by omega) fun x => x, f713.rd (by omega) fun x => x, n7.at_ (by omega), f5.rd (by omega) fun x => x, f4.rd (by omega) fun x => x, n3.rd]; rfl
  refine cnot (ct rfl ⟨_, rfl, cellsAll rg15, PutRow.intro o15 rfl (G.one _) (by rw [r15]; exact Nat.le_refl _) fun h18 d18 => ?_⟩)
  have er : rd h18 h2.size = (geoN (blkN v)).v := by rw [d18.rd, put_all _ _ (by rw [r15]; rfl)]
  refine ⟨_, rfl, cellsAll er, hK F tb (some q) _ h18 ?_ (fun b hb => by have := hFlo b hb; omega) ((x13.no f15).fr d18.fr fun b hb e => by have := hFlo b hb; omega) O⟩
  exact (((F7.no f713).no f15).did d18 fun hb => by omega)
/-! plainly -/
theorem nodup_len : ∀ {l m : List Int}, l.Nodup → (∀ x ∈ l, x ∈ m) → l.length ≤ m.length
  | [], m, _, _ => Nat.zero_le _
  | a :: r, m, hn, hs => by
    have ha := hs a (List.mem_cons_self ..)
    have h1 := List.length_erase_of_mem ha
    have h2 := List.length_pos_of_mem ha
    rw [List.nodup_cons] at hn
    have ih := nodup_len (l := r) (m := m.erase a) hn.2 fun x hx => (List.mem_erase_of_ne (fun e => hn.1 (by rw [← e]; exact hx))).mpr (hs x (List.mem_cons_of_mem _ hx))
    rw [List.length_cons]; omega
theorem aput_keys {α : Type} (i : Int) (v : α) : ∀ m : List (Int × α), (aput m i v).map (·.1) = if aget m i = none then m.map (·.1) ++ [i] else m.map (·.1)
  | [] => rfl
  | (k, u) :: r => by
    have ih := aput_keys i v r
    show (bif i == k then (i, v) :: r else (k, u) :: aput r i v).map (·.1) = if (bif i == k then some u else aget r i) = none then _ else _
    by_cases e : i = k
    · subst e; rw [beq_self_eq_true]; rfl
    · rw [beq_eq_false_iff_ne.mpr e]
      show k :: (aput r i v).map (·.1) = if aget r i = none then _ else _
      rw [ih]
      split <;> rfl
/-- what is known of a transaction over a bitmap: which bits are on, what the data blocks hold, which blocks may be put -/
structure St (n : Nat) (U : Nat → Bool) (Z : Nat → Txt) (ks : List Int) (u : Nat) (T : TM) : Prop where
  live : T.over = false
  N : T.N = n
  bits : ∀ j, j < 4096 * ((geoN n).inodes - 98) → bitAt (T.read ((geoN n).at_ j)).1 (j % 4096) = U j
  ok : ∀ k : Nat, k < n → (T.read k).2 = 0 ∧ (T.read k).1.length = 512
  data : ∀ k : Nat, (geoN n).data ≤ k → k < n → (T.read k).1 = Z k
  keys : (T.put.map (·.1)).Nodup
  sub : ∀ x ∈ T.put.map (·.1), x ∈ ks
  undo : T.undo.length ≤ u
theorem St.room {n u : Nat} {U : Nat → Bool} {Z : Nat → Txt} {ks : List Int} {T : TM} (a : St n U Z ks u T) {i : Int} (hi : i ∈ ks) (hk : ks.length ≤ 96) : ¬ (aget T.put i = none ∧ T.put.length ≥ 96) := by
  rintro ⟨h1, h2⟩
  have hn : i ∉ T.put.map (·.1) := by
    intro hm
    obtain ⟨p, hp, e⟩ := List.mem_map.mp hm
    exact aget_none.mp h1 p hp e
  have := nodup_len (l := i :: T.put.map (·.1)) (m := ks) (List.nodup_cons.mpr ⟨hn, a.keys⟩) fun x hx => by
    rcases List.mem_cons.mp hx with rfl | hx
    · exact hi
    · exact a.sub x hx
  rw [List.length_cons, List.length_map] at this
  omega
theorem St.write {n u : Nat} {U : Nat → Bool} {Z : Nat → Txt} {ks : List Int} {T : TM} (a : St n U Z ks u T) {i : Int} {bs : Txt} (hi : i ∈ ks) (hk : ks.length ≤ 96) (h1 : 98 ≤ i) (h2 : i < n) (h3 : bs.length = 512) :
    (T.write i bs).2 = 0 ∧ (T.write i bs).1.over = false ∧ (T.write i bs).1.N = n ∧ ((T.write i bs).1.put.map (·.1)).Nodup ∧ (∀ x ∈ (T.write i bs).1.put.map (·.1), x ∈ ks) ∧ (T.write i bs).1.undo.length ≤ u + 1 ∧ ∀ k : Nat, k < n → ((T.write i bs).1.read k).2 = 0 ∧ ((T.write i bs).1.read k).1.length = 512 := by
  have e := TM.write_get a.live h1 (by rw [a.N]; exact h2) h3 (a.room hi hk)
  have e2 : (T.write i bs).2 = 0 := by rw [e]
  have hr := TM.read_write e2
  refine ⟨e2, by rw [e]; exact a.live, by rw [e]; exact a.N, ?_, ?_, ?_, fun k hk => ?_⟩
  · rw [e]
    show ((aput T.put i bs).map (·.1)).Nodup
    rw [aput_keys]
    split
    · rename_i hno
      rw [List.nodup_append]
      refine ⟨a.keys, by simp, fun x hx y hy e => ?_⟩
      rw [List.mem_singleton.mp hy] at e
      subst e
      obtain ⟨p, hp, e⟩ := List.mem_map.mp hx
      exact aget_none.mp hno p hp e
    · exact a.keys
  · rw [e]
    show ∀ x ∈ (aput T.put i bs).map (·.1), x ∈ ks
    rw [aput_keys]
    intro x hx
    split at hx
    · rcases List.mem_append.mp hx with hx | hx
      · exact a.sub x hx
      · rw [List.mem_singleton.mp hx]; exact hi
    · exact a.sub x hx
  · rw [e]
    show (T.undo ++ [_]).length ≤ _
    have := a.undo
    rw [List.length_append, List.length_singleton]; omega
  · rw [hr]
    split
    · exact ⟨rfl, h3⟩
    · exact a.ok k hk
def updB (U : Nat → Bool) (i : Nat) (on : Bool) : Nat → Bool := fun j => if j = i then on else U j
theorem St.set {n u i : Nat} {U : Nat → Bool} {Z : Nat → Txt} {ks : List Int} {T : TM} (a : St n U Z ks u T) (hn : 128 ≤ n ∧ n ≤ 8196) (hi : i < n) (on : Bool) (hm : (geoN n).at_ i ∈ ks) (hk : ks.length ≤ 96) :
    (setBit T (geoN n) i on).2 = 0 ∧ St n (updB U i on) Z ks (u + 1) (setBit T (geoN n) i on).1 := by
  have hdat : (geoN n).data = 98 + (n + 4095) / 4096 + n / 64 := rfl
  have hino : (geoN n).inodes = 98 + (n + 4095) / 4096 := rfl
  have eat : ∀ j, (geoN n).at_ j = ((98 + j / 4096 : Nat) : Int) := fun j => rfl
  have hr := a.ok (98 + i / 4096) (by omega)
  rw [← eat] at hr
  have es : setBit T (geoN n) i on = T.write ((geoN n).at_ i) (putBit (T.read ((geoN n).at_ i)).1 (i % 4096) on) := by unfold setBit; rw [if_neg (by rw [hr.1]; simp)]
  obtain ⟨w1, w2, w3, w4, w5, w6, w7⟩ := a.write (i := (geoN n).at_ i) (bs := putBit (T.read ((geoN n).at_ i)).1 (i % 4096) on) hm hk (by rw [eat]; omega) (by rw [eat]; omega) ((putBit_length ..).trans hr.2)
  rw [es]
  refine ⟨w1, w2, w3, fun j hj => ?_, w7, fun k h1 h2 => ?_, w4, w5, w6⟩
  · rw [TM.read_write w1]
    by_cases hb : j / 4096 = i / 4096
    · rw [if_pos (by rw [eat, eat, hb])]
      show bitAt (putBit _ _ _) _ = _
      rw [bitAt_putBit _ _ _ _ (by rw [hr.2]; omega)]
      unfold updB
      by_cases hji : j = i
      · rw [if_pos hji, if_pos (by rw [hji])]
      · rw [if_neg hji, if_neg (by omega), ← a.bits j hj, eat, eat, hb]
    · rw [if_neg (by rw [eat, eat]; omega), a.bits j hj]
      unfold updB
      rw [if_neg (by rintro rfl; exact hb rfl)]
  · rw [TM.read_write w1, if_neg (by rw [eat]; omega)]
    exact a.data k h1 h2
def updZ (Z : Nat → Txt) (i : Nat) (b : Txt) : Nat → Txt := fun j => if j = i then b else Z j
theorem St.put {n u i : Nat} {U : Nat → Bool} {Z : Nat → Txt} {ks : List Int} {T : TM} (a : St n U Z ks u T) (hi : (geoN n).data ≤ i) (hi2 : i < n) {bs : Txt} (hb : bs.length = 512) (hn : 128 ≤ n ∧ n ≤ 8196) (hm : (i : Int) ∈ ks) (hk : ks.length ≤ 96) :
    (T.write i bs).2 = 0 ∧ St n U (updZ Z i bs) ks (u + 1) (T.write i bs).1 := by
  have hdat : (geoN n).data = 98 + (n + 4095) / 4096 + n / 64 := rfl
  have hino : (geoN n).inodes = 98 + (n + 4095) / 4096 := rfl
  have eat : ∀ j, (geoN n).at_ j = ((98 + j / 4096 : Nat) : Int) := fun j => rfl
  obtain ⟨w1, w2, w3, w4, w5, w6, w7⟩ := a.write hm hk (by omega) (by omega) hb
  refine ⟨w1, w2, w3, fun j hj => ?_, w7, fun k h1 h2 => ?_, w4, w5, w6⟩
  · rw [TM.read_write w1, if_neg (by rw [eat]; omega)]
    exact a.bits j hj
  · rw [TM.read_write w1]
    unfold updZ
    by_cases e : k = i
    · rw [if_pos e, if_pos (by omega)]
    · rw [if_neg e, if_neg (by omega)]
      exact a.data k h1 h2
theorem St.keysLe {n u : Nat} {U : Nat → Bool} {Z : Nat → Txt} {ks ks' : List Int} {T : TM} (a : St n U Z ks u T) (h : ∀ x ∈ ks, x ∈ ks') : St n U Z ks' u T := ⟨a.live, a.N, a.bits, a.ok, a.data, a.keys, fun x hx => h x (a.sub x hx), a.undo⟩
theorem St.eqU {n u : Nat} {U U' : Nat → Bool} {Z : Nat → Txt} {ks : List Int} {T : TM} (a : St n U Z ks u T) (h : ∀ j, j < 4096 * ((geoN n).inodes - 98) → U j = U' j) : St n U' Z ks u T := ⟨a.live, a.N, fun j hj => (a.bits j hj).trans (h j hj), a.ok, a.data, a.keys, a.sub, a.undo⟩
theorem St.free {n u : Nat} {U : Nat → Bool} {Z : Nat → Txt} {ks : List Int} {T : TM} (a : St n U Z ks u T) {m : Nat} (hm : m < 4096 * ((geoN n).inodes - 98)) : FreeAt T (geoN n) m ↔ U m = false ∧ (geoN n).data ≤ m ∧ m < n := by
  unfold FreeAt
  rw [a.bits m hm]; exact Iff.rfl
theorem St.give {n u i : Nat} {U : Nat → Bool} {Z : Nat → Txt} {ks : List Int} {T : TM} (a : St n U Z ks u T) (hn : 128 ≤ n ∧ n ≤ 8196) (h1 : (geoN n).data ≤ i) (h2 : i < n) (hm : (geoN n).at_ i ∈ ks) (hk : ks.length ≤ 96) :
    (U i = false → give T (geoN n) i = (T, 91)) ∧ (U i = true → (give T (geoN n) i).2 = 0 ∧ St n (updB U i false) Z ks (u + 1) (give T (geoN n) i).1) := by
  have hdat : (geoN n).data = 98 + (n + 4095) / 4096 + n / 64 := rfl
  have hino : (geoN n).inodes = 98 + (n + 4095) / 4096 := rfl
  have hbk : (geoN n).blocks = n := rfl
  have eat : ∀ j, (geoN n).at_ j = ((98 + j / 4096 : Nat) : Int) := fun j => rfl
  have hr := a.ok (98 + i / 4096) (by omega)
  rw [← eat] at hr
  have hb := a.bits i (by omega)
  have ei : ((i : Nat) : Int).toNat = i := rfl
  unfold Spc.give
  rw [if_neg (by omega), ei, if_neg (by rw [hr.1]; simp), hb]
  refine ⟨fun hu => by rw [if_pos hu], fun hu => ?_⟩
  rw [if_neg (by rw [hu]; simp)]
  exact a.set hn h2 false hm hk
theorem St.take {n u m : Nat} {U : Nat → Bool} {Z : Nat → Txt} {ks : List Int} {T : TM} (a : St n U Z ks u T) (hn : 128 ≤ n ∧ n ≤ 8196) (h1 : (geoN n).data ≤ m) (h2 : m < n) (hm : (geoN n).at_ m ∈ ks) (hm2 : (m : Int) ∈ ks) (hk : ks.length ≤ 96) :
    (takeAt T (geoN n) m).2 = ((m : Int), 0) ∧ St n (updB U m true) (updZ Z m zeros512) ks (u + 2) (takeAt T (geoN n) m).1 := by
  obtain ⟨s1, s2⟩ := a.set hn h2 true hm hk
  obtain ⟨p1, p2⟩ := s2.put h1 h2 (bs := zeros512) List.length_replicate hn hm2 hk
  unfold takeAt
  rw [if_neg (by rw [s1]; simp), if_neg (by rw [p1]; simp)]
  exact ⟨rfl, p2⟩
theorem Opn.st {n : Nat} {on : Nat → Bool} {T : TM} {h : Heap} {F : Nat → Prop} {t d : Option Addr} (o : Opn n on T) (x : Tx h F t d T) (ks : List Int) : St n on (fun _ => List.replicate 512 7) ks 0 T :=
  ⟨o.live, o.N, o.bits, fun k hk => ⟨o.ok k hk, Tx.readLen x (o.ok k hk)⟩, o.data, (by rw [o.put]; exact List.nodup_nil), fun x hx => (by rw [o.put] at hx; cases hx), by rw [o.undo]; exact Nat.le_refl _⟩
end Go.Proofs.Ytpleolmalbdpnaa.Spc
