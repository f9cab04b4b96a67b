/-
  A LIVE TRANSACTION AS A ROW OF BLOCKS: writes, bits, Take, Give, Free.
-/
import Derived.Test.YtcdpakjhjmchhaaGreatDoorSpG
namespace Go.Proofs.YtcdpakjhjmchhaaGreatDoor.Av
open Go Go.Proofs Go.Proofs.YtcdpakjhjmchhaaGreatDoor.Wx Go.Proofs.YtcdpakjhjmchhaaGreatDoor.Hp Go.Proofs.YtcdpakjhjmchhaaGreatDoor.W Go.Proofs.YtcdpakjhjmchhaaGreatDoor.Ad Go.Proofs.YtcdpakjhjmchhaaGreatDoor.Tm Go.Proofs.YtcdpakjhjmchhaaGreatDoor.Bt Go.Proofs.YtcdpakjhjmchhaaGreatDoor.Spc

def up {α : Type} (Z : Nat → α) (i : Nat) (b : α) : Nat → α := fun j => if j = i then b else Z j
theorem up_at {α : Type} (Z : Nat → α) (i : Nat) (b : α) : up Z i b i = b := if_pos rfl
theorem up_ne {α : Type} (Z : Nat → α) {i j : Nat} (b : α) (h : j ≠ i) : up Z i b j = Z j := if_neg h
/-- the numbers of what is put -/
def ks (T : TM) : List Int := T.put.map (·.1)
/-- a live transaction over n blocks, each of which it has as Z says -/
structure Av (n : Nat) (Z : Nat → Txt) (T : TM) : Prop where
  live : T.over = false
  N : T.N = n
  z : ∀ k : Nat, k < n → T.read k = (Z k, 0)
  len : ∀ k : Nat, k < n → (Z k).length = 512
  keys : (ks T).Nodup
  rng : ∀ x ∈ ks T, 98 ≤ x ∧ x < n
theorem Av.congr {n : Nat} {Z Z' : Nat → Txt} {T : TM} (a : Av n Z T) (h : ∀ k, k < n → Z k = Z' k) : Av n Z' T :=
  ⟨a.live, a.N, fun k hk => by rw [a.z k hk, h k hk], fun k hk => by rw [← h k hk]; exact a.len k hk, a.keys, a.rng⟩
theorem Av.write_full {n : Nat} {Z : Nat → Txt} {T : TM} (a : Av n Z T) {i : Nat} {bs : Txt} (h1 : 98 ≤ i) (h2 : i < n) (h3 : bs.length = 512) : (T.write i bs).2 = 0 ∨ (T.write i bs = (T, 60) ∧ 96 ≤ (ks T).length ∧ (i : Int) ∉ ks T) := by
  by_cases h : aget T.put i = none ∧ T.put.length ≥ 96
  · right
    refine ⟨?_, by unfold ks; rw [List.length_map]; exact h.2, fun hm => ?_⟩
    · unfold TM.write
      rw [if_neg (by rw [a.live]; simp), if_neg (by rw [a.N]; omega), if_neg (fun y => y h3), if_pos h]
    · obtain ⟨p, hp, e⟩ := List.mem_map.mp hm
      exact aget_none.mp h.1 p hp e
  · left
    rw [TM.write_get a.live (by omega) (by rw [a.N]; omega) h3 h]
theorem write_keys {T : TM} {i : Int} {bs : Txt} (e : (T.write i bs).2 = 0) (x : Int) : x ∈ ks (T.write i bs).1 ↔ x ∈ ks T ∨ x = i := by
  obtain ⟨_, _, _, _, _, ew⟩ := TM.write_ok e
  have ek : ks (T.write i bs).1 = if aget T.put i = none then ks T ++ [i] else ks T := by rw [ew]; exact aput_keys ..
  rw [ek]
  split
  · rw [List.mem_append, List.mem_singleton]
  · rename_i hno
    refine ⟨.inl, fun h => ?_⟩
    rcases h with h | rfl
    · exact h
    · cases eg : aget T.put x with
      | none => exact absurd eg hno
      | some b => exact List.mem_map.mpr ⟨_, aget_mem eg, rfl⟩
theorem write_len {T : TM} {i : Int} {bs : Txt} (e : (T.write i bs).2 = 0) : (ks (T.write i bs).1).length ≤ (ks T).length + 1 ∧ ((ks (T.write i bs).1).length ≤ 96 ∨ (ks (T.write i bs).1).length ≤ (ks T).length) := by
  obtain ⟨_, _, _, _, h5, ew⟩ := TM.write_ok e
  have ek : ks (T.write i bs).1 = if aget T.put i = none then ks T ++ [i] else ks T := by rw [ew]; exact aput_keys ..
  rw [ek]
  have el : (ks T).length = T.put.length := List.length_map ..
  split
  · rename_i hno
    rw [List.length_append, List.length_singleton]
    refine ⟨Nat.le_refl _, .inl ?_⟩
    rw [el]
    rcases Nat.lt_or_ge T.put.length 96 with h | h
    · omega
    · exact absurd ⟨hno, h⟩ h5
  · exact ⟨Nat.le_add_right _ _, .inr (Nat.le_refl _)⟩
theorem write_nodup {T : TM} {i : Int} {bs : Txt} (e : (T.write i bs).2 = 0) (h : (ks T).Nodup) : (ks (T.write i bs).1).Nodup := by
  obtain ⟨_, _, _, _, _, ew⟩ := TM.write_ok e
  have ek : ks (T.write i bs).1 = if aget T.put i = none then ks T ++ [i] else ks T := by rw [ew]; exact aput_keys ..
  rw [ek]
  split
  · rename_i hno
    rw [List.nodup_append]
    refine ⟨h, by simp, fun x hx y hy e => ?_⟩
    rw [List.mem_singleton.mp hy] at e
    subst e
    obtain ⟨p, hp, e⟩ := List.mem_map.mp hx
    exact aget_none.mp hno p hp e
  · exact h
theorem Av.write {n : Nat} {Z : Nat → Txt} {T : TM} (a : Av n Z T) {i : Nat} {bs : Txt} (h1 : 98 ≤ i) (h2 : i < n) (h3 : bs.length = 512) (e : (T.write i bs).2 = 0) : Av n (up Z i bs) (T.write i bs).1 := by
  have hr := TM.read_write e
  have hk := write_keys e
  have hd := write_nodup e a.keys
  obtain ⟨_, _, _, _, _, ew⟩ := TM.write_ok e
  refine ⟨by rw [ew]; exact a.live, by rw [ew]; exact a.N, fun k hkn => ?_, fun k hkn => ?_, hd, fun x hx => ?_⟩
  · rw [hr]
    by_cases hki : k = i
    · rw [if_pos (by omega), hki, up_at]
    · rw [if_neg (by omega), up_ne _ _ hki]; exact a.z k hkn
  · by_cases hki : k = i
    · rw [hki, up_at]; exact h3
    · rw [up_ne _ _ hki]; exact a.len k hkn
  · rcases (hk x).mp hx with hx | rfl
    · exact a.rng x hx
    · omega
/-- room for one more -/
theorem Av.room {n : Nat} {Z : Nat → Txt} {T : TM} (a : Av n Z T) {i : Nat} {bs : Txt} (h1 : 98 ≤ i) (h2 : i < n) (h3 : bs.length = 512) (hr : (i : Int) ∈ ks T ∨ (ks T).length < 96) : (T.write i bs).2 = 0 := by
  rcases a.write_full h1 h2 h3 with h | ⟨_, h, h'⟩
  · exact h
  · rcases hr with hr | hr
    · exact absurd hr h'
    · omega
/-! where things lie -/
structure Dim (n : Nat) : Prop where
  lo : 128 ≤ n
  hi : n ≤ 16384
theorem Dim.data {n : Nat} (d : Dim n) : (geoN n).data = 98 + (n + 4095) / 4096 + n / 64 ∧ (geoN n).data < n ∧ (geoN n).data < 4096 ∧ 101 ≤ (geoN n).data := by
  have := d.lo
  have := d.hi
  have e : (geoN n).data = 98 + (n + 4095) / 4096 + n / 64 := rfl
  omega
theorem Dim.map {n : Nat} (d : Dim n) {i : Nat} (hi : i < n) : 98 ≤ 98 + i / 4096 ∧ 98 + i / 4096 < (geoN n).inodes ∧ (geoN n).inodes ≤ (geoN n).data ∧ 98 + i / 4096 < n := by
  have := d.lo
  have := d.hi
  have e : (geoN n).data = 98 + (n + 4095) / 4096 + n / 64 := rfl
  have e : (geoN n).inodes = 98 + (n + 4095) / 4096 := rfl
  omega
theorem at_eq (n i : Nat) : (geoN n).at_ i = ((98 + i / 4096 : Nat) : Int) := rfl
/-! bits -/
def bit (Z : Nat → Txt) (j : Nat) : Bool := bitAt (Z (98 + j / 4096)) (j % 4096)
def setZ (Z : Nat → Txt) (i : Nat) (on : Bool) : Nat → Txt := up Z (98 + i / 4096) (putBit (Z (98 + i / 4096)) (i % 4096) on)
theorem bit_setZ {Z : Nat → Txt} {i : Nat} (h : (Z (98 + i / 4096)).length = 512) (on : Bool) (j : Nat) : bit (setZ Z i on) j = if j = i then on else bit Z j := by
  unfold bit setZ
  by_cases hb : j / 4096 = i / 4096
  · rw [hb, up_at, bitAt_putBit _ _ _ _ (by rw [h]; omega)]
    by_cases hji : j = i
    · rw [if_pos hji, if_pos (by rw [hji])]
    · rw [if_neg hji, if_neg (by omega)]
  · rw [up_ne _ _ (by omega), if_neg (by rintro rfl; exact hb rfl)]
theorem bit_up {Z : Nat → Txt} {i : Nat} {b : Txt} {j : Nat} (h : i ≠ 98 + j / 4096) : bit (up Z i b) j = bit Z j := by
  unfold bit; rw [up_ne _ _ (fun e => h e.symm)]
theorem setZ_ne {Z : Nat → Txt} {i k : Nat} {on : Bool} (h : k ≠ 98 + i / 4096) : setZ Z i on k = Z k := up_ne _ _ h
theorem Av.setBit {n : Nat} {Z : Nat → Txt} {T : TM} (a : Av n Z T) (d : Dim n) {i : Nat} (hi : i < n) (on : Bool) :
    ((Spc.setBit T (geoN n) i on).2 = 0 ∧ Av n (setZ Z i on) (Spc.setBit T (geoN n) i on).1 ∧ Spc.setBit T (geoN n) i on = T.write ((98 + i / 4096 : Nat) : Int) (putBit (Z (98 + i / 4096)) (i % 4096) on)) ∨ (Spc.setBit T (geoN n) i on = (T, 60) ∧ 96 ≤ (ks T).length ∧ ((98 + i / 4096 : Nat) : Int) ∉ ks T) := by
  obtain ⟨m1, m2, m3, m4⟩ := d.map hi
  have hr := a.z _ m4
  have es : Spc.setBit T (geoN n) i on = T.write ((98 + i / 4096 : Nat) : Int) (putBit (Z (98 + i / 4096)) (i % 4096) on) := by
    unfold Spc.setBit
    rw [at_eq, hr, if_neg (fun y => y rfl)]
  have hl : (putBit (Z (98 + i / 4096)) (i % 4096) on).length = 512 := (putBit_length ..).trans (a.len _ m4)
  rw [es]
  rcases a.write_full m1 m4 hl with h | h
  · exact .inl ⟨h, a.write m1 m4 hl h, rfl⟩
  · exact .inr h
/-! Take -/
def isFree (n : Nat) (Z : Nat → Txt) (m : Nat) : Bool := decide ((geoN n).data ≤ m) && (decide (m < n) && !bit Z m)
theorem isFree_iff {n : Nat} {Z : Nat → Txt} {m : Nat} : isFree n Z m = true ↔ (geoN n).data ≤ m ∧ m < n ∧ bit Z m = false := by
  unfold isFree
  rw [Bool.and_eq_true, Bool.and_eq_true, decide_eq_true_eq, decide_eq_true_eq, Bool.not_eq_true']
theorem Av.free {n : Nat} {Z : Nat → Txt} {T : TM} (a : Av n Z T) (d : Dim n) (m : Nat) : FreeAt T (geoN n) m ↔ isFree n Z m = true := by
  rw [isFree_iff]
  unfold FreeAt
  have e : (geoN n).blocks = n := rfl
  rw [e]
  constructor
  · rintro ⟨h1, h2, h3⟩
    rw [at_eq, a.z _ (d.map h3).2.2.2] at h1
    exact ⟨h2, h3, h1⟩
  · rintro ⟨h2, h3, h1⟩
    refine ⟨?_, h2, h3⟩
    rw [at_eq, a.z _ (d.map h3).2.2.2]
    exact h1
def zeros : Txt := List.replicate 512 0
/-- what Take does with the lowest free block m -/
def takeZ (Z : Nat → Txt) (m : Nat) : Nat → Txt := up (setZ Z m true) m zeros
theorem Av.take {n : Nat} {Z : Nat → Txt} {T : TM} (a : Av n Z T) (d : Dim n) {m : Nat} (h1 : (geoN n).data ≤ m) (h2 : m < n) :
    (takeAt T (geoN n) m).2 = ((m : Int), 0) ∧ Av n (takeZ Z m) (takeAt T (geoN n) m).1 ∧ (∀ x, x ∈ ks (takeAt T (geoN n) m).1 ↔ x ∈ ks T ∨ x = ((98 + m / 4096 : Nat) : Int) ∨ x = m) ∨ (takeAt T (geoN n) m = (T, 0, 60) ∧ 95 ≤ (ks T).length) := by
  have hd := d.data
  unfold takeAt
  rcases a.setBit d h2 true with ⟨e, a', es⟩ | ⟨e, h3, _⟩
  · rw [if_neg (fun y => y e)]
    rcases a'.write_full (i := m) (bs := zeros) (by omega) h2 List.length_replicate with h | ⟨h, h3, _⟩
    · have h' : ((Spc.setBit T (geoN n) m true).1.write m zeros512).2 = 0 := h
      rw [if_neg (fun y => y h')]
      refine .inl ⟨rfl, a'.write (by omega) h2 List.length_replicate h, fun x => ?_⟩
      rw [es] at h' ⊢ e
      rw [write_keys h', write_keys e, or_assoc]
    · have h' : (Spc.setBit T (geoN n) m true).1.write m zeros512 = ((Spc.setBit T (geoN n) m true).1, 60) := h
      rw [h', if_pos (show (60 : Int) ≠ 0 by decide)]
      refine .inr ⟨rfl, ?_⟩
      rw [es] at e h3
      have := (write_len e).1
      omega
  · rw [e, if_pos (show (60 : Int) ≠ 0 by decide)]
    exact .inr ⟨rfl, by omega⟩
theorem bitAt_nil (i : Nat) : bitAt [] i = false := by
  unfold bitAt
  rw [List.getD_nil]
  exact Nat.zero_testBit _
/-- Take -/
def takeM (T : TM) (g : G) : TM × Int × Int :=
  match (List.range g.blocks).find? (fun m => decide (FreeAt T g m)) with
  | some m => takeAt T g m
  | none => (T, 0, 90)
theorem find_low {p : Nat → Bool} {n m : Nat} (h : m < n) (hp : p m = true) (hl : ∀ k, k < m → p k = false) : (List.range n).find? p = some m := by
  rw [List.find?_eq_some_iff_getElem]
  refine ⟨hp, m, by rw [List.length_range]; exact h, List.getElem_range _, fun j hj => ?_⟩
  rw [List.getElem_range, hl j hj]; rfl
theorem find_none {p : Nat → Bool} {n : Nat} (h : ∀ k, k < n → p k = false) : (List.range n).find? p = none := by
  rw [List.find?_eq_none]
  intro x hx
  rw [h x (List.mem_range.mp hx)]; simp
theorem takeM_low {T : TM} {g : G} {m : Nat} (h : FreeAt T g m) (hl : ∀ k, k < m → ¬ FreeAt T g k) : takeM T g = takeAt T g m := by
  unfold takeM
  rw [find_low h.2.2 (decide_eq_true h) fun k hk => decide_eq_false (hl k hk)]
theorem takeM_none {T : TM} {g : G} (h : ∀ k, ¬ FreeAt T g k) : takeM T g = (T, 0, 90) := by
  unfold takeM
  rw [find_none fun k _ => decide_eq_false (h k)]
theorem read_fail {T : TM} {i : Int} (h : (T.read i).2 ≠ 0) : (T.read i).1 = [] := by
  unfold TM.read at h ⊢
  split
  · rfl
  · rename_i h1
    rw [if_neg h1] at h
    split
    · rfl
    · rename_i h2
      rw [if_neg h2] at h
      unfold TM.get at h ⊢
      split
      · rename_i e
        rw [e] at h; exact absurd rfl h
      · rename_i e
        rw [e] at h
        simp only at h
        split
        · rfl
        · rename_i h3
          rw [if_neg h3] at h; exact absurd rfl h
theorem Take_any {h : Heap} {F : Nat → Prop} {t d : Option Addr} {T : TM} {n : Nat} {K : Value → Heap → Prop} (x : Tx h F t d T) (dm : Dim n) (hu : T.undo.length < 900000000)
    (hK : ∀ h' F', Fr F h h' → Gw h F h' F' → Tx h' F' t d (takeM T (geoN n)).1 → K (.tuple #[.int .i64 (takeM T (geoN n)).2.1, .int .i64 (takeM T (geoN n)).2.2]) h') : C.space_Take t (geoN n).v h K := by
  have hd := dm.data
  have hlo := dm.lo
  have hhi := dm.hi
  have hino : (geoN n).inodes = 98 + (n + 4095) / 4096 := rfl
  have hbm : (geoN n).bitmap = 98 := rfl
  have hbl : (geoN n).blocks = n := rfl
  have same : ∀ e h', Fr No h h' → takeM T (geoN n) = (T, 0, e) → K (.tuple #[.int .i64 0, .int .i64 e]) h' := fun e h' f e0 => by
    rw [e0] at hK
    exact hK h' F (f.mono fun _ _ y => y.elim) (Gw.refl f.size fun b hb => x.lt hb) (x.no f)
  refine Take_spec x (geoN_ok hhi) (by omega) (by omega) hu (fun k h1 h2 hno he h' f => same _ h' f ?_) (fun hno h' f => same _ h' f (takeM_none fun k hk => ?_)) (fun m hm hfree hlow hr h' F' f g x' => ?_)
  · rw [hbm] at h1 hno
    -- the first data block of this bitmap block reads as free
    have ex : ∃ m, FreeAt T (geoN n) m ∧ m / 4096 = k - 98 := by
      refine ⟨max (4096 * (k - 98)) (geoN n).data, ⟨?_, Nat.le_max_right _ _, by omega⟩, by omega⟩
      have : (geoN n).at_ (max (4096 * (k - 98)) (geoN n).data) = (k : Int) := by rw [at_eq]; omega
      rw [this, read_fail he]
      exact bitAt_nil _
    obtain ⟨m0, hm0, hk0⟩ := ex
    obtain ⟨m, hm, hl⟩ : ∃ m, FreeAt T (geoN n) m ∧ ∀ k, k < m → ¬ FreeAt T (geoN n) k := by
      clear hk0
      induction m0 using Nat.strongRecOn with
      | ind m0 ih =>
        by_cases h : ∃ k, k < m0 ∧ FreeAt T (geoN n) k
        · obtain ⟨k, h1, h2⟩ := h
          exact ih k h1 h2
        · exact ⟨m0, hm0, fun k h1 h2 => h ⟨k, h1, h2⟩⟩
    have hle : m ≤ m0 := by
      rcases Nat.lt_or_ge m0 m with h | h
      · exact absurd hm0 (hl _ h)
      · exact h
    have hge : 4096 * (k - 98) ≤ m := by
      rcases Nat.lt_or_ge m (4096 * (k - 98)) with h | h
      · exact absurd hm (hno m h)
      · exact h
    have ea : (geoN n).at_ m = (k : Int) := by rw [at_eq]; omega
    rw [takeM_low hm hl]
    unfold takeAt Spc.setBit
    rw [ea, if_pos he, if_pos he]
  · have h3 := hk.2.2
    exact hno k (by omega) hk
  · rw [takeM_low hfree hlow] at hK
    exact hK h' F' f g x'
theorem Av.taken {n : Nat} {Z : Nat → Txt} {T : TM} (a : Av n Z T) (d : Dim n) :
    (∃ m, isFree n Z m = true ∧ (∀ k, k < m → isFree n Z k = false) ∧ takeM T (geoN n) = takeAt T (geoN n) m) ∨ ((∀ k, isFree n Z k = false) ∧ takeM T (geoN n) = (T, 0, 90)) := by
  by_cases h : ∃ m, isFree n Z m = true
  · left
    obtain ⟨m0, hm0⟩ := h
    obtain ⟨m, hm, hl⟩ : ∃ m, isFree n Z m = true ∧ ∀ k, k < m → isFree n Z k = false := by
      induction m0 using Nat.strongRecOn with
      | ind m0 ih =>
        by_cases h : ∃ k, k < m0 ∧ isFree n Z k = true
        · obtain ⟨k, h1, h2⟩ := h
          exact ih k h1 h2
        · exact ⟨m0, hm0, fun k h1 => by
            cases e : isFree n Z k with
            | false => rfl
            | true => exact absurd ⟨k, h1, e⟩ h⟩
    exact ⟨m, hm, hl, takeM_low ((a.free d m).mpr hm) fun k hk y => absurd ((hl k hk).symm.trans ((a.free d k).mp y)) (by simp)⟩
  · right
    have hn : ∀ k, isFree n Z k = false := fun k => by
      cases e : isFree n Z k with
      | false => rfl
      | true => exact absurd ⟨k, e⟩ h
    exact ⟨hn, takeM_none fun k y => absurd ((hn k).symm.trans ((a.free d k).mp y)) (by simp)⟩
/-! Give -/
theorem Av.give {n : Nat} {Z : Nat → Txt} {T : TM} (a : Av n Z T) (d : Dim n) {i : Nat} (h1 : (geoN n).data ≤ i) (h2 : i < n) (hb : bit Z i = true) :
    ((Spc.give T (geoN n) i).2 = 0 ∧ Av n (setZ Z i false) (Spc.give T (geoN n) i).1 ∧ ∀ x, x ∈ ks (Spc.give T (geoN n) i).1 ↔ x ∈ ks T ∨ x = ((98 + i / 4096 : Nat) : Int)) ∨ (Spc.give T (geoN n) i = (T, 60) ∧ 96 ≤ (ks T).length) := by
  have e : Spc.give T (geoN n) i = Spc.setBit T (geoN n) i false := by
    unfold Spc.give
    have hbl : (geoN n).blocks = n := rfl
    have m4 := (d.map h2).2.2.2
    have et : ((i : Nat) : Int).toNat = i := rfl
    rw [if_neg (by omega), et, at_eq, a.z _ m4, if_neg (fun y => y rfl), if_neg]
    intro y
    have hb : bitAt (Z (98 + i / 4096)) (i % 4096) = true := hb
    rw [hb] at y; cases y
  rw [e]
  rcases a.setBit d h2 false with ⟨e1, a', es⟩ | ⟨e1, h3, _⟩
  · refine .inl ⟨e1, a', fun x => ?_⟩
    rw [es] at e1 ⊢
    exact write_keys e1 x
  · exact .inr ⟨e1, h3⟩
/-! how many are free -/
def cnt (p : Nat → Bool) : Nat → Nat
  | 0 => 0
  | m + 1 => cnt p m + if p m = true then 1 else 0
theorem cnt_upd {p q : Nat → Bool} {i : Nat} (h : ∀ j, j ≠ i → p j = q j) (hp : p i = false) (hq : q i = true) : ∀ m, cnt q m = cnt p m + if i < m then 1 else 0
  | 0 => by rw [if_neg (by omega)]; rfl
  | m + 1 => by
    show cnt q m + (if q m = true then 1 else 0) = cnt p m + (if p m = true then 1 else 0) + _
    rw [cnt_upd h hp hq m]
    by_cases e : m = i
    · subst e
      rw [if_pos hq, if_neg (show ¬ p m = true by rw [hp]; simp), if_neg (show ¬ m < m by omega), if_pos (show m < m + 1 by omega)]
    · rw [h m e]
      by_cases e2 : i < m
      · rw [if_pos e2, if_pos (show i < m + 1 by omega)]; omega
      · rw [if_neg e2, if_neg (show ¬ i < m + 1 by omega)]; omega
theorem cnt_congr {p q : Nat → Bool} : ∀ {m : Nat}, (∀ j, j < m → p j = q j) → cnt p m = cnt q m
  | 0, _ => rfl
  | m + 1, h => by
    show cnt p m + (if p m = true then 1 else 0) = cnt q m + (if q m = true then 1 else 0)
    rw [h m (by omega), cnt_congr fun j hj => h j (by omega)]
theorem cnt_hi {p : Nat → Bool} {n : Nat} (h : ∀ j, n ≤ j → p j = false) : ∀ d, cnt p (n + d) = cnt p n
  | 0 => rfl
  | d + 1 => by
    show cnt p (n + d) + (if p (n + d) = true then 1 else 0) = _
    rw [h (n + d) (by omega), cnt_hi h d, if_neg (by simp)]; rfl
theorem cnt_zero {p : Nat → Bool} : ∀ {m : Nat}, (∀ j, j < m → p j = false) → cnt p m = 0
  | 0, _ => rfl
  | m + 1, h => by
    show cnt p m + (if p m = true then 1 else 0) = 0
    rw [h m (by omega), cnt_zero fun j hj => h j (by omega), if_neg (by simp)]
/-- how many blocks are free -/
def frees (n : Nat) (Z : Nat → Txt) : Nat := cnt (isFree n Z) n
theorem Av.cntZ {n : Nat} {Z : Nat → Txt} {T : TM} (a : Av n Z T) (d : Dim n) : cntTo T (geoN n) (4096 * ((geoN n).inodes - (geoN n).bitmap)) = frees n Z := by
  have h : ∀ m, cntTo T (geoN n) m = cnt (isFree n Z) m := fun m => by
    induction m with
    | zero => rfl
    | succ m ih =>
      show cntTo T (geoN n) m + (if FreeAt T (geoN n) m then 1 else 0) = cnt (isFree n Z) m + (if isFree n Z m = true then 1 else 0)
      rw [ih]
      by_cases e : isFree n Z m = true
      · rw [if_pos e, if_pos ((a.free d m).mpr e)]
      · rw [if_neg e, if_neg fun x => e ((a.free d m).mp x)]
  rw [h]
  have hino : (geoN n).inodes = 98 + (n + 4095) / 4096 := rfl
  have hbm : (geoN n).bitmap = 98 := rfl
  have e : 4096 * ((geoN n).inodes - (geoN n).bitmap) = n + (4096 * ((geoN n).inodes - (geoN n).bitmap) - n) := by omega
  rw [e]
  exact cnt_hi (fun j hj => by
    cases e : isFree n Z j with
    | false => rfl
    | true => have := (isFree_iff.mp e).2.1; omega) _
end Go.Proofs.YtcdpakjhjmchhaaGreatDoor.Av
