/-
  SPACE: Take and Free.
-/
import Derived.Test.YtcdpakjhjmchhaaGreatDoorSpcB
namespace Go.Proofs.YtcdpakjhjmchhaaGreatDoor.Spc
open Go Go.Proofs Go.Proofs.YtcdpakjhjmchhaaGreatDoor.Wx Go.Proofs.YtcdpakjhjmchhaaGreatDoor.Hp Go.Proofs.YtcdpakjhjmchhaaGreatDoor.W Go.Proofs.YtcdpakjhjmchhaaGreatDoor.Ad Go.Proofs.YtcdpakjhjmchhaaGreatDoor.Tm Go.Proofs.YtcdpakjhjmchhaaGreatDoor.Bt Go.Proofs.YtcdpakjhjmchhaaGreatDoor.Rg

/-- a data block that is free -/
def FreeAt (T : TM) (g : G) (m : Nat) : Prop := bitAt (T.read (g.at_ m)).1 (m % 4096) = false ∧ g.data ≤ m ∧ m < g.blocks
instance (T : TM) (g : G) (m : Nat) : Decidable (FreeAt T g m) := by unfold FreeAt; exact inferInstance
theorem isF_iff {T : TM} {g : G} {k t : Nat} (hk : g.bitmap ≤ k) (ht : t < 4096) : isF g (4096 * (k - g.bitmap)) (T.read k).1 t ↔ FreeAt T g (4096 * (k - g.bitmap) + t) := by
  unfold isF FreeAt
  have e1 : g.at_ (4096 * (k - g.bitmap) + t) = (k : Int) := by
    unfold G.at_
    have : (4096 * (k - g.bitmap) + t) / 4096 = k - g.bitmap := by omega
    rw [this]; omega
  have e2 : (4096 * (k - g.bitmap) + t) % 4096 = t := by omega
  rw [e1, e2]
/-- how many are free below m -/
def cntTo (T : TM) (g : G) : Nat → Nat
  | 0 => 0
  | m + 1 => cntTo T g m + if FreeAt T g m then 1 else 0
theorem cnt_zero {T : TM} {g : G} {i : Nat} : ∀ d, (∀ t, i ≤ t → t < i + d → ¬ FreeAt T g t) → cntTo T g (i + d) = cntTo T g i
  | 0, _ => rfl
  | d + 1, h => by
    show cntTo T g (i + d) + (if FreeAt T g (i + d) then 1 else 0) = _
    rw [if_neg (h (i + d) (by omega) (by omega)), cnt_zero d fun t h1 h2 => h t h1 (by omega)]; rfl
theorem cnt_full {T : TM} {g : G} {i : Nat} : ∀ d, (∀ t, i ≤ t → t < i + d → FreeAt T g t) → cntTo T g (i + d) = cntTo T g i + d
  | 0, _ => rfl
  | d + 1, h => by
    show cntTo T g (i + d) + (if FreeAt T g (i + d) then 1 else 0) = _
    rw [if_pos (h (i + d) (by omega) (by omega)), cnt_full d fun t h1 h2 => h t h1 (by omega)]; omega
theorem cnt_run {T : TM} {g : G} {i j a b : Nat} (h1 : i ≤ a) (h2 : a ≤ b) (h3 : b ≤ j) (h : ∀ t, i ≤ t → t < j → (FreeAt T g t ↔ a ≤ t ∧ t < b)) : cntTo T g j = cntTo T g i + (b - a) := by
  have e1 := cnt_zero (T := T) (g := g) (i := i) (a - i) fun t x y z => by have := (h t x (by omega)).mp z; omega
  have e2 := cnt_full (T := T) (g := g) (i := a) (b - a) fun t x y => (h t (by omega) (by omega)).mpr ⟨x, by omega⟩
  have e3 := cnt_zero (T := T) (g := g) (i := b) (j - b) fun t x y z => by have := (h t (by omega) (by omega)).mp z; omega
  rw [show i + (a - i) = a by omega] at e1
  rw [show a + (b - a) = b by omega] at e2
  rw [show b + (j - b) = j by omega] at e3
  omega
theorem cnt_le (T : TM) (g : G) : ∀ m, cntTo T g m ≤ m
  | 0 => Nat.le_refl _
  | m + 1 => by
    have := cnt_le T g m
    show cntTo T g m + (if _ then 1 else 0) ≤ _
    split <;> omega
/-- the cells of Free -/
structure Fk (n : Nat) (h : Heap) (g : G) (x : Int) (hh : Heap) : Prop where
  f : Fr No h hh
  e : n = h.size
  size : n + 2 ≤ hh.size
  r1 : rd hh n = g.v
  o2 : Own hh (n + 1)
  r2 : rd hh (n + 1) = [.int .i64 x]
theorem Fk.step {n : Nat} {h hh hh' : Heap} {g : G} {x : Int} {F : Nat → Prop} (a : Fk n h g x hh) (f : Fr F hh hh') (hF : ∀ b, F b → n + 2 ≤ b) : Fk n h g x hh' := by
  have z := f.size
  have s := a.size
  have e := a.e
  have k : ∀ b, b < n + 2 → ¬ F b := fun b hb y => by have := hF b y; omega
  exact ⟨a.f.trans f fun b hb y => (k b (by omega) y).elim, e, by omega, (f.rd (by omega) (k _ (by omega))).trans a.r1, f.own a.o2.lt (k _ (by omega)) a.o2, (f.rd (by omega) (k _ (by omega))).trans a.r2⟩
theorem Fk.put {n : Nat} {h hh hh' : Heap} {g : G} {x y : Int} (a : Fk n h g x hh) (d : Did (n + 1) hh hh' ((rd hh (n + 1)).set 0 (.int .i64 y))) : Fk n h g y hh' := by
  have s := a.size
  have e := a.e
  exact ⟨a.f.did d fun hb => by omega, e, by rw [d.size]; exact s, (d.at_ (by omega) (by omega)).trans a.r1, d.own, by rw [d.rd, a.r2]; rfl⟩
theorem Free_spec {h : Heap} {F : Nat → Prop} {t d : Option Addr} {T : TM} {g : G} {K : Value → Heap → Prop} (x : Tx h F t d T) (ok : g.ok) (hbi : g.bitmap ≤ g.inodes)
    (hbad : ∀ k : Nat, g.bitmap ≤ k → k < g.inodes → (T.read k).2 ≠ 0 → ∀ h', Fr No h h' → K (.tuple #[.int .i64 0, .int .i64 (T.read k).2]) h')
    (hK : ∀ h', Fr No h h' → K (.tuple #[.int .i64 (cntTo T g (4096 * (g.inodes - g.bitmap))), .int .i64 0]) h') : C.space_Free t g.v h K := by
  refine space_Free.ok (New.intro fun h2 n2 => New.intro fun h3 n3 => ?_)
  have z2 := n2.size
  have z3 := n3.size
  have e2 : h2.size = h.size + 1 := z2
  have b2 := ok.m
  have b3 := ok.i
  refine Put.intro n3.own (by rw [n3.rd]; exact Nat.one_pos) fun h4 d4 => ?_
  have z4 := d4.size
  have k4 : Fk h.size h g 0 h4 := by
    have r := d4.rd
    have o := d4.own
    rw [n3.rd] at r
    rw [e2] at r o
    exact ⟨(n2.fr.new n3).did d4 fun hb => by omega, rfl, by omega, (d4.at_ (by omega) (by omega)).trans ((n3.at_ (by omega)).trans n2.rd), o, r⟩
  rw [e2]
  refine ⟨g.v, rfl, cellsAll k4.r1, ?_⟩
  refine each_spec (T := T) (F := F) (d := d) ok hbi (fun k hh => Fk h.size h g (cntTo T g (4096 * (k - g.bitmap)) : Nat) hh) (fun _ => False) (fun k hh j => x.no j.f) (fun k hh hh' j f => j.step f fun b hb => by have hb : h4.size ≤ b := hb; omega) (fun k hh A l c j hk0 hk1 he B => ?_) ?_
    (fun hh j => ⟨_, rfl, cf rfl ⟨_, rdc j.r2 rfl, hK hh j.f⟩⟩) (fun hh e => e.elim) fun k hh j hk0 hk1 he => ⟨_, rfl, cn (fun _ => hbad k hk0 hk1 he hh j.f) fun e => absurd e he⟩
  · have hlen := Tx.readLen x he
    have hl : l = 512 := by rw [← B.1]; exact hlen
    subst hl
    have sz := j.size
    show C.space_Free_c1 _ A 512 c (some ⟨h.size, 0, none⟩) (some ⟨h.size + 1, 0, none⟩) hh _
    refine space_Free_c1.ok (os ⟨g.v, rfl, cellsAll j.r1, ?_⟩)
    refine rows_spec B (by omega) (by omega) ok (by omega) rfl (fun i hx => Fk h.size h g (cntTo T g (4096 * (k - g.bitmap) + i) : Nat) hx ∧ Fr (fun b => b = h.size + 1) hh hx) (fun _ => False) (fun i hx hx' q f => ⟨q.1.step f fun b hb => by have hb : hh.size ≤ b := hb; omega, q.2.trans f fun b hb y => by have y : hh.size ≤ b := y; omega⟩)
      (fun _ _ e _ => e.elim) (fun i j' hx q h1 h2 h3 => ?_) (fun i j' a b hx q h1 h2 h3 h4 h5 h6 => ?_) ⟨by rw [Nat.add_zero]; exact j, Fr.refl _ _⟩ fun hx q => ⟨rfl, true, rfl, ?_, ?_, fun x => by cases x⟩
    · have := cnt_zero (T := T) (g := g) (i := 4096 * (k - g.bitmap) + i) (j' - i) fun t x y z => by
        refine h3 (t - 4096 * (k - g.bitmap)) (by omega) (by omega) ((isF_iff hk0 (by omega)).mpr ?_)
        rw [show 4096 * (k - g.bitmap) + (t - 4096 * (k - g.bitmap)) = t by omega]; exact z
      rw [show 4096 * (k - g.bitmap) + i + (j' - i) = 4096 * (k - g.bitmap) + j' by omega] at this
      show Fk _ _ _ (cntTo T g (4096 * (k - g.bitmap) + j') : Nat) hx ∧ _
      rw [this]; exact q
    · show C.space_Free_c1_c1 _ _ (some ⟨h.size + 1, 0, none⟩) hx _
      have cl := cnt_le T g (4096 * (k - g.bitmap) + j')
      have := cnt_run (T := T) (g := g) (i := 4096 * (k - g.bitmap) + i) (j := 4096 * (k - g.bitmap) + j') (a := a) (b := b) (by omega) (by omega) (by omega) fun t x y => by
        have := h6 (t - 4096 * (k - g.bitmap)) (by omega) (by omega)
        rw [isF_iff hk0 (by omega), show 4096 * (k - g.bitmap) + (t - 4096 * (k - g.bitmap)) = t by omega] at this
        exact this
      refine space_Free_c1_c1.ok (os ⟨_, rdc q.1.r2 rfl, os (Put.intro q.1.o2 (by rw [q.1.r2]; exact Nat.one_pos) fun h7 d7 => ⟨true, rfl, d7.fr.mono fun b _ e => by show b < hh.size; omega, fun _ => ⟨?_, ?_⟩, fun e => by cases e⟩)⟩)
      · rw [wrap_i64 (n := (b : Int) - a) (by omega) (by omega), wrap_i64 (by omega) (by omega)] at d7
        have := q.1.put d7
        rw [show ((cntTo T g (4096 * (k - g.bitmap) + i) : Nat) : Int) + ((b : Int) - a) = ((cntTo T g (4096 * (k - g.bitmap) + j') : Nat) : Int) by omega] at this
        exact this
      · exact q.2.trans d7.fr fun _ _ e => e
    · rcases q with q | q
      · exact q.2.mono fun b _ e => by show b < h4.size; omega
      · exact q.elim
    · intro _
      rcases q with q | q
      · have := q.1
        rw [show 4096 * (k - g.bitmap) + 8 * 512 = 4096 * (k + 1 - g.bitmap) by omega] at this
        exact this
      · exact q.elim
  · show Fk _ _ _ (cntTo T g (4096 * (g.bitmap - g.bitmap)) : Nat) h4
    rw [Nat.sub_self]; exact k4
/-! Take -/
theorem tm_eta {T : TM} {p : List (Int × Txt)} {u : List (Int × Option Txt)} (h1 : p = T.put) (h2 : u = T.undo) : { T with put := p, undo := u } = T := by subst h1; subst h2; rfl
theorem back_id (T : TM) : (T.back T.undo.length).1 = T := by
  unfold TM.back
  split
  · rfl
  · split
    · rfl
    · refine tm_eta ?_ ?_
      · rw [show ((T.undo.length : Nat) : Int).toNat = T.undo.length from rfl, List.drop_length]; rfl
      · rw [show ((T.undo.length : Nat) : Int).toNat = T.undo.length from rfl, List.take_length]
theorem back_write {T : TM} {i : Int} {bs : Txt} (e : (T.write i bs).2 = 0) : ((T.write i bs).1.back T.undo.length).1 = T := by
  obtain ⟨h1, h2, h3, h4, h5, ew⟩ := TM.write_ok e
  rw [ew]
  unfold TM.back
  show (if T.over = true then _ else if ((T.undo.length : Nat) : Int) < 0 ∨ ((T.undo.length : Nat) : Int) > ((T.undo ++ [(i, aget T.put i)]).length : Nat) then _ else _ : TM × Int).1 = T
  rw [if_neg (by rw [h1]; simp), if_neg (by rw [List.length_append]; simp only [List.length_singleton]; omega)]
  refine tm_eta (T := T) ?_ ?_
  · show undoAll (aput T.put i bs) ((T.undo ++ [(i, aget T.put i)]).drop T.undo.length) = T.put
    rw [List.drop_left]
    show undo1 (aput T.put i bs) (i, aget T.put i) = _
    unfold undo1
    cases ea : aget T.put i with
    | none => exact adel_aput ea
    | some b => exact aput_aput ea
  · show (T.undo ++ [(i, aget T.put i)]).take T.undo.length = T.undo
    exact List.take_left
theorem rep_one (v : Value) : ∀ n, repCells [v] n = List.replicate n v
  | 0 => rfl
  | n + 1 => by
    show [v] ++ repCells [v] n = _
    rw [rep_one v n]; rfl
theorem setBit_bad {T : TM} {g : G} {m : Nat} {on : Bool} (e : (setBit T g m on).2 ≠ 0) : (setBit T g m on).1 = T := by
  unfold setBit at e ⊢
  split
  · rfl
  · rename_i h; rw [if_neg h] at e; exact TM.write_bad e
theorem setBit_good {T : TM} {g : G} {m : Nat} {on : Bool} (e : (setBit T g m on).2 = 0) : (T.read (g.at_ m)).2 = 0 ∧ setBit T g m on = T.write (g.at_ m) (putBit (T.read (g.at_ m)).1 (m % 4096) on) := by
  unfold setBit at e ⊢
  by_cases h : (T.read (g.at_ m)).2 ≠ 0
  · rw [if_pos h] at e; exact absurd e h
  · rw [if_neg h]; exact ⟨by omega, rfl⟩
theorem setBit_back {T : TM} {g : G} {m : Nat} {on : Bool} (e : (setBit T g m on).2 = 0) : ((setBit T g m on).1.back T.undo.length).1 = T := by
  obtain ⟨h1, h2⟩ := setBit_good e
  rw [h2] at e ⊢
  exact back_write e
theorem setBit_undo (T : TM) (g : G) (m : Nat) (on : Bool) : (setBit T g m on).1.undo.length ≤ T.undo.length + 1 := by
  by_cases e : (setBit T g m on).2 = 0
  · obtain ⟨h1, h2⟩ := setBit_good e
    rw [h2] at e ⊢
    obtain ⟨_, _, _, _, _, ew⟩ := TM.write_ok e
    rw [ew]
    show (T.undo ++ [_]).length ≤ _
    rw [List.length_append]; exact Nat.le_refl _
  · rw [setBit_bad e]; omega
theorem rep_zeros : repCells [.int .u8 0] (Int.toNat 512) = (List.replicate 512 (0 : UInt8)).map bv := by
  rw [List.map_replicate]
  show repCells [.int .u8 0] 512 = List.replicate 512 (.int .u8 0)
  exact rep_one _ 512
def zeros512 : Txt := List.replicate 512 0
/-- Take, when m is the lowest -/
def takeAt (T : TM) (g : G) (m : Nat) : TM × Int × Int :=
  if (setBit T g m true).2 ≠ 0 then (T, 0, (setBit T g m true).2) else
  if ((setBit T g m true).1.write m zeros512).2 ≠ 0 then (T, 0, ((setBit T g m true).1.write m zeros512).2) else
    (((setBit T g m true).1.write m zeros512).1, m, 0)
/-- the cells of Take -/
structure Tk (n : Nat) (h : Heap) (t : Option Addr) (g : G) (x : Int) (hh : Heap) : Prop where
  f : Fr No h hh
  e : n = h.size
  size : n + 4 ≤ hh.size
  r1 : rd hh n = [.pointer t]
  r2 : rd hh (n + 1) = g.v
  o3 : Own hh (n + 2)
  r3 : rd hh (n + 2) = [.int .i64 0]
  o4 : Own hh (n + 3)
  r4 : rd hh (n + 3) = [.int .i64 x]
theorem Tk.step {n : Nat} {h hh hh' : Heap} {t : Option Addr} {g : G} {x : Int} {F : Nat → Prop} (a : Tk n h t g x hh) (f : Fr F hh hh') (hF : ∀ b, F b → n + 4 ≤ b) : Tk n h t g x hh' := by
  have z := f.size
  have s := a.size
  have e := a.e
  have k : ∀ b, b < n + 4 → ¬ F b := fun b hb y => by have := hF b y; omega
  exact ⟨a.f.trans f fun b hb y => (k b (by omega) y).elim, e, by omega, (f.rd (by omega) (k _ (by omega))).trans a.r1, (f.rd (by omega) (k _ (by omega))).trans a.r2,
    f.own a.o3.lt (k _ (by omega)) a.o3, (f.rd (by omega) (k _ (by omega))).trans a.r3, f.own a.o4.lt (k _ (by omega)) a.o4, (f.rd (by omega) (k _ (by omega))).trans a.r4⟩
theorem Tk.put {n : Nat} {h hh hh' : Heap} {t : Option Addr} {g : G} {x y : Int} (a : Tk n h t g x hh) (d : Did (n + 3) hh hh' ((rd hh (n + 3)).set 0 (.int .i64 y))) : Tk n h t g y hh' := by
  have s := a.size
  have e := a.e
  exact ⟨a.f.did d fun hb => by omega, e, by rw [d.size]; exact s, (d.at_ (by omega) (by omega)).trans a.r1, (d.at_ (by omega) (by omega)).trans a.r2, d.ow a.o3, (d.at_ (by omega) (by omega)).trans a.r3, d.own, by rw [d.rd, a.r4]; rfl⟩
/-- and later on -/
structure Tq (n q : Nat) (t : Option Addr) (g : G) (x mk : Int) (hh : Heap) : Prop where
  lt : n + 4 ≤ q ∧ q < hh.size
  r1 : rd hh n = [.pointer t]
  r2 : rd hh (n + 1) = g.v
  o3 : Own hh (n + 2)
  l3 : (rd hh (n + 2)).length = 1
  r4 : rd hh (n + 3) = [.int .i64 x]
  r5 : rd hh q = [.int .i64 mk]
theorem Tq.step {n q : Nat} {hh hh' : Heap} {t : Option Addr} {g : G} {x mk : Int} {F : Nat → Prop} (a : Tq n q t g x mk hh) (f : Fr F hh hh') (hF : ∀ b, F b → n ≤ b → b ≤ q → False) : Tq n q t g x mk hh' := by
  have z := f.size
  have s := a.lt
  have k : ∀ b, n ≤ b → b ≤ q → ¬ F b := fun b h1 h2 y => hF b y h1 h2
  exact ⟨by omega, (f.rd (by omega) (k _ (by omega) (by omega))).trans a.r1, (f.rd (by omega) (k _ (by omega) (by omega))).trans a.r2, f.own a.o3.lt (k _ (by omega) (by omega)) a.o3, by rw [f.rd (by omega) (k _ (by omega) (by omega))]; exact a.l3,
    (f.rd (by omega) (k _ (by omega) (by omega))).trans a.r4, (f.rd (by omega) (k _ (by omega) (by omega))).trans a.r5⟩
theorem Tq.put {n q : Nat} {hh hh' : Heap} {t : Option Addr} {g : G} {x mk : Int} {v : Value} (a : Tq n q t g x mk hh) (d : Did (n + 2) hh hh' ((rd hh (n + 2)).set 0 v)) : Tq n q t g x mk hh' ∧ rd hh' (n + 2) = [v] := by
  have s := a.lt
  have l3 := a.l3
  have e : rd hh' (n + 2) = [v] := by
    rw [d.rd]
    match rd hh (n + 2), l3 with
    | [_], _ => rfl
  exact ⟨⟨by rw [d.size]; exact s, (d.at_ (by omega) (by omega)).trans a.r1, (d.at_ (by omega) (by omega)).trans a.r2, d.own, by rw [e]; rfl, (d.at_ (by omega) (by omega)).trans a.r4, (d.at_ (by omega) (by omega)).trans a.r5⟩, e⟩
theorem Take_spec {h : Heap} {F : Nat → Prop} {t d : Option Addr} {T : TM} {g : G} {K : Value → Heap → Prop} (x : Tx h F t d T) (ok : g.ok) (hbi : g.bitmap ≤ g.inodes) (hd0 : 0 < g.data) (hu : T.undo.length < 900000000)
    (hbad : ∀ k : Nat, g.bitmap ≤ k → k < g.inodes → (∀ m, m < 4096 * (k - g.bitmap) → ¬ FreeAt T g m) → (T.read k).2 ≠ 0 → ∀ h', Fr No h h' → K (.tuple #[.int .i64 0, .int .i64 (T.read k).2]) h')
    (hfull : (∀ m, m < 4096 * (g.inodes - g.bitmap) → ¬ FreeAt T g m) → ∀ h', Fr No h h' → K (.tuple #[.int .i64 0, .int .i64 90]) h')
    (hgot : ∀ m, m < 4096 * (g.inodes - g.bitmap) → FreeAt T g m → (∀ m', m' < m → ¬ FreeAt T g m') → (T.read (g.at_ m)).2 = 0 → ∀ h' F', Fr F h h' → Gw h F h' F' → Tx h' F' t d (takeAt T g m).1 →
      K (.tuple #[.int .i64 (takeAt T g m).2.1, .int .i64 (takeAt T g m).2.2]) h') : C.space_Take t g.v h K := by
  refine space_Take.ok (New.intro fun h2 n2 => New.intro fun h3 n3 => New.intro fun h4 n4 => New.intro fun h5 n5 => ?_)
  have z2 := n2.size
  have z3 := n3.size
  have z4 := n4.size
  have z5 := n5.size
  have e2 : h2.size = h.size + 1 := z2
  have e3 : h3.size = h.size + 2 := by omega
  have e4 : h4.size = h.size + 3 := by omega
  have b2 := ok.m
  have b3 := ok.i
  refine Put.intro n5.own (by rw [n5.rd]; exact Nat.one_pos) fun h6 d6 => ?_
  have z6 := d6.size
  have k6 : Tk h.size h t g 0 h6 := by
    have r4 := d6.rd
    have o4 := d6.own
    rw [n5.rd] at r4
    rw [e4] at r4 o4
    have r3 := n4.rd
    have o3 := n4.own
    rw [e3] at r3 o3
    have r2 := n3.rd
    rw [e2] at r2
    refine ⟨(((n2.fr.new n3).new n4).new n5).did d6 fun hb => by omega, rfl, by omega, ?_, ?_, d6.ow (n5.ow o3), ?_, o4, r4⟩
    · exact (d6.at_ (by omega) (by omega)).trans ((n5.at_ (by omega)).trans ((n4.at_ (by omega)).trans ((n3.at_ (by omega)).trans n2.rd)))
    · exact (d6.at_ (by omega) (by omega)).trans ((n5.at_ (by omega)).trans ((n4.at_ (by omega)).trans r2))
    · exact (d6.at_ (by omega) (by omega)).trans ((n5.at_ (by omega)).trans r3)
  rw [e2, e3, e4]
  refine ⟨_, rdc k6.r1 rfl, g.v, rfl, cellsAll k6.r2, ?_⟩
  -- e is put
  have pe : ∀ {hh : Heap} {y v : Int} {k : Heap → Prop}, Tk h.size h t g y hh → (∀ h8, h8.size = hh.size → Fr No h h8 → rd h8 (h.size + 2) = [.int .i64 v] → Own h8 (h.size + 2) → rd h8 h.size = [.pointer t] → rd h8 (h.size + 1) = g.v → rd h8 (h.size + 3) = [.int .i64 y] → k h8) → Put ⟨h.size + 2, 0, none⟩ (.int .i64 v) hh k := by
    intro hh y v k a H
    have s := a.size
    refine Put.intro a.o3 (by rw [a.r3]; exact Nat.one_pos) fun h8 d8 => ?_
    exact H h8 d8.size (a.f.did d8 fun hb => by omega) (by rw [d8.rd, a.r3]; rfl) d8.own ((d8.at_ (by omega) (by omega)).trans a.r1) ((d8.at_ (by omega) (by omega)).trans a.r2) ((d8.at_ (by omega) (by omega)).trans a.r4)
  refine each_spec (T := T) (F := F) (d := d) ok hbi (fun k hh => Tk h.size h t g 0 hh ∧ ∀ m, m < 4096 * (k - g.bitmap) → ¬ FreeAt T g m)
    (fun hh => ∃ m : Nat, Tk h.size h t g m hh ∧ m < 4096 * (g.inodes - g.bitmap) ∧ FreeAt T g m ∧ (∀ m', m' < m → ¬ FreeAt T g m') ∧ (T.read (g.at_ m)).2 = 0)
    (fun k hh j => x.no j.1.f) (fun k hh hh' j f => ⟨j.1.step f fun b hb => by have hb : h6.size ≤ b := hb; omega, j.2⟩) (fun k hh A l c j hk0 hk1 he B => ?_) ⟨k6, fun m hm => by omega⟩ (fun hh j => ?_) (fun hh j => ?_) fun k hh j hk0 hk1 he => ?_
  · have hlen := Tx.readLen x he
    have hl : l = 512 := by rw [← B.1]; exact hlen
    subst hl
    obtain ⟨j, jn⟩ := j
    have sz := j.size
    show C.space_Take_c1 _ A 512 c (some ⟨h.size + 1, 0, none⟩) (some ⟨h.size + 3, 0, none⟩) hh _
    refine space_Take_c1.ok (os ⟨g.v, rfl, cellsAll j.r2, ?_⟩)
    refine rows_spec B (by omega) (by omega) ok (by omega) rfl (fun i hx => Tk h.size h t g 0 hx ∧ Fr (fun b => b = h.size + 3) hh hx ∧ ∀ m, m < 4096 * (k - g.bitmap) + i → ¬ FreeAt T g m)
      (fun hx => ∃ m : Nat, Tk h.size h t g m hx ∧ Fr (fun b => b = h.size + 3) hh hx ∧ m < 4096 * (k - g.bitmap) + 4096 ∧ 4096 * (k - g.bitmap) ≤ m ∧ FreeAt T g m ∧ ∀ m', m' < m → ¬ FreeAt T g m')
      (fun i hx hx' q f => ⟨q.1.step f fun b hb => by have hb : hh.size ≤ b := hb; omega, q.2.1.trans f fun b hb y => by have y : hh.size ≤ b := y; omega, q.2.2⟩)
      (fun hx hx' q f => ?_) (fun i j' hx q h1 h2 h3 => ⟨q.1, q.2.1, fun m hm z => ?_⟩) (fun i j' a b hx q h1 h2 h3 h4 h5 h7 => ?_) ⟨j, Fr.refl _ _, fun m hm => jn m (by omega)⟩ fun hx q => ⟨rfl, os ?_⟩
    · obtain ⟨m, q1, q2, q3⟩ := q
      exact ⟨m, q1.step f fun b hb => by have hb : hh.size ≤ b := hb; omega, q2.trans f fun b hb y => by have y : hh.size ≤ b := y; omega, q3⟩
    · rcases Nat.lt_or_ge m (4096 * (k - g.bitmap) + i) with hm2 | hm2
      · exact q.2.2 m hm2 z
      · refine h3 (m - 4096 * (k - g.bitmap)) (by omega) (by omega) ((isF_iff hk0 (by omega)).mpr ?_)
        rw [show 4096 * (k - g.bitmap) + (m - 4096 * (k - g.bitmap)) = m by omega]; exact z
    · show C.space_Take_c1_c1 _ _ (some ⟨h.size + 3, 0, none⟩) hx _
      have fr : ∀ m, 4096 * (k - g.bitmap) + i ≤ m → m < 4096 * (k - g.bitmap) + j' → (FreeAt T g m ↔ a ≤ m ∧ m < b) := fun m x y => by
        have := h7 (m - 4096 * (k - g.bitmap)) (by omega) (by omega)
        rw [isF_iff hk0 (by omega), show 4096 * (k - g.bitmap) + (m - 4096 * (k - g.bitmap)) = m by omega] at this
        exact this
      refine space_Take_c1_c1.ok (os (Put.intro q.1.o4 (by rw [q.1.r4]; exact Nat.one_pos) fun h8 d8 => ⟨false, rfl, d8.fr.mono fun b _ e => by show b < hh.size; omega, fun e => (by cases e), fun _ => ⟨a, q.1.put d8, q.2.1.trans d8.fr fun _ _ e => e, by omega, by omega, (fr a (by omega) (by omega)).mpr ⟨Nat.le_refl _, by omega⟩, fun m' hm' z => ?_⟩⟩))
      rcases Nat.lt_or_ge m' (4096 * (k - g.bitmap) + i) with hm2 | hm2
      · exact q.2.2 m' hm2 z
      · have := (fr m' hm2 (by omega)).mp z; omega
    · rcases q with q | ⟨m, q1, q2, q3, q4, q5, q6⟩
      · refine ⟨_, rdc q.1.r4 rfl, true, rfl, q.2.1.mono fun b _ e => by show b < h6.size; omega, fun _ => ⟨q.1, fun m hm => q.2.2 m (by omega)⟩, fun e => by cases e⟩
      · have hm0 : 0 < m := by have := q5.2.1; omega
        refine ⟨_, rdc q1.r4 rfl, false, ?_, q2.mono fun b _ e => by show b < h6.size; omega, fun e => (by cases e), fun _ => ⟨m, q1, by omega, q5, q6, ?_⟩⟩
        · have : ((m : Int) == 0) = false := beq_eq_false_iff_ne.mpr (by omega)
          rw [this]
        · have e : g.at_ m = (k : Int) := by
            unfold G.at_
            have : m / 4096 = k - g.bitmap := by omega
            rw [this]; omega
          rw [e]; exact he
  · -- all are taken
    obtain ⟨j, jn⟩ := j
    refine ⟨_, rfl, pe j fun h8 z8 f8 r3 o3 r1 r2 r4 => ⟨_, rdc r3 rfl, cf rfl ⟨_, rdc r4 rfl, ct rfl ?_⟩⟩⟩
    refine Put.intro o3 (by rw [r3]; exact Nat.one_pos) fun h9 d9 => ⟨90, rdc (xs := [.int .i64 90]) (by rw [d9.rd, r3]; rfl) rfl, hfull jn h9 (f8.did d9 fun hb => by omega)⟩
  · -- m is the lowest
    obtain ⟨m, j, jm, jf, jl, jr⟩ := j
    have hm0 : 0 < m := by have := jf.2.1; omega
    have sz := j.size
    have live := TM.read_ok_over jr
    have emark : T.mark = ((T.undo.length : Int), 0) := by unfold TM.mark; rw [live, if_neg (by simp)]
    refine ⟨_, rfl, pe j fun h8 z8 f8 r3 o3 r1 r2 r4 => ⟨_, rdc r3 rfl, cf rfl ⟨_, rdc r4 rfl, cf (beq_eq_false_iff_ne.mpr (by omega)) ⟨_, rdc r1 rfl, Mark_spec (x.no f8) ⟨_, _, rfl, ?_⟩⟩⟩⟩⟩
    rw [emark]
    refine New.intro fun h12 n12 => ?_
    have z12 := n12.size
    refine Put.intro n12.own (by rw [n12.rd]; exact Nat.one_pos) fun h13 d13 => ?_
    have z13 := d13.size
    have q13 : Tq h.size h8.size t g m T.undo.length h13 := by
      refine ⟨by omega, (d13.at_ (by omega) (by omega)).trans ((n12.at_ (by omega)).trans r1), (d13.at_ (by omega) (by omega)).trans ((n12.at_ (by omega)).trans r2), d13.ow (n12.ow o3), ?_, (d13.at_ (by omega) (by omega)).trans ((n12.at_ (by omega)).trans r4), by rw [d13.rd, n12.rd]; rfl⟩
      rw [d13.at_ (by omega) (by omega), n12.at_ (by omega), r3]; rfl
    have f13 : Fr No h h13 := (f8.new n12).did d13 fun hb => by omega
    refine Put.intro q13.o3 (by rw [q13.l3]; exact Nat.one_pos) fun h14 d14 => ?_
    obtain ⟨q14, r14⟩ := q13.put d14
    have z14 := d14.size
    have f14 : Fr No h h14 := f13.did d14 fun hb => by omega
    refine ⟨0, rdc r14 rfl, cf rfl ⟨_, rdc q14.r1 rfl, g.v, rfl, cellsAll q14.r2, _, rdc q14.r4 rfl, ?_⟩⟩
    have mb := jf.2.2
    -- refused: it goes back
    have refuse : ∀ (hs : Heap) (Fs : Nat → Prop) (Ts : TM) (e : Int) (k' : Heap → Prop), e ≠ 0 → Fr F h hs → Gw h F hs Fs → Tx hs Fs t d Ts → Ts.undo.length < 1000000000 → (Ts.back T.undo.length).1 = T → (∀ b, h.size ≤ b → b ≤ h8.size → ¬ Fs b) → Tq h.size h8.size t g m T.undo.length hs → rd hs (h.size + 2) = [.int .i64 e] →
        (∀ h19 F', Fr F h h19 → Gw h F h19 F' → Tx h19 F' t d T → rd h19 (h.size + 2) = [.int .i64 e] → k' h19) → D.space_Take_c2 (some ⟨h.size, 0, none⟩) (some ⟨h8.size, 0, none⟩) (some ⟨h.size + 2, 0, none⟩) hs k' := by
      intro hs Fs Ts e k' he fs gs xs us eb nq qs rs H
      refine space_Take_c2.okD (os ⟨_, rdc qs.r1 rfl, os ⟨_, rdc qs.r5 rfl, space_back.ok (os ⟨_, rdc rs rfl, cn (fun _ => ?_) fun e0 => absurd e0 he⟩)⟩⟩)
      refine Back_spec xs us fun h19 f19 x19 => ⟨_, rfl, rfl, ?_⟩
      rw [eb] at x19
      have lq := qs.lt
      have nF : ¬ Fs (h.size + 2) := nq _ (by omega) (by omega)
      exact H h19 Fs (fs.trans f19 fun b hb y => (gs.old b hb).mp y) ⟨gs.old, fun b hb => Nat.lt_of_lt_of_le (gs.lt b hb) f19.size⟩ x19 ((f19.rd (by omega) nF).trans rs)
    refine set_spec (x.no f14) ok (by omega) (by omega) (by omega) fun h16 F6 f6 g6 x6 => ⟨_, rfl, ?_⟩
    have x6 : Tx h16 F6 t d (setBit T g m true).1 := x6
    have em : ((m : Nat) : Int).toNat = m := rfl
    rw [em]
    have z16 := f6.size
    have nq6 : ∀ b, h.size ≤ b → b ≤ h8.size → ¬ F6 b := fun b h1 h2 y => by
      have := x.lt ((g6.old b (by omega)).mp y)
      omega
    have nF6 : ∀ b, F b → h.size ≤ b → b ≤ h8.size → False := fun b y h1 h2 => by have := x.lt y; omega
    have q16 : Tq h.size h8.size t g m T.undo.length h16 := q14.step f6 nF6
    have g16 : Gw h F h16 F6 := (Gw.refl f14.size fun b hb => x.lt hb).trans g6 f14.size
    have f16 : Fr F h h16 := (f14.mono fun _ _ y => y.elim).trans f6 fun _ _ y => y
    refine Put.intro q16.o3 (by rw [q16.l3]; exact Nat.one_pos) fun h17 d17 => ?_
    obtain ⟨q17, r17⟩ := q16.put d17
    have z17 := d17.size
    have x17 : Tx h17 F6 t d (setBit T g m true).1 := x6.fr d17.fr fun b hb e => nq6 b (by omega) (by omega) hb
    have f17 : Fr F h h17 := f16.did d17 fun hb => by omega
    have g17 : Gw h F h17 F6 := ⟨g16.old, fun b hb => by rw [z17]; exact g16.lt b hb⟩
    have u17 : (setBit T g m true).1.undo.length ≤ T.undo.length + 1 := setBit_undo T g m true
    refine ⟨_, rdc r17 rfl, cn (fun he => ?_) fun he => ?_⟩
    · refine ⟨_, rdc r17 rfl, Put.intro q17.o3 (by rw [q17.l3]; exact Nat.one_pos) fun h18 d18 => ?_⟩
      obtain ⟨q18, r18⟩ := q17.put d18
      have z18 := d18.size
      have et : takeAt T g m = (T, 0, (setBit T g m true).2) := by unfold takeAt; rw [if_pos he]
      have hgot := hgot m jm jf jl jr
      rw [et] at hgot
      refine refuse h18 F6 (setBit T g m true).1 _ _ he (f17.did d18 fun hb => by omega) ⟨g17.old, fun b hb => by rw [z18]; exact g17.lt b hb⟩ (x17.fr d18.fr fun b hb e => nq6 b (by omega) (by omega) hb) (by omega) (by rw [setBit_bad he]; exact back_id T) nq6 q18 r18 fun h19 F' f19 g19 x19 r19 => ⟨_, rdc r19 rfl, hgot h19 F' f19 g19 x19⟩
    · refine ⟨_, rdc q17.r1 rfl, _, rdc q17.r4 rfl, by decide, New.intro fun h20 n20 => ⟨rdc ((n20.at_ (by omega)).trans q17.r1) rfl, rdc ((n20.at_ (by omega)).trans q17.r4) rfl, ?_⟩⟩
      have z20 := n20.size
      have B20 : StrAt h20 (some ⟨h17.size, 0, none⟩) 512 zeros512 := strAll (by rw [n20.rd]; exact rep_zeros) List.length_replicate
      have ua : (setBit T g m true).1.undo.length < 1000000000 := by omega
      refine Write_spec (x17.no n20.fr) B20 (by decide) (fun p ep y => ?_) ua fun h21 F7 f21 g21 x21 => ⟨_, rfl, ?_⟩
      · cases ep
        have := x17.lt y
        have y : F6 h17.size := y
        have := g17.lt _ y
        omega
      have z21 := f21.size
      have q20 : Tq h.size h8.size t g m T.undo.length h20 := q17.step n20.fr fun _ y => y.elim
      have q21 : Tq h.size h8.size t g m T.undo.length h21 := q20.step f21 fun b y h1 h2 => nq6 b h1 h2 y
      have f20 : Fr F h h20 := f17.new n20
      have f21' : Fr F h h21 := f20.trans f21 fun b hb y => (g17.old b hb).mp y
      have g20 : Gw h F h20 F6 := ⟨g17.old, fun b hb => by have := g17.lt b hb; omega⟩
      have g21' : Gw h F h21 F7 := g20.trans g21 f20.size
      have nq7 : ∀ b, h.size ≤ b → b ≤ h8.size → ¬ F7 b := fun b h1 h2 y => nq6 b h1 h2 ((g21.old b (by omega)).mp y)
      refine Put.intro q21.o3 (by rw [q21.l3]; exact Nat.one_pos) fun h22 d22 => ?_
      obtain ⟨q22, r22⟩ := q21.put d22
      have z22 := d22.size
      have x22 : Tx h22 F7 t d ((setBit T g m true).1.write m zeros512).1 := x21.fr d22.fr fun b hb e => nq7 b (by omega) (by omega) hb
      have f22 : Fr F h h22 := f21'.did d22 fun hb => by omega
      have g22 : Gw h F h22 F7 := ⟨g21'.old, fun b hb => by rw [z22]; exact g21'.lt b hb⟩
      have hgot := hgot m jm jf jl jr
      refine ⟨_, rdc r22 rfl, cn (fun hw => ?_) fun hw => ?_⟩
      · refine ⟨_, rdc r22 rfl, Put.intro q22.o3 (by rw [q22.l3]; exact Nat.one_pos) fun h23 d23 => ?_⟩
        obtain ⟨q23, r23⟩ := q22.put d23
        have z23 := d23.size
        have et : takeAt T g m = (T, 0, ((setBit T g m true).1.write m zeros512).2) := by unfold takeAt; rw [if_neg (by rw [he]; simp), if_pos hw]
        rw [et] at hgot
        have x23 := x22.fr d23.fr fun b hb e => nq7 b (by omega) (by omega) hb
        rw [TM.write_bad hw] at x23
        refine refuse h23 F7 (setBit T g m true).1 _ _ hw (f22.did d23 fun hb => by omega) ⟨g22.old, fun b hb => by rw [z23]; exact g22.lt b hb⟩ x23 ua (setBit_back he) nq7 q23 r23 fun h24 F' f24 g24 x24 r24 => ⟨_, rdc r24 rfl, hgot h24 F' f24 g24 x24⟩
      · have et : takeAt T g m = (((setBit T g m true).1.write m zeros512).1, (m : Int), 0) := by unfold takeAt; rw [if_neg (by rw [he]; simp), if_neg (by rw [hw]; simp)]
        rw [et] at hgot
        refine ⟨_, rdc q22.r4 rfl, Put.intro q22.o3 (by rw [q22.l3]; exact Nat.one_pos) fun h25 d25 => ?_⟩
        obtain ⟨q25, r25⟩ := q22.put d25
        have z25 := d25.size
        have x25 := x22.fr d25.fr fun b hb e => nq7 b (by omega) (by omega) hb
        refine space_Take_c2.okD (os ⟨_, rdc q25.r1 rfl, os ⟨_, rdc q25.r5 rfl, space_back.ok (os ⟨_, rdc r25 rfl, cf rfl ⟨rfl, 0, rdc r25 rfl, ?_⟩⟩)⟩⟩)
        exact hgot h25 F7 (f22.did d25 fun hb => by omega) ⟨g22.old, fun b hb => by rw [z25]; exact g22.lt b hb⟩ x25
  · obtain ⟨j, jn⟩ := j
    refine ⟨_, rfl, pe j fun h8 z8 f8 r3 o3 r1 r2 r4 => ⟨_, rdc r3 rfl, cn (fun _ => ⟨_, rdc r3 rfl, ?_⟩) fun e => absurd e he⟩⟩
    refine Put.intro o3 (by rw [r3]; exact Nat.one_pos) fun h9 d9 => ⟨_, rdc (xs := [.int .i64 (T.read k).2]) (by rw [d9.rd, r3]; rfl) rfl, hbad k hk0 hk1 jn he h9 (f8.did d9 fun hb => by omega)⟩
end Go.Proofs.YtcdpakjhjmchhaaGreatDoor.Spc
