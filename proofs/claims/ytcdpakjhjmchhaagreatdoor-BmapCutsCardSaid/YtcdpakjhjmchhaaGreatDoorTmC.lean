import Derived.Test.YtcdpakjhjmchhaaGreatDoorDkF
/-
  TRANSACTIONS: what one holds, plainly, and how it stands in the heap.
-/
namespace Go.Proofs.YtcdpakjhjmchhaaGreatDoor.Tm
open Go Go.Proofs Go.Proofs.YtcdpakjhjmchhaaGreatDoor.Wx Go.Proofs.YtcdpakjhjmchhaaGreatDoor.Hp Go.Proofs.YtcdpakjhjmchhaaGreatDoor.W Go.Proofs.YtcdpakjhjmchhaaGreatDoor.Ad

abbrev Txt := List UInt8
/-! maps of numbers -/
def aget {α : Type} : List (Int × α) → Int → Option α
  | [], _ => none
  | (k, v) :: r, x => bif x == k then some v else aget r x
def aput {α : Type} : List (Int × α) → Int → α → List (Int × α)
  | [], x, v => [(x, v)]
  | (k, u) :: r, x, v => bif x == k then (x, v) :: r else (k, u) :: aput r x v
def adel {α : Type} : List (Int × α) → Int → List (Int × α)
  | [], _ => []
  | (k, u) :: r, x => bif x == k then r else (k, u) :: adel r x
theorem aget_aput {α : Type} (v : α) (i j : Int) : ∀ m : List (Int × α), aget (aput m i v) j = if j = i then some v else aget m j
  | [] => by
    show (bif j == i then some v else none) = _
    by_cases h : j = i
    · rw [if_pos h, h, beq_self_eq_true]; rfl
    · rw [if_neg h, beq_eq_false_iff_ne.mpr h]; rfl
  | (k, u) :: r => by
    have ih := aget_aput v i j r
    show aget (bif i == k then (i, v) :: r else (k, u) :: aput r i v) j = if j = i then some v else (bif j == k then some u else aget r j)
    by_cases h : i = k
    · subst h
      rw [beq_self_eq_true]
      show (bif j == i then some v else aget r j) = _
      by_cases h2 : j = i
      · rw [if_pos h2, h2, beq_self_eq_true]; rfl
      · rw [if_neg h2, beq_eq_false_iff_ne.mpr h2]; rfl
    · rw [beq_eq_false_iff_ne.mpr h]
      show (bif j == k then some u else aget (aput r i v) j) = _
      rw [ih]
      by_cases h2 : j = k
      · have hn : ¬ j = i := fun e => h (e.symm.trans h2)
        rw [if_neg hn, if_neg hn, h2, beq_self_eq_true]
      · rw [beq_eq_false_iff_ne.mpr h2]; rfl
theorem aget_none {α : Type} {i : Int} : ∀ {m : List (Int × α)}, aget m i = none ↔ ∀ p ∈ m, p.1 ≠ i
  | [] => ⟨fun _ p hp => (by cases hp), fun _ => rfl⟩
  | (k, u) :: r => by
    show (bif i == k then some u else aget r i) = none ↔ _
    by_cases h : i = k
    · rw [h, beq_self_eq_true]
      exact ⟨fun x => (by cases x), fun x => absurd rfl (x (k, u) (List.mem_cons_self ..))⟩
    · rw [beq_eq_false_iff_ne.mpr h]
      show aget r i = none ↔ _
      rw [aget_none]
      refine ⟨fun x p hp => ?_, fun x p hp => x p (List.mem_cons_of_mem _ hp)⟩
      rcases List.mem_cons.mp hp with rfl | hp
      · exact fun e => h e.symm
      · exact x p hp
theorem aget_mem {α : Type} {i : Int} {v : α} : ∀ {m : List (Int × α)}, aget m i = some v → (i, v) ∈ m
  | [], h => by cases h
  | (k, u) :: r, h => by
    have h : (bif i == k then some u else aget r i) = some v := h
    by_cases e : i = k
    · rw [e, beq_self_eq_true] at h
      cases h
      rw [e]; exact List.mem_cons_self ..
    · rw [beq_eq_false_iff_ne.mpr e] at h
      exact List.mem_cons_of_mem _ (aget_mem h)
theorem aput_mem {α : Type} {i : Int} {v : α} {p : Int × α} : ∀ {m : List (Int × α)}, p ∈ aput m i v → p = (i, v) ∨ p ∈ m
  | [], h => .inl (List.mem_singleton.mp h)
  | (k, u) :: r, h => by
    have h : p ∈ (bif i == k then (i, v) :: r else (k, u) :: aput r i v) := h
    by_cases e : i = k
    · rw [e, beq_self_eq_true] at h
      rcases List.mem_cons.mp h with h | h
      · left; rw [h, e]
      · exact .inr (List.mem_cons_of_mem _ h)
    · rw [beq_eq_false_iff_ne.mpr e] at h
      rcases List.mem_cons.mp h with h | h
      · exact .inr (h ▸ List.mem_cons_self ..)
      · rcases aput_mem h with h | h
        · exact .inl h
        · exact .inr (List.mem_cons_of_mem _ h)
theorem adel_mem {α : Type} {i : Int} {p : Int × α} : ∀ {m : List (Int × α)}, p ∈ adel m i → p ∈ m
  | [], h => h
  | (k, u) :: r, h => by
    have h : p ∈ (bif i == k then r else (k, u) :: adel r i) := h
    by_cases e : i = k
    · rw [e, beq_self_eq_true] at h; exact List.mem_cons_of_mem _ h
    · rw [beq_eq_false_iff_ne.mpr e] at h
      rcases List.mem_cons.mp h with h | h
      · exact h ▸ List.mem_cons_self ..
      · exact List.mem_cons_of_mem _ (adel_mem h)
/-- a put that is undone: the same list again -/
theorem adel_aput {α : Type} {i : Int} {v : α} : ∀ {m : List (Int × α)}, aget m i = none → adel (aput m i v) i = m
  | [], _ => by show (bif i == i then [] else _) = _; rw [beq_self_eq_true]; rfl
  | (k, u) :: r, h => by
    have h : (bif i == k then some u else aget r i) = none := h
    by_cases e : i = k
    · rw [e, beq_self_eq_true] at h; cases h
    · rw [beq_eq_false_iff_ne.mpr e] at h
      show adel (bif i == k then (i, v) :: r else (k, u) :: aput r i v) i = _
      rw [beq_eq_false_iff_ne.mpr e]
      show (bif i == k then _ else (k, u) :: adel (aput r i v) i) = _
      rw [beq_eq_false_iff_ne.mpr e, adel_aput h]; rfl
theorem aput_aput {α : Type} {i : Int} {v w : α} : ∀ {m : List (Int × α)}, aget m i = some w → aput (aput m i v) i w = m
  | [], h => by cases h
  | (k, u) :: r, h => by
    have h : (bif i == k then some u else aget r i) = some w := h
    show aput (bif i == k then (i, v) :: r else (k, u) :: aput r i v) i w = _
    by_cases e : i = k
    · subst e
      rw [beq_self_eq_true] at h ⊢
      cases h
      show (bif i == i then (i, w) :: r else _) = _
      rw [beq_self_eq_true]; rfl
    · rw [beq_eq_false_iff_ne.mpr e] at h ⊢
      show (bif i == k then _ else (k, u) :: aput (aput r i v) i w) = _
      rw [beq_eq_false_iff_ne.mpr e, aput_aput h]; rfl
theorem aget_map {α β : Type} (f : α → β) (i : Int) : ∀ m : List (Int × α), aget (m.map fun p => (p.1, f p.2)) i = (aget m i).map f
  | [] => rfl
  | (k, u) :: r => by
    show (bif i == k then some (f u) else aget (r.map fun p => (p.1, f p.2)) i) = (bif i == k then some u else aget r i).map f
    rw [aget_map f i r]
    cases i == k <;> rfl
theorem aput_map {α β : Type} (f : α → β) (i : Int) (v : α) : ∀ m : List (Int × α), aput (m.map fun p => (p.1, f p.2)) i (f v) = (aput m i v).map fun p => (p.1, f p.2)
  | [] => rfl
  | (k, u) :: r => by
    show (bif i == k then (i, f v) :: r.map (fun p => (p.1, f p.2)) else (k, f u) :: aput (r.map fun p => (p.1, f p.2)) i (f v)) = (bif i == k then (i, v) :: r else (k, u) :: aput r i v).map fun p => (p.1, f p.2)
    rw [aput_map f i v r]
    cases i == k <;> rfl
theorem adel_map {α β : Type} (f : α → β) (i : Int) : ∀ m : List (Int × α), adel (m.map fun p => (p.1, f p.2)) i = (adel m i).map fun p => (p.1, f p.2)
  | [] => rfl
  | (k, u) :: r => by
    show (bif i == k then r.map (fun p => (p.1, f p.2)) else (k, f u) :: adel (r.map fun p => (p.1, f p.2)) i) = (bif i == k then r else (k, u) :: adel r i).map fun p => (p.1, f p.2)
    rw [adel_map f i r]
    cases i == k <;> rfl
/-- as the walk has them -/
def mm {α : Type} (f : α → Value) (m : List (Int × α)) : MapC := m.map fun p => (.i p.1, f p.2)
theorem mget_mm {α : Type} (f : α → Value) (i : Int) : ∀ m : List (Int × α), mget (mm f m) (.i i) = (aget m i).map f
  | [] => rfl
  | (k, u) :: r => by
    show (bif i == k then some (f u) else mget (mm f r) (.i i)) = (bif i == k then some u else aget r i).map f
    rw [mget_mm f i r]
    cases i == k <;> rfl
theorem mput_mm {α : Type} (f : α → Value) (i : Int) (v : α) : ∀ m : List (Int × α), mput (mm f m) (.i i) (f v) = mm f (aput m i v)
  | [] => rfl
  | (k, u) :: r => by
    show (bif i == k then (.i i, f v) :: mm f r else (.i k, f u) :: mput (mm f r) (.i i) (f v)) = mm f (bif i == k then (i, v) :: r else (k, u) :: aput r i v)
    rw [mput_mm f i v r]
    cases i == k <;> rfl
theorem mdel_mm {α : Type} (f : α → Value) (i : Int) : ∀ m : List (Int × α), mdel (mm f m) (.i i) = mm f (adel m i)
  | [] => rfl
  | (k, u) :: r => by
    show (bif i == k then mm f r else (.i k, f u) :: mdel (mm f r) (.i i)) = mm f (bif i == k then r else (k, u) :: adel r i)
    rw [mdel_mm f i r]
    cases i == k <;> rfl
theorem mm_length {α : Type} (f : α → Value) (m : List (Int × α)) : (mm f m).length = m.length := List.length_map ..
abbrev DI : D := .int .i64
theorem map_lt {d : D} {h : Heap} {r : Nat} {m : MapC} (a : MapAt d h r m) : r < h.size := by
  obtain ⟨es, ck, e, _⟩ := a
  exact (Array.getElem?_eq_some_iff.mp e).1
theorem map_fr {d : D} {h h' : Heap} {r : Nat} {m : MapC} {F : Nat → Prop} (a : MapAt d h r m) (f : Fr F h h') (hF : ¬ F r) : MapAt d h' r m := by
  have hl := map_lt a
  obtain ⟨es, ck, e, q⟩ := a
  exact ⟨es, ck, (f.same r hl hF).trans e, q⟩
theorem mapTo_fr {d : D} {h h' : Heap} {r : Nat} {m : MapC} (t : MapTo d h r m h') : Fr (fun b => b = r) h h' := ⟨by rw [t.size]; exact Nat.le_refl _, fun b _ hb => t.same b hb⟩
theorem newM_size (h : Heap) : (newM h).size = h.size + 1 := by simp [newM]
theorem newM_fr (h : Heap) : Fr No h (newM h) := ⟨by rw [newM_size]; omega, fun b hb _ => by simp only [newM]; rw [Array.getElem?_push, if_neg (by omega)]⟩
theorem newM_at (h : Heap) : MapAt DI (newM h) h.size [] := ⟨#[], 0, by simp [newM], rfl, (fun p hp => by cases hp), MapKept.stamped_empty 0⟩

/-- a transaction, plainly -/
structure TM where
  disk : RD
  put : List (Int × Txt)
  undo : List (Int × Option Txt)
  over : Bool
def TM.N (T : TM) : Nat := T.disk.lasts.length
/-- a block as the transaction has it -/
def TM.get (T : TM) (i : Int) : Txt × Int := match aget T.put i with
  | some b => (b, 0)
  | none => if T.disk.down = true then ([], 30) else (readAt T.disk i.toNat, 0)
theorem TM.get_some {T : TM} {i : Int} {b : Txt} (e : aget T.put i = some b) : T.get i = (b, 0) := by unfold TM.get; rw [e]
theorem TM.get_none {T : TM} {i : Int} (e : aget T.put i = none) : T.get i = if T.disk.down = true then ([], 30) else (readAt T.disk i.toNat, 0) := by unfold TM.get; rw [e]
/-- what Read answers -/
def TM.read (T : TM) (i : Int) : Txt × Int :=
  if T.over = true then ([], 61) else if i < 0 ∨ i ≥ T.N then ([], 31) else T.get i
/-- what Write answers -/
def TM.write (T : TM) (i : Int) (bs : Txt) : TM × Int :=
  if T.over = true then (T, 61) else if i < 98 ∨ i ≥ T.N then (T, 31) else if bs.length ≠ 512 then (T, 32) else if aget T.put i = none ∧ T.put.length ≥ 96 then (T, 60)
    else ({ T with put := aput T.put i bs, undo := T.undo ++ [(i, aget T.put i)] }, 0)
def TM.mark (T : TM) : Int × Int := if T.over = true then (0, 61) else (T.undo.length, 0)
/-- a put is undone -/
def undo1 (m : List (Int × Txt)) (u : Int × Option Txt) : List (Int × Txt) := match u.2 with
  | some b => aput m u.1 b
  | none => adel m u.1
def undoAll (m : List (Int × Txt)) (us : List (Int × Option Txt)) : List (Int × Txt) := us.foldr (fun u m => undo1 m u) m
def TM.back (T : TM) (mark : Int) : TM × Int :=
  if T.over = true then (T, 61) else if mark < 0 ∨ mark > T.undo.length then (T, 62)
    else ({ T with put := undoAll T.put (T.undo.drop mark.toNat), undo := T.undo.take mark.toNat }, 0)

/-- a slice -/
structure Sc where
  a : Option Addr
  l : Nat
  c : Nat
def Sc.v (s : Sc) : Value := .slice s.a s.l s.c
/-- a block of 512 bytes, of colour k -/
structure Blk (h : Heap) (col : Nat → Nat) (k : Nat) (x : Sc × Txt) : Prop where
  s : StrAt h x.1.a x.1.l x.2
  l : x.2.length = 512
  at_ : ∀ p, x.1.a = some p → p.block < h.size ∧ col p.block = k
theorem Blk.keep {h h' : Heap} {col col' : Nat → Nat} {k : Nat} {x : Sc × Txt} {F : Nat → Prop} (b : Blk h col k x) (f : Fr F h h') (g : Ag h.size col col') (hF : ∀ b, b < h.size → col b = k → ¬ F b) : Blk h' col' k x :=
  ⟨StrAt.fr f b.s fun p e => hF _ (b.at_ p e).1 (b.at_ p e).2, b.l, fun p e => ⟨Nat.lt_of_lt_of_le (b.at_ p e).1 f.size, (g _ (b.at_ p e).1).trans (b.at_ p e).2⟩⟩
/-- what undoes a put: the cells that it looks at -/
structure UR where
  i : Int
  was : Option (Sc × Txt)
  ok : Nat
  w : Nat
  tc : Nat
  ic : Nat
def UR.v (u : UR) : Value := .func (.func 111) #[] ⟨[.pointer (some ⟨u.ok, 0, none⟩), .pointer (some ⟨u.w, 0, none⟩), .pointer (some ⟨u.tc, 0, none⟩), .pointer (some ⟨u.ic, 0, none⟩)]⟩
def wasV (w : Option (Sc × Txt)) : Value := match w with
  | some x => x.1.v
  | none => .slice none 0 0
structure Und (h : Heap) (col : Nat → Nat) (tb : Nat) (u : UR) : Prop where
  ok : rd h u.ok = [.bool u.was.isSome]
  w : rd h u.w = [wasV u.was]
  tc : rd h u.tc = [.pointer (some ⟨tb, 0, none⟩)]
  ic : rd h u.ic = [.int .i64 u.i]
  at_ : ∀ b, b = u.ok ∨ b = u.w ∨ b = u.tc ∨ b = u.ic → b < h.size ∧ col b = 4
  b : ∀ x, u.was = some x → Blk h col 4 x
theorem Und.keep {h h' : Heap} {col col' : Nat → Nat} {tb : Nat} {u : UR} {F : Nat → Prop} (a : Und h col tb u) (f : Fr F h h') (g : Ag h.size col col') (hF : ∀ b, b < h.size → col b = 4 → ¬ F b) : Und h' col' tb u := by
  have k : ∀ b, b = u.ok ∨ b = u.w ∨ b = u.tc ∨ b = u.ic → rd h' b = rd h b := fun b hb => f.rd (a.at_ b hb).1 (hF b (a.at_ b hb).1 (a.at_ b hb).2)
  exact ⟨(k _ (by simp)).trans a.ok, (k _ (by simp)).trans a.w, (k _ (by simp)).trans a.tc, (k _ (by simp)).trans a.ic, fun b hb => ⟨Nat.lt_of_lt_of_le (a.at_ b hb).1 f.size, (g _ (a.at_ b hb).1).trans (a.at_ b hb).2⟩, fun x e => (a.b x e).keep f g hF⟩
/-- the cells of a transaction -/
structure TR where
  tb : Nat
  mb : Nat
  ua : Option Addr
  uc : Nat
  ps : List (Int × (Sc × Txt))
  us : List UR
structure TxC (h : Heap) (col : Nat → Nat) (d : Option Addr) (r : TR) (T : TM) : Prop where
  nrm : ∀ b, h.size ≤ b → col b = 0
  sc : col r.tb = 1
  own : Own h r.tb
  cell : rd h r.tb = [.pointer d, .map (some r.mb), .slice r.ua r.us.length r.uc, .bool false]
  mc : col r.mb = 2
  map : MapAt DI h r.mb (mm (fun x => x.1.v) r.ps)
  un : Sl h 1 r.ua r.us.length r.uc (r.us.map UR.v) (On col 3)
  pok : ∀ p ∈ r.ps, Blk h col 4 p.2
  uok : ∀ u ∈ r.us, Und h col r.tb u
  put : T.put = r.ps.map fun p => (p.1, p.2.2)
  undo : T.undo = r.us.map fun u => (u.i, u.was.map (·.2))
  live : T.over = false
  dk : DiskF h (fun b => col b = 5) d T.disk
  pk : ∀ p ∈ T.put, 98 ≤ p.1 ∧ p.1 < T.N
  ui : ∀ u ∈ r.us, 98 ≤ u.i ∧ u.i < T.N
/-- a transaction that is over -/
structure TxO (h : Heap) (col : Nat → Nat) (d : Option Addr) (tb : Nat) (T : TM) : Prop where
  nrm : ∀ b, h.size ≤ b → col b = 0
  sc : col tb = 1
  own : Own h tb
  cell : rd h tb = [.pointer d, .map none, .slice none 0 0, .bool true]
  gone : T.put = [] ∧ T.undo = []
  over : T.over = true
  dk : DiskF h (fun b => col b = 5) d T.disk
/-- a transaction at t over the disk at d, standing on the blocks F -/
def Tx (h : Heap) (F : Nat → Prop) (t d : Option Addr) (T : TM) : Prop :=
  (∃ col r, t = some ⟨r.tb, 0, none⟩ ∧ TxC h col d r T ∧ ∀ b, F b ↔ 1 ≤ col b ∧ col b ≤ 5) ∨ (∃ col tb, t = some ⟨tb, 0, none⟩ ∧ TxO h col d tb T ∧ ∀ b, F b ↔ 1 ≤ col b ∧ col b ≤ 5)
theorem TxC.keep {h h' : Heap} {col col' : Nat → Nat} {d : Option Addr} {r : TR} {T : TM} {F : Nat → Prop} (t : TxC h col d r T) (f : Fr F h h') (g : Ag h.size col col') (hz : ∀ b, h'.size ≤ b → col' b = 0) (hn : ∀ b, h.size ≤ b → ¬ (1 ≤ col' b ∧ col' b ≤ 5)) (hF : ∀ b, b < h.size → 1 ≤ col b → col b ≤ 5 → ¬ F b) : TxC h' col' d r T := by
  have hl := t.own.lt
  have s1 := t.sc
  have s2 := t.mc
  have ml := map_lt t.map
  have k4 : ∀ b, b < h.size → col b = 4 → ¬ F b := fun b hb e => hF b hb (by omega) (by omega)
  refine ⟨hz, (g _ hl).trans s1, f.own hl (hF _ hl (by omega) (by omega)) t.own, (f.rd hl (hF _ hl (by omega) (by omega))).trans t.cell, (g _ ml).trans s2, map_fr t.map f (hF _ ml (by omega) (by omega)), ?_,
    fun p hp => (t.pok p hp).keep f g k4, fun u hu => (t.uok u hu).keep f g k4, t.put, t.undo, t.live, ?_, t.pk, t.ui⟩
  · have s' := Hp.Sl.fr f t.un (fun b hb hk => hF b hb (by have hk : col b = 3 := hk; omega) (by have hk : col b = 3 := hk; omega))
    obtain ⟨h1, h2⟩ := s'
    refine ⟨h1, ?_⟩
    have ul := t.un
    revert h2 ul
    cases r.ua with
    | none => intro h2 _; exact h2
    | some p => intro h2 ul; obtain ⟨a1, a2, a3, a4⟩ := h2; exact ⟨a1, (g _ ul.lt).trans a2, a3, a4⟩
  · refine (t.dk.fr f fun b hb => hF b (t.dk.lt hb) (by have hb : col b = 5 := hb; omega) (by have hb : col b = 5 := hb; omega)).iff fun b => ?_
    rcases Nat.lt_or_ge b h.size with h1 | h1
    · show col' b = 5 ↔ col b = 5; rw [g b h1]
    · have := hn b h1
      have := t.nrm b h1
      show col' b = 5 ↔ col b = 5
      omega
theorem TxO.keep {h h' : Heap} {col : Nat → Nat} {d : Option Addr} {tb : Nat} {T : TM} {F : Nat → Prop} (t : TxO h col d tb T) (f : Fr F h h') (hF : ∀ b, b < h.size → 1 ≤ col b → col b ≤ 5 → ¬ F b) : TxO h' col d tb T := by
  have hl := t.own.lt
  have s1 := t.sc
  have hs := f.size
  exact ⟨fun b hb => t.nrm b (by omega), s1, f.own hl (hF _ hl (by omega) (by omega)) t.own, (f.rd hl (hF _ hl (by omega) (by omega))).trans t.cell, t.gone, t.over,
    t.dk.fr f fun b hb => hF b (t.dk.lt hb) (by have hb : col b = 5 := hb; omega) (by have hb : col b = 5 := hb; omega)⟩
theorem Tx.lt {h : Heap} {F : Nat → Prop} {t d : Option Addr} {T : TM} (x : Tx h F t d T) {b : Nat} (hb : F b) : b < h.size := by
  rcases Nat.lt_or_ge b h.size with h1 | h1
  · exact h1
  · exfalso
    rcases x with ⟨col, r, _, c, hF⟩ | ⟨col, tb, _, c, hF⟩
    · have := (hF b).mp hb; rw [c.nrm b h1] at this; omega
    · have := (hF b).mp hb; rw [c.nrm b h1] at this; omega
theorem Tx.fr {h h' : Heap} {F G : Nat → Prop} {t d : Option Addr} {T : TM} (x : Tx h F t d T) (f : Fr G h h') (hG : ∀ b, F b → ¬ G b) : Tx h' F t d T := by
  have hs := f.size
  rcases x with ⟨col, r, e, c, hF⟩ | ⟨col, tb, e, c, hF⟩
  · exact .inl ⟨col, r, e, c.keep f (Ag.refl _ _) (fun b hb => c.nrm b (by omega)) (fun b hb y => by rw [c.nrm b hb] at y; omega) fun b _ h1 h2 => hG b ((hF b).mpr ⟨h1, h2⟩), hF⟩
  · exact .inr ⟨col, tb, e, c.keep f fun b _ h1 h2 => hG b ((hF b).mpr ⟨h1, h2⟩), hF⟩
theorem Tx.no {h h' : Heap} {F : Nat → Prop} {t d : Option Addr} {T : TM} (x : Tx h F t d T) (f : Fr No h h') : Tx h' F t d T := x.fr f fun _ _ y => y
/-- a row, cut short, with its room -/
theorem sl_take {h : Heap} {l c m : Nat} {a : Option Addr} {xs : List Value} {F : Nat → Prop} (s : Sl h 1 a l c xs F) (hm : m ≤ l) : Sl h 1 a m c (xs.take m) F := by
  cases a with
  | none =>
    obtain ⟨h1, h2, h3⟩ := s
    have : m = 0 := by omega
    subst this
    exact ⟨rfl, rfl, h3⟩
  | some p =>
    obtain ⟨h1, a1, a2, a3, a4, a5, a6⟩ := s
    rw [Nat.mul_one] at h1
    refine ⟨by rw [List.length_take]; omega, a1, a2, a3, by omega, ?_, by rw [Nat.mul_one] at a6 ⊢; omega⟩
    rw [List.length_take, h1, Nat.min_eq_left hm]
    conv => rhs; rw [← a5]
    rw [List.take_take, h1, Nat.min_eq_left hm]
/-- its disk -/
theorem Tx.dk {h : Heap} {F : Nat → Prop} {t d : Option Addr} {T : TM} (x : Tx h F t d T) : ∃ D, DiskF h D d T.disk ∧ ∀ b, D b → F b := by
  rcases x with ⟨col, r, e, c, hF⟩ | ⟨col, tb, e, c, hF⟩
  · exact ⟨_, c.dk, fun b hb => (hF b).mpr (by have hb : col b = 5 := hb; omega)⟩
  · exact ⟨_, c.dk, fun b hb => (hF b).mpr (by have hb : col b = 5 := hb; omega)⟩
end Go.Proofs.YtcdpakjhjmchhaaGreatDoor.Tm
/-
  TRANSACTIONS: Begin, Read, Mark, Write.
-/
namespace Go.Proofs.YtcdpakjhjmchhaaGreatDoor.Tm
open Go Go.Proofs Go.Proofs.YtcdpakjhjmchhaaGreatDoor.Wx Go.Proofs.YtcdpakjhjmchhaaGreatDoor.Hp Go.Proofs.YtcdpakjhjmchhaaGreatDoor.W Go.Proofs.YtcdpakjhjmchhaaGreatDoor.Ad

theorem oe {α : Type} {a : Option α} {p : α} {k : α → Prop} (e : a = some p) (h : k p) : onSome a k := by rw [e]; exact h
theorem pick_col (D : Nat → Prop) (x y : Nat) : ∃ c : Nat → Nat, (∀ b, D b → c b = x) ∧ ∀ b, ¬ D b → c b = y :=
  ⟨fun b => @ite _ (D b) (Classical.propDecidable _) x y, fun b h => if_pos h, fun b h => if_neg h⟩
theorem Begin_spec {h : Heap} {D : Nat → Prop} {d : Option Addr} {S : RD} {K : Value → Heap → Prop} (a : DiskF h D d S)
    (hK : ∀ tb h' F, Fr No h h' → Gw h D h' F → Tx h' F (some ⟨tb, 0, none⟩) d ⟨S, [], [], false⟩ → K (.pointer (some ⟨tb, 0, none⟩)) h') : C.txn_Begin d h K := by
  refine txn_Begin.ok ?_
  show New _ _ (newM h) _
  refine New.intro fun h3 n3 => ?_
  have sm := newM_size h
  have s3 := n3.size
  have F := (newM_fr h).new n3
  have e := n3.rd
  have o := n3.own
  rw [sm] at e o ⊢
  obtain ⟨c, c1, c2⟩ := pick_col D 5 0
  have hlt : ∀ b, D b → b < h.size := fun b hb => a.lt hb
  have cz : ∀ b, h.size ≤ b → c b = 0 := fun b hb => c2 b fun x => by have := hlt b x; omega
  have cr : ∀ b, 1 ≤ c b → D b := fun b x => by
    by_cases hd : D b
    · exact hd
    · rw [c2 b hd] at x; omega
  have cd : ∀ b, c b = 5 ↔ D b := fun b => ⟨fun x => cr b (by omega), c1 b⟩
  obtain ⟨col, k1, k2, k3⟩ : ∃ col : Nat → Nat, (∀ b, b ≠ h.size → b ≠ h.size + 1 → col b = c b) ∧ col h.size = 2 ∧ col (h.size + 1) = 1 :=
    ⟨fun b => if b = h.size then 2 else if b = h.size + 1 then 1 else c b, fun b x y => by show (if _ then _ else if _ then _ else _) = _; rw [if_neg x, if_neg y], if_pos rfl, by show (if _ then _ else if _ then _ else _) = _; rw [if_neg (by omega), if_pos rfl]⟩
  refine hK (h.size + 1) h3 (fun b => 1 ≤ col b ∧ col b ≤ 5) F ⟨fun b hb => ?_, fun b hb => ?_⟩ (.inl ⟨col, ⟨h.size + 1, h.size, none, 0, [], []⟩, rfl, ⟨fun b hb => ?_, k3, o, e, k2, map_fr (newM_at h) n3.fr fun x => x, Sl.nil _ _ _, fun p hp => (by cases hp), fun u hu => (by cases hu), rfl, rfl, rfl, ?_, fun p hp => (by cases hp), fun u hu => (by cases hu)⟩, fun b => Iff.rfl⟩)
  · show 1 ≤ col b ∧ col b ≤ 5 ↔ D b
    rw [k1 b (by omega) (by omega)]
    exact ⟨fun x => cr b x.1, fun x => by rw [c1 b x]; omega⟩
  · have hb : 1 ≤ col b ∧ col b ≤ 5 := hb
    by_cases x : b = h.size
    · omega
    · by_cases y : b = h.size + 1
      · omega
      · rw [k1 b x y] at hb
        have := hlt b (cr b hb.1); omega
  · rw [k1 b (by omega) (by omega)]; exact cz b (by omega)
  · refine (a.no F).iff fun b => ?_
    show col b = 5 ↔ D b
    by_cases x : b = h.size
    · subst x
      rw [k2]; exact ⟨fun x => (by omega), fun x => by have := hlt _ x; omega⟩
    · by_cases y : b = h.size + 1
      · subst y
        rw [k3]; exact ⟨fun x => (by omega), fun x => by have := hlt _ x; omega⟩
      · rw [k1 b x y]; exact cd b
theorem Clone_any {a : Option Addr} {l c : Nat} {bs : List UInt8} {h : Heap} {K : Value → Heap → Prop} (B : StrAt h a l bs) (hl : l ≤ 140737488355328)
    (hK : ∀ a' c' h', Fr No h h' → Sl h' 1 a' l c' (bs.map bv) (From h.size) → K (.slice a' l c') h') : C.slices_Clone_byte_byte a l c h K := Clone_spec B hl hK
theorem Read_spec {h : Heap} {F : Nat → Prop} {t d : Option Addr} {T : TM} {i : Int} {K : Value → Heap → Prop} (x : Tx h F t d T)
    (hK : ∀ a l c h', Fr No h h' → l = (T.read i).1.length → Sl h' 1 a l c ((T.read i).1.map bv) (From h.size) → K (.tuple #[.slice a l c, .int .i64 (T.read i).2]) h') : C.txn_Txn_Read t i h K := by
  rcases x with ⟨col, r, rfl, c, hF⟩ | ⟨col, tb, rfl, c, hF⟩
  · refine txn_Txn_Read.ok (os ⟨_, rda c.cell rfl, cf rfl ?_⟩)
    have e0 : T.read i = if i < 0 ∨ i ≥ T.N then ([], 31) else T.get i := by
      unfold TM.read; rw [c.live, if_neg (by simp)]
    have bad : (i < 0 ∨ i ≥ T.N) → K (.tuple #[.slice none 0 0, .int .i64 31]) h := fun hb => by
      rw [e0, if_pos hb] at hK
      exact hK none 0 0 h (Fr.refl _ _) rfl (Sl.nil _ _ _)
    refine cd (fun hn => bad (.inl hn)) fun h0 => os ⟨_, rda c.cell rfl, c.dk.blocks ⟨_, rfl, cd (fun hn => bad (.inr hn)) fun h1 => ?_⟩⟩
    have e1 : ¬ (i < 0 ∨ i ≥ T.N) := by
      rintro (x | x)
      · exact h0 x
      · exact h1 x
    rw [e0, if_neg e1] at hK
    unfold txn_Txn_Read.k1
    refine os ⟨_, rda c.cell rfl, _, c.map, ?_⟩
    dsimp only
    rw [mget_mm]
    have eput : aget T.put i = (aget r.ps i).map (·.2) := by rw [c.put]; exact aget_map (fun x : Sc × Txt => x.2) i r.ps
    cases e : aget r.ps i with
    | none =>
      rw [TM.get_none (by rw [eput, e]; rfl)] at hK
      refine ⟨none, 0, 0, rfl, cf rfl (os ⟨_, rda c.cell rfl, c.dk.read (fun hd => ?_) (fun _ hno => absurd ⟨by omega, by have : ¬ i ≥ (T.N : Int) := h1; have e : T.N = T.disk.lasts.length := rfl; omega⟩ hno) fun hd _ _ b h' f s hl => ?_⟩)⟩
      · rw [if_pos hd] at hK
        exact ⟨_, _, _, _, rfl, hK none 0 0 h (Fr.refl _ _) rfl (Sl.nil _ _ _)⟩
      · rw [if_neg (by rw [hd]; simp)] at hK
        exact ⟨_, _, _, _, rfl, hK _ 512 512 h' f hl.symm s⟩
    | some x =>
      rw [TM.get_some (b := x.2) (by rw [eput, e]; rfl)] at hK
      have B := c.pok _ (aget_mem e)
      have B : Blk h col 4 x := B
      have hl : x.1.l = 512 := by rw [← B.s.1]; exact B.l
      refine ⟨x.1.a, x.1.l, x.1.c, rfl, ct rfl (Clone_any B.s (by omega) fun a' c' h' f s => ⟨_, _, _, rfl, ?_⟩)⟩
      exact hK a' x.1.l c' h' f B.s.1.symm s
  · refine txn_Txn_Read.ok (os ⟨_, rda c.cell rfl, ct rfl ?_⟩)
    have e0 : T.read i = ([], 61) := by unfold TM.read; rw [c.over, if_pos rfl]
    rw [e0] at hK
    exact hK none 0 0 h (Fr.refl _ _) rfl (Sl.nil _ _ _)
theorem Mark_spec {h : Heap} {F : Nat → Prop} {t d : Option Addr} {T : TM} {K : Value → Heap → Prop} (x : Tx h F t d T) (hK : K (.tuple #[.int .i64 T.mark.1, .int .i64 T.mark.2]) h) : C.txn_Txn_Mark t h K := by
  rcases x with ⟨col, r, rfl, c, hF⟩ | ⟨col, tb, rfl, c, hF⟩
  · refine txn_Txn_Mark.ok (os ⟨_, rda c.cell rfl, cf rfl (os ⟨_, _, _, rda c.cell rfl, ?_⟩)⟩)
    have : T.mark = ((r.us.length : Int), 0) := by unfold TM.mark; rw [c.live, if_neg (by simp), c.undo, List.length_map]
    rw [this] at hK; exact hK
  · refine txn_Txn_Mark.ok (os ⟨_, rda c.cell rfl, ct rfl ?_⟩)
    have : T.mark = (0, 61) := by unfold TM.mark; rw [c.over, if_pos rfl]
    rw [this] at hK; exact hK
/-- Write, up to its questions: the cells that its closure will look at -/
theorem Write_pre {h : Heap} {tb : Nat} {i : Int} {a : Option Addr} {l c : Nat} {m1 : Option Nat} {W : MapC} {sA : Option Addr} {sL sC : Nat} {K : Value → Heap → Prop}
    (hc : ∀ hq, Fr No h hq → cellOf hq (Addr.add ⟨tb, 0, none⟩ 1) = some (.map m1)) (hM : ∀ hq (K' : MapC → Prop), Fr No h hq → K' W → MapIn DI m1 hq K') (hs : Option.getD (mget W (.i i)) (zeroV ti33) = .slice sA sL sC)
    (fin : ∀ (h2 : Heap) h7 wb ob, h2.size = h.size + 1 → Fr No h h7 → h.size + 2 ≤ wb → h.size + 2 ≤ ob → wb < h7.size → ob < h7.size → wb ≠ ob → rd h7 h.size = [.pointer (some ⟨tb, 0, none⟩)] → rd h7 (h.size + 1) = [.int .i64 i] →
      rd h7 wb = [.slice sA sL sC] → rd h7 ob = [.bool (mget W (.i i)).isSome] → txn_Txn_Write.k1 a l c h h2 (some ⟨wb, 0, none⟩) (some ⟨ob, 0, none⟩) h7 K) : C.txn_Txn_Write (some ⟨tb, 0, none⟩) i a l c h K := by
  refine txn_Txn_Write.ok (New.intro fun h2 n2 => New.intro fun h3 n3 => ?_)
  have s2 := n2.size
  have s3 := n3.size
  have F3 := n2.fr.new n3
  have r1 : rd h3 h.size = [.pointer (some ⟨tb, 0, none⟩)] := (n3.at_ (by omega)).trans n2.rd
  have r2 : rd h3 h2.size = [.int .i64 i] := n3.rd
  refine ⟨_, rdc r1 rfl, os ⟨_, hc h3 F3, _, rdc r2 rfl, ?_⟩⟩
  have C1 : ∀ {hq : Heap}, Fr No h3 hq → cellOf hq ⟨h.size, 0, none⟩ = some (.pointer (some ⟨tb, 0, none⟩)) := fun fq => rdc ((fq.rd (by omega) fun x => x).trans r1) rfl
  have C2 : ∀ {hq : Heap}, Fr No h3 hq → cellOf hq (Addr.add ⟨tb, 0, none⟩ 1) = some (.map m1) := fun fq => hc _ (F3.no fq)
  have C3 : ∀ {hq : Heap}, Fr No h3 hq → cellOf hq ⟨h2.size, 0, none⟩ = some (.int .i64 i) := fun fq => rdc ((fq.rd (by omega) fun x => x).trans r2) rfl
  have M : ∀ {hq : Heap} {K' : MapC → Prop}, Fr No h3 hq → K' W → MapIn DI m1 hq K' := fun fq k => hM _ _ (F3.no fq) k
  -- two new blocks, written: then the rest
  have fin1 : ∀ {hq : Heap} {wb ob : Nat} {zw zo : Value}, Fr No h3 hq → wb ≠ ob → h3.size ≤ wb → h3.size ≤ ob → Own hq wb → Own hq ob → rd hq wb = [zw] → rd hq ob = [zo] →
      Put ⟨wb, 0, none⟩ (.slice sA sL sC) hq fun h6 => Put ⟨ob, 0, none⟩ (.bool (Option.isSome (mget W (.i i)))) h6 fun h7 => txn_Txn_Write.k1 a l c h h2 (some ⟨wb, 0, none⟩) (some ⟨ob, 0, none⟩) h7 K := by
    intro hq wb ob zw zo fq hne hw ho ow oo rw' ro'
    refine Put.intro ow (by rw [rw']; exact Nat.one_pos) fun h6 d6 => ?_
    have ro6 : rd h6 ob = [zo] := (d6.at_ oo.lt (fun e => hne e.symm)).trans ro'
    refine Put.intro (d6.ow oo) (by rw [ro6]; exact Nat.one_pos) fun h7 d7 => ?_
    have F7 : Fr No h h7 := ((F3.no fq).did d6 fun hlt => by omega).did d7 fun hlt => by omega
    have F7' : Fr No h3 h7 := (fq.did d6 fun hlt => by omega).did d7 fun hlt => by omega
    have z7 := F7'.size
    have z6 := d6.size
    have z7' := d7.size
    have lo := oo.lt
    have lw := ow.lt
    exact fin h2 h7 wb ob s2 F7 (by omega) (by omega) (by omega) (by omega) hne ((F7'.rd (by omega) fun x => x).trans r1) (by rw [← s2]; exact (F7'.rd (by omega) fun x => x).trans r2)
      ((d7.at_ (by omega) hne).trans (by rw [d6.rd, rw']; rfl)) (by rw [d7.rd, ro6]; rfl)
  have fin2 : ∀ {hq hr hs : Heap} {v1 v2 : Value}, Fr No h3 hq → Newly hq hr [v1] → Newly hr hs [v2] → 
      (Put ⟨hq.size, 0, none⟩ (.slice sA sL sC) hs fun h6 => Put ⟨hr.size, 0, none⟩ (.bool (Option.isSome (mget W (.i i)))) h6 fun h7 => txn_Txn_Write.k1 a l c h h2 (some ⟨hq.size, 0, none⟩) (some ⟨hr.size, 0, none⟩) h7 K) ∧
      (Put ⟨hr.size, 0, none⟩ (.slice sA sL sC) hs fun h6 => Put ⟨hq.size, 0, none⟩ (.bool (Option.isSome (mget W (.i i)))) h6 fun h7 => txn_Txn_Write.k1 a l c h h2 (some ⟨hr.size, 0, none⟩) (some ⟨hq.size, 0, none⟩) h7 K) := by
    intro hq hr hs v1 v2 fq n1 n2'
    have z1 := n1.size
    have z2 := n2'.size
    have zq := fq.size
    have g : rd hs hq.size = [v1] := (n2'.at_ (by omega)).trans n1.rd
    exact ⟨fin1 ((fq.new n1).new n2') (by omega) (by omega) (by omega) (n2'.ow n1.own) n2'.own g n2'.rd, fin1 ((fq.new n1).new n2') (by omega) (by omega) (by omega) n2'.own (n2'.ow n1.own) n2'.rd g⟩
  refine ⟨M (Fr.refl _ _) ⟨_, _, _, hs, New.intro fun h4 n4 => ⟨C1 n4.fr, C2 n4.fr, C3 n4.fr, New.intro fun h5 n5 => ⟨C1 (n4.fr.new n5), C2 (n4.fr.new n5), C3 (n4.fr.new n5), (fin2 (Fr.refl _ _) n4 n5).1⟩⟩,
    New.intro fun h4 n4 => ⟨C1 n4.fr, C2 n4.fr, C3 n4.fr, New.intro fun h5 n5 => ⟨C1 (n4.fr.new n5), C2 (n4.fr.new n5), C3 (n4.fr.new n5), (fin2 (Fr.refl _ _) n4 n5).2⟩⟩⟩,
    New.intro fun h4 n4 => ⟨C1 n4.fr, C2 n4.fr, C3 n4.fr, M n4.fr ⟨_, _, _, hs, New.intro fun h5 n5 => ⟨C1 (n4.fr.new n5), C2 (n4.fr.new n5), C3 (n4.fr.new n5), (fin2 (Fr.refl _ _) n4 n5).1⟩⟩,
      New.intro fun h5 n5 => ⟨C1 (n4.fr.new n5), C2 (n4.fr.new n5), C3 (n4.fr.new n5), M (n4.fr.new n5) ⟨_, _, _, hs, (fin2 (Fr.refl _ _) n4 n5).1⟩⟩⟩,
    New.intro fun h4 n4 => ⟨C1 n4.fr, C2 n4.fr, C3 n4.fr, M n4.fr ⟨_, _, _, hs, New.intro fun h5 n5 => ⟨C1 (n4.fr.new n5), C2 (n4.fr.new n5), C3 (n4.fr.new n5), (fin2 (Fr.refl _ _) n4 n5).2⟩⟩,
      New.intro fun h5 n5 => ⟨C1 (n4.fr.new n5), C2 (n4.fr.new n5), C3 (n4.fr.new n5), M (n4.fr.new n5) ⟨_, _, _, hs, (fin2 (Fr.refl _ _) n4 n5).2⟩⟩⟩⟩
theorem tl {c : Bool} {A B : Prop} (b : B) (a : c = true → B → A) : bif c then A else B := by
  cases c with
  | false => exact b
  | true => exact a rfl b
theorem Write_spec {h : Heap} {F : Nat → Prop} {t d : Option Addr} {T : TM} {i : Int} {a : Option Addr} {l c : Nat} {bs : Txt} {K : Value → Heap → Prop} (x : Tx h F t d T) (B : StrAt h a l bs) (hl : l ≤ 140737488355328) (ha : ∀ p, a = some p → ¬ F p.block) (hu : T.undo.length < 1000000000)
    (hK : ∀ h' F', Fr F h h' → Gw h F h' F' → Tx h' F' t d (T.write i bs).1 → K (.int .i64 (T.write i bs).2) h') : C.txn_Txn_Write t i a l c h K := by
  have hbl := B.1
  have hlt := fun b hb => x.lt (b := b) hb
  rcases x with ⟨col, r, rfl, X, hF⟩ | ⟨col, tb, rfl, X, hF⟩
  rotate_left
  · refine Write_pre (m1 := none) (W := []) (sA := none) (sL := 0) (sC := 0) (fun hq f => rda ((f.rd X.own.lt fun x => x).trans X.cell) rfl) (fun hq K' _ k => k) rfl fun h2 h7 wb ob _ f7 w1 o1 w2 o2 _ r1 _ _ _ => ?_
    have e0 : T.write i bs = (T, 61) := by unfold TM.write; rw [X.over, if_pos rfl]
    rw [e0] at hK
    have X7 := X.keep f7 fun _ _ _ _ x => x
    refine ⟨_, rdc r1 rfl, os ⟨_, rda X7.cell rfl, ct rfl ?_⟩⟩
    exact hK h7 F (f7.mono fun _ _ x => x.elim) (Gw.refl f7.size hlt) (.inr ⟨col, tb, rfl, X7, hF⟩)
  · have eput : aget T.put i = (aget r.ps i).map (·.2) := by rw [X.put]; exact aget_map (fun x : Sc × Txt => x.2) i r.ps
    have elen : T.put.length = r.ps.length := by rw [X.put, List.length_map]
    have eul : T.undo.length = r.us.length := by rw [X.undo, List.length_map]
    obtain ⟨sA, sL, sC, esl⟩ : ∃ (sA : Option Addr) (sL : Nat) (sC : Nat), wasV (aget r.ps i) = .slice sA sL sC := by
      cases aget r.ps i with
      | none => exact ⟨_, _, _, rfl⟩
      | some x => exact ⟨_, _, _, rfl⟩
    have esl2 : Option.getD (mget (mm (fun x : Sc × Txt => x.1.v) r.ps) (.i i)) (zeroV ti33) = .slice sA sL sC := by
      rw [mget_mm, ← esl]
      cases aget r.ps i <;> rfl
    refine Write_pre (m1 := some r.mb) (W := mm (fun x => x.1.v) r.ps) (fun hq f => rda ((f.rd X.own.lt fun x => x).trans X.cell) rfl) (fun hq K' f k => ⟨_, map_fr X.map f fun x => x, k⟩) esl2 fun h2 h8 wb ob s2 f w1 o1 w2 o2 hne r1 r2 rw' ro => ?_
    have eis : (mget (mm (fun x : Sc × Txt => x.1.v) r.ps) (.i i)).isSome = (aget r.ps i).isSome := by rw [mget_mm]; cases aget r.ps i <;> rfl
    rw [eis] at ro
    have X8 : TxC h8 col d r T := X.keep f (Ag.refl _ _) (fun b hb => X.nrm b (by have := f.size; omega)) (fun b hb y => by rw [X.nrm b hb] at y; omega) fun _ _ _ _ x => x
    have refuse : ∀ e h9, h9 = h8 → T.write i bs = (T, e) → K (.int .i64 e) h9 := fun e h9 e9 e0 => by
      subst e9
      rw [e0] at hK
      exact hK h9 F (f.mono fun _ _ x => x.elim) (Gw.refl f.size hlt) (.inl ⟨col, r, rfl, X8, hF⟩)
    have live := X.live
    have fs := f.size
    have tbl := X.own.lt
    have mbl := map_lt X.map
    have ctb := X.sc
    have cmb := X.mc
    rw [← s2] at r2
    refine ⟨_, rdc r1 rfl, os ⟨_, rda X8.cell rfl, cf rfl ⟨_, rdc r2 rfl, cd (fun hn => refuse 31 h8 rfl ?_) fun h98 => ⟨_, rdc r2 rfl, _, rdc r1 rfl, os ⟨_, rda X8.cell rfl, X8.dk.blocks ⟨_, rfl, rdc r2 rfl, cd (fun hn => refuse 31 h8 rfl ?_) fun hN => cn (fun h5 => refuse 32 h8 rfl ?_) fun h5 => ?_⟩⟩⟩⟩⟩⟩
    · unfold TM.write; rw [live, if_neg (by simp), if_pos (.inl hn)]
    · unfold TM.write; rw [live, if_neg (by simp), if_pos (.inr hn)]
    · unfold TM.write; rw [live, if_neg (by simp), if_neg (by rintro (x | x); exact h98 x; exact hN x), if_pos (by omega)]
    have hnot : ¬ (i < 98 ∨ i ≥ T.N) := by rintro (x | x); exact h98 x; exact hN x
    have h5' : bs.length = 512 := by omega
    refine os ⟨_, rdc ro rfl, ?_⟩
    by_cases hbig : aget r.ps i = none ∧ r.ps.length ≥ 96
    · refine ct (by rw [hbig.1]; rfl) ⟨_, rdc r1 rfl, os ⟨_, rda X8.cell rfl, _, X8.map, ?_⟩⟩
      dsimp only
      rw [mm_length]
      refine ct (decide_eq_true (by omega)) (refuse 60 h8 rfl ?_)
      unfold TM.write; rw [live, if_neg (by simp), if_neg hnot, if_neg (by omega), if_pos ⟨by rw [eput, hbig.1]; rfl, by omega⟩]
    have e0 : T.write i bs = ({ T with put := aput T.put i bs, undo := T.undo ++ [(i, aget T.put i)] }, 0) := by
      unfold TM.write; rw [live, if_neg (by simp), if_neg hnot, if_neg (by omega), if_neg]
      rw [eput, elen]
      rintro ⟨x1, x2⟩
      refine hbig ⟨?_, x2⟩
      cases e : aget r.ps i with
      | none => rfl
      | some y => rw [e] at x1; cases x1
    rw [e0] at hK
    refine tl ?_ fun ho go => ?_
    rotate_left
    · have hnone : aget r.ps i = none := by
        cases e : aget r.ps i with
        | none => rfl
        | some x => rw [e] at ho; cases ho
      refine ⟨_, rdc r1 rfl, os ⟨_, rda X8.cell rfl, _, X8.map, ?_⟩⟩
      dsimp only
      rw [mm_length]
      exact cf (decide_eq_false fun hx => hbig ⟨hnone, by omega⟩) go
    -- the put
    have k1 : ∀ {b : Nat}, b < h.size → col b ≠ 3 → ¬ On col 3 b := fun _ hb x => hb x
    refine ⟨_, rdc r1 rfl, _, rdc r1 rfl, os ⟨_, _, _, rda X8.cell rfl, New.intro fun h10 n10 => ?_⟩⟩
    have s10 := n10.size
    have X10 : TxC h10 col d r T := X8.keep n10.fr (Ag.refl _ _) (fun b hb => X.nrm b (by omega)) (fun b hb y => by rw [X.nrm b (by omega)] at y; omega) fun _ _ _ _ x => x
    have r1' := (n10.at_ (show h.size < h8.size by omega)).trans r1
    have r2' := (n10.at_ (show h2.size < h8.size by omega)).trans r2
    refine ⟨rdc r1' rfl, rdc r1' rfl, rda X10.cell rfl, _, rfl, cellsAll n10.rd, by intro v hv; rw [List.mem_singleton.mp hv]; rfl, ?_⟩
    refine append_own X10.un rfl rfl (by show (r.us.length + 1) * _ ≤ _; have b16 : ti1.bytes ≤ 16 := (by decide); have := Nat.mul_le_mul (show r.us.length + 1 ≤ 1000000001 from (by omega)) b16; exact Nat.le_trans this (by decide)) (by omega) fun a' c' h11 f11 s11 => ?_
    have z11 := f11.size
    have nz : ∀ b, h.size ≤ b → ¬ On col 3 b := fun b hb x => by have x : col b = 3 := x; rw [X.nrm b hb] at x; omega
    have nt : ¬ On col 3 r.tb := fun x => by have x : col r.tb = 3 := x; omega
    have nm : ¬ On col 3 r.mb := fun x => by have x : col r.mb = 3 := x; omega
    have g1 : rd h11 h.size = [.pointer (some ⟨r.tb, 0, none⟩)] := (f11.rd (by omega) (nz _ (Nat.le_refl _))).trans r1'
    have g2 : rd h11 h2.size = [.int .i64 i] := (f11.rd (by omega) (nz _ (by omega))).trans r2'
    have gt := (f11.rd X10.own.lt nt).trans X10.cell
    have gw : rd h11 wb = [wasV (aget r.ps i)] := by rw [esl]; exact (f11.rd (by omega) (nz _ (by omega))).trans ((n10.at_ w2).trans rw')
    have go' : rd h11 ob = [.bool (aget r.ps i).isSome] := (f11.rd (by omega) (nz _ (by omega))).trans ((n10.at_ o2).trans ro)
    refine ⟨rdc g1 rfl, os (Put.add (f11.own X10.own.lt nt X10.own) (by rw [gt]; show 0 + 2 < 4; omega) fun h12 d12 => ?_)⟩
    have s12 := d12.size
    have g1 : rd h12 h.size = [.pointer (some ⟨r.tb, 0, none⟩)] := (d12.at_ (by omega) (by omega)).trans g1
    have g2 : rd h12 h2.size = [.int .i64 i] := (d12.at_ (by omega) (by omega)).trans g2
    have gw := (d12.at_ (show wb < h11.size by omega) (by omega)).trans gw
    have go' := (d12.at_ (show ob < h11.size by omega) (by omega)).trans go'
    have gt : rd h12 r.tb = [.pointer d, .map (some r.mb), .slice a' (r.us.length + 1) c', .bool false] := d12.rd.trans (by rw [gt]; rfl)
    have nF : ∀ p, a = some p → ¬ F p.block := ha
    have B12 : StrAt h12 a l bs := StrAt.fr d12.fr (StrAt.fr f11 (StrAt.fr n10.fr (StrAt.fr f B fun _ _ x => x) fun _ _ x => x) fun q e y => ha q e ((hF _).mpr (by have y : col q.block = 3 := y; omega))) fun q e y => ha q e ((hF _).mpr (by rw [y]; omega))
    refine ⟨_, rdc g1 rfl, os ⟨_, rda gt rfl, _, rdc g2 rfl, Clone_any B12 hl fun aq cq h13 f13 s13 => ?_⟩⟩
    have z13 := f13.size
    have g1 : rd h13 h.size = [.pointer (some ⟨r.tb, 0, none⟩)] := (f13.rd (by omega) fun x => x).trans g1
    have g2 : rd h13 h2.size = [.int .i64 i] := (f13.rd (by omega) fun x => x).trans g2
    have gw := (f13.rd (show wb < h12.size by omega) fun x => x).trans gw
    have go' := (f13.rd (show ob < h12.size by omega) fun x => x).trans go'
    have gt := (f13.rd (by omega) fun x => x).trans gt
    have ot := f13.own d12.own.lt (fun x => x) d12.own
    have hmt : r.mb ≠ r.tb := fun e => by rw [e] at cmb; omega
    have m13 : MapAt DI h13 r.mb (mm (fun x => x.1.v) r.ps) := map_fr (map_fr (map_fr X10.map f11 nm) d12.fr hmt) f13 fun x => x
    refine ⟨_, _, _, rfl, rdc g1 rfl, rda gt rfl, rdc g2 rfl, os ⟨_, m13, fun h14 t14 => ?_⟩⟩
    have f14 := mapTo_fr t14
    have z14 := t14.size
    have m14 := t14.at_
    rw [show Value.slice aq l cq = (fun x : Sc × Txt => x.1.v) (⟨aq, l, cq⟩, bs) from rfl, mput_mm] at m14
    have G : Fr (fun b => col b = 3 ∨ b = r.tb ∨ b = r.mb) h h14 :=
      ((((((f.new n10).mono (G := fun b => col b = 3 ∨ b = r.tb ∨ b = r.mb) fun _ _ x => x.elim).trans f11 fun b _ x => Or.inl x).did d12 fun _ => Or.inr (Or.inl rfl)).no f13).trans f14 fun b _ x => Or.inr (Or.inr x))
    -- the colours
    have ub : ∀ p, a' = some p → (col p.block = 3 ∨ h10.size ≤ p.block) ∧ p.block < h11.size := by
      rintro p rfl; exact ⟨s11.2.2.1, s11.lt⟩
    have qb : ∀ p, aq = some p → h12.size ≤ p.block ∧ p.block < h13.size := by
      rintro p rfl; exact ⟨s13.2.2.1, s13.lt⟩
    obtain ⟨col', ag, cz, c4, c3, cq4, c5⟩ : ∃ col' : Nat → Nat, Ag h.size col col' ∧ (∀ b, h14.size ≤ b → col' b = 0) ∧ (∀ b, b = h.size ∨ b = h2.size ∨ b = wb ∨ b = ob → col' b = 4) ∧ (∀ p, a' = some p → col' p.block = 3) ∧ (∀ p, aq = some p → col' p.block = 4) ∧ (∀ b, h.size ≤ b → col' b = 0 ∨ col' b = 3 ∨ col' b = 4) := by
      refine ⟨fun b => if b < h.size then col b else if b = h.size ∨ b = h2.size ∨ b = wb ∨ b = ob then 4 else if a'.map (·.block) = some b then 3 else if aq.map (·.block) = some b then 4 else 0, fun b hb => if_pos hb, fun b hb => ?_, fun b hb => ?_, fun p e => ?_, fun p e => ?_, fun b hb => ?_⟩
      · show (if _ then _ else if _ then _ else if _ then _ else if _ then _ else _) = _
        rw [if_neg (by omega), if_neg (by omega), if_neg, if_neg]
        · intro e
          cases haq : aq with
          | none => rw [haq] at e; cases e
          | some p => rw [haq] at e; have := (qb p haq).2; have e : p.block = b := Option.some.inj e; omega
        · intro e
          cases haq : a' with
          | none => rw [haq] at e; cases e
          | some p => rw [haq] at e; have := (ub p haq).2; have e : p.block = b := Option.some.inj e; omega
      · show (if _ then _ else if _ then _ else if _ then _ else if _ then _ else _) = _
        rw [if_neg (by omega), if_pos hb]
      · show (if _ then _ else if _ then _ else if _ then _ else if _ then _ else _) = _
        have := ub p e
        rcases Nat.lt_or_ge p.block h.size with h1 | h1
        · rw [if_pos h1]
          rcases this.1 with h3 | h3
          · exact h3
          · omega
        · have h3 : h10.size ≤ p.block := by
            rcases this.1 with h3 | h3
            · rw [X.nrm _ h1] at h3; omega
            · exact h3
          rw [if_neg (by omega), if_neg (by omega), if_pos (by rw [e]; rfl)]
      · show (if _ then _ else if _ then _ else if _ then _ else if _ then _ else _) = _
        have := qb p e
        rw [if_neg (by omega), if_neg (by omega), if_neg, if_pos (by rw [e]; rfl)]
        intro e2
        cases ha' : a' with
        | none => rw [ha'] at e2; cases e2
        | some q => rw [ha'] at e2; have := (ub q ha').2; have e2 : q.block = p.block := Option.some.inj e2; omega
      · show (if _ then _ else if _ then _ else if _ then _ else if _ then _ else _) = 0 ∨ (if _ then _ else if _ then _ else if _ then _ else if _ then _ else _) = 3 ∨ (if _ then _ else if _ then _ else if _ then _ else if _ then _ else _) = 4
        rw [if_neg (by omega)]
        split
        · exact .inr (.inr rfl)
        · split
          · exact .inr (.inl rfl)
          · split
            · exact .inr (.inr rfl)
            · exact .inl rfl
    have k4 : ∀ b, b < h.size → col b = 4 → ¬ (col b = 3 ∨ b = r.tb ∨ b = r.mb) := by
      rintro b _ e (x | x | x)
      · omega
      · rw [x] at e; omega
      · rw [x] at e; omega
    have hF' : Gw h F h14 (fun b => 1 ≤ col' b ∧ col' b ≤ 5) := ⟨fun b hb => by rw [hF b, ag b hb], fun b hb => by
      rcases Nat.lt_or_ge b h14.size with h1 | h1
      · exact h1
      · have hb : 1 ≤ col' b ∧ col' b ≤ 5 := hb
        rw [cz b h1] at hb; omega⟩
    refine hK h14 (fun b => 1 ≤ col' b ∧ col' b ≤ 5) (G.mono fun b _ x => (hF b).mpr ?_) hF' (.inl ⟨col', ⟨r.tb, r.mb, a', c', aput r.ps i (⟨aq, l, cq⟩, bs), r.us ++ [⟨i, aget r.ps i, ob, wb, h.size, h2.size⟩]⟩, rfl, ⟨cz, (ag _ tbl).trans ctb, ?_, ?_, (ag _ mbl).trans cmb, m14, ?_, fun p hp => ?_, fun u hu => ?_, ?_, ?_, live, ?_, fun p hp => ?_, fun u hu => ?_⟩, fun b => Iff.rfl⟩)
    · rcases x with x | rfl | rfl <;> omega
    · exact f14.own ot.lt (fun x => hmt x.symm) ot
    · rw [List.length_append, List.length_singleton]
      exact (f14.rd ot.lt fun x => hmt x.symm).trans gt
    · rw [List.length_append, List.length_singleton, List.map_append]
      have u14 := ((s11.fr d12.fr fun b hb x e => ?_).fr f13 fun _ _ _ x => x).fr f14 fun b hb x e => ?_
      · obtain ⟨y1, y2⟩ := u14
        refine ⟨y1, ?_⟩
        revert y2 c3
        cases a' with
        | none => intro _ y2; exact y2
        | some p => intro c3 y2; obtain ⟨v1, v2, v3⟩ := y2; exact ⟨v1, c3 p rfl, v3⟩
      · rw [e] at x
        rcases x with x | x
        · have x : col r.tb = 3 := x; omega
        · omega
      · have e : b = r.mb := e
        rw [e] at x
        rcases x with x | x
        · have x : col r.mb = 3 := x; omega
        · omega
    · rcases aput_mem hp with rfl | hp
      · refine ⟨StrAt.fr f14 ?_ ?_, h5', fun p e => ⟨by have := (qb p e).2; omega, cq4 p e⟩⟩
        · refine ⟨hbl, ?_⟩
          exact s13.cells
        · intro p e x
          have := (qb p e).1
          have x : p.block = r.mb := x
          omega
      · exact (X.pok p hp).keep G ag k4
    · rcases List.mem_append.mp hu with hu | hu
      · exact (X.uok u hu).keep G ag k4
      · rw [List.mem_singleton.mp hu]
        have fr : ∀ b, h.size ≤ b → b < h13.size → rd h14 b = rd h13 b := fun b hb hb2 => f14.rd hb2 fun e => by have e : b = r.mb := e; omega
        refine ⟨(fr ob (by omega) (by omega)).trans go', (fr wb (by omega) (by omega)).trans gw, (fr h.size (by omega) (by omega)).trans g1, (fr h2.size (by omega) (by omega)).trans g2, fun b hb => ⟨?_, c4 b ?_⟩, fun y ey => ?_⟩
        · have hb : b = ob ∨ b = wb ∨ b = h.size ∨ b = h2.size := hb
          omega
        · rcases hb with rfl | rfl | rfl | rfl
          · exact .inr (.inr (.inr rfl))
          · exact .inr (.inr (.inl rfl))
          · exact .inl rfl
          · exact .inr (.inl rfl)
        · exact (X.pok _ (aget_mem ey)).keep G ag k4
    · show aput T.put i bs = _
      rw [X.put]
      exact aput_map (fun x : Sc × Txt => x.2) i (⟨aq, l, cq⟩, bs) r.ps
    · show T.undo ++ [(i, aget T.put i)] = _
      rw [X.undo, eput, List.map_append]; rfl
    · refine (X.dk.fr G fun b hb => ?_).iff fun b => ?_
      · have hb : col b = 5 := hb
        rintro (x | x | x)
        · omega
        · rw [x] at hb; omega
        · rw [x] at hb; omega
      · show col' b = 5 ↔ col b = 5
        rcases Nat.lt_or_ge b h.size with h1 | h1
        · rw [ag b h1]
        · have := c5 b h1
          have := X.nrm b h1
          omega
    · rcases aput_mem hp with rfl | hp
      · exact ⟨by omega, by have : ¬ i ≥ (T.N : Int) := fun y => hnot (.inr y); show i < (T.N : Int); omega⟩
      · exact X.pk p hp
    · rcases List.mem_append.mp hu with hu | hu
      · exact X.ui u hu
      · rw [List.mem_singleton.mp hu]
        exact ⟨by show 98 ≤ i; omega, by have : ¬ i ≥ (T.N : Int) := fun y => hnot (.inr y); show i < (T.N : Int); omega⟩
end Go.Proofs.YtcdpakjhjmchhaaGreatDoor.Tm
/-
  TRANSACTIONS: Back.
-/
namespace Go.Proofs.YtcdpakjhjmchhaaGreatDoor.Tm
open Go Go.Proofs Go.Proofs.YtcdpakjhjmchhaaGreatDoor.Wx Go.Proofs.YtcdpakjhjmchhaaGreatDoor.Hp Go.Proofs.YtcdpakjhjmchhaaGreatDoor.W Go.Proofs.YtcdpakjhjmchhaaGreatDoor.Ad

def undoR (m : List (Int × (Sc × Txt))) (u : UR) : List (Int × (Sc × Txt)) := match u.was with
  | some x => aput m u.i x
  | none => adel m u.i
theorem undoR_map (m : List (Int × (Sc × Txt))) (u : UR) : ((undoR m u).map fun p => (p.1, p.2.2)) = undo1 (m.map fun p => (p.1, p.2.2)) (u.i, u.was.map (·.2)) := by
  unfold undoR undo1
  cases u.was with
  | none => exact (adel_map (fun x : Sc × Txt => x.2) u.i m).symm
  | some x => exact (aput_map (fun x : Sc × Txt => x.2) u.i x m).symm
theorem undoAll_drop (m : List (Int × Txt)) (us : List (Int × Option Txt)) {k : Nat} (hk : k < us.length) : undoAll m (us.drop k) = undo1 (undoAll m (us.drop (k + 1))) us[k] := by
  rw [List.drop_eq_getElem_cons hk]; rfl
/-- the map is written -/
theorem TxC.remap {h h' : Heap} {col : Nat → Nat} {d : Option Addr} {r : TR} {T : TM} (x : TxC h col d r T) {ps' : List (Int × (Sc × Txt))} {put' : List (Int × Txt)} (m : MapTo DI h r.mb (mm (fun x => x.1.v) ps') h') (hp : ∀ p ∈ ps', p ∈ r.ps ∨ Blk h col 4 p.2) (e : put' = ps'.map fun p => (p.1, p.2.2)) (hk : ∀ p ∈ put', 98 ≤ p.1 ∧ p.1 < T.N) :
    TxC h' col d { r with ps := ps' } { T with put := put' } := by
  have f := mapTo_fr m
  have s1 := x.sc
  have s2 := x.mc
  have hmt : r.tb ≠ r.mb := fun e => by rw [e] at s1; omega
  have k4 : ∀ b, b < h.size → col b = 4 → ¬ b = r.mb := fun b _ e e2 => by rw [e2] at e; omega
  have hs := m.size
  refine ⟨fun b hb => x.nrm b (by omega), s1, f.own x.own.lt hmt x.own, (f.rd x.own.lt hmt).trans x.cell, s2, m.at_, x.un.fr f fun b _ hb e => ?_, fun p hp' => ?_, fun u hu => (x.uok u hu).keep f (Ag.refl _ _) k4, e, x.undo, x.live, x.dk.fr f fun b hb e => ?_, hk, x.ui⟩
  · have hb : col b = 3 := hb
    have e : b = r.mb := e
    rw [e] at hb; omega
  · rcases hp p hp' with h1 | h1
    · exact (x.pok p h1).keep f (Ag.refl _ _) k4
    · exact h1.keep f (Ag.refl _ _) k4
  · have hb : col b = 5 := hb
    have e : b = r.mb := e
    rw [e] at hb; omega
/-- one put is undone -/
theorem undo_spec {h : Heap} {col : Nat → Nat} {d : Option Addr} {r : TR} {T : TM} {u : UR} {K : Value → Heap → Prop} (x : TxC h col d r T) (hu : u ∈ r.us)
    (hK : ∀ h', Fr (fun b => b = r.mb) h h' → TxC h' col d { r with ps := undoR r.ps u } { T with put := undo1 T.put (u.i, u.was.map (·.2)) } → K (.tuple #[]) h') : HCallsV Tryz.prog u.v [] h K := by
  have U := x.uok u hu
  show C.txn_Txn_Write_c1 (some ⟨u.ok, 0, none⟩) (some ⟨u.w, 0, none⟩) (some ⟨u.tc, 0, none⟩) (some ⟨u.ic, 0, none⟩) h K
  refine txn_Txn_Write_c1.ok (os ⟨_, rdc U.ok rfl, ?_⟩)
  have hk : ∀ p ∈ undo1 T.put (u.i, u.was.map (·.2)), 98 ≤ p.1 ∧ p.1 < T.N := by
    intro p hp
    unfold undo1 at hp
    split at hp
    · rcases aput_mem hp with rfl | hp
      · exact x.ui u hu
      · exact x.pk p hp
    · exact x.pk p (adel_mem hp)
  have ew : undo1 T.put (u.i, u.was.map (·.2)) = (undoR r.ps u).map fun p => (p.1, p.2.2) := by rw [undoR_map, x.put]
  cases e : u.was with
  | none =>
    refine cf rfl (os ⟨_, rdc U.tc rfl, os ⟨_, rda x.cell rfl, os ⟨_, rdc U.ic rfl, _, x.map, fun h3 t3 => ?_⟩⟩⟩)
    have t3 := t3.toMapTo
    rw [mdel_mm] at t3
    have er : undoR r.ps u = adel r.ps u.i := by unfold undoR; rw [e]
    rw [er] at hK ew
    exact hK h3 (mapTo_fr t3) (x.remap t3 (fun p hp => .inl (adel_mem hp)) ew hk)
  | some y =>
    have hw : rd h u.w = [y.1.v] := by rw [U.w, e]; rfl
    refine ct rfl (os ⟨_, rdc U.tc rfl, os ⟨_, rda x.cell rfl, os ⟨_, rdc U.ic rfl, os ⟨_, _, _, rdc hw rfl, os ⟨_, x.map, fun h2 t2 => ?_⟩⟩⟩⟩⟩)
    rw [show Value.slice y.1.a y.1.l y.1.c = (fun x : Sc × Txt => x.1.v) y from rfl, mput_mm] at t2
    have er : undoR r.ps u = aput r.ps u.i y := by unfold undoR; rw [e]
    rw [er] at hK ew
    refine hK h2 (mapTo_fr t2) (x.remap t2 (fun p hp => ?_) ew hk)
    rcases aput_mem hp with rfl | hp
    · exact .inr (U.b y e)
    · exact .inl hp
theorem Back_spec {h : Heap} {F : Nat → Prop} {t d : Option Addr} {T : TM} {mark : Int} {K : Value → Heap → Prop} (x : Tx h F t d T) (hu : T.undo.length < 1000000000)
    (hK : ∀ h', Fr F h h' → Tx h' F t d (T.back mark).1 → K (.int .i64 (T.back mark).2) h') : C.txn_Txn_Back t mark h K := by
  rcases x with ⟨col, r, rfl, X, hF⟩ | ⟨col, tb, rfl, X, hF⟩
  rotate_left
  · refine txn_Txn_Back.ok (os ⟨_, rda X.cell rfl, ct rfl ?_⟩)
    have e0 : T.back mark = (T, 61) := by unfold TM.back; rw [X.over, if_pos rfl]
    rw [e0] at hK
    exact hK h (Fr.refl _ _) (.inr ⟨col, tb, rfl, X, hF⟩)
  · have eul : T.undo.length = r.us.length := by rw [X.undo, List.length_map]
    have live := X.live
    refine txn_Txn_Back.ok (os ⟨_, rda X.cell rfl, cf rfl (cd (fun hn => ?_) fun h0 => os ⟨_, _, _, rda X.cell rfl, cd (fun hn => ?_) fun h1 => ?_⟩)⟩)
    · have e0 : T.back mark = (T, 62) := by unfold TM.back; rw [live, if_neg (by simp), if_pos (.inl hn)]
      rw [e0] at hK
      exact hK h (Fr.refl _ _) (.inl ⟨col, r, rfl, X, hF⟩)
    · have e0 : T.back mark = (T, 62) := by unfold TM.back; rw [live, if_neg (by simp), if_pos (.inr (by omega))]
      rw [e0] at hK
      exact hK h (Fr.refl _ _) (.inl ⟨col, r, rfl, X, hF⟩)
    have e0 : T.back mark = ({ T with put := undoAll T.put (T.undo.drop mark.toNat), undo := T.undo.take mark.toNat }, 0) := by unfold TM.back; rw [live, if_neg (by simp), if_neg (by omega)]
    rw [e0] at hK
    unfold txn_Txn_Back.k1
    refine os ⟨_, _, _, rda X.cell rfl, ?_⟩
    rw [wrap_i64 (n := (r.us.length : Int) - 1) (by omega) (by omega)]
    refine ⟨fun k hh => mark - 1 ≤ k ∧ k < r.us.length ∧ Fr (fun b => b = r.mb) h hh ∧ ∃ ps', TxC hh col d { r with ps := ps' } { T with put := undoAll T.put (T.undo.drop (k + 1).toNat) }, fun k _ => (k + 1).toNat,
      ⟨by omega, by omega, Fr.refl _ _, r.ps, ?_⟩, ?_⟩
    · rw [show ((r.us.length : Int) - 1 + 1).toNat = T.undo.length by omega, List.drop_length]
      exact X
    rintro k h2 ⟨k0, k1, f2, ps', X2⟩
    refine cd (fun hk => ?_) fun hk => ?_
    · have hk' : k.toNat < r.us.length := by omega
      have X2c : rd h2 r.tb = [.pointer d, .map (some r.mb), .slice r.ua r.us.length r.uc, .bool false] := X2.cell
      obtain ⟨p, ep, cc⟩ := X2.un.get (by show 0 < r.us.length; omega)
      have ep : r.ua = some p := ep
      have cc : Cells h2 p (r.us.map UR.v) := cc
      have cv : cellOf h2 (p.add k.toNat) = some (UR.v r.us[k.toNat]) := Cells.cell cc (by rw [List.getElem?_map, List.getElem?_eq_getElem hk']; rfl)
      refine os ⟨_, _, _, rda X2c rfl, ⟨by omega, by omega⟩, oe ep ⟨_, cv, ?_⟩⟩
      refine undo_spec X2 (List.getElem_mem hk') fun h3 f3 X3 => ⟨rfl, ?_, ?_⟩
      · rw [wrap_i64 (n := k - 1) (by omega) (by omega)]
        refine ⟨by omega, by omega, f2.trans f3 fun b _ e => e, undoR ps' r.us[k.toNat], ?_⟩
        have hd : k.toNat < T.undo.length := by omega
        have eu : T.undo[k.toNat] = (r.us[k.toNat].i, r.us[k.toNat].was.map (·.2)) := by simp only [X.undo, List.getElem_map]
        rw [show (k - 1 + 1).toNat = k.toNat by omega, undoAll_drop T.put T.undo hd, eu, show k.toNat + 1 = (k + 1).toNat by omega]
        exact X3
      · show (IntKind.wrap .i64 (k - 1) + 1).toNat < (k + 1).toNat
        rw [wrap_i64 (n := k - 1) (by omega) (by omega)]; omega
    · have X2c : rd h2 r.tb = [.pointer d, .map (some r.mb), .slice r.ua r.us.length r.uc, .bool false] := X2.cell
      have cap : r.us.length ≤ r.uc := X2.un.le
      have ek : (k + 1).toNat = mark.toNat := by omega
      rw [ek] at X2
      have s1 := X2.sc
      have s2 := X2.mc
      have s1 : col r.tb = 1 := s1
      have s2 : col r.mb = 2 := s2
      refine os ⟨_, _, _, rda X2c rfl, ⟨by omega, by omega⟩, os (Put.add X2.own (by rw [show rd h2 _ = _ from X2c]; show 0 + 2 < 4; omega) fun h4 d4 => ?_)⟩
      have s4 := d4.size
      have k4 : ∀ b, b < h2.size → col b = 4 → ¬ b = r.tb := fun b _ e e2 => by rw [e2] at e; omega
      have hml : r.mb < h2.size := map_lt X2.map
      have htk : (r.us.take mark.toNat).length = mark.toNat := by rw [List.length_take]; omega
      refine hK h4 ((f2.mono fun b _ e => (hF b).mpr (by have e : b = r.mb := e; rw [e]; omega)).did d4 fun _ => (hF _).mpr (by show 1 ≤ col r.tb ∧ col r.tb ≤ 5; omega)) (.inl ⟨col, { r with ps := ps', us := r.us.take mark.toNat }, rfl, ⟨fun b hb => X2.nrm b (by omega), s1, d4.own, ?_, s2, map_fr X2.map d4.fr fun e => ?_, ?_, fun p hp => (X2.pok p hp).keep d4.fr (Ag.refl _ _) k4, fun u hu => (X2.uok u (List.mem_of_mem_take hu)).keep d4.fr (Ag.refl _ _) k4, X2.put, ?_, live, X2.dk.fr d4.fr fun b hb e => ?_, X2.pk, fun u hu => X2.ui u (List.mem_of_mem_take hu)⟩, hF⟩)
      · rw [d4.rd, show rd h2 _ = _ from X2c]
        show _ = ([.pointer d, .map (some r.mb), .slice r.ua (r.us.take mark.toNat).length r.uc, .bool false] : List Value)
        rw [htk]; rfl
      · have e : r.mb = r.tb := e
        rw [e] at s2; omega
      · show Sl h4 1 r.ua (r.us.take mark.toNat).length r.uc ((r.us.take mark.toNat).map UR.v) (On col 3)
        rw [htk, List.map_take]
        exact sl_take (X2.un.fr d4.fr fun b _ hb e => by have hb : col b = 3 := hb; have e : b = r.tb := e; rw [e] at hb; omega) (by show mark.toNat ≤ r.us.length; omega)
      · show T.undo.take mark.toNat = (r.us.take mark.toNat).map _
        rw [X.undo, List.map_take]
      · have hb : col b = 5 := hb
        have e : b = r.tb := e
        rw [e] at hb; omega
end Go.Proofs.YtcdpakjhjmchhaaGreatDoor.Tm
