/-
  TRANSACTIONS: what one holds, plainly, and how it stands in the heap.
-/
import Derived.Test.YtpleolmalbdpnaaDoorDkF
namespace Go.Proofs.YtpleolmalbdpnaaDoor.Tm
open Go Go.Proofs Go.Proofs.YtpleolmalbdpnaaDoor.Wx Go.Proofs.YtpleolmalbdpnaaDoor.Hp Go.Proofs.YtpleolmalbdpnaaDoor.W Go.Proofs.YtpleolmalbdpnaaDoor.Ad

abbrev Txt := List UInt8
/-! maps of numbers -/
def aget {α : Type} : List (Int × α) → Int → Option α
  | [], _ => none
  | (k, v) :: r, x => bif x == k then some v else aget r x
def aput {α : Type} : List (Int × α) → Int → α → List (Int × α)
  | [], x, v => [(x, v)]
  | (k, u) :: r, x, v => bif x == k then (x, v) :: r else (k, u) :: aput r x v
def adel {α : Type} : List (Int × α) → Int → List (Int × α)
  | [], _ => []
  | (k, u) :: r, x => bif x == k then r else (k, u) :: adel r x
theorem aget_aput {α : Type} (v : α) (i j : Int) : ∀ m : List (Int × α), aget (aput m i v) j = if j = i then some v else aget m j
  | [] => by
    show (bif j == i then some v else none) = _
    by_cases h : j = i
    · rw [if_pos h, h, beq_self_eq_true]; rfl
    · rw [if_neg h, beq_eq_false_iff_ne.mpr h]; rfl
  | (k, u) :: r => by
    have ih := aget_aput v i j r
    show aget (bif i == k then (i, v) :: r else (k, u) :: aput r i v) j = if j = i then some v else (bif j == k then some u else aget r j)
    by_cases h : i = k
    · subst h
      rw [beq_self_eq_true]
      show (bif j == i then some v else aget r j) = _
      by_cases h2 : j = i
      · rw [if_pos h2, h2, beq_self_eq_true]; rfl
      · rw [if_neg h2, beq_eq_false_iff_ne.mpr h2]; rfl
    · rw [beq_eq_false_iff_ne.mpr h]
      show (bif j == k then some u else aget (aput r i v) j) = _
      rw [ih]
      by_cases h2 : j = k
      · have hn : ¬ j = i := fun e => h (e.symm.trans h2)
        rw [if_neg hn, if_neg hn, h2, beq_self_eq_true]
      · rw [beq_eq_false_iff_ne.mpr h2]; rfl
theorem aget_none {α : Type} {i : Int} : ∀ {m : List (Int × α)}, aget m i = none ↔ ∀ p ∈ m, p.1 ≠ i
  | [] => ⟨fun _ p hp => (by cases hp), fun _ => rfl⟩
  | (k, u) :: r => by
    show (bif i == k then some u else aget r i) = none ↔ _
    by_cases h : i = k
    · rw [h, beq_self_eq_true]
      exact ⟨fun x => (by cases x), fun x => absurd rfl (x (k, u) (List.mem_cons_self ..))⟩
    · rw [beq_eq_false_iff_ne.mpr h]
      show aget r i = none ↔ _
      rw [aget_none]
      refine ⟨fun x p hp => ?_, fun x p hp => x p (List.mem_cons_of_mem _ hp)⟩
      rcases List.mem_cons.mp hp with rfl | hp
      · exact fun e => h e.symm
      · exact x p hp
theorem aget_mem {α : Type} {i : Int} {v : α} : ∀ {m : List (Int × α)}, aget m i = some v → (i, v) ∈ m
  | [], h => by cases h
  | (k, u) :: r, h => by
    have h : (bif i == k then some u else aget r i) = some v := h
    by_cases e : i = k
    · rw [e, beq_self_eq_true] at h
      cases h
      rw [e]; exact List.mem_cons_self ..
    · rw [beq_eq_false_iff_ne.mpr e] at h
      exact List.mem_cons_of_mem _ (aget_mem h)
theorem aput_mem {α : Type} {i : Int} {v : α} {p : Int × α} : ∀ {m : List (Int × α)}, p ∈ aput m i v → p = (i, v) ∨ p ∈ m
  | [], h => .inl (List.mem_singleton.mp h)
  | (k, u) :: r, h => by
    have h : p ∈ (bif i == k then (i, v) :: r else (k, u) :: aput r i v) := h
    by_cases e : i = k
    · rw [e, beq_self_eq_true] at h
      rcases List.mem_cons.mp h with h | h
      · left; rw [h, e]
      · exact .inr (List.mem_cons_of_mem _ h)
    · rw [beq_eq_false_iff_ne.mpr e] at h
      rcases List.mem_cons.mp h with h | h
      · exact .inr (h ▸ List.mem_cons_self ..)
      · rcases aput_mem h with h | h
        · exact .inl h
        · exact .inr (List.mem_cons_of_mem _ h)
theorem adel_mem {α : Type} {i : Int} {p : Int × α} : ∀ {m : List (Int × α)}, p ∈ adel m i → p ∈ m
  | [], h => h
  | (k, u) :: r, h => by
    have h : p ∈ (bif i == k then r else (k, u) :: adel r i) := h
    by_cases e : i = k
    · rw [e, beq_self_eq_true] at h; exact List.mem_cons_of_mem _ h
    · rw [beq_eq_false_iff_ne.mpr e] at h
      rcases List.mem_cons.mp h with h | h
      · exact h ▸ List.mem_cons_self ..
      · exact List.mem_cons_of_mem _ (adel_mem h)
/-- a put that is undone: the same list again -/
theorem adel_aput {α : Type} {i : Int} {v : α} : ∀ {m : List (Int × α)}, aget m i = none → adel (aput m i v) i = m
  | [], _ => by show (bif i == i then [] else _) = _; rw [beq_self_eq_true]; rfl
  | (k, u) :: r, h => by
    have h : (bif i == k then some u else aget r i) = none := h
    by_cases e : i = k
    · rw [e, beq_self_eq_true] at h; cases h
    · rw [beq_eq_false_iff_ne.mpr e] at h
      show adel (bif i == k then (i, v) :: r else (k, u) :: aput r i v) i = _
      rw [beq_eq_false_iff_ne.mpr e]
      show (bif i == k then _ else (k, u) :: adel (aput r i v) i) = _
      rw [beq_eq_false_iff_ne.mpr e, adel_aput h]; rfl
theorem aput_aput {α : Type} {i : Int} {v w : α} : ∀ {m : List (Int × α)}, aget m i = some w → aput (aput m i v) i w = m
  | [], h => by cases h
  | (k, u) :: r, h => by
    have h : (bif i == k then some u else aget r i) = some w := h
    show aput (bif i == k then (i, v) :: r else (k, u) :: aput r i v) i w = _
    by_cases e : i = k
    · subst e
      rw [beq_self_eq_true] at h ⊢
      cases h
      show (bif i == i then (i, w) :: r else _) = _
      rw [beq_self_eq_true]; rfl
    · rw [beq_eq_false_iff_ne.mpr e] at h ⊢
      show (bif i == k then _ else (k, u) :: aput (aput r i v) i w) = _
      rw [beq_eq_false_iff_ne.mpr e, aput_aput h]; rfl
theorem aput_length {α : Type} {i : Int} {v : α} : ∀ {m : List (Int × α)}, (aput m i v).length = if aget m i = none then m.length + 1 else m.length
  | [] => rfl
  | (k, u) :: r => by
    have ih := aput_length (i := i) (v := v) (m := r)
    show (bif i == k then (i, v) :: r else (k, u) :: aput r i v).length = if (bif i == k then some u else aget r i) = none then _ else _
    by_cases e : i = k
    · rw [e, beq_self_eq_true]; rfl
    · rw [beq_eq_false_iff_ne.mpr e]
      show (aput r i v).length + 1 = if aget r i = none then r.length + 1 + 1 else r.length + 1
      rw [ih]; split <;> rfl
theorem aget_map {α β : Type} (f : α → β) (i : Int) : ∀ m : List (Int × α), aget (m.map fun p => (p.1, f p.2)) i = (aget m i).map f
  | [] => rfl
  | (k, u) :: r => by
    show (bif i == k then some (f u) else aget (r.map fun p => (p.1, f p.2)) i) = (bif i == k then some u else aget r i).map f
    rw [aget_map f i r]
    cases i == k <;> rfl
theorem aput_map {α β : Type} (f : α → β) (i : Int) (v : α) : ∀ m : List (Int × α), aput (m.map fun p => (p.1, f p.2)) i (f v) = (aput m i v).map fun p => (p.1, f p.2)
  | [] => rfl
  | (k, u) :: r => by
    show (bif i == k then (i, f v) :: r.map (fun p => (p.1, f p.2)) else (k, f u) :: aput (r.map fun p => (p.1, f p.2)) i (f v)) = (bif i == k then (i, v) :: r else (k, u) :: aput r i v).map fun p => (p.1, f p.2)
    rw [aput_map f i v r]
    cases i == k <;> rfl
theorem adel_map {α β : Type} (f : α → β) (i : Int) : ∀ m : List (Int × α), adel (m.map fun p => (p.1, f p.2)) i = (adel m i).map fun p => (p.1, f p.2)
  | [] => rfl
  | (k, u) :: r => by
    show (bif i == k then r.map (fun p => (p.1, f p.2)) else (k, f u) :: adel (r.map fun p => (p.1, f p.2)) i) = (bif i == k then r else (k, u) :: adel r i).map fun p => (p.1, f p.2)
    rw [adel_map f i r]
    cases i == k <;> rfl
/-- as the walk has them -/
def mm {α : Type} (f : α → Value) (m : List (Int × α)) : MapC := m.map fun p => (.i p.1, f p.2)
theorem mget_mm {α : Type} (f : α → Value) (i : Int) : ∀ m : List (Int × α), mget (mm f m) (.i i) = (aget m i).map f
  | [] => rfl
  | (k, u) :: r => by
    show (bif i == k then some (f u) else mget (mm f r) (.i i)) = (bif i == k then some u else aget r i).map f
    rw [mget_mm f i r]
    cases i == k <;> rfl
theorem mput_mm {α : Type} (f : α → Value) (i : Int) (v : α) : ∀ m : List (Int × α), mput (mm f m) (.i i) (f v) = mm f (aput m i v)
  | [] => rfl
  | (k, u) :: r => by
    show (bif i == k then (.i i, f v) :: mm f r else (.i k, f u) :: mput (mm f r) (.i i) (f v)) = mm f (bif i == k then (i, v) :: r else (k, u) :: aput r i v)
    rw [mput_mm f i v r]
    cases i == k <;> rfl
theorem mdel_mm {α : Type} (f : α → Value) (i : Int) : ∀ m : List (Int × α), mdel (mm f m) (.i i) = mm f (adel m i)
  | [] => rfl
  | (k, u) :: r => by
    show (bif i == k then mm f r else (.i k, f u) :: mdel (mm f r) (.i i)) = mm f (bif i == k then r else (k, u) :: adel r i)
    rw [mdel_mm f i r]
    cases i == k <;> rfl
theorem mm_length {α : Type} (f : α → Value) (m : List (Int × α)) : (mm f m).length = m.length := List.length_map ..
abbrev DI : D := .int .i64
theorem map_lt {d : D} {h : Heap} {r : Nat} {m : MapC} (a : MapAt d h r m) : r < h.size := by
  obtain ⟨es, ck, e, _⟩ := a
  exact (Array.getElem?_eq_some_iff.mp e).1
theorem map_fr {d : D} {h h' : Heap} {r : Nat} {m : MapC} {F : Nat → Prop} (a : MapAt d h r m) (f : Fr F h h') (hF : ¬ F r) : MapAt d h' r m := by
  have hl := map_lt a
  obtain ⟨es, ck, e, q⟩ := a
  exact ⟨es, ck, (f.same r hl hF).trans e, q⟩
theorem mapTo_fr {d : D} {h h' : Heap} {r : Nat} {m : MapC} (t : MapTo d h r m h') : Fr (fun b => b = r) h h' := ⟨by rw [t.size]; exact Nat.le_refl _, fun b _ hb => t.same b hb⟩
theorem newM_size (h : Heap) : (newM h).size = h.size + 1 := by simp [newM]
theorem newM_fr (h : Heap) : Fr No h (newM h) := ⟨by rw [newM_size]; omega, fun b hb _ => by simp only [newM]; rw [Array.getElem?_push, if_neg (by omega)]⟩
theorem newM_at (h : Heap) : MapAt DI (newM h) h.size [] := ⟨#[], 0, by simp [newM], rfl, (fun p hp => by cases hp), MapKept.stamped_empty 0⟩

/-- a transaction, plainly -/
structure TM where
  disk : RD
  put : List (Int × Txt)
  undo : List (Int × Option Txt)
  over : Bool
def TM.N (T : TM) : Nat := T.disk.lasts.length
/-- a block as the transaction has it -/
def TM.get (T : TM) (i : Int) : Txt × Int := match aget T.put i with
  | some b => (b, 0)
  | none => if T.disk.down = true then ([], 30) else (readAt T.disk i.toNat, 0)
theorem TM.get_some {T : TM} {i : Int} {b : Txt} (e : aget T.put i = some b) : T.get i = (b, 0) := by unfold TM.get; rw [e]
theorem TM.get_none {T : TM} {i : Int} (e : aget T.put i = none) : T.get i = if T.disk.down = true then ([], 30) else (readAt T.disk i.toNat, 0) := by unfold TM.get; rw [e]
/-- what Read answers -/
def TM.read (T : TM) (i : Int) : Txt × Int :=
  if T.over = true then ([], 61) else if i < 0 ∨ i ≥ T.N then ([], 31) else T.get i
/-- what Write answers -/
def TM.write (T : TM) (i : Int) (bs : Txt) : TM × Int :=
  if T.over = true then (T, 61) else if i < 98 ∨ i ≥ T.N then (T, 31) else if bs.length ≠ 512 then (T, 32) else if aget T.put i = none ∧ T.put.length ≥ 96 then (T, 60)
    else ({ T with put := aput T.put i bs, undo := T.undo ++ [(i, aget T.put i)] }, 0)
def TM.mark (T : TM) : Int × Int := if T.over = true then (0, 61) else (T.undo.length, 0)
/-- a put is undone -/
def undo1 (m : List (Int × Txt)) (u : Int × Option Txt) : List (Int × Txt) := match u.2 with
  | some b => aput m u.1 b
  | none => adel m u.1
def undoAll (m : List (Int × Txt)) (us : List (Int × Option Txt)) : List (Int × Txt) := us.foldr (fun u m => undo1 m u) m
def TM.back (T : TM) (mark : Int) : TM × Int :=
  if T.over = true then (T, 61) else if mark < 0 ∨ mark > T.undo.length then (T, 62)
    else ({ T with put := undoAll T.put (T.undo.drop mark.toNat), undo := T.undo.take mark.toNat }, 0)

/-- a slice -/
structure Sc where
  a : Option Addr
  l : Nat
  c : Nat
def Sc.v (s : Sc) : Value := .slice s.a s.l s.c
/-- a block of 512 bytes, of colour k -/
structure Blk (h : Heap) (col : Nat → Nat) (k : Nat) (x : Sc × Txt) : Prop where
  s : StrAt h x.1.a x.1.l x.2
  l : x.2.length = 512
  at_ : ∀ p, x.1.a = some p → p.block < h.size ∧ col p.block = k
theorem Blk.keep {h h' : Heap} {col col' : Nat → Nat} {k : Nat} {x : Sc × Txt} {F : Nat → Prop} (b : Blk h col k x) (f : Fr F h h') (g : Ag h.size col col') (hF : ∀ b, b < h.size → col b = k → ¬ F b) : Blk h' col' k x :=
  ⟨StrAt.fr f b.s fun p e => hF _ (b.at_ p e).1 (b.at_ p e).2, b.l, fun p e => ⟨Nat.lt_of_lt_of_le (b.at_ p e).1 f.size, (g _ (b.at_ p e).1).trans (b.at_ p e).2⟩⟩
/-- what undoes a put: the cells that it looks at -/
structure UR where
  i : Int
  was : Option (Sc × Txt)
  ok : Nat
  w : Nat
  tc : Nat
  ic : Nat
def UR.v (u : UR) : Value := .func (.func 66) #[] ⟨[.pointer (some ⟨u.ok, 0, none⟩), .pointer (some ⟨u.w, 0, none⟩), .pointer (some ⟨u.tc, 0, none⟩), .pointer (some ⟨u.ic, 0, none⟩)]⟩
def wasV (w : Option (Sc × Txt)) : Value := match w with
  | some x => x.1.v
  | none => .slice none 0 0
structure Und (h : Heap) (col : Nat → Nat) (tb : Nat) (u : UR) : Prop where
  ok : rd h u.ok = [.bool u.was.isSome]
  w : rd h u.w = [wasV u.was]
  tc : rd h u.tc = [.pointer (some ⟨tb, 0, none⟩)]
  ic : rd h u.ic = [.int .i64 u.i]
  at_ : ∀ b, b = u.ok ∨ b = u.w ∨ b = u.tc ∨ b = u.ic → b < h.size ∧ col b = 4
  b : ∀ x, u.was = some x → Blk h col 4 x
theorem Und.keep {h h' : Heap} {col col' : Nat → Nat} {tb : Nat} {u : UR} {F : Nat → Prop} (a : Und h col tb u) (f : Fr F h h') (g : Ag h.size col col') (hF : ∀ b, b < h.size → col b = 4 → ¬ F b) : Und h' col' tb u := by
  have k : ∀ b, b = u.ok ∨ b = u.w ∨ b = u.tc ∨ b = u.ic → rd h' b = rd h b := fun b hb => f.rd (a.at_ b hb).1 (hF b (a.at_ b hb).1 (a.at_ b hb).2)
  exact ⟨(k _ (by simp)).trans a.ok, (k _ (by simp)).trans a.w, (k _ (by simp)).trans a.tc, (k _ (by simp)).trans a.ic, fun b hb => ⟨Nat.lt_of_lt_of_le (a.at_ b hb).1 f.size, (g _ (a.at_ b hb).1).trans (a.at_ b hb).2⟩, fun x e => (a.b x e).keep f g hF⟩
/-- the cells of a transaction -/
structure TR where
  tb : Nat
  mb : Nat
  ua : Option Addr
  uc : Nat
  ps : List (Int × (Sc × Txt))
  us : List UR
structure TxC (h : Heap) (col : Nat → Nat) (d : Option Addr) (r : TR) (T : TM) : Prop where
  nrm : ∀ b, h.size ≤ b → col b = 0
  sc : col r.tb = 1
  own : Own h r.tb
  cell : rd h r.tb = [.pointer d, .map (some r.mb), .slice r.ua r.us.length r.uc, .bool false]
  mc : col r.mb = 2
  map : MapAt DI h r.mb (mm (fun x => x.1.v) r.ps)
  un : Sl h 1 r.ua r.us.length r.uc (r.us.map UR.v) (On col 3)
  pok : ∀ p ∈ r.ps, Blk h col 4 p.2
  uok : ∀ u ∈ r.us, Und h col r.tb u
  put : T.put = r.ps.map fun p => (p.1, p.2.2)
  undo : T.undo = r.us.map fun u => (u.i, u.was.map (·.2))
  live : T.over = false
  dk : DiskF h (fun b => col b = 5) d T.disk
  pk : ∀ p ∈ T.put, 98 ≤ p.1 ∧ p.1 < T.N
  ui : ∀ u ∈ r.us, 98 ≤ u.i ∧ u.i < T.N
/-- a transaction that is over -/
structure TxO (h : Heap) (col : Nat → Nat) (d : Option Addr) (tb : Nat) (T : TM) : Prop where
  nrm : ∀ b, h.size ≤ b → col b = 0
  sc : col tb = 1
  own : Own h tb
  cell : rd h tb = [.pointer d, .map none, .slice none 0 0, .bool true]
  gone : T.put = [] ∧ T.undo = []
  over : T.over = true
  dk : DiskF h (fun b => col b = 5) d T.disk
/-- a transaction at t over the disk at d, standing on the blocks F -/
def Tx (h : Heap) (F : Nat → Prop) (t d : Option Addr) (T : TM) : Prop :=
  (∃ col r, t = some ⟨r.tb, 0, none⟩ ∧ TxC h col d r T ∧ ∀ b, F b ↔ 1 ≤ col b ∧ col b ≤ 5) ∨ (∃ col tb, t = some ⟨tb, 0, none⟩ ∧ TxO h col d tb T ∧ ∀ b, F b ↔ 1 ≤ col b ∧ col b ≤ 5)
theorem TxC.keep {h h' : Heap} {col col' : Nat → Nat} {d : Option Addr} {r : TR} {T : TM} {F : Nat → Prop} (t : TxC h col d r T) (f : Fr F h h') (g : Ag h.size col col') (hz : ∀ b, h'.size ≤ b → col' b = 0) (hn : ∀ b, h.size ≤ b → ¬ (1 ≤ col' b ∧ col' b ≤ 5)) (hF : ∀ b, b < h.size → 1 ≤ col b → col b ≤ 5 → ¬ F b) : TxC h' col' d r T := by
  have hl := t.own.lt
  have s1 := t.sc
  have s2 := t.mc
  have ml := map_lt t.map
  have k4 : ∀ b, b < h.size → col b = 4 → ¬ F b := fun b hb e => hF b hb (by omega) (by omega)
  refine ⟨hz, (g _ hl).trans s1, f.own hl (hF _ hl (by omega) (by omega)) t.own, (f.rd hl (hF _ hl (by omega) (by omega))).trans t.cell, (g _ ml).trans s2, map_fr t.map f (hF _ ml (by omega) (by omega)), ?_,
    fun p hp => (t.pok p hp).keep f g k4, fun u hu => (t.uok u hu).keep f g k4, t.put, t.undo, t.live, ?_, t.pk, t.ui⟩
  · have s' := Hp.Sl.fr f t.un (fun b hb hk => hF b hb (by have hk : col b = 3 := hk; omega) (by have hk : col b = 3 := hk; omega))
    obtain ⟨h1, h2⟩ := s'
    refine ⟨h1, ?_⟩
    have ul := t.un
    revert h2 ul
    cases r.ua with
    | none => intro h2 _; exact h2
    | some p => intro h2 ul; obtain ⟨a1, a2, a3, a4⟩ := h2; exact ⟨a1, (g _ ul.lt).trans a2, a3, a4⟩
  · refine (t.dk.fr f fun b hb => hF b (t.dk.lt hb) (by have hb : col b = 5 := hb; omega) (by have hb : col b = 5 := hb; omega)).iff fun b => ?_
    rcases Nat.lt_or_ge b h.size with h1 | h1
    · show col' b = 5 ↔ col b = 5; rw [g b h1]
    · have := hn b h1
      have := t.nrm b h1
      show col' b = 5 ↔ col b = 5
      omega
theorem TxO.keep {h h' : Heap} {col : Nat → Nat} {d : Option Addr} {tb : Nat} {T : TM} {F : Nat → Prop} (t : TxO h col d tb T) (f : Fr F h h') (hF : ∀ b, b < h.size → 1 ≤ col b → col b ≤ 5 → ¬ F b) : TxO h' col d tb T := by
  have hl := t.own.lt
  have s1 := t.sc
  have hs := f.size
  exact ⟨fun b hb => t.nrm b (by omega), s1, f.own hl (hF _ hl (by omega) (by omega)) t.own, (f.rd hl (hF _ hl (by omega) (by omega))).trans t.cell, t.gone, t.over,
    t.dk.fr f fun b hb => hF b (t.dk.lt hb) (by have hb : col b = 5 := hb; omega) (by have hb : col b = 5 := hb; omega)⟩
theorem Tx.lt {h : Heap} {F : Nat → Prop} {t d : Option Addr} {T : TM} (x : Tx h F t d T) {b : Nat} (hb : F b) : b < h.size := by
  rcases Nat.lt_or_ge b h.size with h1 | h1
  · exact h1
  · exfalso
    rcases x with ⟨col, r, _, c, hF⟩ | ⟨col, tb, _, c, hF⟩
    · have := (hF b).mp hb; rw [c.nrm b h1] at this; omega
    · have := (hF b).mp hb; rw [c.nrm b h1] at this; omega
theorem Tx.fr {h h' : Heap} {F G : Nat → Prop} {t d : Option Addr} {T : TM} (x : Tx h F t d T) (f : Fr G h h') (hG : ∀ b, F b → ¬ G b) : Tx h' F t d T := by
  have hs := f.size
  rcases x with ⟨col, r, e, c, hF⟩ | ⟨col, tb, e, c, hF⟩
  · exact .inl ⟨col, r, e, c.keep f (Ag.refl _ _) (fun b hb => c.nrm b (by omega)) (fun b hb y => by rw [c.nrm b hb] at y; omega) fun b _ h1 h2 => hG b ((hF b).mpr ⟨h1, h2⟩), hF⟩
  · exact .inr ⟨col, tb, e, c.keep f fun b _ h1 h2 => hG b ((hF b).mpr ⟨h1, h2⟩), hF⟩
theorem Tx.no {h h' : Heap} {F : Nat → Prop} {t d : Option Addr} {T : TM} (x : Tx h F t d T) (f : Fr No h h') : Tx h' F t d T := x.fr f fun _ _ y => y
/-- a row, cut short, with its room -/
theorem sl_take {h : Heap} {l c m : Nat} {a : Option Addr} {xs : List Value} {F : Nat → Prop} (s : Sl h 1 a l c xs F) (hm : m ≤ l) : Sl h 1 a m c (xs.take m) F := by
  cases a with
  | none =>
    obtain ⟨h1, h2, h3⟩ := s
    have : m = 0 := by omega
    subst this
    exact ⟨rfl, rfl, h3⟩
  | some p =>
    obtain ⟨h1, a1, a2, a3, a4, a5, a6⟩ := s
    rw [Nat.mul_one] at h1
    refine ⟨by rw [List.length_take]; omega, a1, a2, a3, by omega, ?_, by rw [Nat.mul_one] at a6 ⊢; omega⟩
    rw [List.length_take, h1, Nat.min_eq_left hm]
    conv => rhs; rw [← a5]
    rw [List.take_take, h1, Nat.min_eq_left hm]
/-- its disk -/
theorem Tx.dk {h : Heap} {F : Nat → Prop} {t d : Option Addr} {T : TM} (x : Tx h F t d T) : ∃ D, DiskF h D d T.disk ∧ ∀ b, D b → F b := by
  rcases x with ⟨col, r, e, c, hF⟩ | ⟨col, tb, e, c, hF⟩
  · exact ⟨_, c.dk, fun b hb => (hF b).mpr (by have hb : col b = 5 := hb; omega)⟩
  · exact ⟨_, c.dk, fun b hb => (hF b).mpr (by have hb : col b = 5 := hb; omega)⟩
end Go.Proofs.YtpleolmalbdpnaaDoor.Tm
