/-
  TEXTS FOR bmapOwn_card: TmC TmD RgA BtA SpcA SpcB SpcC SpG AvA BmA InB BmY.
-/
import Derived.Test.YtcdpakjhjmchhaaDoorGp3
namespace Go.Proofs.YtcdpakjhjmchhaaDoor.Tm
open Go Go.Proofs Go.Proofs.YtcdpakjhjmchhaaDoor.Wx Go.Proofs.YtcdpakjhjmchhaaDoor.Hp Go.Proofs.YtcdpakjhjmchhaaDoor.W Go.Proofs.YtcdpakjhjmchhaaDoor.Ad
abbrev Txt := List UInt8
def aget {α : Type} : List (Int × α) → Int → Option α
  | [], _ => none
  | (k, v) :: r, x => bif x == k then some v else aget r x
def aput {α : Type} : List (Int × α) → Int → α → List (Int × α)
  | [], x, v => [(x, v)]
  | (k, u) :: r, x, v => bif x == k then (x, v) :: r else (k, u) :: aput r x v
def adel {α : Type} : List (Int × α) → Int → List (Int × α)
  | [], _ => []
  | (k, u) :: r, x => bif x == k then r else (k, u) :: adel r x
theorem aget_aput {α : Type} (v : α) (i j : Int) : ∀ m : List (Int × α), aget (aput m i v) j = if j = i then some v else aget m j
  | [] => by
    show (bif j == i then some v else none) = _
    by_cases h : j = i
    · rw [if_pos h, h, beq_self_eq_true]; rfl
    · rw [if_neg h, beq_eq_false_iff_ne.mpr h]; rfl
  | (k, u) :: r => by
    have ih := aget_aput v i j r
    show aget (bif i == k then (i, v) :: r else (k, u) :: aput r i v) j = if j = i then some v else (bif j == k then some u else aget r j)
    by_cases h : i = k
    · subst h
      rw [beq_self_eq_true]
      show (bif j == i then some v else aget r j) = _
      by_cases h2 : j = i
      · rw [if_pos h2, h2, beq_self_eq_true]; rfl
      · rw [if_neg h2, beq_eq_false_iff_ne.mpr h2]; rfl
    · rw [beq_eq_false_iff_ne.mpr h]
      show (bif j == k then some u else aget (aput r i v) j) = _
      rw [ih]
      by_cases h2 : j = k
      · have hn : ¬ j = i := fun e => h (e.symm.trans h2)
        rw [if_neg hn, if_neg hn, h2, beq_self_eq_true]
      · rw [beq_eq_false_iff_ne.mpr h2]; rfl
theorem aget_none {α : Type} {i : Int} : ∀ {m : List (Int × α)}, aget m i = none ↔ ∀ p ∈ m, p.1 ≠ i
  | [] => ⟨fun _ p hp => (by cases hp), fun _ => rfl⟩
  | (k, u) :: r => by
    show (bif i == k then some u else aget r i) = none ↔ _
    by_cases h : i = k
    · rw [h, beq_self_eq_true]
      exact ⟨fun x => (by cases x), fun x => absurd rfl (x (k, u) (List.mem_cons_self ..))⟩
    · rw [beq_eq_false_iff_ne.mpr h]
      show aget r i = none ↔ _
      rw [aget_none]
      refine ⟨fun x p hp => ?_, fun x p hp => x p (List.mem_cons_of_mem _ hp)⟩
      rcases List.mem_cons.mp hp with rfl | hp
      · exact fun e => h e.symm
      · exact x p hp
theorem aget_mem {α : Type} {i : Int} {v : α} : ∀ {m : List (Int × α)}, aget m i = some v → (i, v) ∈ m
  | [], h => by cases h
  | (k, u) :: r, h => by
    have h : (bif i == k then some u else aget r i) = some v := h
    by_cases e : i = k
    · rw [e, beq_self_eq_true] at h
      cases h
      rw [e]; exact List.mem_cons_self ..
    · rw [beq_eq_false_iff_ne.mpr e] at h
      exact List.mem_cons_of_mem _ (aget_mem h)
theorem aput_mem {α : Type} {i : Int} {v : α} {p : Int × α} : ∀ {m : List (Int × α)}, p ∈ aput m i v → p = (i, v) ∨ p ∈ m
  | [], h => .inl (List.mem_singleton.mp h)
  | (k, u) :: r, h => by
    have h : p ∈ (bif i == k then (i, v) :: r else (k, u) :: aput r i v) := h
    by_cases e : i = k
    · rw [e, beq_self_eq_true] at h
      rcases List.mem_cons.mp h with h | h
      · left; rw [h, e]
      · exact .inr (List.mem_cons_of_mem _ h)
    · rw [beq_eq_false_iff_ne.mpr e] at h
      rcases List.mem_cons.mp h with h | h
      · exact .inr (h ▸ List.mem_cons_self ..)
      · rcases aput_mem h with h | h
        · exact .inl h
        · exact .inr (List.mem_cons_of_mem _ h)
theorem adel_mem {α : Type} {i : Int} {p : Int × α} : ∀ {m : List (Int × α)}, p ∈ adel m i → p ∈ m
  | [], h => h
  | (k, u) :: r, h => by
    have h : p ∈ (bif i == k then r else (k, u) :: adel r i) := h
    by_cases e : i = k
    · rw [e, beq_self_eq_true] at h; exact List.mem_cons_of_mem _ h
    · rw [beq_eq_false_iff_ne.mpr e] at h
      rcases List.mem_cons.mp h with h | h
      · exact h ▸ List.mem_cons_self ..
      · exact List.mem_cons_of_mem _ (adel_mem h)
/-- a put that is undone: the same list again -/
theorem adel_aput {α : Type} {i : Int} {v : α} : ∀ {m : List (Int × α)}, aget m i = none → adel (aput m i v) i = m
  | [], _ => by show (bif i == i then [] else _) = _; rw [beq_self_eq_true]; rfl
  | (k, u) :: r, h => by
    have h : (bif i == k then some u else aget r i) = none := h
    by_cases e : i = k
    · rw [e, beq_self_eq_true] at h; cases h
    · rw [beq_eq_false_iff_ne.mpr e] at h
      show adel (bif i == k then (i, v) :: r else (k, u) :: aput r i v) i = _
      rw [beq_eq_false_iff_ne.mpr e]
      show (bif i == k then _ else (k, u) :: adel (aput r i v) i) = _
      rw [beq_eq_false_iff_ne.mpr e, adel_aput h]; rfl
theorem aput_aput {α : Type} {i : Int} {v w : α} : ∀ {m : List (Int × α)}, aget m i = some w → aput (aput m i v) i w = m
  | [], h => by cases h
  | (k, u) :: r, h => by
    have h : (bif i == k then some u else aget r i) = some w := h
    show aput (bif i == k then (i, v) :: r else (k, u) :: aput r i v) i w = _
    by_cases e : i = k
    · subst e
      rw [beq_self_eq_true] at h ⊢
      cases h
      show (bif i == i then (i, w) :: r else _) = _
      rw [beq_self_eq_true]; rfl
    · rw [beq_eq_false_iff_ne.mpr e] at h ⊢
      show (bif i == k then _ else (k, u) :: aput (aput r i v) i w) = _
      rw [beq_eq_false_iff_ne.mpr e, aput_aput h]; rfl
theorem aget_map {α β : Type} (f : α → β) (i : Int) : ∀ m : List (Int × α), aget (m.map fun p => (p.1, f p.2)) i = (aget m i).map f
  | [] => rfl
  | (k, u) :: r => by
    show (bif i == k then some (f u) else aget (r.map fun p => (p.1, f p.2)) i) = (bif i == k then some u else aget r i).map f
    rw [aget_map f i r]
    cases i == k <;> rfl
theorem aput_map {α β : Type} (f : α → β) (i : Int) (v : α) : ∀ m : List (Int × α), aput (m.map fun p => (p.1, f p.2)) i (f v) = (aput m i v).map fun p => (p.1, f p.2)
  | [] => rfl
  | (k, u) :: r => by
    show (bif i == k then (i, f v) :: r.map (fun p => (p.1, f p.2)) else (k, f u) :: aput (r.map fun p => (p.1, f p.2)) i (f v)) = (bif i == k then (i, v) :: r else (k, u) :: aput r i v).map fun p => (p.1, f p.2)
    rw [aput_map f i v r]
    cases i == k <;> rfl
theorem adel_map {α β : Type} (f : α → β) (i : Int) : ∀ m : List (Int × α), adel (m.map fun p => (p.1, f p.2)) i = (adel m i).map fun p => (p.1, f p.2)
  | [] => rfl
  | (k, u) :: r => by
    show (bif i == k then r.map (fun p => (p.1, f p.2)) else (k, f u) :: adel (r.map fun p => (p.1, f p.2)) i) = (bif i == k then r else (k, u) :: adel r i).map fun p => (p.1, f p.2)
    rw [adel_map f i r]
    cases i == k <;> rfl
/-- as the walk has them -/
def mm {α : Type} (f : α → Value) (m : List (Int × α)) : MapC := m.map fun p => (.i p.1, f p.2)
theorem mget_mm {α : Type} (f : α → Value) (i : Int) : ∀ m : List (Int × α), mget (mm f m) (.i i) = (aget m i).map f
  | [] => rfl
  | (k, u) :: r => by
    show (bif i == k then some (f u) else mget (mm f r) (.i i)) = (bif i == k then some u else aget r i).map f
    rw [mget_mm f i r]
    cases i == k <;> rfl
theorem mput_mm {α : Type} (f : α → Value) (i : Int) (v : α) : ∀ m : List (Int × α), mput (mm f m) (.i i) (f v) = mm f (aput m i v)
  | [] => rfl
  | (k, u) :: r => by
    show (bif i == k then (.i i, f v) :: mm f r else (.i k, f u) :: mput (mm f r) (.i i) (f v)) = mm f (bif i == k then (i, v) :: r else (k, u) :: aput r i v)
    rw [mput_mm f i v r]
    cases i == k <;> rfl
theorem mdel_mm {α : Type} (f : α → Value) (i : Int) : ∀ m : List (Int × α), mdel (mm f m) (.i i) = mm f (adel m i)
  | [] => rfl
  | (k, u) :: r => by
    show (bif i == k then mm f r else (.i k, f u) :: mdel (mm f r) (.i i)) = mm f (bif i == k then r else (k, u) :: adel r i)
    rw [mdel_mm f i r]
    cases i == k <;> rfl
theorem mm_length {α : Type} (f : α → Value) (m : List (Int × α)) : (mm f m).length = m.length := List.length_map ..
abbrev DI : D := .int .i64
theorem map_lt {d : D} {h : Heap} {r : Nat} {m : MapC} (a : MapAt d h r m) : r < h.size := by
  obtain ⟨es, ck, e, _⟩ := a
  exact (Array.getElem?_eq_some_iff.mp e).1
theorem map_fr {d : D} {h h' : Heap} {r : Nat} {m : MapC} {F : Nat → Prop} (a : MapAt d h r m) (f : Fr F h h') (hF : ¬ F r) : MapAt d h' r m := by
  have hl := map_lt a
  obtain ⟨es, ck, e, q⟩ := a
  exact ⟨es, ck, (f.same r hl hF).trans e, q⟩
theorem mapTo_fr {d : D} {h h' : Heap} {r : Nat} {m : MapC} (t : MapTo d h r m h') : Fr (fun b => b = r) h h' := ⟨by rw [t.size]; exact Nat.le_refl _, fun b _ hb => t.same b hb⟩
theorem newM_size (h : Heap) : (newM h).size = h.size + 1 := by simp [newM]
theorem newM_fr (h : Heap) : Fr No h (newM h) := ⟨by rw [newM_size]; omega, fun b hb _ => by simp only [newM]; rw [Array.getElem?_push, if_neg (by omega)]⟩
theorem newM_at (h : Heap) : MapAt DI (newM h) h.size [] := ⟨#[], 0, by simp [newM], rfl, (fun p hp => by cases hp), MapKept.stamped_empty 0⟩
/-- a transaction, plainly -/
structure TM where
  disk : RD
  put : List (Int × Txt)
  undo : List (Int × Option Txt)
  over : Bool
def TM.N (T : TM) : Nat := T.disk.lasts.length
/-- a block as the transaction has it -/
def TM.get (T : TM) (i : Int) : Txt × Int := match aget T.put i with
  | some b => (b, 0)
  | none => if T.disk.down = true then ([], 30) else (readAt T.disk i.toNat, 0)
theorem TM.get_some {T : TM} {i : Int} {b : Txt} (e : aget T.put i = some b) : T.get i = (b, 0) := by unfold TM.get; rw [e]
theorem TM.get_none {T : TM} {i : Int} (e : aget T.put i = none) : T.get i = if T.disk.down = true then ([], 30) else (readAt T.disk i.toNat, 0) := by unfold TM.get; rw [e]
/-- what Read answers -/
def TM.read (T : TM) (i : Int) : Txt × Int :=
  if T.over = true then ([], 61) else if i < 0 ∨ i ≥ T.N then ([], 31) else T.get i
/-- what Write answers -/
def TM.write (T : TM) (i : Int) (bs : Txt) : TM × Int :=
  if T.over = true then (T, 61) else if i < 98 ∨ i ≥ T.N then (T, 31) else if bs.length ≠ 512 then (T, 32) else if aget T.put i = none ∧ T.put.length ≥ 96 then (T, 60)
    else ({ T with put := aput T.put i bs, undo := T.undo ++ [(i, aget T.put i)] }, 0)
def TM.mark (T : TM) : Int × Int := if T.over = true then (0, 61) else (T.undo.length, 0)
/-- a put is undone -/
def undo1 (m : List (Int × Txt)) (u : Int × Option Txt) : List (Int × Txt) := match u.2 with
  | some b => aput m u.1 b
  | none => adel m u.1
def undoAll (m : List (Int × Txt)) (us : List (Int × Option Txt)) : List (Int × Txt) := us.foldr (fun u m => undo1 m u) m
def TM.back (T : TM) (mark : Int) : TM × Int :=
  if T.over = true then (T, 61) else if mark < 0 ∨ mark > T.undo.length then (T, 62)
    else ({ T with put := undoAll T.put (T.undo.drop mark.toNat), undo := T.undo.take mark.toNat }, 0)
/-- a slice -/
structure Sc where
  a : Option Addr
  l : Nat
  c : Nat
def Sc.v (s : Sc) : Value := .slice s.a s.l s.c
/-- a block of 512 bytes, of colour k -/
structure Blk (h : Heap) (col : Nat → Nat) (k : Nat) (x : Sc × Txt) : Prop where
  s : StrAt h x.1.a x.1.l x.2
  l : x.2.length = 512
  at_ : ∀ p, x.1.a = some p → p.block < h.size ∧ col p.block = k
theorem Blk.keep {h h' : Heap} {col col' : Nat → Nat} {k : Nat} {x : Sc × Txt} {F : Nat → Prop} (b : Blk h col k x) (f : Fr F h h') (g : Ag h.size col col') (hF : ∀ b, b < h.size → col b = k → ¬ F b) : Blk h' col' k x :=
  ⟨StrAt.fr f b.s fun p e => hF _ (b.at_ p e).1 (b.at_ p e).2, b.l, fun p e => ⟨Nat.lt_of_lt_of_le (b.at_ p e).1 f.size, (g _ (b.at_ p e).1).trans (b.at_ p e).2⟩⟩
/-- what undoes a put: the cells that it looks at -/
structure UR where
  i : Int
  was : Option (Sc × Txt)
  ok : Nat
  w : Nat
  tc : Nat
  ic : Nat
def UR.v (u : UR) : Value := .func (.func 110) #[] ⟨[.pointer (some ⟨u.ok, 0, none⟩), .pointer (some ⟨u.w, 0, none⟩), .pointer (some ⟨u.tc, 0, none⟩), .pointer (some ⟨u.ic, 0, none⟩)]⟩
def wasV (w : Option (Sc × Txt)) : Value := match w with
  | some x => x.1.v
  | none => .slice none 0 0
structure Und (h : Heap) (col : Nat → Nat) (tb : Nat) (u : UR) : Prop where
  ok : rd h u.ok = [.bool u.was.isSome]
  w : rd h u.w = [wasV u.was]
  tc : rd h u.tc = [.pointer (some ⟨tb, 0, none⟩)]
  ic : rd h u.ic = [.int .i64 u.i]
  at_ : ∀ b, b = u.ok ∨ b = u.w ∨ b = u.tc ∨ b = u.ic → b < h.size ∧ col b = 4
  b : ∀ x, u.was = some x → Blk h col 4 x
theorem Und.keep {h h' : Heap} {col col' : Nat → Nat} {tb : Nat} {u : UR} {F : Nat → Prop} (a : Und h col tb u) (f : Fr F h h') (g : Ag h.size col col') (hF : ∀ b, b < h.size → col b = 4 → ¬ F b) : Und h' col' tb u := by
  have k : ∀ b, b = u.ok ∨ b = u.w ∨ b = u.tc ∨ b = u.ic → rd h' b = rd h b := fun b hb => f.rd (a.at_ b hb).1 (hF b (a.at_ b hb).1 (a.at_ b hb).2)
  exact ⟨(k _ (by simp)).trans a.ok, (k _ (by simp)).trans a.w, (k _ (by simp)).trans a.tc, (k _ (by simp)).trans a.ic, fun b hb => ⟨Nat.lt_of_lt_of_le (a.at_ b hb).1 f.size, (g _ (a.at_ b hb).1).trans (a.at_ b hb).2⟩, fun x e => (a.b x e).keep f g hF⟩
/-- the cells of a transaction -/
structure TR where
  tb : Nat
  mb : Nat
  ua : Option Addr
  uc : Nat
  ps : List (Int × (Sc × Txt))
  us : List UR
structure TxC (h : Heap) (col : Nat → Nat) (d : Option Addr) (r : TR) (T : TM) : Prop where
  nrm : ∀ b, h.size ≤ b → col b = 0
  sc : col r.tb = 1
  own : Own h r.tb
  cell : rd h r.tb = [.pointer d, .map (some r.mb), .slice r.ua r.us.length r.uc, .bool false]
  mc : col r.mb = 2
  map : MapAt DI h r.mb (mm (fun x => x.1.v) r.ps)
  un : Sl h 1 r.ua r.us.length r.uc (r.us.map UR.v) (On col 3)
  pok : ∀ p ∈ r.ps, Blk h col 4 p.2
  uok : ∀ u ∈ r.us, Und h col r.tb u
  put : T.put = r.ps.map fun p => (p.1, p.2.2)
  undo : T.undo = r.us.map fun u => (u.i, u.was.map (·.2))
  live : T.over = false
  dk : DiskF h (fun b => col b = 5) d T.disk
  pk : ∀ p ∈ T.put, 98 ≤ p.1 ∧ p.1 < T.N
  ui : ∀ u ∈ r.us, 98 ≤ u.i ∧ u.i < T.N
/-- a transaction that is over -/
structure TxO (h : Heap) (col : Nat → Nat) (d : Option Addr) (tb : Nat) (T : TM) : Prop where
  nrm : ∀ b, h.size ≤ b → col b = 0
  sc : col tb = 1
  own : Own h tb
  cell : rd h tb = [.pointer d, .map none, .slice none 0 0, .bool true]
  gone : T.put = [] ∧ T.undo = []
  over : T.over = true
  dk : DiskF h (fun b => col b = 5) d T.disk
/-- a transaction at t over the disk at d, standing on the blocks F -/
def Tx (h : Heap) (F : Nat → Prop) (t d : Option Addr) (T : TM) : Prop :=
  (∃ col r, t = some ⟨r.tb, 0, none⟩ ∧ TxC h col d r T ∧ ∀ b, F b ↔ 1 ≤ col b ∧ col b ≤ 5) ∨ (∃ col tb, t = some ⟨tb, 0, none⟩ ∧ TxO h col d tb T ∧ ∀ b, F b ↔ 1 ≤ col b ∧ col b ≤ 5)
theorem TxC.keep {h h' : Heap} {col col' : Nat → Nat} {d : Option Addr} {r : TR} {T : TM} {F : Nat → Prop} (t : TxC h col d r T) (f : Fr F h h') (g : Ag h.size col col') (hz : ∀ b, h'.size ≤ b → col' b = 0) (hn : ∀ b, h.size ≤ b → ¬ (1 ≤ col' b ∧ col' b ≤ 5)) (hF : ∀ b, b < h.size → 1 ≤ col b → col b ≤ 5 → ¬ F b) : TxC h' col' d r T := by
  have hl := t.own.lt
  have s1 := t.sc
  have s2 := t.mc
  have ml := map_lt t.map
  have k4 : ∀ b, b < h.size → col b = 4 → ¬ F b := fun b hb e => hF b hb (by omega) (by omega)
  refine ⟨hz, (g _ hl).trans s1, f.own hl (hF _ hl (by omega) (by omega)) t.own, (f.rd hl (hF _ hl (by omega) (by omega))).trans t.cell, (g _ ml).trans s2, map_fr t.map f (hF _ ml (by omega) (by omega)), ?_,
    fun p hp => (t.pok p hp).keep f g k4, fun u hu => (t.uok u hu).keep f g k4, t.put, t.undo, t.live, ?_, t.pk, t.ui⟩
  · have s' := Hp.Sl.fr f t.un (fun b hb hk => hF b hb (by have hk : col b = 3 := hk; omega) (by have hk : col b = 3 := hk; omega))
    obtain ⟨h1, h2⟩ := s'
    refine ⟨h1, ?_⟩
    have ul := t.un
    revert h2 ul
    cases r.ua with
    | none => intro h2 _; exact h2
    | some p => intro h2 ul; obtain ⟨a1, a2, a3, a4⟩ := h2; exact ⟨a1, (g _ ul.lt).trans a2, a3, a4⟩
  · refine (t.dk.fr f fun b hb => hF b (t.dk.lt hb) (by have hb : col b = 5 := hb; omega) (by have hb : col b = 5 := hb; omega)).iff fun b => ?_
    rcases Nat.lt_or_ge b h.size with h1 | h1
    · show col' b = 5 ↔ col b = 5; rw [g b h1]
    · have := hn b h1
      have := t.nrm b h1
      show col' b = 5 ↔ col b = 5
      omega
theorem TxO.keep {h h' : Heap} {col : Nat → Nat} {d : Option Addr} {tb : Nat} {T : TM} {F : Nat → Prop} (t : TxO h col d tb T) (f : Fr F h h') (hF : ∀ b, b < h.size → 1 ≤ col b → col b ≤ 5 → ¬ F b) : TxO h' col d tb T := by
  have hl := t.own.lt
  have s1 := t.sc
  have hs := f.size
  exact ⟨fun b hb => t.nrm b (by omega), s1, f.own hl (hF _ hl (by omega) (by omega)) t.own, (f.rd hl (hF _ hl (by omega) (by omega))).trans t.cell, t.gone, t.over,
    t.dk.fr f fun b hb => hF b (t.dk.lt hb) (by have hb : col b = 5 := hb; omega) (by have hb : col b = 5 := hb; omega)⟩
theorem Tx.lt {h : Heap} {F : Nat → Prop} {t d : Option Addr} {T : TM} (x : Tx h F t d T) {b : Nat} (hb : F b) : b < h.size := by
  rcases Nat.lt_or_ge b h.size with h1 | h1
  · exact h1
  · exfalso
    rcases x with ⟨col, r, _, c, hF⟩ | ⟨col, tb, _, c, hF⟩
    · have := (hF b).mp hb; rw [c.nrm b h1] at this; omega
    · have := (hF b).mp hb; rw [c.nrm b h1] at this; omega
theorem Tx.fr {h h' : Heap} {F G : Nat → Prop} {t d : Option Addr} {T : TM} (x : Tx h F t d T) (f : Fr G h h') (hG : ∀ b, F b → ¬ G b) : Tx h' F t d T := by
  have hs := f.size
  rcases x with ⟨col, r, e, c, hF⟩ | ⟨col, tb, e, c, hF⟩
  · exact .inl ⟨col, r, e, c.keep f (Ag.refl _ _) (fun b hb => c.nrm b (by omega)) (fun b hb y => by rw [c.nrm b hb] at y; omega) fun b _ h1 h2 => hG b ((hF b).mpr ⟨h1, h2⟩), hF⟩
  · exact .inr ⟨col, tb, e, c.keep f fun b _ h1 h2 => hG b ((hF b).mpr ⟨h1, h2⟩), hF⟩
theorem Tx.no {h h' : Heap} {F : Nat → Prop} {t d : Option Addr} {T : TM} (x : Tx h F t d T) (f : Fr No h h') : Tx h' F t d T := x.fr f fun _ _ y => y
/-- a row, cut short, with its room -/
theorem sl_take {h : Heap} {l c m : Nat} {a : Option Addr} {xs : List Value} {F : Nat → Prop} (s : Sl h 1 a l c xs F) (hm : m ≤ l) : Sl h 1 a m c (xs.take m) F := by
  cases a with
  | none =>
    obtain ⟨h1, h2, h3⟩ := s
    have : m = 0 := by omega
    subst this
    exact ⟨rfl, rfl, h3⟩
  | some p =>
    obtain ⟨h1, a1, a2, a3, a4, a5, a6⟩ := s
    rw [Nat.mul_one] at h1
    refine ⟨by rw [List.length_take]; omega, a1, a2, a3, by omega, ?_, by rw [Nat.mul_one] at a6 ⊢; omega⟩
    rw [List.length_take, h1, Nat.min_eq_left hm]
    conv => rhs; rw [← a5]
    rw [List.take_take, h1, Nat.min_eq_left hm]
/-- its disk -/
theorem Tx.dk {h : Heap} {F : Nat → Prop} {t d : Option Addr} {T : TM} (x : Tx h F t d T) : ∃ D, DiskF h D d T.disk ∧ ∀ b, D b → F b := by
  rcases x with ⟨col, r, e, c, hF⟩ | ⟨col, tb, e, c, hF⟩
  · exact ⟨_, c.dk, fun b hb => (hF b).mpr (by have hb : col b = 5 := hb; omega)⟩
  · exact ⟨_, c.dk, fun b hb => (hF b).mpr (by have hb : col b = 5 := hb; omega)⟩
end Go.Proofs.YtcdpakjhjmchhaaDoor.Tm
namespace Go.Proofs.YtcdpakjhjmchhaaDoor.Tm
open Go Go.Proofs Go.Proofs.YtcdpakjhjmchhaaDoor.Wx Go.Proofs.YtcdpakjhjmchhaaDoor.Hp Go.Proofs.YtcdpakjhjmchhaaDoor.W Go.Proofs.YtcdpakjhjmchhaaDoor.Ad
theorem oe {α : Type} {a : Option α} {p : α} {k : α → Prop} (e : a = some p) (h : k p) : onSome a k := by rw [e]; exact h
theorem pick_col (D : Nat → Prop) (x y : Nat) : ∃ c : Nat → Nat, (∀ b, D b → c b = x) ∧ ∀ b, ¬ D b → c b = y :=
  ⟨fun b => @ite _ (D b) (Classical.propDecidable _) x y, fun b h => if_pos h, fun b h => if_neg h⟩
theorem Begin_spec {h : Heap} {D : Nat → Prop} {d : Option Addr} {S : RD} {K : Value → Heap → Prop} (a : DiskF h D d S)
    (hK : ∀ tb h' F, Fr No h h' → Gw h D h' F → Tx h' F (some ⟨tb, 0, none⟩) d ⟨S, [], [], false⟩ → K (.pointer (some ⟨tb, 0, none⟩)) h') : C.txn_Begin d h K := by
  refine txn_Begin.ok ?_
  show New _ _ (newM h) _
  refine New.intro fun h3 n3 => ?_
  have sm := newM_size h
  have s3 := n3.size
  have F := (newM_fr h).new n3
  have e := n3.rd
  have o := n3.own
  rw [sm] at e o ⊢
  obtain ⟨c, c1, c2⟩ := pick_col D 5 0
  have hlt : ∀ b, D b → b < h.size := fun b hb => a.lt hb
  have cz : ∀ b, h.size ≤ b → c b = 0 := fun b hb => c2 b fun x => by have := hlt b x; omega
  have cr : ∀ b, 1 ≤ c b → D b := fun b x => by
    by_cases hd : D b
    · exact hd
    · rw [c2 b hd] at x; omega
  have cd : ∀ b, c b = 5 ↔ D b := fun b => ⟨fun x => cr b (by omega), c1 b⟩
  obtain ⟨col, k1, k2, k3⟩ : ∃ col : Nat → Nat, (∀ b, b ≠ h.size → b ≠ h.size + 1 → col b = c b) ∧ col h.size = 2 ∧ col (h.size + 1) = 1 :=
    ⟨fun b => if b = h.size then 2 else if b = h.size + 1 then 1 else c b, fun b x y => by show (if _ then _ else if _ then _ else _) = _; rw [if_neg x, if_neg y], if_pos rfl, by show (if _ then _ else if _ then _ else _) = _; rw [if_neg (by omega), if_pos rfl]⟩
  refine hK (h.size + 1) h3 (fun b => 1 ≤ col b ∧ col b ≤ 5) F ⟨fun b hb => ?_, fun b hb => ?_⟩ (.inl ⟨col, ⟨h.size + 1, h.size, none, 0, [], []⟩, rfl, ⟨fun b hb => ?_, k3, o, e, k2, map_fr (newM_at h) n3.fr fun x => x, Sl.nil _ _ _, fun p hp => (by cases hp), fun u hu => (by cases hu), rfl, rfl, rfl, ?_, fun p hp => (by cases hp), fun u hu => (by cases hu)⟩, fun b => Iff.rfl⟩)
  · show 1 ≤ col b ∧ col b ≤ 5 ↔ D b
    rw [k1 b (by omega) (by omega)]
    exact ⟨fun x => cr b x.1, fun x => by rw [c1 b x]; omega⟩
  · have hb : 1 ≤ col b ∧ col b ≤ 5 := hb
    by_cases x : b = h.size
    · omega
    · by_cases y : b = h.size + 1
      · omega
      · rw [k1 b x y] at hb
        have := hlt b (cr b hb.1); omega
  · rw [k1 b (by omega) (by omega)]; exact cz b (by omega)
  · refine (a.no F).iff fun b => ?_
    show col b = 5 ↔ D b
    by_cases x : b = h.size
    · subst x
      rw [k2]; exact ⟨fun x => (by omega), fun x => by have := hlt _ x; omega⟩
    · by_cases y : b = h.size + 1
      · subst y
        rw [k3]; exact ⟨fun x => (by omega), fun x => by have := hlt _ x; omega⟩
      · rw [k1 b x y]; exact cd b
theorem Clone_any {a : Option Addr} {l c : Nat} {bs : List UInt8} {h : Heap} {K : Value → Heap → Prop} (B : StrAt h a l bs) (hl : l ≤ 140737488355328)
    (hK : ∀ a' c' h', Fr No h h' → Sl h' 1 a' l c' (bs.map bv) (From h.size) → K (.slice a' l c') h') : C.slices_Clone_byte_byte a l c h K := Clone_spec B hl hK
theorem Read_spec {h : Heap} {F : Nat → Prop} {t d : Option Addr} {T : TM} {i : Int} {K : Value → Heap → Prop} (x : Tx h F t d T)
    (hK : ∀ a l c h', Fr No h h' → l = (T.read i).1.length → Sl h' 1 a l c ((T.read i).1.map bv) (From h.size) → K (.tuple #[.slice a l c, .int .i64 (T.read i).2]) h') : C.txn_Txn_Read t i h K := by
  rcases x with ⟨col, r, rfl, c, hF⟩ | ⟨col, tb, rfl, c, hF⟩
  · refine txn_Txn_Read.ok (os ⟨_, rda c.cell rfl, cf rfl ?_⟩)
    have e0 : T.read i = if i < 0 ∨ i ≥ T.N then ([], 31) else T.get i := by
      unfold TM.read; rw [c.live, if_neg (by simp)]
    have bad : (i < 0 ∨ i ≥ T.N) → K (.tuple #[.slice none 0 0, .int .i64 31]) h := fun hb => by
      rw [e0, if_pos hb] at hK
      exact hK none 0 0 h (Fr.refl _ _) rfl (Sl.nil _ _ _)
    refine cd (fun hn => bad (.inl hn)) fun h0 => os ⟨_, rda c.cell rfl, c.dk.blocks ⟨_, rfl, cd (fun hn => bad (.inr hn)) fun h1 => ?_⟩⟩
    have e1 : ¬ (i < 0 ∨ i ≥ T.N) := by
      rintro (x | x)
      · exact h0 x
      · exact h1 x
    rw [e0, if_neg e1] at hK
    unfold txn_Txn_Read.k1
    refine os ⟨_, rda c.cell rfl, _, c.map, ?_⟩
    dsimp only
    rw [mget_mm]
    have eput : aget T.put i = (aget r.ps i).map (·.2) := by rw [c.put]; exact aget_map (fun x : Sc × Txt => x.2) i r.ps
    cases e : aget r.ps i with
    | none =>
      rw [TM.get_none (by rw [eput, e]; rfl)] at hK
      refine ⟨none, 0, 0, rfl, cf rfl (os ⟨_, rda c.cell rfl, c.dk.read (fun hd => ?_) (fun _ hno => absurd ⟨by omega, by have : ¬ i ≥ (T.N : Int) := h1; have e : T.N = T.disk.lasts.length := rfl; omega⟩ hno) fun hd _ _ b h' f s hl => ?_⟩)⟩
      · rw [if_pos hd] at hK
        exact ⟨_, _, _, _, rfl, hK none 0 0 h (Fr.refl _ _) rfl (Sl.nil _ _ _)⟩
      · rw [if_neg (by rw [hd]; simp)] at hK
        exact ⟨_, _, _, _, rfl, hK _ 512 512 h' f hl.symm s⟩
    | some x =>
      rw [TM.get_some (b := x.2) (by rw [eput, e]; rfl)] at hK
      have B := c.pok _ (aget_mem e)
      have B : Blk h col 4 x := B
      have hl : x.1.l = 512 := by rw [← B.s.1]; exact B.l
      refine ⟨x.1.a, x.1.l, x.1.c, rfl, ct rfl (Clone_any B.s (by omega) fun a' c' h' f s => ⟨_, _, _, rfl, ?_⟩)⟩
      exact hK a' x.1.l c' h' f B.s.1.symm s
  · refine txn_Txn_Read.ok (os ⟨_, rda c.cell rfl, ct rfl ?_⟩)
    have e0 : T.read i = ([], 61) := by unfold TM.read; rw [c.over, if_pos rfl]
    rw [e0] at hK
    exact hK none 0 0 h (Fr.refl _ _) rfl (Sl.nil _ _ _)
theorem Mark_spec {h : Heap} {F : Nat → Prop} {t d : Option Addr} {T : TM} {K : Value → Heap → Prop} (x : Tx h F t d T) (hK : K (.tuple #[.int .i64 T.mark.1, .int .i64 T.mark.2]) h) : C.txn_Txn_Mark t h K := by
  rcases x with ⟨col, r, rfl, c, hF⟩ | ⟨col, tb, rfl, c, hF⟩
  · refine txn_Txn_Mark.ok (os ⟨_, rda c.cell rfl, cf rfl (os ⟨_, _, _, rda c.cell rfl, ?_⟩)⟩)
    have : T.mark = ((r.us.length : Int), 0) := by unfold TM.mark; rw [c.live, if_neg (by simp), c.undo, List.length_map]
    rw [this] at hK; exact hK
  · refine txn_Txn_Mark.ok (os ⟨_, rda c.cell rfl, ct rfl ?_⟩)
    have : T.mark = (0, 61) := by unfold TM.mark; rw [c.over, if_pos rfl]
    rw [this] at hK; exact hK
/-- Write, up to its questions: the cells that its closure will look at -/
theorem Write_pre {h : Heap} {tb : Nat} {i : Int} {a : Option Addr} {l c : Nat} {m1 : Option Nat} {W : MapC} {sA : Option Addr} {sL sC : Nat} {K : Value → Heap → Prop}
    (hc : ∀ hq, Fr No h hq → cellOf hq (Addr.add ⟨tb, 0, none⟩ 1) = some (.map m1)) (hM : ∀ hq (K' : MapC → Prop), Fr No h hq → K' W → MapIn DI m1 hq K') (hs : Option.getD (mget W (.i i)) (zeroV ti72) = .slice sA sL sC)
    (fin : ∀ (h2 : Heap) h7 wb ob, h2.size = h.size + 1 → Fr No h h7 → h.size + 2 ≤ wb → h.size + 2 ≤ ob → wb < h7.size → ob < h7.size → wb ≠ ob → rd h7 h.size = [.pointer (some ⟨tb, 0, none⟩)] → rd h7 (h.size + 1) = [.int .i64 i] →
      rd h7 wb = [.slice sA sL sC] → rd h7 ob = [.bool (mget W (.i i)).isSome] → txn_Txn_Write.k1 a l c h h2 (some ⟨wb, 0, none⟩) (some ⟨ob, 0, none⟩) h7 K) : C.txn_Txn_Write (some ⟨tb, 0, none⟩) i a l c h K := by
  refine txn_Txn_Write.ok (New.intro fun h2 n2 => New.intro fun h3 n3 => ?_)
  have s2 := n2.size
  have s3 := n3.size
  have F3 := n2.fr.new n3
  have r1 : rd h3 h.size = [.pointer (some ⟨tb, 0, none⟩)] := (n3.at_ (by omega)).trans n2.rd
  have r2 : rd h3 h2.size = [.int .i64 i] := n3.rd
  refine ⟨_, rdc r1 rfl, os ⟨_, hc h3 F3, _, rdc r2 rfl, ?_⟩⟩
  have C1 : ∀ {hq : Heap}, Fr No h3 hq → cellOf hq ⟨h.size, 0, none⟩ = some (.pointer (some ⟨tb, 0, none⟩)) := fun fq => rdc ((fq.rd (by omega) fun x => x).trans r1) rfl
  have C2 : ∀ {hq : Heap}, Fr No h3 hq → cellOf hq (Addr.add ⟨tb, 0, none⟩ 1) = some (.map m1) := fun fq => hc _ (F3.no fq)
  have C3 : ∀ {hq : Heap}, Fr No h3 hq → cellOf hq ⟨h2.size, 0, none⟩ = some (.int .i64 i) := fun fq => rdc ((fq.rd (by omega) fun x => x).trans r2) rfl
  have M : ∀ {hq : Heap} {K' : MapC → Prop}, Fr No h3 hq → K' W → MapIn DI m1 hq K' := fun fq k => hM _ _ (F3.no fq) k
  -- two new blocks, written: then the rest
  have fin1 : ∀ {hq : Heap} {wb ob : Nat} {zw zo : Value}, Fr No h3 hq → wb ≠ ob → h3.size ≤ wb → h3.size ≤ ob → Own hq wb → Own hq ob → rd hq wb = [zw] → rd hq ob = [zo] →
      Put ⟨wb, 0, none⟩ (.slice sA sL sC) hq fun h6 => Put ⟨ob, 0, none⟩ (.bool (Option.isSome (mget W (.i i)))) h6 fun h7 => txn_Txn_Write.k1 a l c h h2 (some ⟨wb, 0, none⟩) (some ⟨ob, 0, none⟩) h7 K := by
    intro hq wb ob zw zo fq hne hw ho ow oo rw' ro'
    refine Put.intro ow (by rw [rw']; exact Nat.one_pos) fun h6 d6 => ?_
    have ro6 : rd h6 ob = [zo] := (d6.at_ oo.lt (fun e => hne e.symm)).trans ro'
    refine Put.intro (d6.ow oo) (by rw [ro6]; exact Nat.one_pos) fun h7 d7 => ?_
    have F7 : Fr No h h7 := ((F3.no fq).did d6 fun hlt => by omega).did d7 fun hlt => by omega
    have F7' : Fr No h3 h7 := (fq.did d6 fun hlt => by omega).did d7 fun hlt => by omega
    have z7 := F7'.size
    have z6 := d6.size
    have z7' := d7.size
    have lo := oo.lt
    have lw := ow.lt
    exact fin h2 h7 wb ob s2 F7 (by omega) (by omega) (by omega) (by omega) hne ((F7'.rd (by omega) fun x => x).trans r1) (by rw [← s2]; exact (F7'.rd (by omega) fun x => x).trans r2)
      ((d7.at_ (by omega) hne).trans (by rw [d6.rd, rw']; rfl)) (by rw [d7.rd, ro6]; rfl)
  have fin2 : ∀ {hq hr hs : Heap} {v1 v2 : Value}, Fr No h3 hq → Newly hq hr [v1] → Newly hr hs [v2] → 
      (Put ⟨hq.size, 0, none⟩ (.slice sA sL sC) hs fun h6 => Put ⟨hr.size, 0, none⟩ (.bool (Option.isSome (mget W (.i i)))) h6 fun h7 => txn_Txn_Write.k1 a l c h h2 (some ⟨hq.size, 0, none⟩) (some ⟨hr.size, 0, none⟩) h7 K) ∧
      (Put ⟨hr.size, 0, none⟩ (.slice sA sL sC) hs fun h6 => Put ⟨hq.size, 0, none⟩ (.bool (Option.isSome (mget W (.i i)))) h6 fun h7 => txn_Txn_Write.k1 a l c h h2 (some ⟨hr.size, 0, none⟩) (some ⟨hq.size, 0, none⟩) h7 K) := by
    intro hq hr hs v1 v2 fq n1 n2'
    have z1 := n1.size
    have z2 := n2'.size
    have zq := fq.size
    have g : rd hs hq.size = [v1] := (n2'.at_ (by omega)).trans n1.rd
    exact ⟨fin1 ((fq.new n1).new n2') (by omega) (by omega) (by omega) (n2'.ow n1.own) n2'.own g n2'.rd, fin1 ((fq.new n1).new n2') (by omega) (by omega) (by omega) n2'.own (n2'.ow n1.own) n2'.rd g⟩
  refine ⟨M (Fr.refl _ _) ⟨_, _, _, hs, New.intro fun h4 n4 => ⟨C1 n4.fr, C2 n4.fr, C3 n4.fr, New.intro fun h5 n5 => ⟨C1 (n4.fr.new n5), C2 (n4.fr.new n5), C3 (n4.fr.new n5), (fin2 (Fr.refl _ _) n4 n5).1⟩⟩,
    New.intro fun h4 n4 => ⟨C1 n4.fr, C2 n4.fr, C3 n4.fr, New.intro fun h5 n5 => ⟨C1 (n4.fr.new n5), C2 (n4.fr.new n5), C3 (n4.fr.new n5), (fin2 (Fr.refl _ _) n4 n5).2⟩⟩⟩,
    New.intro fun h4 n4 => ⟨C1 n4.fr, C2 n4.fr, C3 n4.fr, M n4.fr ⟨_, _, _, hs, New.intro fun h5 n5 => ⟨C1 (n4.fr.new n5), C2 (n4.fr.new n5), C3 (n4.fr.new n5), (fin2 (Fr.refl _ _) n4 n5).1⟩⟩,
      New.intro fun h5 n5 => ⟨C1 (n4.fr.new n5), C2 (n4.fr.new n5), C3 (n4.fr.new n5), M (n4.fr.new n5) ⟨_, _, _, hs, (fin2 (Fr.refl _ _) n4 n5).1⟩⟩⟩,
    New.intro fun h4 n4 => ⟨C1 n4.fr, C2 n4.fr, C3 n4.fr, M n4.fr ⟨_, _, _, hs, New.intro fun h5 n5 => ⟨C1 (n4.fr.new n5), C2 (n4.fr.new n5), C3 (n4.fr.new n5), (fin2 (Fr.refl _ _) n4 n5).2⟩⟩,
      New.intro fun h5 n5 => ⟨C1 (n4.fr.new n5), C2 (n4.fr.new n5), C3 (n4.fr.new n5), M (n4.fr.new n5) ⟨_, _, _, hs, (fin2 (Fr.refl _ _) n4 n5).2⟩⟩⟩⟩
theorem tl {c : Bool} {A B : Prop} (b : B) (a : c = true → B → A) : bif c then A else B := by
  cases c with
  | false => exact b
  | true => exact a rfl b
theorem Write_spec {h : Heap} {F : Nat → Prop} {t d : Option Addr} {T : TM} {i : Int} {a : Option Addr} {l c : Nat} {bs : Txt} {K : Value → Heap → Prop} (x : Tx h F t d T) (B : StrAt h a l bs) (hl : l ≤ 140737488355328) (ha : ∀ p, a = some p → ¬ F p.block) (hu : T.undo.length < 1000000000)
    (hK : ∀ h' F', Fr F h h' → Gw h F h' F' → Tx h' F' t d (T.write i bs).1 → K (.int .i64 (T.write i bs).2) h') : C.txn_Txn_Write t i a l c h K := by
  have hbl := B.1
  have hlt := fun b hb => x.lt (b := b) hb
  rcases x with ⟨col, r, rfl, X, hF⟩ | ⟨col, tb, rfl, X, hF⟩
  rotate_left
  · refine Write_pre (m1 := none) (W := []) (sA := none) (sL := 0) (sC := 0) (fun hq f => rda ((f.rd X.own.lt fun x => x).trans X.cell) rfl) (fun hq K' _ k => k) rfl fun h2 h7 wb ob _ f7 w1 o1 w2 o2 _ r1 _ _ _ => ?_
    have e0 : T.write i bs = (T, 61) := by unfold TM.write; rw [X.over, if_pos rfl]
    rw [e0] at hK
    have X7 := X.keep f7 fun _ _ _ _ x => x
    refine ⟨_, rdc r1 rfl, os ⟨_, rda X7.cell rfl, ct rfl ?_⟩⟩
    exact hK h7 F (f7.mono fun _ _ x => x.elim) (Gw.refl f7.size hlt) (.inr ⟨col, tb, rfl, X7, hF⟩)
  · have eput : aget T.put i = (aget r.ps i).map (·.2) := by rw [X.put]; exact aget_map (fun x : Sc × Txt => x.2) i r.ps
    have elen : T.put.length = r.ps.length := by rw [X.put, List.length_map]
    have eul : T.undo.length = r.us.length := by rw [X.undo, List.length_map]
    obtain ⟨sA, sL, sC, esl⟩ : ∃ (sA : Option Addr) (sL : Nat) (sC : Nat), wasV (aget r.ps i) = .slice sA sL sC := by
      cases aget r.ps i with
      | none => exact ⟨_, _, _, rfl⟩
      | some x => exact ⟨_, _, _, rfl⟩
    have esl2 : Option.getD (mget (mm (fun x : Sc × Txt => x.1.v) r.ps) (.i i)) (zeroV ti72) = .slice sA sL sC := by
      rw [mget_mm, ← esl]
      cases aget r.ps i <;> rfl
    refine Write_pre (m1 := some r.mb) (W := mm (fun x => x.1.v) r.ps) (fun hq f => rda ((f.rd X.own.lt fun x => x).trans X.cell) rfl) (fun hq K' f k => ⟨_, map_fr X.map f fun x => x, k⟩) esl2 fun h2 h8 wb ob s2 f w1 o1 w2 o2 hne r1 r2 rw' ro => ?_
    have eis : (mget (mm (fun x : Sc × Txt => x.1.v) r.ps) (.i i)).isSome = (aget r.ps i).isSome := by rw [mget_mm]; cases aget r.ps i <;> rfl
    rw [eis] at ro
    have X8 : TxC h8 col d r T := X.keep f (Ag.refl _ _) (fun b hb => X.nrm b (by have := f.size; omega)) (fun b hb y => by rw [X.nrm b hb] at y; omega) fun _ _ _ _ x => x
    have refuse : ∀ e h9, h9 = h8 → T.write i bs = (T, e) → K (.int .i64 e) h9 := fun e h9 e9 e0 => by
      subst e9
      rw [e0] at hK
      exact hK h9 F (f.mono fun _ _ x => x.elim) (Gw.refl f.size hlt) (.inl ⟨col, r, rfl, X8, hF⟩)
    have live := X.live
    have fs := f.size
    have tbl := X.own.lt
    have mbl := map_lt X.map
    have ctb := X.sc
    have cmb := X.mc
    rw [← s2] at r2
    refine ⟨_, rdc r1 rfl, os ⟨_, rda X8.cell rfl, cf rfl ⟨_, rdc r2 rfl, cd (fun hn => refuse 31 h8 rfl ?_) fun h98 => ⟨_, rdc r2 rfl, _, rdc r1 rfl, os ⟨_, rda X8.cell rfl, X8.dk.blocks ⟨_, rfl, rdc r2 rfl, cd (fun hn => refuse 31 h8 rfl ?_) fun hN => cn (fun h5 => refuse 32 h8 rfl ?_) fun h5 => ?_⟩⟩⟩⟩⟩⟩
    · unfold TM.write; rw [live, if_neg (by simp), if_pos (.inl hn)]
    · unfold TM.write; rw [live, if_neg (by simp), if_pos (.inr hn)]
    · unfold TM.write; rw [live, if_neg (by simp), if_neg (by rintro (x | x); exact h98 x; exact hN x), if_pos (by omega)]
    have hnot : ¬ (i < 98 ∨ i ≥ T.N) := by rintro (x | x); exact h98 x; exact hN x
    have h5' : bs.length = 512 := by omega
    refine os ⟨_, rdc ro rfl, ?_⟩
    by_cases hbig : aget r.ps i = none ∧ r.ps.length ≥ 96
    · refine ct (by rw [hbig.1]; rfl) ⟨_, rdc r1 rfl, os ⟨_, rda X8.cell rfl, _, X8.map, ?_⟩⟩
      dsimp only
      rw [mm_length]
      refine ct (decide_eq_true (by omega)) (refuse 60 h8 rfl ?_)
      unfold TM.write; rw [live, if_neg (by simp), if_neg hnot, if_neg (by omega), if_pos ⟨by rw [eput, hbig.1]; rfl, by omega⟩]
    have e0 : T.write i bs = ({ T with put := aput T.put i bs, undo := T.undo ++ [(i, aget T.put i)] }, 0) := by
      unfold TM.write; rw [live, if_neg (by simp), if_neg hnot, if_neg (by omega), if_neg]
      rw [eput, elen]
      rintro ⟨x1, x2⟩
      refine hbig ⟨?_, x2⟩
      cases e : aget r.ps i with
      | none => rfl
      | some y => rw [e] at x1; cases x1
    rw [e0] at hK
    refine tl ?_ fun ho go => ?_
    rotate_left
    · have hnone : aget r.ps i = none := by
        cases e : aget r.ps i with
        | none => rfl
        | some x => rw [e] at ho; cases ho
      refine ⟨_, rdc r1 rfl, os ⟨_, rda X8.cell rfl, _, X8.map, ?_⟩⟩
      dsimp only
      rw [mm_length]
      exact cf (decide_eq_false fun hx => hbig ⟨hnone, by omega⟩) go
    -- the put
    have k1 : ∀ {b : Nat}, b < h.size → col b ≠ 3 → ¬ On col 3 b := fun _ hb x => hb x
    refine ⟨_, rdc r1 rfl, _, rdc r1 rfl, os ⟨_, _, _, rda X8.cell rfl, New.intro fun h10 n10 => ?_⟩⟩
    have s10 := n10.size
    have X10 : TxC h10 col d r T := X8.keep n10.fr (Ag.refl _ _) (fun b hb => X.nrm b (by omega)) (fun b hb y => by rw [X.nrm b (by omega)] at y; omega) fun _ _ _ _ x => x
    have r1' := (n10.at_ (show h.size < h8.size by omega)).trans r1
    have r2' := (n10.at_ (show h2.size < h8.size by omega)).trans r2
    refine ⟨rdc r1' rfl, rdc r1' rfl, rda X10.cell rfl, _, rfl, cellsAll n10.rd, by intro v hv; rw [List.mem_singleton.mp hv]; rfl, ?_⟩
    refine append_own X10.un rfl rfl (by show (r.us.length + 1) * _ ≤ _; have b16 : ti1.bytes ≤ 16 := (by decide); have := Nat.mul_le_mul (show r.us.length + 1 ≤ 1000000001 from (by omega)) b16; exact Nat.le_trans this (by decide)) (by omega) fun a' c' h11 f11 s11 => ?_
    have z11 := f11.size
    have nz : ∀ b, h.size ≤ b → ¬ On col 3 b := fun b hb x => by have x : col b = 3 := x; rw [X.nrm b hb] at x; omega
    have nt : ¬ On col 3 r.tb := fun x => by have x : col r.tb = 3 := x; omega
    have nm : ¬ On col 3 r.mb := fun x => by have x : col r.mb = 3 := x; omega
    have g1 : rd h11 h.size = [.pointer (some ⟨r.tb, 0, none⟩)] := (f11.rd (by omega) (nz _ (Nat.le_refl _))).trans r1'
    have g2 : rd h11 h2.size = [.int .i64 i] := (f11.rd (by omega) (nz _ (by omega))).trans r2'
    have gt := (f11.rd X10.own.lt nt).trans X10.cell
    have gw : rd h11 wb = [wasV (aget r.ps i)] := by rw [esl]; exact (f11.rd (by omega) (nz _ (by omega))).trans ((n10.at_ w2).trans rw')
    have go' : rd h11 ob = [.bool (aget r.ps i).isSome] := (f11.rd (by omega) (nz _ (by omega))).trans ((n10.at_ o2).trans ro)
    refine ⟨rdc g1 rfl, os (Put.add (f11.own X10.own.lt nt X10.own) (by rw [gt]; show 0 + 2 < 4; omega) fun h12 d12 => ?_)⟩
    have s12 := d12.size
    have g1 : rd h12 h.size = [.pointer (some ⟨r.tb, 0, none⟩)] := (d12.at_ (by omega) (by omega)).trans g1
    have g2 : rd h12 h2.size = [.int .i64 i] := (d12.at_ (by omega) (by omega)).trans g2
    have gw := (d12.at_ (show wb < h11.size by omega) (by omega)).trans gw
    have go' := (d12.at_ (show ob < h11.size by omega) (by omega)).trans go'
    have gt : rd h12 r.tb = [.pointer d, .map (some r.mb), .slice a' (r.us.length + 1) c', .bool false] := d12.rd.trans (by rw [gt]; rfl)
    have nF : ∀ p, a = some p → ¬ F p.block := ha
    have B12 : StrAt h12 a l bs := StrAt.fr d12.fr (StrAt.fr f11 (StrAt.fr n10.fr (StrAt.fr f B fun _ _ x => x) fun _ _ x => x) fun q e y => ha q e ((hF _).mpr (by have y : col q.block = 3 := y; omega))) fun q e y => ha q e ((hF _).mpr (by rw [y]; omega))
    refine ⟨_, rdc g1 rfl, os ⟨_, rda gt rfl, _, rdc g2 rfl, Clone_any B12 hl fun aq cq h13 f13 s13 => ?_⟩⟩
    have z13 := f13.size
    have g1 : rd h13 h.size = [.pointer (some ⟨r.tb, 0, none⟩)] := (f13.rd (by omega) fun x => x).trans g1
    have g2 : rd h13 h2.size = [.int .i64 i] := (f13.rd (by omega) fun x => x).trans g2
    have gw := (f13.rd (show wb < h12.size by omega) fun x => x).trans gw
    have go' := (f13.rd (show ob < h12.size by omega) fun x => x).trans go'
    have gt := (f13.rd (by omega) fun x => x).trans gt
    have ot := f13.own d12.own.lt (fun x => x) d12.own
    have hmt : r.mb ≠ r.tb := fun e => by rw [e] at cmb; omega
    have m13 : MapAt DI h13 r.mb (mm (fun x => x.1.v) r.ps) := map_fr (map_fr (map_fr X10.map f11 nm) d12.fr hmt) f13 fun x => x
    refine ⟨_, _, _, rfl, rdc g1 rfl, rda gt rfl, rdc g2 rfl, os ⟨_, m13, fun h14 t14 => ?_⟩⟩
    have f14 := mapTo_fr t14
    have z14 := t14.size
    have m14 := t14.at_
    rw [show Value.slice aq l cq = (fun x : Sc × Txt => x.1.v) (⟨aq, l, cq⟩, bs) from rfl, mput_mm] at m14
    have G : Fr (fun b => col b = 3 ∨ b = r.tb ∨ b = r.mb) h h14 :=
      ((((((f.new n10).mono (G := fun b => col b = 3 ∨ b = r.tb ∨ b = r.mb) fun _ _ x => x.elim).trans f11 fun b _ x => Or.inl x).did d12 fun _ => Or.inr (Or.inl rfl)).no f13).trans f14 fun b _ x => Or.inr (Or.inr x))
    -- the colours
    have ub : ∀ p, a' = some p → (col p.block = 3 ∨ h10.size ≤ p.block) ∧ p.block < h11.size := by
      rintro p rfl; exact ⟨s11.2.2.1, s11.lt⟩
    have qb : ∀ p, aq = some p → h12.size ≤ p.block ∧ p.block < h13.size := by
      rintro p rfl; exact ⟨s13.2.2.1, s13.lt⟩
    obtain ⟨col', ag, cz, c4, c3, cq4, c5⟩ : ∃ col' : Nat → Nat, Ag h.size col col' ∧ (∀ b, h14.size ≤ b → col' b = 0) ∧ (∀ b, b = h.size ∨ b = h2.size ∨ b = wb ∨ b = ob → col' b = 4) ∧ (∀ p, a' = some p → col' p.block = 3) ∧ (∀ p, aq = some p → col' p.block = 4) ∧ (∀ b, h.size ≤ b → col' b = 0 ∨ col' b = 3 ∨ col' b = 4) := by
      refine ⟨fun b => if b < h.size then col b else if b = h.size ∨ b = h2.size ∨ b = wb ∨ b = ob then 4 else if a'.map (·.block) = some b then 3 else if aq.map (·.block) = some b then 4 else 0, fun b hb => if_pos hb, fun b hb => ?_, fun b hb => ?_, fun p e => ?_, fun p e => ?_, fun b hb => ?_⟩
      · show (if _ then _ else if _ then _ else if _ then _ else if _ then _ else _) = _
        rw [if_neg (by omega), if_neg (by omega), if_neg, if_neg]
        · intro e
          cases haq : aq with
          | none => rw [haq] at e; cases e
          | some p => rw [haq] at e; have := (qb p haq).2; have e : p.block = b := Option.some.inj e; omega
        · intro e
          cases haq : a' with
          | none => rw [haq] at e; cases e
          | some p => rw [haq] at e; have := (ub p haq).2; have e : p.block = b := Option.some.inj e; omega
      · show (if _ then _ else if _ then _ else if _ then _ else if _ then _ else _) = _
        rw [if_neg (by omega), if_pos hb]
      · show (if _ then _ else if _ then _ else if _ then _ else if _ then _ else _) = _
        have := ub p e
        rcases Nat.lt_or_ge p.block h.size with h1 | h1
        · rw [if_pos h1]
          rcases this.1 with h3 | h3
          · exact h3
          · omega
        · have h3 : h10.size ≤ p.block := by
            rcases this.1 with h3 | h3
            · rw [X.nrm _ h1] at h3; omega
            · exact h3
          rw [if_neg (by omega), if_neg (by omega), if_pos (by rw [e]; rfl)]
      · show (if _ then _ else if _ then _ else if _ then _ else if _ then _ else _) = _
        have := qb p e
        rw [if_neg (by omega), if_neg (by omega), if_neg, if_pos (by rw [e]; rfl)]
        intro e2
        cases ha' : a' with
        | none => rw [ha'] at e2; cases e2
        | some q => rw [ha'] at e2; have := (ub q ha').2; have e2 : q.block = p.block := Option.some.inj e2; omega
      · show (if _ then _ else if _ then _ else if _ then _ else if _ then _ else _) = 0 ∨ (if _ then _ else if _ then _ else if _ then _ else if _ then _ else _) = 3 ∨ (if _ then _ else if _ then _ else if _ then _ else if _ then _ else _) = 4
        rw [if_neg (by omega)]
        split
        · exact .inr (.inr rfl)
        · split
          · exact .inr (.inl rfl)
          · split
            · exact .inr (.inr rfl)
            · exact .inl rfl
    have k4 : ∀ b, b < h.size → col b = 4 → ¬ (col b = 3 ∨ b = r.tb ∨ b = r.mb) := by
      rintro b _ e (x | x | x)
      · omega
      · rw [x] at e; omega
      · rw [x] at e; omega
    have hF' : Gw h F h14 (fun b => 1 ≤ col' b ∧ col' b ≤ 5) := ⟨fun b hb => by rw [hF b, ag b hb], fun b hb => by
      rcases Nat.lt_or_ge b h14.size with h1 | h1
      · exact h1
      · have hb : 1 ≤ col' b ∧ col' b ≤ 5 := hb
        rw [cz b h1] at hb; omega⟩
    refine hK h14 (fun b => 1 ≤ col' b ∧ col' b ≤ 5) (G.mono fun b _ x => (hF b).mpr ?_) hF' (.inl ⟨col', ⟨r.tb, r.mb, a', c', aput r.ps i (⟨aq, l, cq⟩, bs), r.us ++ [⟨i, aget r.ps i, ob, wb, h.size, h2.size⟩]⟩, rfl, ⟨cz, (ag _ tbl).trans ctb, ?_, ?_, (ag _ mbl).trans cmb, m14, ?_, fun p hp => ?_, fun u hu => ?_, ?_, ?_, live, ?_, fun p hp => ?_, fun u hu => ?_⟩, fun b => Iff.rfl⟩)
    · rcases x with x | rfl | rfl <;> omega
    · exact f14.own ot.lt (fun x => hmt x.symm) ot
    · rw [List.length_append, List.length_singleton]
      exact (f14.rd ot.lt fun x => hmt x.symm).trans gt
    · rw [List.length_append, List.length_singleton, List.map_append]
      have u14 := ((s11.fr d12.fr fun b hb x e => ?_).fr f13 fun _ _ _ x => x).fr f14 fun b hb x e => ?_
      · obtain ⟨y1, y2⟩ := u14
        refine ⟨y1, ?_⟩
        revert y2 c3
        cases a' with
        | none => intro _ y2; exact y2
        | some p => intro c3 y2; obtain ⟨v1, v2, v3⟩ := y2; exact ⟨v1, c3 p rfl, v3⟩
      · rw [e] at x
        rcases x with x | x
        · have x : col r.tb = 3 := x; omega
        · omega
      · have e : b = r.mb := e
        rw [e] at x
        rcases x with x | x
        · have x : col r.mb = 3 := x; omega
        · omega
    · rcases aput_mem hp with rfl | hp
      · refine ⟨StrAt.fr f14 ?_ ?_, h5', fun p e => ⟨by have := (qb p e).2; omega, cq4 p e⟩⟩
        · refine ⟨hbl, ?_⟩
          exact s13.cells
        · intro p e x
          have := (qb p e).1
          have x : p.block = r.mb := x
          omega
      · exact (X.pok p hp).keep G ag k4
    · rcases List.mem_append.mp hu with hu | hu
      · exact (X.uok u hu).keep G ag k4
      · rw [List.mem_singleton.mp hu]
        have fr : ∀ b, h.size ≤ b → b < h13.size → rd h14 b = rd h13 b := fun b hb hb2 => f14.rd hb2 fun e => by have e : b = r.mb := e; omega
        refine ⟨(fr ob (by omega) (by omega)).trans go', (fr wb (by omega) (by omega)).trans gw, (fr h.size (by omega) (by omega)).trans g1, (fr h2.size (by omega) (by omega)).trans g2, fun b hb => ⟨?_, c4 b ?_⟩, fun y ey => ?_⟩
        · have hb : b = ob ∨ b = wb ∨ b = h.size ∨ b = h2.size := hb
          omega
        · rcases hb with rfl | rfl | rfl | rfl
          · exact .inr (.inr (.inr rfl))
          · exact .inr (.inr (.inl rfl))
          · exact .inl rfl
          · exact .inr (.inl rfl)
        · exact (X.pok _ (aget_mem ey)).keep G ag k4
    · show aput T.put i bs = _
      rw [X.put]
      exact aput_map (fun x : Sc × Txt => x.2) i (⟨aq, l, cq⟩, bs) r.ps
    · show T.undo ++ [(i, aget T.put i)] = _
      rw [X.undo, eput, List.map_append]; rfl
    · refine (X.dk.fr G fun b hb => ?_).iff fun b => ?_
      · have hb : col b = 5 := hb
        rintro (x | x | x)
        · omega
        · rw [x] at hb; omega
        · rw [x] at hb; omega
      · show col' b = 5 ↔ col b = 5
        rcases Nat.lt_or_ge b h.size with h1 | h1
        · rw [ag b h1]
        · have := c5 b h1
          have := X.nrm b h1
          omega
    · rcases aput_mem hp with rfl | hp
      · exact ⟨by omega, by have : ¬ i ≥ (T.N : Int) := fun y => hnot (.inr y); show i < (T.N : Int); omega⟩
      · exact X.pk p hp
    · rcases List.mem_append.mp hu with hu | hu
      · exact X.ui u hu
      · rw [List.mem_singleton.mp hu]
        exact ⟨by show 98 ≤ i; omega, by have : ¬ i ≥ (T.N : Int) := fun y => hnot (.inr y); show i < (T.N : Int); omega⟩
end Go.Proofs.YtcdpakjhjmchhaaDoor.Tm
namespace Go.Proofs.YtcdpakjhjmchhaaDoor.Tm
open Go Go.Proofs Go.Proofs.YtcdpakjhjmchhaaDoor.Wx Go.Proofs.YtcdpakjhjmchhaaDoor.Hp Go.Proofs.YtcdpakjhjmchhaaDoor.W Go.Proofs.YtcdpakjhjmchhaaDoor.Ad
def undoR (m : List (Int × (Sc × Txt))) (u : UR) : List (Int × (Sc × Txt)) := match u.was with
  | some x => aput m u.i x
  | none => adel m u.i
theorem undoR_map (m : List (Int × (Sc × Txt))) (u : UR) : ((undoR m u).map fun p => (p.1, p.2.2)) = undo1 (m.map fun p => (p.1, p.2.2)) (u.i, u.was.map (·.2)) := by
  unfold undoR undo1
  cases u.was with
  | none => exact (adel_map (fun x : Sc × Txt => x.2) u.i m).symm
  | some x => exact (aput_map (fun x : Sc × Txt => x.2) u.i x m).symm
theorem undoAll_drop (m : List (Int × Txt)) (us : List (Int × Option Txt)) {k : Nat} (hk : k < us.length) : undoAll m (us.drop k) = undo1 (undoAll m (us.drop (k + 1))) us[k] := by
  rw [List.drop_eq_getElem_cons hk]; rfl
/-- the map is written -/
theorem TxC.remap {h h' : Heap} {col : Nat → Nat} {d : Option Addr} {r : TR} {T : TM} (x : TxC h col d r T) {ps' : List (Int × (Sc × Txt))} {put' : List (Int × Txt)} (m : MapTo DI h r.mb (mm (fun x => x.1.v) ps') h') (hp : ∀ p ∈ ps', p ∈ r.ps ∨ Blk h col 4 p.2) (e : put' = ps'.map fun p => (p.1, p.2.2)) (hk : ∀ p ∈ put', 98 ≤ p.1 ∧ p.1 < T.N) :
    TxC h' col d { r with ps := ps' } { T with put := put' } := by
  have f := mapTo_fr m
  have s1 := x.sc
  have s2 := x.mc
  have hmt : r.tb ≠ r.mb := fun e => by rw [e] at s1; omega
  have k4 : ∀ b, b < h.size → col b = 4 → ¬ b = r.mb := fun b _ e e2 => by rw [e2] at e; omega
  have hs := m.size
  refine ⟨fun b hb => x.nrm b (by omega), s1, f.own x.own.lt hmt x.own, (f.rd x.own.lt hmt).trans x.cell, s2, m.at_, x.un.fr f fun b _ hb e => ?_, fun p hp' => ?_, fun u hu => (x.uok u hu).keep f (Ag.refl _ _) k4, e, x.undo, x.live, x.dk.fr f fun b hb e => ?_, hk, x.ui⟩
  · have hb : col b = 3 := hb
    have e : b = r.mb := e
    rw [e] at hb; omega
  · rcases hp p hp' with h1 | h1
    · exact (x.pok p h1).keep f (Ag.refl _ _) k4
    · exact h1.keep f (Ag.refl _ _) k4
  · have hb : col b = 5 := hb
    have e : b = r.mb := e
    rw [e] at hb; omega
/-- one put is undone -/
theorem undo_spec {h : Heap} {col : Nat → Nat} {d : Option Addr} {r : TR} {T : TM} {u : UR} {K : Value → Heap → Prop} (x : TxC h col d r T) (hu : u ∈ r.us)
    (hK : ∀ h', Fr (fun b => b = r.mb) h h' → TxC h' col d { r with ps := undoR r.ps u } { T with put := undo1 T.put (u.i, u.was.map (·.2)) } → K (.tuple #[]) h') : HCallsV Tryd.prog u.v [] h K := by
  have U := x.uok u hu
  show C.txn_Txn_Write_c1 (some ⟨u.ok, 0, none⟩) (some ⟨u.w, 0, none⟩) (some ⟨u.tc, 0, none⟩) (some ⟨u.ic, 0, none⟩) h K
  refine txn_Txn_Write_c1.ok (os ⟨_, rdc U.ok rfl, ?_⟩)
  have hk : ∀ p ∈ undo1 T.put (u.i, u.was.map (·.2)), 98 ≤ p.1 ∧ p.1 < T.N := by
    intro p hp
    unfold undo1 at hp
    split at hp
    · rcases aput_mem hp with rfl | hp
      · exact x.ui u hu
      · exact x.pk p hp
    · exact x.pk p (adel_mem hp)
  have ew : undo1 T.put (u.i, u.was.map (·.2)) = (undoR r.ps u).map fun p => (p.1, p.2.2) := by rw [undoR_map, x.put]
  cases e : u.was with
  | none =>
    refine cf rfl (os ⟨_, rdc U.tc rfl, os ⟨_, rda x.cell rfl, os ⟨_, rdc U.ic rfl, _, x.map, fun h3 t3 => ?_⟩⟩⟩)
    have t3 := t3.toMapTo
    rw [mdel_mm] at t3
    have er : undoR r.ps u = adel r.ps u.i := by unfold undoR; rw [e]
    rw [er] at hK ew
    exact hK h3 (mapTo_fr t3) (x.remap t3 (fun p hp => .inl (adel_mem hp)) ew hk)
  | some y =>
    have hw : rd h u.w = [y.1.v] := by rw [U.w, e]; rfl
    refine ct rfl (os ⟨_, rdc U.tc rfl, os ⟨_, rda x.cell rfl, os ⟨_, rdc U.ic rfl, os ⟨_, _, _, rdc hw rfl, os ⟨_, x.map, fun h2 t2 => ?_⟩⟩⟩⟩⟩)
    rw [show Value.slice y.1.a y.1.l y.1.c = (fun x : Sc × Txt => x.1.v) y from rfl, mput_mm] at t2
    have er : undoR r.ps u = aput r.ps u.i y := by unfold undoR; rw [e]
    rw [er] at hK ew
    refine hK h2 (mapTo_fr t2) (x.remap t2 (fun p hp => ?_) ew hk)
    rcases aput_mem hp with rfl | hp
    · exact .inr (U.b y e)
    · exact .inl hp
theorem Back_spec {h : Heap} {F : Nat → Prop} {t d : Option Addr} {T : TM} {mark : Int} {K : Value → Heap → Prop} (x : Tx h F t d T) (hu : T.undo.length < 1000000000)
    (hK : ∀ h', Fr F h h' → Tx h' F t d (T.back mark).1 → K (.int .i64 (T.back mark).2) h') : C.txn_Txn_Back t mark h K := by
  rcases x with ⟨col, r, rfl, X, hF⟩ | ⟨col, tb, rfl, X, hF⟩
  rotate_left
  · refine txn_Txn_Back.ok (os ⟨_, rda X.cell rfl, ct rfl ?_⟩)
    have e0 : T.back mark = (T, 61) := by unfold TM.back; rw [X.over, if_pos rfl]
    rw [e0] at hK
    exact hK h (Fr.refl _ _) (.inr ⟨col, tb, rfl, X, hF⟩)
  · have eul : T.undo.length = r.us.length := by rw [X.undo, List.length_map]
    have live := X.live
    refine txn_Txn_Back.ok (os ⟨_, rda X.cell rfl, cf rfl (cd (fun hn => ?_) fun h0 => os ⟨_, _, _, rda X.cell rfl, cd (fun hn => ?_) fun h1 => ?_⟩)⟩)
    · have e0 : T.back mark = (T, 62) := by unfold TM.back; rw [live, if_neg (by simp), if_pos (.inl hn)]
      rw [e0] at hK
      exact hK h (Fr.refl _ _) (.inl ⟨col, r, rfl, X, hF⟩)
    · have e0 : T.back mark = (T, 62) := by unfold TM.back; rw [live, if_neg (by simp), if_pos (.inr (by omega))]
      rw [e0] at hK
      exact hK h (Fr.refl _ _) (.inl ⟨col, r, rfl, X, hF⟩)
    have e0 : T.back mark = ({ T with put := undoAll T.put (T.undo.drop mark.toNat), undo := T.undo.take mark.toNat }, 0) := by unfold TM.back; rw [live, if_neg (by simp), if_neg (by omega)]
    rw [e0] at hK
    unfold txn_Txn_Back.k1
    refine os ⟨_, _, _, rda X.cell rfl, ?_⟩
    rw [wrap_i64 (n := (r.us.length : Int) - 1) (by omega) (by omega)]
    refine ⟨fun k hh => mark - 1 ≤ k ∧ k < r.us.length ∧ Fr (fun b => b = r.mb) h hh ∧ ∃ ps', TxC hh col d { r with ps := ps' } { T with put := undoAll T.put (T.undo.drop (k + 1).toNat) }, fun k _ => (k + 1).toNat,
      ⟨by omega, by omega, Fr.refl _ _, r.ps, ?_⟩, ?_⟩
    · rw [show ((r.us.length : Int) - 1 + 1).toNat = T.undo.length by omega, List.drop_length]
      exact X
    rintro k h2 ⟨k0, k1, f2, ps', X2⟩
    refine cd (fun hk => ?_) fun hk => ?_
    · have hk' : k.toNat < r.us.length := by omega
      have X2c : rd h2 r.tb = [.pointer d, .map (some r.mb), .slice r.ua r.us.length r.uc, .bool false] := X2.cell
      obtain ⟨p, ep, cc⟩ := X2.un.get (by show 0 < r.us.length; omega)
      have ep : r.ua = some p := ep
      have cc : Cells h2 p (r.us.map UR.v) := cc
      have cv : cellOf h2 (p.add k.toNat) = some (UR.v r.us[k.toNat]) := Cells.cell cc (by rw [List.getElem?_map, List.getElem?_eq_getElem hk']; rfl)
      refine os ⟨_, _, _, rda X2c rfl, ⟨by omega, by omega⟩, oe ep ⟨_, cv, ?_⟩⟩
      refine undo_spec X2 (List.getElem_mem hk') fun h3 f3 X3 => ⟨rfl, ?_, ?_⟩
      · rw [wrap_i64 (n := k - 1) (by omega) (by omega)]
        refine ⟨by omega, by omega, f2.trans f3 fun b _ e => e, undoR ps' r.us[k.toNat], ?_⟩
        have hd : k.toNat < T.undo.length := by omega
        have eu : T.undo[k.toNat] = (r.us[k.toNat].i, r.us[k.toNat].was.map (·.2)) := by simp only [X.undo, List.getElem_map]
        rw [show (k - 1 + 1).toNat = k.toNat by omega, undoAll_drop T.put T.undo hd, eu, show k.toNat + 1 = (k + 1).toNat by omega]
        exact X3
      · show (IntKind.wrap .i64 (k - 1) + 1).toNat < (k + 1).toNat
        rw [wrap_i64 (n := k - 1) (by omega) (by omega)]; omega
    · have X2c : rd h2 r.tb = [.pointer d, .map (some r.mb), .slice r.ua r.us.length r.uc, .bool false] := X2.cell
      have cap : r.us.length ≤ r.uc := X2.un.le
      have ek : (k + 1).toNat = mark.toNat := by omega
      rw [ek] at X2
      have s1 := X2.sc
      have s2 := X2.mc
      have s1 : col r.tb = 1 := s1
      have s2 : col r.mb = 2 := s2
      refine os ⟨_, _, _, rda X2c rfl, ⟨by omega, by omega⟩, os (Put.add X2.own (by rw [show rd h2 _ = _ from X2c]; show 0 + 2 < 4; omega) fun h4 d4 => ?_)⟩
      have s4 := d4.size
      have k4 : ∀ b, b < h2.size → col b = 4 → ¬ b = r.tb := fun b _ e e2 => by rw [e2] at e; omega
      have hml : r.mb < h2.size := map_lt X2.map
      have htk : (r.us.take mark.toNat).length = mark.toNat := by rw [List.length_take]; omega
      refine hK h4 ((f2.mono fun b _ e => (hF b).mpr (by have e : b = r.mb := e; rw [e]; omega)).did d4 fun _ => (hF _).mpr (by show 1 ≤ col r.tb ∧ col r.tb ≤ 5; omega)) (.inl ⟨col, { r with ps := ps', us := r.us.take mark.toNat }, rfl, ⟨fun b hb => X2.nrm b (by omega), s1, d4.own, ?_, s2, map_fr X2.map d4.fr fun e => ?_, ?_, fun p hp => (X2.pok p hp).keep d4.fr (Ag.refl _ _) k4, fun u hu => (X2.uok u (List.mem_of_mem_take hu)).keep d4.fr (Ag.refl _ _) k4, X2.put, ?_, live, X2.dk.fr d4.fr fun b hb e => ?_, X2.pk, fun u hu => X2.ui u (List.mem_of_mem_take hu)⟩, hF⟩)
      · rw [d4.rd, show rd h2 _ = _ from X2c]
        show _ = ([.pointer d, .map (some r.mb), .slice r.ua (r.us.take mark.toNat).length r.uc, .bool false] : List Value)
        rw [htk]; rfl
      · have e : r.mb = r.tb := e
        rw [e] at s2; omega
      · show Sl h4 1 r.ua (r.us.take mark.toNat).length r.uc ((r.us.take mark.toNat).map UR.v) (On col 3)
        rw [htk, List.map_take]
        exact sl_take (X2.un.fr d4.fr fun b _ hb e => by have hb : col b = 3 := hb; have e : b = r.tb := e; rw [e] at hb; omega) (by show mark.toNat ≤ r.us.length; omega)
      · show T.undo.take mark.toNat = (r.us.take mark.toNat).map _
        rw [X.undo, List.map_take]
      · have hb : col b = 5 := hb
        have e : b = r.tb := e
        rw [e] at hb; omega
end Go.Proofs.YtcdpakjhjmchhaaDoor.Tm
namespace Go.Proofs.YtcdpakjhjmchhaaDoor.Spc
open Go Go.Proofs Go.Proofs.YtcdpakjhjmchhaaDoor.Wx Go.Proofs.YtcdpakjhjmchhaaDoor.Hp Go.Proofs.YtcdpakjhjmchhaaDoor.W Go.Proofs.YtcdpakjhjmchhaaDoor.Ad Go.Proofs.YtcdpakjhjmchhaaDoor.Tm
theorem readFrom_len {i : Int} : ∀ (ps : List (Int × List UInt8)) (b : List UInt8), b.length = 512 → (∀ p ∈ ps, p.2.length = 512) → (readFrom b i ps).length = 512
  | [], b, h, _ => h
  | p :: r, b, h, hp => by
    show (readFrom (if p.1 = i then p.2 else b) i r).length = 512
    refine readFrom_len r _ ?_ fun q hq => hp q (List.mem_cons_of_mem _ hq)
    split
    · exact hp p (List.mem_cons_self ..)
    · exact h
theorem DiskF.readLen {h : Heap} {D : Nat → Prop} {d : Option Addr} {S : RD} (a : DiskF h D d S) {i : Nat} (hi : i < S.lasts.length) : (readAt S i).length = 512 := by
  obtain ⟨col, ⟨b, r, es, _, P⟩, _⟩ := a
  refine readFrom_len _ _ ?_ P.pw
  rw [List.getD_eq_getElem?_getD, List.getElem?_eq_getElem hi]
  exact P.lw _ (List.getElem_mem hi)
theorem Tx.putLen {h : Heap} {F : Nat → Prop} {t d : Option Addr} {T : TM} (x : Tx h F t d T) : ∀ p ∈ T.put, p.2.length = 512 := by
  rcases x with ⟨col, r, _, c, _⟩ | ⟨col, tb, _, c, _⟩
  · intro p hp
    rw [c.put] at hp
    obtain ⟨q, hq, rfl⟩ := List.mem_map.mp hp
    exact (c.pok q hq).l
  · intro p hp
    rw [c.gone.1] at hp; cases hp
theorem Tx.readLen {h : Heap} {F : Nat → Prop} {t d : Option Addr} {T : TM} (x : Tx h F t d T) {i : Int} (e : (T.read i).2 = 0) : (T.read i).1.length = 512 := by
  obtain ⟨D, dk, _⟩ := x.dk
  unfold TM.read at e ⊢
  split at e
  · cases e
  · rename_i h1
    rw [if_neg h1]
    split at e
    · cases e
    · rename_i h2
      rw [if_neg h2]
      cases eg : aget T.put i with
      | some b => rw [TM.get_some eg]; exact Tx.putLen x _ (aget_mem eg)
      | none =>
        rw [TM.get_none eg] at e ⊢
        split at e
        · cases e
        · rename_i h3
          rw [if_neg h3]
          exact DiskF.readLen dk (by have : T.N = T.disk.lasts.length := rfl; omega)
theorem TM.write_ok {T : TM} {i : Int} {bs : Txt} (e : (T.write i bs).2 = 0) : T.over = false ∧ 98 ≤ i ∧ i < T.N ∧ bs.length = 512 ∧ ¬ (aget T.put i = none ∧ T.put.length ≥ 96) ∧ (T.write i bs).1 = { T with put := aput T.put i bs, undo := T.undo ++ [(i, aget T.put i)] } := by
  unfold TM.write at e ⊢
  split at e
  · cases e
  · rename_i h1
    split at e
    · cases e
    · rename_i h2
      split at e
      · cases e
      · rename_i h3
        split at e
        · cases e
        · rename_i h4
          rw [if_neg h1, if_neg h2, if_neg h3, if_neg h4]
          exact ⟨by cases ho : T.over <;> simp_all, by omega, by omega, by omega, h4, rfl⟩
theorem TM.write_get {T : TM} {i : Int} {bs : Txt} (h1 : T.over = false) (h2 : 98 ≤ i) (h3 : i < T.N) (h4 : bs.length = 512) (h5 : ¬ (aget T.put i = none ∧ T.put.length ≥ 96)) :
    T.write i bs = ({ T with put := aput T.put i bs, undo := T.undo ++ [(i, aget T.put i)] }, 0) := by
  unfold TM.write
  rw [if_neg (by rw [h1]; simp), if_neg (by omega), if_neg (by omega), if_neg h5]
theorem TM.write_bad {T : TM} {i : Int} {bs : Txt} (e : (T.write i bs).2 ≠ 0) : (T.write i bs).1 = T := by
  unfold TM.write at e ⊢
  split
  · rfl
  · split
    · rfl
    · split
      · rfl
      · split
        · rfl
        · rename_i h1 h2 h3 h4
          rw [if_neg h1, if_neg h2, if_neg h3, if_neg h4] at e
          exact absurd rfl e
theorem TM.read_live {T : TM} (h : T.over = false) (i : Int) : T.read i = if i < 0 ∨ i ≥ T.N then ([], 31) else T.get i := by
  unfold TM.read
  rw [if_neg (by rw [h]; simp)]
theorem TM.read_write {T : TM} {i : Int} {bs : Txt} (e : (T.write i bs).2 = 0) (j : Int) : (T.write i bs).1.read j = if j = i then (bs, 0) else T.read j := by
  obtain ⟨h1, h2, h3, h4, h5, ew⟩ := TM.write_ok e
  rw [ew, TM.read_live (T := { T with put := aput T.put i bs, undo := T.undo ++ [(i, aget T.put i)] }) h1, TM.read_live h1]
  have hN : TM.N { T with put := aput T.put i bs, undo := T.undo ++ [(i, aget T.put i)] } = T.N := rfl
  rw [hN]
  have ea : aget (TM.put { T with put := aput T.put i bs, undo := T.undo ++ [(i, aget T.put i)] }) j = if j = i then some bs else aget T.put j := aget_aput ..
  by_cases hj : j = i
  · rw [if_pos hj] at ea ⊢
    rw [if_neg (by omega), TM.get_some ea]
  · rw [if_neg hj] at ea ⊢
    split
    · rfl
    · cases e2 : aget T.put j with
      | some b => rw [e2] at ea; rw [TM.get_some ea, TM.get_some e2]
      | none => rw [e2] at ea; rw [TM.get_none ea, TM.get_none e2]
/-- one more put, and gone back behind it: as it was -/
theorem TM.read_ok_over {T : TM} {i : Int} (e : (T.read i).2 = 0) : T.over = false := by
  unfold TM.read at e
  split at e
  · cases e
  · rename_i h; cases ho : T.over <;> simp_all
theorem nodup_len : ∀ {l m : List Int}, l.Nodup → (∀ x ∈ l, x ∈ m) → l.length ≤ m.length
  | [], m, _, _ => Nat.zero_le _
  | a :: r, m, hn, hs => by
    have ha := hs a (List.mem_cons_self ..)
    have h1 := List.length_erase_of_mem ha
    have h2 := List.length_pos_of_mem ha
    rw [List.nodup_cons] at hn
    have ih := nodup_len (l := r) (m := m.erase a) hn.2 fun x hx => (List.mem_erase_of_ne (fun e => hn.1 (by rw [← e]; exact hx))).mpr (hs x (List.mem_cons_of_mem _ hx))
    rw [List.length_cons]; omega
theorem aput_keys {α : Type} (i : Int) (v : α) : ∀ m : List (Int × α), (aput m i v).map (·.1) = if aget m i = none then m.map (·.1) ++ [i] else m.map (·.1)
  | [] => rfl
  | (k, u) :: r => by
    have ih := aput_keys i v r
    show (bif i == k then (i, v) :: r else (k, u) :: aput r i v).map (·.1) = if (bif i == k then some u else aget r i) = none then _ else _
    by_cases e : i = k
    · subst e; rw [beq_self_eq_true]; rfl
    · rw [beq_eq_false_iff_ne.mpr e]
      show k :: (aput r i v).map (·.1) = if aget r i = none then _ else _
      rw [ih]
      split <;> rfl
end Go.Proofs.YtcdpakjhjmchhaaDoor.Spc
namespace Go.Proofs.YtcdpakjhjmchhaaDoor.Rg
open Go Go.Proofs Go.Proofs.YtcdpakjhjmchhaaDoor.Wx Go.Proofs.YtcdpakjhjmchhaaDoor.Hp
theorem ycalls_mono {P : Program} {l : Nat} {args : List Value} {h : Heap} {k k' : Value → Heap → Prop} (y : YCalls P l args h k) (hk : ∀ v h', k v h' → k' v h') : YCalls P l args h k' :=
  fun w hw => by
    obtain ⟨fn, tmps, a, b, h1, h2⟩ := y w hw
    exact ⟨fn, tmps, a, b, h1, h2.mono fun _ _ ⟨v, e, r, x⟩ => ⟨v, e, r, hk v _ x⟩⟩
theorem loopOn_lt {h : Heap} {l : Nat} {R : Loop} {st : LoopState} {p : Option Code} (o : LoopOn h l R st p) : l < h.size := (Array.getElem?_eq_some_iff.mp o).1
theorem loopOn_fr {F : Nat → Prop} {h h' : Heap} {l : Nat} {R : Loop} {st : LoopState} {p : Option Code} (o : LoopOn h l R st p) (f : Fr F h h') (hF : ¬ F l) : LoopOn h' l R st p := (f.same l (loopOn_lt o) hF).trans o
theorem setLoop_size (h : Heap) (l : Nat) (R : Loop) (st : LoopState) (p : Option Code) : (setLoop h l R st p).size = h.size := by simp [setLoop]
theorem setLoop_fr (h : Heap) (l : Nat) (R : Loop) (st : LoopState) (p : Option Code) : Fr (fun b => b = l) h (setLoop h l R st p) :=
  ⟨by rw [setLoop_size]; exact Nat.le_refl _, fun b _ hb => by simp only [setLoop]; rw [Array.getElem?_setIfInBounds_ne fun e => hb e.symm]⟩
theorem setLoop_on {h : Heap} {l : Nat} (hl : l < h.size) (R : Loop) (st : LoopState) (p : Option Code) : LoopOn (setLoop h l R st p) l R st p := by
  simp [LoopOn, setLoop, hl]
/-- the record was written: what is known then -/
structure Turned (l : Nat) (R : Loop) (st : LoopState) (p : Option Code) (h h' : Heap) : Prop where
  size : h'.size = h.size
  fr : Fr (fun b => b = l) h h'
  on : LoopOn h' l R st p
theorem turned {h : Heap} {l : Nat} (hl : l < h.size) (R : Loop) (st : LoopState) (p : Option Code) : Turned l R st p h (setLoop h l R st p) := ⟨setLoop_size h l R st p, setLoop_fr h l R st p, setLoop_on hl R st p⟩
theorem setL_intro {h : Heap} {l : Nat} {R : Loop} {st : LoopState} {p : Option Code} {k : Heap → Prop} (hl : l < h.size) (H : ∀ h', Turned l R st p h h' → k h') : SetL h l R st p k := H _ (turned hl R st p)
theorem beginL_size (h : Heap) (R : Loop) : (beginL h R).size = h.size + 2 := by simp [beginL]
theorem beginL_fr (h : Heap) (R : Loop) : Fr No h (beginL h R) :=
  ⟨by rw [beginL_size]; omega, fun b hb _ => by simp only [beginL]; rw [Array.getElem?_push, if_neg (by rw [Array.size_push]; omega), Array.getElem?_push, if_neg (by omega)]⟩
theorem beginL_on (h : Heap) (R : Loop) : LoopOn (beginL h R) (h.size + 1) R .ready none := by
  simp only [LoopOn, beginL]
  rw [Array.getElem?_push, if_pos (by rw [Array.size_push])]
theorem beginL_d (h : Heap) (R : Loop) : (beginL h R)[h.size]? = some (.deferred (some [])) := by
  simp only [beginL]
  rw [Array.getElem?_push, if_neg (by rw [Array.size_push]; omega), Array.getElem?_push, if_pos rfl]
theorem endD_size (h : Heap) (b : Nat) : (endD h b).size = h.size := by simp [endD]
theorem endD_fr (h : Heap) (b : Nat) : Fr (fun x => x = b) h (endD h b) :=
  ⟨by rw [endD_size]; exact Nat.le_refl _, fun c _ hc => by simp only [endD]; rw [Array.getElem?_setIfInBounds_ne fun e => hc e.symm]⟩
theorem endD_intro {h : Heap} {b : Nat} {k : Heap → Prop} (hd : h[b]? = some (.deferred (some []))) (H : ∀ h', h'.size = h.size → Fr (fun x => x = b) h h' → k h') : EndD b h k := ⟨hd, H _ (endD_size h b) (endD_fr h b)⟩
theorem pend_none {n r : Prop} {e : Nat → Prop} (h : n) : pendX none n r e := h
theorem pend_ret {n r : Prop} {e : Nat → Prop} (h : r) : pendX (some .ret) n r e := h
end Go.Proofs.YtcdpakjhjmchhaaDoor.Rg
namespace Go.Proofs.YtcdpakjhjmchhaaDoor.Bt
open Go Go.Proofs Go.Proofs.YtcdpakjhjmchhaaDoor.Wx Go.Proofs.YtcdpakjhjmchhaaDoor.Hp Go.Proofs.YtcdpakjhjmchhaaDoor.W Go.Proofs.YtcdpakjhjmchhaaDoor.Rg
/-- a bit of a row of bytes -/
def bitAt (bs : List UInt8) (i : Nat) : Bool := (bs.getD (i / 8) 0).toNat.testBit (i % 8)
def setB (n s : Nat) (on : Bool) : Nat := if on = true then n ||| 2 ^ s else n &&& (255 - 2 ^ s)
/-- and that bit put -/
def putBit (bs : List UInt8) (i : Nat) (on : Bool) : List UInt8 := bs.set (i / 8) (UInt8.ofNat (setB (bs.getD (i / 8) 0).toNat (i % 8) on))
theorem putBit_length (bs : List UInt8) (i : Nat) (on : Bool) : (putBit bs i on).length = bs.length := List.length_set
theorem bit_read : ∀ n : Fin 256, ∀ s : Fin 8, ((bitsI .and .u8 (Int.fdiv (n.val : Int) (2 ^ min (Int.toNat (s.val : Int)) 8)) 1) == 1) = n.val.testBit s.val := by decide +kernel
theorem bit_or : ∀ n : Fin 256, ∀ s : Fin 8, bitsI .or .u8 (n.val : Int) (IntKind.wrap .u8 (1 * 2 ^ min (Int.toNat (s.val : Int)) 8)) = (setB n.val s.val true : Nat) := by decide +kernel
theorem bit_not : ∀ n : Fin 256, ∀ s : Fin 8, bitsI .andNot .u8 (n.val : Int) (IntKind.wrap .u8 (1 * 2 ^ min (Int.toNat (s.val : Int)) 8)) = (setB n.val s.val false : Nat) := by decide +kernel
theorem setB_lt : ∀ n : Fin 256, ∀ s : Fin 8, setB n.val s.val true < 256 ∧ setB n.val s.val false < 256 := by decide +kernel
theorem setB_get : ∀ n : Fin 256, ∀ s t : Fin 8, (setB n.val s.val true).testBit t.val = (if t = s then true else n.val.testBit t.val) ∧ (setB n.val s.val false).testBit t.val = (if t = s then false else n.val.testBit t.val) := by decide +kernel
theorem setB_lt' {n s : Nat} (hn : n < 256) (hs : s < 8) (on : Bool) : setB n s on < 256 := by
  cases on
  · exact (setB_lt ⟨n, hn⟩ ⟨s, hs⟩).2
  · exact (setB_lt ⟨n, hn⟩ ⟨s, hs⟩).1
theorem setB_get' {n s t : Nat} (hn : n < 256) (hs : s < 8) (ht : t < 8) (on : Bool) : (setB n s on).testBit t = if t = s then on else n.testBit t := by
  have e : ((⟨t, ht⟩ : Fin 8) = ⟨s, hs⟩) = (t = s) := by rw [Fin.mk.injEq]
  have := setB_get ⟨n, hn⟩ ⟨s, hs⟩ ⟨t, ht⟩
  simp only [Fin.mk.injEq] at this
  cases on
  · exact this.2
  · exact this.1
theorem bitAt_putBit (bs : List UInt8) (i j : Nat) (on : Bool) (hi : i < 8 * bs.length) : bitAt (putBit bs i on) j = if j = i then on else bitAt bs j := by
  have hn : (bs.getD (i / 8) 0).toNat < 256 := UInt8.toNat_lt _
  have hl : i / 8 < bs.length := by omega
  unfold bitAt putBit
  by_cases h : j / 8 = i / 8
  · rw [h]
    have : (bs.set (i / 8) (UInt8.ofNat (setB (bs.getD (i / 8) 0).toNat (i % 8) on))).getD (i / 8) 0 = UInt8.ofNat (setB (bs.getD (i / 8) 0).toNat (i % 8) on) := by
      rw [List.getD_eq_getElem?_getD, List.getElem?_set_self hl]; rfl
    rw [this, UInt8.toNat_ofNat_of_lt' (setB_lt' hn (by omega) on), setB_get' hn (by omega) (by omega)]
    by_cases e : j = i
    · rw [if_pos e, if_pos (by omega)]
    · rw [if_neg e, if_neg (by omega)]
  · rw [if_neg (by rintro rfl; exact h rfl), List.getD_eq_getElem?_getD, List.getElem?_set_ne (by omega), ← List.getD_eq_getElem?_getD]
theorem sl_rng {h : Heap} {ec l c : Nat} {a : Option Addr} {xs : List Value} {F : Nat → Prop} (s : Sl h ec a l c xs F) : Sl h ec a l c xs (fun b => F b ∧ b < h.size) := by
  cases a with
  | none => exact ⟨s.1, s.2⟩
  | some p => exact ⟨s.1, s.2.1, ⟨s.2.2.1, s.lt⟩, s.2.2.2⟩
theorem tdiv8 (n : Nat) : Int.tdiv (n : Int) 8 = ((n / 8 : Nat) : Int) := rfl
theorem tmod8 (n : Nat) : Int.tmod (n : Int) 8 = ((n % 8 : Nat) : Int) := rfl
theorem has_spec {A : Option Addr} {l c : Nat} {i : Int} {h : Heap} {K : Value → Heap → Prop} (hl : l ≤ 1099511627776) (hK : K (.bool (decide (0 ≤ i ∧ i < 8 * l))) h) : C.bits_has A l c i h K := by
  refine bits_has.ok (cd (fun h0 => ?_) fun h0 => ?_)
  · rw [wrap_i64 (by omega) (by omega)]
    have : decide (0 ≤ i ∧ i < 8 * (l : Int)) = decide (i < 8 * (l : Int)) := by
      apply decide_eq_decide.mpr; constructor
      · exact fun x => x.2
      · exact fun x => ⟨h0, x⟩
    rw [this] at hK; exact hK
  · have : decide (0 ≤ i ∧ i < 8 * (l : Int)) = false := decide_eq_false fun x => h0 x.1
    rw [this] at hK; exact hK
theorem cell_at {h : Heap} {A : Option Addr} {l : Nat} {bs : List UInt8} (B : StrAt h A l bs) {j : Nat} (hj : j < bs.length) : ∃ p, A = some p ∧ cellOf h (p.add j) = some (bv (bs.getD j 0)) := by
  obtain ⟨B1, B2⟩ := B
  cases A with
  | none =>
    have B2 : bs.map bv = [] := B2
    rw [List.map_eq_nil_iff.mp B2] at hj; exact absurd hj (Nat.not_lt_zero _)
  | some p =>
    refine ⟨p, rfl, Cells.cell B2 ?_⟩
    rw [List.getElem?_map, List.getD_eq_getElem?_getD, List.getElem?_eq_getElem hj]; rfl
theorem oe {α : Type} {a : Option α} {p : α} {k : α → Prop} (e : a = some p) (h : k p) : onSome a k := by rw [e]; exact h
theorem on_spec {A : Option Addr} {l c i : Nat} {bs : List UInt8} {h : Heap} {K : Value → Heap → Prop} (B : StrAt h A l bs) (hl : l ≤ 1099511627776) (hi : i < 8 * l) (hK : K (.bool (bitAt bs i)) h) : C.bits_on A l c i h K := by
  have e := B.1
  obtain ⟨p, ep, hc⟩ := cell_at B (j := i / 8) (by omega)
  refine bits_on.ok ?_
  unfold bits_on
  rw [tdiv8, tmod8, wrap_i64 (by omega) (by omega)]
  refine ⟨⟨by omega, by omega⟩, oe ep ⟨_, hc, ?_⟩⟩
  rw [if_neg (by omega)]
  have := bit_read ⟨(bs.getD (i / 8) 0).toNat, UInt8.toNat_lt _⟩ ⟨i % 8, by omega⟩
  unfold bitAt at hK
  rw [← this] at hK
  exact hK
theorem Get_spec {A : Option Addr} {l c : Nat} {i : Int} {bs : List UInt8} {h : Heap} {K : Value → Heap → Prop} (B : StrAt h A l bs) (hl : l ≤ 1099511627776)
    (h1 : ¬ (0 ≤ i ∧ i < 8 * l) → K (.tuple #[.bool false, .int .i64 80]) h) (h2 : 0 ≤ i → i < 8 * l → K (.tuple #[.bool (bitAt bs i.toNat), .int .i64 0]) h) : C.bits_Get A l c i h K := by
  refine bits_Get.ok (has_spec hl ⟨_, rfl, cnot (cd (fun hi => ?_) h1)⟩)
  obtain ⟨n, rfl⟩ := Int.eq_ofNat_of_zero_le hi.1
  exact on_spec B hl (by omega) ⟨_, rfl, h2 hi.1 hi.2⟩
theorem map_set_bv (bs : List UInt8) (j : Nat) (x : UInt8) : put (bs.map bv) j [bv x] = (bs.set j x).map bv := by
  show (bs.map bv).set j (bv x) = _
  rw [List.map_set]
theorem Put_spec {b o l c : Nat} {i : Int} {on : Bool} {bs : List UInt8} {h : Heap} {F : Nat → Prop} {K : Value → Heap → Prop} (S : Sl h 1 (some ⟨b, o, none⟩) l c (bs.map bv) F) (hl : l ≤ 1099511627776)
    (h1 : ¬ (0 ≤ i ∧ i < 8 * l) → K (.int .i64 80) h) (h2 : 0 ≤ i → i < 8 * l → ∀ h', Fr (fun x => x = b) h h' → h'.size = h.size → Sl h' 1 (some ⟨b, o, none⟩) l c ((putBit bs i.toNat on).map bv) F → K (.int .i64 0) h') :
    C.bits_Put (some ⟨b, o, none⟩) l c i on h K := by
  refine bits_Put.ok (has_spec hl ⟨_, rfl, cnot (cd (fun hi => ?_) h1)⟩)
  obtain ⟨n, rfl⟩ := Int.eq_ofNat_of_zero_le hi.1
  have h2 := h2 hi.1 hi.2
  have B := S.str
  have e := B.1
  have hn : n / 8 < bs.length := by omega
  obtain ⟨p, ep, hc⟩ := cell_at B hn
  cases ep
  obtain ⟨w1, w2⟩ := S.wr
  have hx : (bs.getD (n / 8) 0).toNat < 256 := UInt8.toNat_lt _
  rw [tdiv8, tmod8, wrap_i64 (by omega) (by omega)]
  have go : ∀ v : Int, v = (setB (bs.getD (n / 8) 0).toNat (n % 8) on : Nat) → Put (Addr.add ⟨b, o, none⟩ (Int.toNat ((n / 8 : Nat) : Int))) (.int .u8 v) h fun h3 => K (.int .i64 0) h3 := by
    intro v ev
    subst ev
    have et : Int.toNat ((n / 8 : Nat) : Int) = n / 8 := rfl
    rw [et]
    refine Put.add w1 (by omega) fun h3 d3 => h2 h3 d3.fr d3.size ?_
    have ex : (.int .u8 ((setB (bs.getD (n / 8) 0).toNat (n % 8) on : Nat) : Int) : Value) = bv (UInt8.ofNat (setB (bs.getD (n / 8) 0).toNat (n % 8) on)) := by
      show _ = Value.int .u8 _
      rw [UInt8.toNat_ofNat_of_lt' (setB_lt' hx (by omega) on)]
    rw [ex] at d3
    have := S.putAt (j := n / 8) (new := [bv (UInt8.ofNat (setB (bs.getD (n / 8) 0).toNat (n % 8) on))]) (by show n / 8 + 1 ≤ l * 1; omega) d3
    rw [map_set_bv] at this
    exact this
  have ob := bit_or ⟨(bs.getD (n / 8) 0).toNat, hx⟩ ⟨n % 8, by omega⟩
  have nb := bit_not ⟨(bs.getD (n / 8) 0).toNat, hx⟩ ⟨n % 8, by omega⟩
  cases on
  · refine cf rfl ⟨⟨by omega, by omega⟩, os ⟨_, hc, ?_⟩⟩
    rw [if_neg (by omega)]
    exact ⟨⟨by omega, by omega⟩, os (go _ nb)⟩
  · refine ct rfl ⟨⟨by omega, by omega⟩, os ⟨_, hc, ?_⟩⟩
    rw [if_neg (by omega)]
    exact ⟨⟨by omega, by omega⟩, os (go _ ob)⟩
theorem hv_yield {P : Program} {l : Nat} {args : List Value} {h : Heap} {k : Value → Heap → Prop} (y : YCalls P l args h k) : HCallsV P (.func (.yield l) #[] #[]) args h k := y
theorem hv_mono {P : Program} {v : Value} {args : List Value} {h : Heap} {k k' : Value → Heap → Prop} (H : HCallsV P v args h k) (hk : ∀ v h', k v h' → k' v h') : HCallsV P v args h k' := by
  cases v with
  | func fn fs cs =>
    cases fn with
    | func g => exact HCalls.mono H hk
    | yield l => exact ycalls_mono H hk
    | _ => exact H.elim
  | _ => exact H.elim
/-- the rows of bits that are off -/
theorem runs_iter {l cb : Nat} {A : Option Addr} {sl c : Nat} {bs : List UInt8} {h : Heap} {K : Value → Heap → Prop} (hl : sl ≤ 1099511627776) (J : Nat → Heap → Prop) (hc : ∀ i hh, J i hh → rd hh cb = [.slice A sl c] ∧ StrAt hh A sl bs)
    (hY : ∀ i f n hh, J i hh → i ≤ f → 0 < n → f + n ≤ 8 * sl → (∀ t, i ≤ t → t < f → bitAt bs t = true) → (∀ t, f ≤ t → t < f + n → bitAt bs t = false) →
      YCalls Tryd.prog l [.int .i64 f, .int .i64 n] hh fun v h' => (v = .bool true ∧ J (f + n) h') ∨ (v = .bool false ∧ K (.tuple #[]) h'))
    (h0 : J 0 h) (hK : ∀ i hh, J i hh → i ≤ 8 * sl → (∀ t, i ≤ t → t < 8 * sl → bitAt bs t = true) → K (.tuple #[]) hh) : C.bits_Runs_c1 (.func (.yield l) #[] #[]) (some ⟨cb, 0, none⟩) h K := by
  refine bits_Runs_c1.ok ⟨fun i hh => 0 ≤ i ∧ i ≤ 8 * sl ∧ J i.toNat hh, fun i _ => (8 * sl - i).toNat, ⟨by omega, by omega, h0⟩, ?_⟩
  rintro i h2 ⟨i0, i1, hJ⟩
  obtain ⟨r, B⟩ := hc _ _ hJ
  have C2 : cellOf h2 ⟨cb, 0, none⟩ = some (.slice A sl c) := rdc r rfl
  refine ⟨fun f hh => h2 = hh ∧ i ≤ f ∧ f ≤ 8 * sl ∧ ∀ t, i.toNat ≤ t → t < f.toNat → bitAt bs t = true, fun f _ => (8 * sl - f).toNat, ⟨rfl, by omega, i1, fun t h1 h2 => by omega⟩, ?_⟩
  rintro f _ ⟨rfl, f0, f1, hon⟩
  have third : (f = 8 * sl ∨ bitAt bs f.toNat = false) → bits_Runs_c1.k1 (.func (.yield l) #[] #[]) (some ⟨cb, 0, none⟩) i h2 (fun i hh => 0 ≤ i ∧ i ≤ 8 * sl ∧ J i.toNat hh) (fun i _ => (8 * sl - i).toNat) f h2 K := by
    intro hf
    refine ⟨fun e hh => h2 = hh ∧ f ≤ e ∧ e ≤ 8 * sl ∧ ∀ t, f.toNat ≤ t → t < e.toNat → bitAt bs t = false, fun e _ => (8 * sl - e).toNat, ⟨rfl, by omega, f1, fun t h1 h2 => by omega⟩, ?_⟩
    rintro e _ ⟨rfl, e0, e1, hoff⟩
    have last : (e = f → f = 8 * sl) → bits_Runs_c1.k2 (.func (.yield l) #[] #[]) i h2 (fun i hh => 0 ≤ i ∧ i ≤ 8 * sl ∧ J i.toNat hh) (fun i _ => (8 * sl - i).toNat) f e h2 K := by
      intro hq
      refine ce (fun he => ?_) fun he => ?_
      · have := hq he
        exact hK i.toNat h2 hJ (by omega) fun t h1 h3 => hon t h1 (by omega)
      · rw [wrap_i64 (n := e - f) (by omega) (by omega)]
        have y := hY i.toNat f.toNat (e - f).toNat h2 hJ (by omega) (by omega) (by omega) hon fun t h1 h3 => hoff t h1 (by omega)
        rw [show ((f.toNat : Nat) : Int) = f by omega, show (((e - f).toNat : Nat) : Int) = e - f by omega] at y
        refine hv_yield (ycalls_mono y fun v h5 hv => ?_)
        rcases hv with ⟨rfl, hJ5⟩ | ⟨rfl, hk⟩
        · refine ⟨true, rfl, cnot (ct rfl ⟨⟨by omega, e1, ?_⟩, by show ((8 * sl : Int) - e).toNat < ((8 * sl : Int) - i).toNat; omega⟩)⟩
          rw [show f.toNat + (e - f).toNat = e.toNat by omega] at hJ5
          exact hJ5
        · exact ⟨false, rfl, cnot (cf rfl hk)⟩
    refine os ⟨_, _, _, C2, has_spec hl ⟨_, rfl, cd (fun hi => os ⟨_, _, _, C2, ?_⟩) fun hi => ?_⟩⟩
    · obtain ⟨n, rfl⟩ := Int.eq_ofNat_of_zero_le hi.1
      refine on_spec B hl (by omega) ⟨_, rfl, cnot (cs (fun hb => ?_) fun hb => ?_)⟩
      · refine last fun he => ?_
        rcases hf with hf | hf
        · exact hf
        · rw [← he] at hf
          rw [show ((n : Int)).toNat = n from rfl, hb] at hf; cases hf
      · rw [wrap_i64 (n := (n : Int) + 1) (by omega) (by omega)]
        refine ⟨⟨rfl, by omega, by omega, fun t h1 h3 => ?_⟩, by show ((8 * sl : Int) - ((n : Int) + 1)).toNat < ((8 * sl : Int) - (n : Int)).toNat; omega⟩
        by_cases ht : t = n
        · rw [ht]; exact hb
        · exact hoff t h1 (by omega)
    · exact last fun he => by omega
  refine os ⟨_, _, _, C2, has_spec hl ⟨_, rfl, cd (fun hi => os ⟨_, _, _, C2, ?_⟩) fun hi => third (.inl (by omega))⟩⟩
  obtain ⟨n, rfl⟩ := Int.eq_ofNat_of_zero_le hi.1
  refine on_spec B hl (by omega) ⟨_, rfl, cs (fun hb => ?_) fun hb => third (.inr hb)⟩
  rw [wrap_i64 (n := (n : Int) + 1) (by omega) (by omega)]
  refine ⟨⟨rfl, by omega, by omega, fun t h1 h3 => ?_⟩, by show ((8 * sl : Int) - ((n : Int) + 1)).toNat < ((8 * sl : Int) - (n : Int)).toNat; omega⟩
  by_cases ht : t = n
  · rw [ht]; exact hb
  · exact hon t h1 (by omega)
end Go.Proofs.YtcdpakjhjmchhaaDoor.Bt
namespace Go.Proofs.YtcdpakjhjmchhaaDoor.Spc
open Go Go.Proofs Go.Proofs.YtcdpakjhjmchhaaDoor.Wx Go.Proofs.YtcdpakjhjmchhaaDoor.Hp Go.Proofs.YtcdpakjhjmchhaaDoor.W Go.Proofs.YtcdpakjhjmchhaaDoor.Ad Go.Proofs.YtcdpakjhjmchhaaDoor.Tm Go.Proofs.YtcdpakjhjmchhaaDoor.Bt
/-- where the regions lie -/
structure G where
  blocks : Nat
  bitmap : Nat
  inodes : Nat
  data : Nat
  count : Nat
def G.v (g : G) : List Value := [.int .i64 g.blocks, .int .i64 g.bitmap, .int .i64 g.inodes, .int .i64 g.data, .int .i64 g.count]
structure G.ok (g : G) : Prop where
  b : g.blocks ≤ 1099511627776
  m : g.bitmap ≤ 1099511627776
  i : g.inodes ≤ 1099511627776
  d : g.data ≤ 1099511627776
theorem geo_Bit_spec {g : G} {i : Int} {h : Heap} {K : Value → Heap → Prop} (ok : g.ok) (h1 : ¬ (0 ≤ i ∧ i < g.blocks) → ∀ h', Fr No h h' → K (.tuple #[.int .i64 0, .int .i64 0, .int .i64 31]) h')
    (h2 : 0 ≤ i → i < g.blocks → ∀ h', Fr No h h' → K (.tuple #[.int .i64 (g.bitmap + i.toNat / 4096 : Nat), .int .i64 (i.toNat % 4096 : Nat), .int .i64 0]) h') : C.geo_Bit g.v i h K := by
  have b1 := ok.b
  have b2 := ok.m
  refine geo_Bit.ok (New.intro fun h3 n3 => ?_)
  refine cd (fun hn => h1 (by omega) h3 n3.fr) fun h0 => ⟨_, rda n3.rd rfl, cd (fun hn => h1 (by omega) h3 n3.fr) fun hb => ⟨_, rda n3.rd rfl, ?_⟩⟩
  obtain ⟨n, rfl⟩ := Int.eq_ofNat_of_zero_le (show 0 ≤ i by omega)
  have e1 : Int.tdiv (n : Int) 4096 = ((n / 4096 : Nat) : Int) := rfl
  have e2 : Int.tmod (n : Int) 4096 = ((n % 4096 : Nat) : Int) := rfl
  have h2 := h2 (by omega) (by omega) h3 n3.fr
  rw [e1, e2, wrap_i64 (n := ((n / 4096 : Nat) : Int)) (by omega) (by omega), wrap_i64 (by omega) (by omega)]
  rw [show ((n : Int)).toNat = n from rfl] at h2
  rw [show ((g.bitmap + n / 4096 : Nat) : Int) = (g.bitmap : Int) + ((n / 4096 : Nat) : Int) by omega] at h2
  exact h2
def G.at_ (g : G) (i : Nat) : Int := (g.bitmap + i / 4096 : Nat)
def setBit (T : TM) (g : G) (i : Nat) (on : Bool) : TM × Int :=
  if (T.read (g.at_ i)).2 ≠ 0 then (T, (T.read (g.at_ i)).2) else T.write (g.at_ i) (putBit (T.read (g.at_ i)).1 (i % 4096) on)
def give (T : TM) (g : G) (i : Int) : TM × Int :=
  if i < g.data ∨ i ≥ g.blocks then (T, 91) else if (T.read (g.at_ i.toNat)).2 ≠ 0 then (T, (T.read (g.at_ i.toNat)).2) else
    if bitAt (T.read (g.at_ i.toNat)).1 (i.toNat % 4096) = false then (T, 91) else setBit T g i.toNat false
theorem bit_spec {h : Heap} {F : Nat → Prop} {t d : Option Addr} {T : TM} {g : G} {i : Int} {K : Value → Heap → Prop} (x : Tx h F t d T) (ok : g.ok)
    (h1 : ¬ (0 ≤ i ∧ i < g.blocks) → ∀ h', Fr No h h' → K (.tuple #[.int .i64 0, .slice none 0 0, .int .i64 0, .int .i64 31]) h')
    (h2 : 0 ≤ i → i < g.blocks → ∀ a l c h', Fr No h h' → l = (T.read (g.at_ i.toNat)).1.length → Sl h' 1 a l c ((T.read (g.at_ i.toNat)).1.map bv) (From h.size) →
      K (.tuple #[.int .i64 (g.at_ i.toNat), .slice a l c, .int .i64 (i.toNat % 4096 : Nat), .int .i64 (T.read (g.at_ i.toNat)).2]) h') : C.space_bit t g.v i h K := by
  refine space_bit.ok (New.intro fun h3 n3 => ⟨g.v, rfl, cellsAll n3.rd, ?_⟩)
  refine geo_Bit_spec ok (fun hb h4 f4 => ⟨_, _, _, rfl, ct rfl (h1 hb h4 (n3.fr.no f4))⟩) fun h0 hb h4 f4 => ⟨_, _, _, rfl, cf rfl ?_⟩
  have f := n3.fr.no f4
  refine Read_spec (x.no f) fun a l c h5 f5 hl s => ⟨_, _, _, _, rfl, ?_⟩
  exact h2 h0 hb a l c h5 (f.no f5) hl (s.mono fun b hb => Nat.le_trans f.size hb)
theorem Used_spec {h : Heap} {F : Nat → Prop} {t d : Option Addr} {T : TM} {g : G} {i : Int} {K : Value → Heap → Prop} (x : Tx h F t d T) (ok : g.ok)
    (h1 : ¬ (0 ≤ i ∧ i < g.blocks) → ∀ h', Fr No h h' → K (.tuple #[.bool false, .int .i64 31]) h')
    (h2 : 0 ≤ i → i < g.blocks → (T.read (g.at_ i.toNat)).2 ≠ 0 → ∀ h', Fr No h h' → K (.tuple #[.bool false, .int .i64 (T.read (g.at_ i.toNat)).2]) h')
    (h3 : 0 ≤ i → i < g.blocks → (T.read (g.at_ i.toNat)).2 = 0 → ∀ h', Fr No h h' → K (.tuple #[.bool (bitAt (T.read (g.at_ i.toNat)).1 (i.toNat % 4096)), .int .i64 0]) h') : C.space_Used t g.v i h K := by
  refine space_Used.ok (New.intro fun h4 n4 => ⟨g.v, rfl, cellsAll n4.rd, ?_⟩)
  refine bit_spec (x.no n4.fr) ok (fun hb h5 f5 => ⟨_, _, _, _, _, _, rfl, ct rfl (h1 hb h5 (n4.fr.no f5))⟩) fun h0 hb a l c h5 f5 hl s => ⟨_, _, _, _, _, _, rfl, cn (fun he => h2 h0 hb he h5 (n4.fr.no f5)) fun he => ?_⟩
  have hlen := Tx.readLen x he
  refine Get_spec s.str (by omega) (fun hn => absurd ⟨by omega, by omega⟩ hn) fun _ _ => ⟨_, _, rfl, ?_⟩
  exact h3 h0 hb he h5 (n4.fr.no f5)
theorem set_spec {h : Heap} {F : Nat → Prop} {t d : Option Addr} {T : TM} {g : G} {i : Int} {on : Bool} {K : Value → Heap → Prop} (x : Tx h F t d T) (ok : g.ok) (h0 : 0 ≤ i) (h1 : i < g.blocks) (hu : T.undo.length < 1000000000)
    (hK : ∀ h' F', Fr F h h' → Gw h F h' F' → Tx h' F' t d (setBit T g i.toNat on).1 → K (.int .i64 (setBit T g i.toNat on).2) h') : C.space_set t g.v i on h K := by
  refine space_set.ok (New.intro fun h4 n4 => ⟨g.v, rfl, cellsAll n4.rd, ?_⟩)
  have x4 := x.no n4.fr
  refine bit_spec x4 ok (fun hb => absurd ⟨h0, h1⟩ hb) fun _ _ a l c h5 f5 hl s => ⟨_, _, _, _, _, _, rfl, cn (fun he => ?_) fun he => ?_⟩
  · have e : setBit T g i.toNat on = (T, (T.read (g.at_ i.toNat)).2) := by unfold setBit; rw [if_pos he]
    rw [e] at hK
    have f := n4.fr.no f5
    exact hK h5 F (f.mono fun _ _ y => y.elim) (Gw.refl f.size fun b hb => x.lt hb) (x.no f)
  · have hlen := Tx.readLen x he
    have e : setBit T g i.toNat on = T.write (g.at_ i.toNat) (putBit (T.read (g.at_ i.toNat)).1 (i.toNat % 4096) on) := by unfold setBit; rw [if_neg (by rw [he]; simp)]
    rw [e] at hK
    obtain ⟨p, ep, _⟩ := s.get (by omega)
    subst ep
    obtain ⟨pb, po, sp⟩ := p
    have esp : sp = none := s.2.1
    subst esp
    refine Put_spec s (by omega) (fun hn => absurd ⟨by omega, by omega⟩ hn) fun _ _ h6 f6 z6 s6 => ⟨_, rfl, cf rfl ?_⟩
    have f := n4.fr.no f5
    have hfrom : h4.size ≤ pb := s.2.2.1
    have f6' : Fr No h h6 := f.trans f6 fun b hb e => by have := n4.size; omega
    have e2 : ((i.toNat % 4096 : Nat) : Int).toNat = i.toNat % 4096 := rfl
    rw [e2] at s6
    refine Write_spec (x.no f6') s6.str (by omega) (fun q eq y => ?_) hu fun h7 F7 f7 g7 x7 => ⟨_, rfl, hK h7 F7 ?_ ?_ x7⟩
    · cases eq
      have y : F pb := y
      have := x.lt y
      have := n4.size
      omega
    · exact (f6'.mono fun _ _ y => y.elim).trans f7 fun _ _ y => y
    · exact (Gw.refl f6'.size fun b hb => x.lt hb).trans g7 f6'.size
theorem Give_spec {h : Heap} {F : Nat → Prop} {t d : Option Addr} {T : TM} {g : G} {i : Int} {K : Value → Heap → Prop} (x : Tx h F t d T) (ok : g.ok) (hu : T.undo.length < 1000000000)
    (hK : ∀ h' F', Fr F h h' → Gw h F h' F' → Tx h' F' t d (give T g i).1 → K (.int .i64 (give T g i).2) h') : C.space_Give t g.v i h K := by
  refine space_Give.ok (New.intro fun h4 n4 => ⟨_, rda n4.rd rfl, ?_⟩)
  have same : ∀ e h5, Fr No h h5 → give T g i = (T, e) → K (.int .i64 e) h5 := fun e h5 f e0 => by
    rw [e0] at hK
    exact hK h5 F (f.mono fun _ _ y => y.elim) (Gw.refl f.size fun b hb => x.lt hb) (x.no f)
  refine cd (fun hn => same 91 h4 n4.fr (by unfold give; rw [if_pos (.inl hn)])) fun h0 => ⟨_, rda n4.rd rfl, cd (fun hn => same 91 h4 n4.fr (by unfold give; rw [if_pos (.inr hn)])) fun hb => ?_⟩
  have hr : ¬ (i < g.data ∨ i ≥ g.blocks) := by omega
  refine ⟨g.v, rfl, cellsAll n4.rd, Used_spec (x.no n4.fr) ok (fun hn => absurd ⟨by omega, by omega⟩ hn) (fun _ _ he h5 f5 => ⟨_, _, rfl, cn (fun _ => ?_) fun e => absurd e he⟩) fun _ _ he h5 f5 => ⟨_, _, rfl, cf rfl (cnot (cs (fun hon => ?_) fun hoff => ?_))⟩⟩
  · exact same _ h5 (n4.fr.no f5) (by unfold give; rw [if_neg hr, if_pos he])
  · have e0 : give T g i = setBit T g i.toNat false := by unfold give; rw [if_neg hr, if_neg (by rw [he]; simp), if_neg (by rw [hon]; simp)]
    rw [e0] at hK
    have f := n4.fr.no f5
    refine ⟨g.v, rfl, Cells.fr f5 (cellsAll n4.rd) (fun y => y), set_spec (x.no f) ok (by omega) (by omega) hu fun h6 F6 f6 g6 x6 => ⟨_, rfl, hK h6 F6 ?_ ?_ x6⟩⟩
    · exact (f.mono fun _ _ y => y.elim).trans f6 fun _ _ y => y
    · exact (Gw.refl f.size fun b hb => x.lt hb).trans g6 f.size
  · exact same _ h5 (n4.fr.no f5) (by unfold give; rw [if_neg hr, if_neg (by rw [he]; simp), if_pos hoff])
end Go.Proofs.YtcdpakjhjmchhaaDoor.Spc
namespace Go.Proofs.YtcdpakjhjmchhaaDoor.Spc
open Go Go.Proofs Go.Proofs.YtcdpakjhjmchhaaDoor.Wx Go.Proofs.YtcdpakjhjmchhaaDoor.Hp Go.Proofs.YtcdpakjhjmchhaaDoor.W Go.Proofs.YtcdpakjhjmchhaaDoor.Ad Go.Proofs.YtcdpakjhjmchhaaDoor.Tm Go.Proofs.YtcdpakjhjmchhaaDoor.Bt Go.Proofs.YtcdpakjhjmchhaaDoor.Rg
theorem Runs_spec {A : Option Addr} {l c : Nat} {bs : Txt} {h : Heap} {K : Value → Heap → Prop} (B : StrAt h A l bs) (h0 : 0 < l) (hl : l ≤ 140737488355328)
    (hK : ∀ cb A' c' h', Fr No h h' → h.size ≤ cb → cb < h'.size → rd h' cb = [.slice A' l c'] → Sl h' 1 A' l c' (bs.map bv) (fun b => h.size ≤ b ∧ b < h'.size) → K (.func (.func 130) #[] ⟨[.pointer (some ⟨cb, 0, none⟩)]⟩) h') : C.bits_Runs A l c h K := by
  refine bits_Runs.ok (New.intro fun h2 n2 => ?_)
  have z2 := n2.size
  obtain ⟨s1, s2, s3⟩ := StrAt.src (StrAt.fr n2.fr B (fun _ _ x => x))
  have S0 : Sl h2 1 (some ⟨h.size, 0, none⟩) 0 0 [] (fun b => b = h.size) := ⟨rfl, rfl, rfl, n2.own, Nat.le_refl _, rfl, Nat.zero_le _⟩
  refine ⟨_, s1, s2, s3, append_own S0 s1 rfl (by show (0 + l) * 1 ≤ _; omega) (by omega) fun a' c' h3 f3 s => New.intro fun h4 n4 => ?_⟩
  have z3 := f3.size
  have z4 := n4.size
  rw [Nat.zero_add] at s ⊢
  rw [List.nil_append] at s
  have s := sl_rng s
  refine Put.intro n4.own (by rw [n4.rd]; exact Nat.one_pos) fun h5 d5 => ?_
  have z5 := d5.size
  have f : Fr No h h5 := ((n2.fr.trans f3 fun b hb e => by have e : b = h.size := e; omega).new n4).did d5 fun hh => by omega
  refine hK h3.size a' c' h5 f (by omega) (by omega) (by rw [d5.rd, n4.rd]; rfl) (((s.fr n4.fr fun _ _ _ x => x).fr d5.fr fun b hb hF e => ?_).mono fun b hb => ?_)
  · have e : b = h3.size := e
    have := hF.2
    omega
  · obtain ⟨hb, hb2⟩ := hb
    refine ⟨?_, by omega⟩
    rcases hb with hb | hb
    · omega
    · omega
/-- what a loop over the rows of a bitmap block leaves alone -/
structure Rw (n cb e : Nat) (g : G) (first : Nat) (do1 : Value) (A : Option Addr) (l c : Nat) (bs : Txt) (hh : Heap) : Prop where
  size : e + 1 < hh.size
  n1 : n + 3 ≤ cb
  n2 : cb < e
  r1 : rd hh n = g.v
  r2 : rd hh (n + 1) = [.int .i64 first]
  r3 : rd hh (n + 2) = [do1]
  r4 : rd hh cb = [.slice A l c]
  s : StrAt hh A l bs
  sb : ∀ p, A = some p → n + 3 ≤ p.block ∧ p.block < e
  d : hh[e]? = some (.deferred (some []))
theorem Rw.step {n cb e first l c : Nat} {g : G} {do1 : Value} {A : Option Addr} {bs : Txt} {hh hh' : Heap} {F : Nat → Prop} (b : Rw n cb e g first do1 A l c bs hh) (f : Fr F hh hh') (hF : ∀ x, F x → x < n ∨ x = e + 1) : Rw n cb e g first do1 A l c bs hh' := by
  have z := f.size
  have s := b.size
  have n1 := b.n1
  have n2 := b.n2
  have k : ∀ x, n ≤ x → x ≤ e → ¬ F x := fun x h1 h2 y => by have := hF x y; omega
  exact ⟨by omega, n1, n2, (f.rd (by omega) (k _ (by omega) (by omega))).trans b.r1, (f.rd (by omega) (k _ (by omega) (by omega))).trans b.r2, (f.rd (by omega) (k _ (by omega) (by omega))).trans b.r3, (f.rd (by omega) (k _ (by omega) (by omega))).trans b.r4,
    StrAt.fr f b.s fun p ep => k _ (by have := b.sb p ep; omega) (by have := b.sb p ep; omega), b.sb, (f.same _ (by omega) (k _ (by omega) (by omega))).trans b.d⟩
/-- a block of the data, and free -/
def isF (g : G) (first : Nat) (bs : Txt) (t : Nat) : Prop := bitAt bs t = false ∧ g.data ≤ first + t ∧ first + t < g.blocks
theorem rows_spec {g : G} {first : Nat} {A : Option Addr} {l c : Nat} {bs : Txt} {do1 : Value} {h : Heap} {K : Value → Heap → Prop} (B : StrAt h A l bs) (hl0 : 0 < l) (hl : l ≤ 1099511627776) (ok : g.ok) (hf : first ≤ 9007199254740992) (hdo : cellsL do1 = [do1])
    (J : Nat → Heap → Prop) (E : Heap → Prop) (hJ : ∀ i hh hh', J i hh → Fr (From h.size) hh hh' → J i hh') (hE : ∀ hh hh', E hh → Fr (From h.size) hh hh' → E hh')
    (hskip : ∀ i j hh, J i hh → i ≤ j → j ≤ 8 * l → (∀ t, i ≤ t → t < j → ¬ isF g first bs t) → J j hh)
    (hD : ∀ (i j a b : Nat) hh, J i hh → i ≤ j → j ≤ 8 * l → first + i ≤ a → a < b → b ≤ first + j → (∀ t, i ≤ t → t < j → (isF g first bs t ↔ a ≤ first + t ∧ first + t < b)) →
      HCallsV Tryd.prog do1 [.int .i64 a, .int .i64 b] hh fun v h' => ∃ r, v = .bool r ∧ Fr (fun x => x < h.size) hh h' ∧ (r = true → J j h') ∧ (r = false → E h'))
    (h0 : J 0 h) (hK : ∀ hh, (J (8 * l) hh ∨ E hh) → K (.tuple #[]) hh) : C.space_rows g.v first A l c do1 h K := by
  refine space_rows.ok (New.intro fun h2 n2 => New.intro fun h3 n3 => New.intro fun h4 n4 => ?_)
  have z2 := n2.size
  have z3 := n3.size
  have z4 := n4.size
  have e2 : h2.size = h.size + 1 := z2
  have e3 : h3.size = h.size + 2 := by omega
  have F4 : Fr No h h4 := (n2.fr.new n3).new n4
  have B4 := StrAt.fr F4 B fun _ _ x => x
  refine Runs_spec B4 hl0 (by omega) fun cb A' c' h5 f5 cb1 cb2 r5 s5 => ⟨_, rfl, fun R rounds => ?_⟩
  have z5 := f5.size
  have F5 : Fr No h h5 := F4.no f5
  rw [e2, e3] at rounds
  have Fb := beginL_fr h5 R
  have on0 := beginL_on h5 R
  have d0 := beginL_d h5 R
  have zb := beginL_size h5 R
  have fb : ∀ b, b < h5.size → rd (beginL h5 R) b = rd h5 b := fun b hb => Fb.rd hb fun x => x
  have g1 : rd h5 h.size = g.v := (f5.rd (by omega) fun x => x).trans ((n4.at_ (by omega)).trans ((n3.at_ (by omega)).trans n2.rd))
  have g2 : rd h5 (h.size + 1) = [.int .i64 first] := by have := n3.rd; rw [e2] at this; exact (f5.rd (by omega) fun x => x).trans ((n4.at_ (by omega)).trans this)
  have g3 : rd h5 (h.size + 2) = [do1] := by have := n4.rd; rw [e3, hdo] at this; exact (f5.rd (by omega) fun x => x).trans this
  have W0 : Rw h.size cb h5.size g first do1 A' l c' bs (beginL h5 R) := by
    refine ⟨by omega, by omega, cb2, (fb _ (by omega)).trans g1, (fb _ (by omega)).trans g2, (fb _ (by omega)).trans g3, (fb _ (by omega)).trans r5, StrAt.fr Fb s5.str fun _ _ x => x, fun p ep => ?_, d0⟩
    subst ep
    have := s5.2.2.1
    have h1 : h4.size ≤ p.block := this.1
    have h2 : p.block < h5.size := this.2
    exact ⟨by omega, h2⟩
  have J0 : J 0 (beginL h5 R) := hJ _ _ _ h0 ((F5.no Fb).mono fun _ _ x => x.elim)
  show C.bits_Runs_c1 (.func (.yield (h5.size + 1)) #[] #[]) (some ⟨cb, 0, none⟩) (beginL h5 R) _
  have fin : ∀ (st : LoopState) (pend : Option Code) (h9 : Heap), (st = .ready ∧ pend = none ∨ st = .done ∧ pend = some .ret) → LoopOn h9 (h5.size + 1) R st pend → Rw h.size cb h5.size g first do1 A' l c' bs h9 → (J (8 * l) h9 ∨ E h9) →
      ∃ (st1 : LoopState) (pend1 : Option Code), LoopOn h9 (h5.size + 1) R st1 pend1 ∧ st1 ≠ .busy ∧ pendX pend1 (SetL h9 (h5.size + 1) R .exhausted pend1 fun h10 => EndD h5.size h10 fun h11 => K (.tuple #[]) h11) (SetL h9 (h5.size + 1) R .exhausted pend1 fun h12 => EndD h5.size h12 fun h13 => K (.tuple #[]) h13) (fun _ => False) := by
    intro st pend h9 hs on9 W9 je
    have size9 := W9.size
    have out : SetL h9 (h5.size + 1) R .exhausted pend fun h10 => EndD h5.size h10 fun h11 => K (.tuple #[]) h11 := by
      refine setL_intro size9 fun h10 t10 => ?_
      have W10 := W9.step t10.fr fun b e => .inr e
      refine endD_intro W10.d fun h11 z11 f11 => hK h11 ?_
      have f : Fr (From h.size) h9 h11 := (t10.fr.mono fun b _ e => by show h.size ≤ b; omega).trans f11 fun b _ e => by show h.size ≤ b; omega
      rcases je with j | j
      · exact .inl (hJ _ _ _ j f)
      · exact .inr (hE _ _ j f)
    rcases hs with ⟨rfl, rfl⟩ | ⟨rfl, rfl⟩
    · exact ⟨.ready, none, on9, (by intro x; cases x), pend_none out⟩
    · exact ⟨.done, some .ret, on9, (by intro x; cases x), pend_ret out⟩
  refine runs_iter (l := h5.size + 1) (A := A') (sl := l) (c := c') (bs := bs) hl (fun i hh => J i hh ∧ Rw h.size cb h5.size g first do1 A' l c' bs hh ∧ LoopOn hh (h5.size + 1) R .ready none) (fun i hh q => ⟨q.2.1.r4, q.2.1.s⟩) (fun i f n hh q hif hn hfl hon hoff => ?_) ⟨J0, W0, on0⟩ fun i hh q hi hon => ?_
  · obtain ⟨j, W, o⟩ := q
    have b1 := ok.b
    have b2 := ok.d
    refine rounds (f : Int) (n : Int) hh _ o ⟨o, setL_intro W.size fun h7 t7 => ?_⟩
    have W7 := W.step t7.fr fun b e => .inr e
    have j7 : J i h7 := hJ _ _ _ j (t7.fr.mono fun b _ e => by show h.size ≤ b; omega)
    have s7 := W7.size
    refine ⟨_, rdc W7.r2 rfl, _, rda W7.r1 rfl, _, rdc W7.r2 rfl, _, rda W7.r1 rfl, ?_⟩
    rw [wrap_i64 (n := (first : Int) + f) (by omega) (by omega), wrap_i64 (n := (first : Int) + f + n) (by omega) (by omega)]
    obtain ⟨a, ea, la, la2, la3⟩ : ∃ a : Nat, (if (g.data : Int) > (first : Int) + f then (g.data : Int) else (first : Int) + f) = (a : Int) ∧ g.data ≤ a ∧ first + f ≤ a ∧ (a = g.data ∨ a = first + f) := by
      split
      · exact ⟨g.data, rfl, Nat.le_refl _, by omega, .inl rfl⟩
      · exact ⟨first + f, by omega, by omega, Nat.le_refl _, .inr rfl⟩
    obtain ⟨b, eb, lb, lb2, lb3⟩ : ∃ b : Nat, (if (g.blocks : Int) < (first : Int) + f + n then (g.blocks : Int) else (first : Int) + f + n) = (b : Int) ∧ b ≤ g.blocks ∧ b ≤ first + f + n ∧ (b = g.blocks ∨ b = first + f + n) := by
      split
      · exact ⟨g.blocks, rfl, Nat.le_refl _, by omega, .inl rfl⟩
      · exact ⟨first + f + n, by omega, by omega, Nat.le_refl _, .inr rfl⟩
    rw [ea, eb]
    have iff : ∀ t, i ≤ t → t < f + n → (isF g first bs t ↔ a ≤ first + t ∧ first + t < b) := by
      intro t h1 h2
      unfold isF
      rcases Nat.lt_or_ge t f with h3 | h3
      · rw [hon t h1 h3]
        exact ⟨fun x => absurd x.1 (by simp), fun x => by omega⟩
      · rw [hoff t h3 h2]
        exact ⟨fun x => by omega, fun x => ⟨rfl, by omega, by omega⟩⟩
    refine cd (fun hab => ?_) fun hab => ?_
    · refine ⟨_, rdc W7.r3 rfl, ?_⟩
      refine hv_mono (hD i (f + n) a b h7 j7 (by omega) (by omega) (by omega) (by omega) (by omega) iff) fun v h8 q => ?_
      obtain ⟨r, rfl, f8, q1, q2⟩ := q
      have W8 := W7.step f8 fun b e => .inl e
      have s8 := W8.size
      have on8 : LoopOn h8 (h5.size + 1) R .busy none := loopOn_fr t7.on f8 (by omega)
      have t9 : ∀ st p, Turned (h5.size + 1) R st p h8 (setLoop h8 (h5.size + 1) R st p) := fun st p => turned s8 R st p
      refine ⟨r, rfl, cnot ?_⟩
      cases r with
      | true =>
        have t9 := t9 .ready none
        refine ct rfl ⟨on8, .inl ⟨rfl, hJ _ _ _ (q1 rfl) (t9.fr.mono fun b _ e => by show h.size ≤ b; omega), W8.step t9.fr fun b e => .inr e, t9.on⟩⟩
      | false =>
        have t9 := t9 .done (some .ret)
        exact cf rfl ⟨on8, .inr ⟨rfl, fin .done (some .ret) _ (.inr ⟨rfl, rfl⟩) t9.on (W8.step t9.fr fun b e => .inr e) (.inr (hE _ _ (q2 rfl) (t9.fr.mono fun b _ e => by show h.size ≤ b; omega)))⟩⟩
    · have t9 := turned s7 R .ready none
      have j' : J (f + n) h7 := hskip i (f + n) h7 j7 (by omega) (by omega) fun t h1 h2 y => by have := (iff t h1 h2).mp y; omega
      exact ⟨t7.on, .inl ⟨rfl, hJ _ _ _ j' (t9.fr.mono fun b _ e => by show h.size ≤ b; omega), W7.step t9.fr fun b e => .inr e, t9.on⟩⟩
  · obtain ⟨j, W, o⟩ := q
    exact fin .ready none hh (.inl ⟨rfl, rfl⟩) o W (.inl (hskip i (8 * l) hh j hi (Nat.le_refl _) fun t h1 h2 y => by have := y.1; rw [hon t h1 h2] at this; cases this))
theorem each_spec {do1 : Value} {g : G} {h : Heap} {F : Nat → Prop} {t d : Option Addr} {T : TM} {K : Value → Heap → Prop} (ok : g.ok) (hbi : g.bitmap ≤ g.inodes)
    (J : Nat → Heap → Prop) (E : Heap → Prop) (hx : ∀ k hh, J k hh → Tx hh F t d T) (hJ : ∀ k hh hh', J k hh → Fr (From h.size) hh hh' → J k hh')
    (hD : ∀ k hh A l c, J k hh → g.bitmap ≤ k → k < g.inodes → (T.read k).2 = 0 → StrAt hh A l (T.read k).1 →
      HCallsV Tryd.prog do1 [.int .i64 (4096 * (k - g.bitmap) : Nat), .slice A l c] hh fun v h' => ∃ r, v = .bool r ∧ Fr (fun x => x < h.size) hh h' ∧ (r = true → J (k + 1) h') ∧ (r = false → E h'))
    (h0 : J g.bitmap h) (hend : ∀ hh, J g.inodes hh → K (.int .i64 0) hh) (hE : ∀ hh, E hh → K (.int .i64 0) hh)
    (hbad : ∀ k hh, J k hh → g.bitmap ≤ k → k < g.inodes → (T.read k).2 ≠ 0 → K (.int .i64 (T.read k).2) hh) : C.space_each t g.v do1 h K := by
  have b2 := ok.m
  have b3 := ok.i
  refine space_each.ok (New.intro fun h2 n2 => ⟨_, rda n2.rd rfl, ?_⟩)
  have z2 := n2.size
  refine ⟨fun k hh => ∃ n : Nat, k = n ∧ g.bitmap ≤ n ∧ n ≤ g.inodes ∧ J n hh ∧ rd hh h.size = g.v ∧ h.size < hh.size, fun k _ => (g.inodes - k).toNat,
    ⟨g.bitmap, rfl, Nat.le_refl _, hbi, hJ _ _ _ h0 (n2.fr.mono fun _ _ x => x.elim), n2.rd, by omega⟩, ?_⟩
  rintro _ h3 ⟨k, rfl, k0, k1, j, r, s3⟩
  refine ⟨_, rda r rfl, cd (fun hk => ?_) fun hk => ?_⟩
  · refine Read_spec (hx _ _ j) fun a l c h4 f4 hl s => ⟨_, _, _, _, rfl, ?_⟩
    have j4 : J k h4 := hJ _ _ _ j (f4.mono fun _ _ x => x.elim)
    have z4 := f4.size
    have r4 : rd h4 h.size = g.v := (f4.rd s3 fun x => x).trans r
    refine cn (fun he => hbad k h4 j4 k0 (by omega) he) fun he => ⟨_, rda r4 rfl, ?_⟩
    rw [wrap_i64 (n := (k : Int) - g.bitmap) (by omega) (by omega), wrap_i64 (n := 4096 * ((k : Int) - g.bitmap)) (by omega) (by omega)]
    rw [show 4096 * ((k : Int) - g.bitmap) = ((4096 * (k - g.bitmap) : Nat) : Int) by omega]
    refine hv_mono (hD k h4 a l c j4 k0 (by omega) he s.str) fun v h5 q => ?_
    obtain ⟨b, rfl, f5, q1, q2⟩ := q
    refine ⟨b, rfl, cnot ?_⟩
    cases b with
    | true =>
      refine ct rfl ?_
      rw [wrap_i64 (n := (k : Int) + 1) (by omega) (by omega)]
      have z5 := f5.size
      refine ⟨⟨k + 1, rfl, by omega, by omega, q1 rfl, (f5.rd (by omega) (by omega)).trans r4, by omega⟩, by show ((g.inodes : Int) - ((k : Int) + 1)).toNat < ((g.inodes : Int) - (k : Int)).toNat; omega⟩
    | false => exact cf rfl (hE h5 (q2 rfl))
  · have : k = g.inodes := by omega
    subst this
    exact hend h3 j
end Go.Proofs.YtcdpakjhjmchhaaDoor.Spc
namespace Go.Proofs.YtcdpakjhjmchhaaDoor.Spc
open Go Go.Proofs Go.Proofs.YtcdpakjhjmchhaaDoor.Wx Go.Proofs.YtcdpakjhjmchhaaDoor.Hp Go.Proofs.YtcdpakjhjmchhaaDoor.W Go.Proofs.YtcdpakjhjmchhaaDoor.Ad Go.Proofs.YtcdpakjhjmchhaaDoor.Tm Go.Proofs.YtcdpakjhjmchhaaDoor.Bt Go.Proofs.YtcdpakjhjmchhaaDoor.Rg
/-- a data block that is free -/
def FreeAt (T : TM) (g : G) (m : Nat) : Prop := bitAt (T.read (g.at_ m)).1 (m % 4096) = false ∧ g.data ≤ m ∧ m < g.blocks
instance (T : TM) (g : G) (m : Nat) : Decidable (FreeAt T g m) := by unfold FreeAt; exact inferInstance
theorem isF_iff {T : TM} {g : G} {k t : Nat} (hk : g.bitmap ≤ k) (ht : t < 4096) : isF g (4096 * (k - g.bitmap)) (T.read k).1 t ↔ FreeAt T g (4096 * (k - g.bitmap) + t) := by
  unfold isF FreeAt
  have e1 : g.at_ (4096 * (k - g.bitmap) + t) = (k : Int) := by
    unfold G.at_
    have : (4096 * (k - g.bitmap) + t) / 4096 = k - g.bitmap := by omega
    rw [this]; omega
  have e2 : (4096 * (k - g.bitmap) + t) % 4096 = t := by omega
  rw [e1, e2]
/-- how many are free below m -/
def cntTo (T : TM) (g : G) : Nat → Nat
  | 0 => 0
  | m + 1 => cntTo T g m + if FreeAt T g m then 1 else 0
theorem cnt_zero {T : TM} {g : G} {i : Nat} : ∀ d, (∀ t, i ≤ t → t < i + d → ¬ FreeAt T g t) → cntTo T g (i + d) = cntTo T g i
  | 0, _ => rfl
  | d + 1, h => by
    show cntTo T g (i + d) + (if FreeAt T g (i + d) then 1 else 0) = _
    rw [if_neg (h (i + d) (by omega) (by omega)), cnt_zero d fun t h1 h2 => h t h1 (by omega)]; rfl
theorem cnt_full {T : TM} {g : G} {i : Nat} : ∀ d, (∀ t, i ≤ t → t < i + d → FreeAt T g t) → cntTo T g (i + d) = cntTo T g i + d
  | 0, _ => rfl
  | d + 1, h => by
    show cntTo T g (i + d) + (if FreeAt T g (i + d) then 1 else 0) = _
    rw [if_pos (h (i + d) (by omega) (by omega)), cnt_full d fun t h1 h2 => h t h1 (by omega)]; omega
theorem cnt_run {T : TM} {g : G} {i j a b : Nat} (h1 : i ≤ a) (h2 : a ≤ b) (h3 : b ≤ j) (h : ∀ t, i ≤ t → t < j → (FreeAt T g t ↔ a ≤ t ∧ t < b)) : cntTo T g j = cntTo T g i + (b - a) := by
  have e1 := cnt_zero (T := T) (g := g) (i := i) (a - i) fun t x y z => by have := (h t x (by omega)).mp z; omega
  have e2 := cnt_full (T := T) (g := g) (i := a) (b - a) fun t x y => (h t (by omega) (by omega)).mpr ⟨x, by omega⟩
  have e3 := cnt_zero (T := T) (g := g) (i := b) (j - b) fun t x y z => by have := (h t (by omega) (by omega)).mp z; omega
  rw [show i + (a - i) = a by omega] at e1
  rw [show a + (b - a) = b by omega] at e2
  rw [show b + (j - b) = j by omega] at e3
  omega
theorem cnt_le (T : TM) (g : G) : ∀ m, cntTo T g m ≤ m
  | 0 => Nat.le_refl _
  | m + 1 => by
    have := cnt_le T g m
    show cntTo T g m + (if _ then 1 else 0) ≤ _
    split <;> omega
/-- the cells of Free -/
structure Fk (n : Nat) (h : Heap) (g : G) (x : Int) (hh : Heap) : Prop where
  f : Fr No h hh
  e : n = h.size
  size : n + 2 ≤ hh.size
  r1 : rd hh n = g.v
  o2 : Own hh (n + 1)
  r2 : rd hh (n + 1) = [.int .i64 x]
theorem Fk.step {n : Nat} {h hh hh' : Heap} {g : G} {x : Int} {F : Nat → Prop} (a : Fk n h g x hh) (f : Fr F hh hh') (hF : ∀ b, F b → n + 2 ≤ b) : Fk n h g x hh' := by
  have z := f.size
  have s := a.size
  have e := a.e
  have k : ∀ b, b < n + 2 → ¬ F b := fun b hb y => by have := hF b y; omega
  exact ⟨a.f.trans f fun b hb y => (k b (by omega) y).elim, e, by omega, (f.rd (by omega) (k _ (by omega))).trans a.r1, f.own a.o2.lt (k _ (by omega)) a.o2, (f.rd (by omega) (k _ (by omega))).trans a.r2⟩
theorem Fk.put {n : Nat} {h hh hh' : Heap} {g : G} {x y : Int} (a : Fk n h g x hh) (d : Did (n + 1) hh hh' ((rd hh (n + 1)).set 0 (.int .i64 y))) : Fk n h g y hh' := by
  have s := a.size
  have e := a.e
  exact ⟨a.f.did d fun hb => by omega, e, by rw [d.size]; exact s, (d.at_ (by omega) (by omega)).trans a.r1, d.own, by rw [d.rd, a.r2]; rfl⟩
theorem Free_spec {h : Heap} {F : Nat → Prop} {t d : Option Addr} {T : TM} {g : G} {K : Value → Heap → Prop} (x : Tx h F t d T) (ok : g.ok) (hbi : g.bitmap ≤ g.inodes)
    (hbad : ∀ k : Nat, g.bitmap ≤ k → k < g.inodes → (T.read k).2 ≠ 0 → ∀ h', Fr No h h' → K (.tuple #[.int .i64 0, .int .i64 (T.read k).2]) h')
    (hK : ∀ h', Fr No h h' → K (.tuple #[.int .i64 (cntTo T g (4096 * (g.inodes - g.bitmap))), .int .i64 0]) h') : C.space_Free t g.v h K := by
  refine space_Free.ok (New.intro fun h2 n2 => New.intro fun h3 n3 => ?_)
  have z2 := n2.size
  have z3 := n3.size
  have e2 : h2.size = h.size + 1 := z2
  have b2 := ok.m
  have b3 := ok.i
  refine Put.intro n3.own (by rw [n3.rd]; exact Nat.one_pos) fun h4 d4 => ?_
  have z4 := d4.size
  have k4 : Fk h.size h g 0 h4 := by
    have r := d4.rd
    have o := d4.own
    rw [n3.rd] at r
    rw [e2] at r o
    exact ⟨(n2.fr.new n3).did d4 fun hb => by omega, rfl, by omega, (d4.at_ (by omega) (by omega)).trans ((n3.at_ (by omega)).trans n2.rd), o, r⟩
  rw [e2]
  refine ⟨g.v, rfl, cellsAll k4.r1, ?_⟩
  refine each_spec (T := T) (F := F) (d := d) ok hbi (fun k hh => Fk h.size h g (cntTo T g (4096 * (k - g.bitmap)) : Nat) hh) (fun _ => False) (fun k hh j => x.no j.f) (fun k hh hh' j f => j.step f fun b hb => by have hb : h4.size ≤ b := hb; omega) (fun k hh A l c j hk0 hk1 he B => ?_) ?_
    (fun hh j => ⟨_, rfl, cf rfl ⟨_, rdc j.r2 rfl, hK hh j.f⟩⟩) (fun hh e => e.elim) fun k hh j hk0 hk1 he => ⟨_, rfl, cn (fun _ => hbad k hk0 hk1 he hh j.f) fun e => absurd e he⟩
  · have hlen := Tx.readLen x he
    have hl : l = 512 := by rw [← B.1]; exact hlen
    subst hl
    have sz := j.size
    show C.space_Free_c1 _ A 512 c (some ⟨h.size, 0, none⟩) (some ⟨h.size + 1, 0, none⟩) hh _
    refine space_Free_c1.ok (os ⟨g.v, rfl, cellsAll j.r1, ?_⟩)
    refine rows_spec B (by omega) (by omega) ok (by omega) rfl (fun i hx => Fk h.size h g (cntTo T g (4096 * (k - g.bitmap) + i) : Nat) hx ∧ Fr (fun b => b = h.size + 1) hh hx) (fun _ => False) (fun i hx hx' q f => ⟨q.1.step f fun b hb => by have hb : hh.size ≤ b := hb; omega, q.2.trans f fun b hb y => by have y : hh.size ≤ b := y; omega⟩)
      (fun _ _ e _ => e.elim) (fun i j' hx q h1 h2 h3 => ?_) (fun i j' a b hx q h1 h2 h3 h4 h5 h6 => ?_) ⟨by rw [Nat.add_zero]; exact j, Fr.refl _ _⟩ fun hx q => ⟨rfl, true, rfl, ?_, ?_, fun x => by cases x⟩
    · have := cnt_zero (T := T) (g := g) (i := 4096 * (k - g.bitmap) + i) (j' - i) fun t x y z => by
        refine h3 (t - 4096 * (k - g.bitmap)) (by omega) (by omega) ((isF_iff hk0 (by omega)).mpr ?_)
        rw [show 4096 * (k - g.bitmap) + (t - 4096 * (k - g.bitmap)) = t by omega]; exact z
      rw [show 4096 * (k - g.bitmap) + i + (j' - i) = 4096 * (k - g.bitmap) + j' by omega] at this
      show Fk _ _ _ (cntTo T g (4096 * (k - g.bitmap) + j') : Nat) hx ∧ _
      rw [this]; exact q
    · show C.space_Free_c1_c1 _ _ (some ⟨h.size + 1, 0, none⟩) hx _
      have cl := cnt_le T g (4096 * (k - g.bitmap) + j')
      have := cnt_run (T := T) (g := g) (i := 4096 * (k - g.bitmap) + i) (j := 4096 * (k - g.bitmap) + j') (a := a) (b := b) (by omega) (by omega) (by omega) fun t x y => by
        have := h6 (t - 4096 * (k - g.bitmap)) (by omega) (by omega)
        rw [isF_iff hk0 (by omega), show 4096 * (k - g.bitmap) + (t - 4096 * (k - g.bitmap)) = t by omega] at this
        exact this
      refine space_Free_c1_c1.ok (os ⟨_, rdc q.1.r2 rfl, os (Put.intro q.1.o2 (by rw [q.1.r2]; exact Nat.one_pos) fun h7 d7 => ⟨true, rfl, d7.fr.mono fun b _ e => by show b < hh.size; omega, fun _ => ⟨?_, ?_⟩, fun e => by cases e⟩)⟩)
      · rw [wrap_i64 (n := (b : Int) - a) (by omega) (by omega), wrap_i64 (by omega) (by omega)] at d7
        have := q.1.put d7
        rw [show ((cntTo T g (4096 * (k - g.bitmap) + i) : Nat) : Int) + ((b : Int) - a) = ((cntTo T g (4096 * (k - g.bitmap) + j') : Nat) : Int) by omega] at this
        exact this
      · exact q.2.trans d7.fr fun _ _ e => e
    · rcases q with q | q
      · exact q.2.mono fun b _ e => by show b < h4.size; omega
      · exact q.elim
    · intro _
      rcases q with q | q
      · have := q.1
        rw [show 4096 * (k - g.bitmap) + 8 * 512 = 4096 * (k + 1 - g.bitmap) by omega] at this
        exact this
      · exact q.elim
  · show Fk _ _ _ (cntTo T g (4096 * (g.bitmap - g.bitmap)) : Nat) h4
    rw [Nat.sub_self]; exact k4
theorem tm_eta {T : TM} {p : List (Int × Txt)} {u : List (Int × Option Txt)} (h1 : p = T.put) (h2 : u = T.undo) : { T with put := p, undo := u } = T := by subst h1; subst h2; rfl
theorem back_id (T : TM) : (T.back T.undo.length).1 = T := by
  unfold TM.back
  split
  · rfl
  · split
    · rfl
    · refine tm_eta ?_ ?_
      · rw [show ((T.undo.length : Nat) : Int).toNat = T.undo.length from rfl, List.drop_length]; rfl
      · rw [show ((T.undo.length : Nat) : Int).toNat = T.undo.length from rfl, List.take_length]
theorem back_write {T : TM} {i : Int} {bs : Txt} (e : (T.write i bs).2 = 0) : ((T.write i bs).1.back T.undo.length).1 = T := by
  obtain ⟨h1, h2, h3, h4, h5, ew⟩ := TM.write_ok e
  rw [ew]
  unfold TM.back
  show (if T.over = true then _ else if ((T.undo.length : Nat) : Int) < 0 ∨ ((T.undo.length : Nat) : Int) > ((T.undo ++ [(i, aget T.put i)]).length : Nat) then _ else _ : TM × Int).1 = T
  rw [if_neg (by rw [h1]; simp), if_neg (by rw [List.length_append]; simp only [List.length_singleton]; omega)]
  refine tm_eta (T := T) ?_ ?_
  · show undoAll (aput T.put i bs) ((T.undo ++ [(i, aget T.put i)]).drop T.undo.length) = T.put
    rw [List.drop_left]
    show undo1 (aput T.put i bs) (i, aget T.put i) = _
    unfold undo1
    cases ea : aget T.put i with
    | none => exact adel_aput ea
    | some b => exact aput_aput ea
  · show (T.undo ++ [(i, aget T.put i)]).take T.undo.length = T.undo
    exact List.take_left
theorem rep_one (v : Value) : ∀ n, repCells [v] n = List.replicate n v
  | 0 => rfl
  | n + 1 => by
    show [v] ++ repCells [v] n = _
    rw [rep_one v n]; rfl
theorem setBit_bad {T : TM} {g : G} {m : Nat} {on : Bool} (e : (setBit T g m on).2 ≠ 0) : (setBit T g m on).1 = T := by
  unfold setBit at e ⊢
  split
  · rfl
  · rename_i h; rw [if_neg h] at e; exact TM.write_bad e
theorem setBit_good {T : TM} {g : G} {m : Nat} {on : Bool} (e : (setBit T g m on).2 = 0) : (T.read (g.at_ m)).2 = 0 ∧ setBit T g m on = T.write (g.at_ m) (putBit (T.read (g.at_ m)).1 (m % 4096) on) := by
  unfold setBit at e ⊢
  by_cases h : (T.read (g.at_ m)).2 ≠ 0
  · rw [if_pos h] at e; exact absurd e h
  · rw [if_neg h]; exact ⟨by omega, rfl⟩
theorem setBit_back {T : TM} {g : G} {m : Nat} {on : Bool} (e : (setBit T g m on).2 = 0) : ((setBit T g m on).1.back T.undo.length).1 = T := by
  obtain ⟨h1, h2⟩ := setBit_good e
  rw [h2] at e ⊢
  exact back_write e
theorem setBit_undo (T : TM) (g : G) (m : Nat) (on : Bool) : (setBit T g m on).1.undo.length ≤ T.undo.length + 1 := by
  by_cases e : (setBit T g m on).2 = 0
  · obtain ⟨h1, h2⟩ := setBit_good e
    rw [h2] at e ⊢
    obtain ⟨_, _, _, _, _, ew⟩ := TM.write_ok e
    rw [ew]
    show (T.undo ++ [_]).length ≤ _
    rw [List.length_append]; exact Nat.le_refl _
  · rw [setBit_bad e]; omega
theorem rep_zeros : repCells [.int .u8 0] (Int.toNat 512) = (List.replicate 512 (0 : UInt8)).map bv := by
  rw [List.map_replicate]
  show repCells [.int .u8 0] 512 = List.replicate 512 (.int .u8 0)
  exact rep_one _ 512
def zeros512 : Txt := List.replicate 512 0
/-- Take, when m is the lowest -/
def takeAt (T : TM) (g : G) (m : Nat) : TM × Int × Int :=
  if (setBit T g m true).2 ≠ 0 then (T, 0, (setBit T g m true).2) else
  if ((setBit T g m true).1.write m zeros512).2 ≠ 0 then (T, 0, ((setBit T g m true).1.write m zeros512).2) else
    (((setBit T g m true).1.write m zeros512).1, m, 0)
/-- the cells of Take -/
structure Tk (n : Nat) (h : Heap) (t : Option Addr) (g : G) (x : Int) (hh : Heap) : Prop where
  f : Fr No h hh
  e : n = h.size
  size : n + 4 ≤ hh.size
  r1 : rd hh n = [.pointer t]
  r2 : rd hh (n + 1) = g.v
  o3 : Own hh (n + 2)
  r3 : rd hh (n + 2) = [.int .i64 0]
  o4 : Own hh (n + 3)
  r4 : rd hh (n + 3) = [.int .i64 x]
theorem Tk.step {n : Nat} {h hh hh' : Heap} {t : Option Addr} {g : G} {x : Int} {F : Nat → Prop} (a : Tk n h t g x hh) (f : Fr F hh hh') (hF : ∀ b, F b → n + 4 ≤ b) : Tk n h t g x hh' := by
  have z := f.size
  have s := a.size
  have e := a.e
  have k : ∀ b, b < n + 4 → ¬ F b := fun b hb y => by have := hF b y; omega
  exact ⟨a.f.trans f fun b hb y => (k b (by omega) y).elim, e, by omega, (f.rd (by omega) (k _ (by omega))).trans a.r1, (f.rd (by omega) (k _ (by omega))).trans a.r2,
    f.own a.o3.lt (k _ (by omega)) a.o3, (f.rd (by omega) (k _ (by omega))).trans a.r3, f.own a.o4.lt (k _ (by omega)) a.o4, (f.rd (by omega) (k _ (by omega))).trans a.r4⟩
theorem Tk.put {n : Nat} {h hh hh' : Heap} {t : Option Addr} {g : G} {x y : Int} (a : Tk n h t g x hh) (d : Did (n + 3) hh hh' ((rd hh (n + 3)).set 0 (.int .i64 y))) : Tk n h t g y hh' := by
  have s := a.size
  have e := a.e
  exact ⟨a.f.did d fun hb => by omega, e, by rw [d.size]; exact s, (d.at_ (by omega) (by omega)).trans a.r1, (d.at_ (by omega) (by omega)).trans a.r2, d.ow a.o3, (d.at_ (by omega) (by omega)).trans a.r3, d.own, by rw [d.rd, a.r4]; rfl⟩
/-- and later on -/
structure Tq (n q : Nat) (t : Option Addr) (g : G) (x mk : Int) (hh : Heap) : Prop where
  lt : n + 4 ≤ q ∧ q < hh.size
  r1 : rd hh n = [.pointer t]
  r2 : rd hh (n + 1) = g.v
  o3 : Own hh (n + 2)
  l3 : (rd hh (n + 2)).length = 1
  r4 : rd hh (n + 3) = [.int .i64 x]
  r5 : rd hh q = [.int .i64 mk]
theorem Tq.step {n q : Nat} {hh hh' : Heap} {t : Option Addr} {g : G} {x mk : Int} {F : Nat → Prop} (a : Tq n q t g x mk hh) (f : Fr F hh hh') (hF : ∀ b, F b → n ≤ b → b ≤ q → False) : Tq n q t g x mk hh' := by
  have z := f.size
  have s := a.lt
  have k : ∀ b, n ≤ b → b ≤ q → ¬ F b := fun b h1 h2 y => hF b y h1 h2
  exact ⟨by omega, (f.rd (by omega) (k _ (by omega) (by omega))).trans a.r1, (f.rd (by omega) (k _ (by omega) (by omega))).trans a.r2, f.own a.o3.lt (k _ (by omega) (by omega)) a.o3, by rw [f.rd (by omega) (k _ (by omega) (by omega))]; exact a.l3,
    (f.rd (by omega) (k _ (by omega) (by omega))).trans a.r4, (f.rd (by omega) (k _ (by omega) (by omega))).trans a.r5⟩
theorem Tq.put {n q : Nat} {hh hh' : Heap} {t : Option Addr} {g : G} {x mk : Int} {v : Value} (a : Tq n q t g x mk hh) (d : Did (n + 2) hh hh' ((rd hh (n + 2)).set 0 v)) : Tq n q t g x mk hh' ∧ rd hh' (n + 2) = [v] := by
  have s := a.lt
  have l3 := a.l3
  have e : rd hh' (n + 2) = [v] := by
    rw [d.rd]
    match rd hh (n + 2), l3 with
    | [_], _ => rfl
  exact ⟨⟨by rw [d.size]; exact s, (d.at_ (by omega) (by omega)).trans a.r1, (d.at_ (by omega) (by omega)).trans a.r2, d.own, by rw [e]; rfl, (d.at_ (by omega) (by omega)).trans a.r4, (d.at_ (by omega) (by omega)).trans a.r5⟩, e⟩
theorem Take_spec {h : Heap} {F : Nat → Prop} {t d : Option Addr} {T : TM} {g : G} {K : Value → Heap → Prop} (x : Tx h F t d T) (ok : g.ok) (hbi : g.bitmap ≤ g.inodes) (hd0 : 0 < g.data) (hu : T.undo.length < 900000000)
    (hbad : ∀ k : Nat, g.bitmap ≤ k → k < g.inodes → (∀ m, m < 4096 * (k - g.bitmap) → ¬ FreeAt T g m) → (T.read k).2 ≠ 0 → ∀ h', Fr No h h' → K (.tuple #[.int .i64 0, .int .i64 (T.read k).2]) h')
    (hfull : (∀ m, m < 4096 * (g.inodes - g.bitmap) → ¬ FreeAt T g m) → ∀ h', Fr No h h' → K (.tuple #[.int .i64 0, .int .i64 90]) h')
    (hgot : ∀ m, m < 4096 * (g.inodes - g.bitmap) → FreeAt T g m → (∀ m', m' < m → ¬ FreeAt T g m') → (T.read (g.at_ m)).2 = 0 → ∀ h' F', Fr F h h' → Gw h F h' F' → Tx h' F' t d (takeAt T g m).1 →
      K (.tuple #[.int .i64 (takeAt T g m).2.1, .int .i64 (takeAt T g m).2.2]) h') : C.space_Take t g.v h K := by
  refine space_Take.ok (New.intro fun h2 n2 => New.intro fun h3 n3 => New.intro fun h4 n4 => New.intro fun h5 n5 => ?_)
  have z2 := n2.size
  have z3 := n3.size
  have z4 := n4.size
  have z5 := n5.size
  have e2 : h2.size = h.size + 1 := z2
  have e3 : h3.size = h.size + 2 := by omega
  have e4 : h4.size = h.size + 3 := by omega
  have b2 := ok.m
  have b3 := ok.i
  refine Put.intro n5.own (by rw [n5.rd]; exact Nat.one_pos) fun h6 d6 => ?_
  have z6 := d6.size
  have k6 : Tk h.size h t g 0 h6 := by
    have r4 := d6.rd
    have o4 := d6.own
    rw [n5.rd] at r4
    rw [e4] at r4 o4
    have r3 := n4.rd
    have o3 := n4.own
    rw [e3] at r3 o3
    have r2 := n3.rd
    rw [e2] at r2
    refine ⟨(((n2.fr.new n3).new n4).new n5).did d6 fun hb => by omega, rfl, by omega, ?_, ?_, d6.ow (n5.ow o3), ?_, o4, r4⟩
    · exact (d6.at_ (by omega) (by omega)).trans ((n5.at_ (by omega)).trans ((n4.at_ (by omega)).trans ((n3.at_ (by omega)).trans n2.rd)))
    · exact (d6.at_ (by omega) (by omega)).trans ((n5.at_ (by omega)).trans ((n4.at_ (by omega)).trans r2))
    · exact (d6.at_ (by omega) (by omega)).trans ((n5.at_ (by omega)).trans r3)
  rw [e2, e3, e4]
  refine ⟨_, rdc k6.r1 rfl, g.v, rfl, cellsAll k6.r2, ?_⟩
  -- e is put
  have pe : ∀ {hh : Heap} {y v : Int} {k : Heap → Prop}, Tk h.size h t g y hh → (∀ h8, h8.size = hh.size → Fr No h h8 → rd h8 (h.size + 2) = [.int .i64 v] → Own h8 (h.size + 2) → rd h8 h.size = [.pointer t] → rd h8 (h.size + 1) = g.v → rd h8 (h.size + 3) = [.int .i64 y] → k h8) → Put ⟨h.size + 2, 0, none⟩ (.int .i64 v) hh k := by
    intro hh y v k a H
    have s := a.size
    refine Put.intro a.o3 (by rw [a.r3]; exact Nat.one_pos) fun h8 d8 => ?_
    exact H h8 d8.size (a.f.did d8 fun hb => by omega) (by rw [d8.rd, a.r3]; rfl) d8.own ((d8.at_ (by omega) (by omega)).trans a.r1) ((d8.at_ (by omega) (by omega)).trans a.r2) ((d8.at_ (by omega) (by omega)).trans a.r4)
  refine each_spec (T := T) (F := F) (d := d) ok hbi (fun k hh => Tk h.size h t g 0 hh ∧ ∀ m, m < 4096 * (k - g.bitmap) → ¬ FreeAt T g m)
    (fun hh => ∃ m : Nat, Tk h.size h t g m hh ∧ m < 4096 * (g.inodes - g.bitmap) ∧ FreeAt T g m ∧ (∀ m', m' < m → ¬ FreeAt T g m') ∧ (T.read (g.at_ m)).2 = 0)
    (fun k hh j => x.no j.1.f) (fun k hh hh' j f => ⟨j.1.step f fun b hb => by have hb : h6.size ≤ b := hb; omega, j.2⟩) (fun k hh A l c j hk0 hk1 he B => ?_) ⟨k6, fun m hm => by omega⟩ (fun hh j => ?_) (fun hh j => ?_) fun k hh j hk0 hk1 he => ?_
  · have hlen := Tx.readLen x he
    have hl : l = 512 := by rw [← B.1]; exact hlen
    subst hl
    obtain ⟨j, jn⟩ := j
    have sz := j.size
    show C.space_Take_c1 _ A 512 c (some ⟨h.size + 1, 0, none⟩) (some ⟨h.size + 3, 0, none⟩) hh _
    refine space_Take_c1.ok (os ⟨g.v, rfl, cellsAll j.r2, ?_⟩)
    refine rows_spec B (by omega) (by omega) ok (by omega) rfl (fun i hx => Tk h.size h t g 0 hx ∧ Fr (fun b => b = h.size + 3) hh hx ∧ ∀ m, m < 4096 * (k - g.bitmap) + i → ¬ FreeAt T g m)
      (fun hx => ∃ m : Nat, Tk h.size h t g m hx ∧ Fr (fun b => b = h.size + 3) hh hx ∧ m < 4096 * (k - g.bitmap) + 4096 ∧ 4096 * (k - g.bitmap) ≤ m ∧ FreeAt T g m ∧ ∀ m', m' < m → ¬ FreeAt T g m')
      (fun i hx hx' q f => ⟨q.1.step f fun b hb => by have hb : hh.size ≤ b := hb; omega, q.2.1.trans f fun b hb y => by have y : hh.size ≤ b := y; omega, q.2.2⟩)
      (fun hx hx' q f => ?_) (fun i j' hx q h1 h2 h3 => ⟨q.1, q.2.1, fun m hm z => ?_⟩) (fun i j' a b hx q h1 h2 h3 h4 h5 h7 => ?_) ⟨j, Fr.refl _ _, fun m hm => jn m (by omega)⟩ fun hx q => ⟨rfl, os ?_⟩
    · obtain ⟨m, q1, q2, q3⟩ := q
      exact ⟨m, q1.step f fun b hb => by have hb : hh.size ≤ b := hb; omega, q2.trans f fun b hb y => by have y : hh.size ≤ b := y; omega, q3⟩
    · rcases Nat.lt_or_ge m (4096 * (k - g.bitmap) + i) with hm2 | hm2
      · exact q.2.2 m hm2 z
      · refine h3 (m - 4096 * (k - g.bitmap)) (by omega) (by omega) ((isF_iff hk0 (by omega)).mpr ?_)
        rw [show 4096 * (k - g.bitmap) + (m - 4096 * (k - g.bitmap)) = m by omega]; exact z
    · show C.space_Take_c1_c1 _ _ (some ⟨h.size + 3, 0, none⟩) hx _
      have fr : ∀ m, 4096 * (k - g.bitmap) + i ≤ m → m < 4096 * (k - g.bitmap) + j' → (FreeAt T g m ↔ a ≤ m ∧ m < b) := fun m x y => by
        have := h7 (m - 4096 * (k - g.bitmap)) (by omega) (by omega)
        rw [isF_iff hk0 (by omega), show 4096 * (k - g.bitmap) + (m - 4096 * (k - g.bitmap)) = m by omega] at this
        exact this
      refine space_Take_c1_c1.ok (os (Put.intro q.1.o4 (by rw [q.1.r4]; exact Nat.one_pos) fun h8 d8 => ⟨false, rfl, d8.fr.mono fun b _ e => by show b < hh.size; omega, fun e => (by cases e), fun _ => ⟨a, q.1.put d8, q.2.1.trans d8.fr fun _ _ e => e, by omega, by omega, (fr a (by omega) (by omega)).mpr ⟨Nat.le_refl _, by omega⟩, fun m' hm' z => ?_⟩⟩))
      rcases Nat.lt_or_ge m' (4096 * (k - g.bitmap) + i) with hm2 | hm2
      · exact q.2.2 m' hm2 z
      · have := (fr m' hm2 (by omega)).mp z; omega
    · rcases q with q | ⟨m, q1, q2, q3, q4, q5, q6⟩
      · refine ⟨_, rdc q.1.r4 rfl, true, rfl, q.2.1.mono fun b _ e => by show b < h6.size; omega, fun _ => ⟨q.1, fun m hm => q.2.2 m (by omega)⟩, fun e => by cases e⟩
      · have hm0 : 0 < m := by have := q5.2.1; omega
        refine ⟨_, rdc q1.r4 rfl, false, ?_, q2.mono fun b _ e => by show b < h6.size; omega, fun e => (by cases e), fun _ => ⟨m, q1, by omega, q5, q6, ?_⟩⟩
        · have : ((m : Int) == 0) = false := beq_eq_false_iff_ne.mpr (by omega)
          rw [this]
        · have e : g.at_ m = (k : Int) := by
            unfold G.at_
            have : m / 4096 = k - g.bitmap := by omega
            rw [this]; omega
          rw [e]; exact he
  · -- all are taken
    obtain ⟨j, jn⟩ := j
    refine ⟨_, rfl, pe j fun h8 z8 f8 r3 o3 r1 r2 r4 => ⟨_, rdc r3 rfl, cf rfl ⟨_, rdc r4 rfl, ct rfl ?_⟩⟩⟩
    refine Put.intro o3 (by rw [r3]; exact Nat.one_pos) fun h9 d9 => ⟨90, rdc (xs := [.int .i64 90]) (by rw [d9.rd, r3]; rfl) rfl, hfull jn h9 (f8.did d9 fun hb => by omega)⟩
  · -- m is the lowest
    obtain ⟨m, j, jm, jf, jl, jr⟩ := j
    have hm0 : 0 < m := by have := jf.2.1; omega
    have sz := j.size
    have live := TM.read_ok_over jr
    have emark : T.mark = ((T.undo.length : Int), 0) := by unfold TM.mark; rw [live, if_neg (by simp)]
    refine ⟨_, rfl, pe j fun h8 z8 f8 r3 o3 r1 r2 r4 => ⟨_, rdc r3 rfl, cf rfl ⟨_, rdc r4 rfl, cf (beq_eq_false_iff_ne.mpr (by omega)) ⟨_, rdc r1 rfl, Mark_spec (x.no f8) ⟨_, _, rfl, ?_⟩⟩⟩⟩⟩
    rw [emark]
    refine New.intro fun h12 n12 => ?_
    have z12 := n12.size
    refine Put.intro n12.own (by rw [n12.rd]; exact Nat.one_pos) fun h13 d13 => ?_
    have z13 := d13.size
    have q13 : Tq h.size h8.size t g m T.undo.length h13 := by
      refine ⟨by omega, (d13.at_ (by omega) (by omega)).trans ((n12.at_ (by omega)).trans r1), (d13.at_ (by omega) (by omega)).trans ((n12.at_ (by omega)).trans r2), d13.ow (n12.ow o3), ?_, (d13.at_ (by omega) (by omega)).trans ((n12.at_ (by omega)).trans r4), by rw [d13.rd, n12.rd]; rfl⟩
      rw [d13.at_ (by omega) (by omega), n12.at_ (by omega), r3]; rfl
    have f13 : Fr No h h13 := (f8.new n12).did d13 fun hb => by omega
    refine Put.intro q13.o3 (by rw [q13.l3]; exact Nat.one_pos) fun h14 d14 => ?_
    obtain ⟨q14, r14⟩ := q13.put d14
    have z14 := d14.size
    have f14 : Fr No h h14 := f13.did d14 fun hb => by omega
    refine ⟨0, rdc r14 rfl, cf rfl ⟨_, rdc q14.r1 rfl, g.v, rfl, cellsAll q14.r2, _, rdc q14.r4 rfl, ?_⟩⟩
    have mb := jf.2.2
    -- refused: it goes back
    have refuse : ∀ (hs : Heap) (Fs : Nat → Prop) (Ts : TM) (e : Int) (k' : Heap → Prop), e ≠ 0 → Fr F h hs → Gw h F hs Fs → Tx hs Fs t d Ts → Ts.undo.length < 1000000000 → (Ts.back T.undo.length).1 = T → (∀ b, h.size ≤ b → b ≤ h8.size → ¬ Fs b) → Tq h.size h8.size t g m T.undo.length hs → rd hs (h.size + 2) = [.int .i64 e] →
        (∀ h19 F', Fr F h h19 → Gw h F h19 F' → Tx h19 F' t d T → rd h19 (h.size + 2) = [.int .i64 e] → k' h19) → D.space_Take_c2 (some ⟨h.size, 0, none⟩) (some ⟨h8.size, 0, none⟩) (some ⟨h.size + 2, 0, none⟩) hs k' := by
      intro hs Fs Ts e k' he fs gs xs us eb nq qs rs H
      refine space_Take_c2.okD (os ⟨_, rdc qs.r1 rfl, os ⟨_, rdc qs.r5 rfl, space_back.ok (os ⟨_, rdc rs rfl, cn (fun _ => ?_) fun e0 => absurd e0 he⟩)⟩⟩)
      refine Back_spec xs us fun h19 f19 x19 => ⟨_, rfl, rfl, ?_⟩
      rw [eb] at x19
      have lq := qs.lt
      have nF : ¬ Fs (h.size + 2) := nq _ (by omega) (by omega)
      exact H h19 Fs (fs.trans f19 fun b hb y => (gs.old b hb).mp y) ⟨gs.old, fun b hb => Nat.lt_of_lt_of_le (gs.lt b hb) f19.size⟩ x19 ((f19.rd (by omega) nF).trans rs)
    refine set_spec (x.no f14) ok (by omega) (by omega) (by omega) fun h16 F6 f6 g6 x6 => ⟨_, rfl, ?_⟩
    have x6 : Tx h16 F6 t d (setBit T g m true).1 := x6
    have em : ((m : Nat) : Int).toNat = m := rfl
    rw [em]
    have z16 := f6.size
    have nq6 : ∀ b, h.size ≤ b → b ≤ h8.size → ¬ F6 b := fun b h1 h2 y => by
      have := x.lt ((g6.old b (by omega)).mp y)
      omega
    have nF6 : ∀ b, F b → h.size ≤ b → b ≤ h8.size → False := fun b y h1 h2 => by have := x.lt y; omega
    have q16 : Tq h.size h8.size t g m T.undo.length h16 := q14.step f6 nF6
    have g16 : Gw h F h16 F6 := (Gw.refl f14.size fun b hb => x.lt hb).trans g6 f14.size
    have f16 : Fr F h h16 := (f14.mono fun _ _ y => y.elim).trans f6 fun _ _ y => y
    refine Put.intro q16.o3 (by rw [q16.l3]; exact Nat.one_pos) fun h17 d17 => ?_
    obtain ⟨q17, r17⟩ := q16.put d17
    have z17 := d17.size
    have x17 : Tx h17 F6 t d (setBit T g m true).1 := x6.fr d17.fr fun b hb e => nq6 b (by omega) (by omega) hb
    have f17 : Fr F h h17 := f16.did d17 fun hb => by omega
    have g17 : Gw h F h17 F6 := ⟨g16.old, fun b hb => by rw [z17]; exact g16.lt b hb⟩
    have u17 : (setBit T g m true).1.undo.length ≤ T.undo.length + 1 := setBit_undo T g m true
    refine ⟨_, rdc r17 rfl, cn (fun he => ?_) fun he => ?_⟩
    · refine ⟨_, rdc r17 rfl, Put.intro q17.o3 (by rw [q17.l3]; exact Nat.one_pos) fun h18 d18 => ?_⟩
      obtain ⟨q18, r18⟩ := q17.put d18
      have z18 := d18.size
      have et : takeAt T g m = (T, 0, (setBit T g m true).2) := by unfold takeAt; rw [if_pos he]
      have hgot := hgot m jm jf jl jr
      rw [et] at hgot
      refine refuse h18 F6 (setBit T g m true).1 _ _ he (f17.did d18 fun hb => by omega) ⟨g17.old, fun b hb => by rw [z18]; exact g17.lt b hb⟩ (x17.fr d18.fr fun b hb e => nq6 b (by omega) (by omega) hb) (by omega) (by rw [setBit_bad he]; exact back_id T) nq6 q18 r18 fun h19 F' f19 g19 x19 r19 => ⟨_, rdc r19 rfl, hgot h19 F' f19 g19 x19⟩
    · refine ⟨_, rdc q17.r1 rfl, _, rdc q17.r4 rfl, by decide, New.intro fun h20 n20 => ⟨rdc ((n20.at_ (by omega)).trans q17.r1) rfl, rdc ((n20.at_ (by omega)).trans q17.r4) rfl, ?_⟩⟩
      have z20 := n20.size
      have B20 : StrAt h20 (some ⟨h17.size, 0, none⟩) 512 zeros512 := strAll (by rw [n20.rd]; exact rep_zeros) List.length_replicate
      have ua : (setBit T g m true).1.undo.length < 1000000000 := by omega
      refine Write_spec (x17.no n20.fr) B20 (by decide) (fun p ep y => ?_) ua fun h21 F7 f21 g21 x21 => ⟨_, rfl, ?_⟩
      · cases ep
        have := x17.lt y
        have y : F6 h17.size := y
        have := g17.lt _ y
        omega
      have z21 := f21.size
      have q20 : Tq h.size h8.size t g m T.undo.length h20 := q17.step n20.fr fun _ y => y.elim
      have q21 : Tq h.size h8.size t g m T.undo.length h21 := q20.step f21 fun b y h1 h2 => nq6 b h1 h2 y
      have f20 : Fr F h h20 := f17.new n20
      have f21' : Fr F h h21 := f20.trans f21 fun b hb y => (g17.old b hb).mp y
      have g20 : Gw h F h20 F6 := ⟨g17.old, fun b hb => by have := g17.lt b hb; omega⟩
      have g21' : Gw h F h21 F7 := g20.trans g21 f20.size
      have nq7 : ∀ b, h.size ≤ b → b ≤ h8.size → ¬ F7 b := fun b h1 h2 y => nq6 b h1 h2 ((g21.old b (by omega)).mp y)
      refine Put.intro q21.o3 (by rw [q21.l3]; exact Nat.one_pos) fun h22 d22 => ?_
      obtain ⟨q22, r22⟩ := q21.put d22
      have z22 := d22.size
      have x22 : Tx h22 F7 t d ((setBit T g m true).1.write m zeros512).1 := x21.fr d22.fr fun b hb e => nq7 b (by omega) (by omega) hb
      have f22 : Fr F h h22 := f21'.did d22 fun hb => by omega
      have g22 : Gw h F h22 F7 := ⟨g21'.old, fun b hb => by rw [z22]; exact g21'.lt b hb⟩
      have hgot := hgot m jm jf jl jr
      refine ⟨_, rdc r22 rfl, cn (fun hw => ?_) fun hw => ?_⟩
      · refine ⟨_, rdc r22 rfl, Put.intro q22.o3 (by rw [q22.l3]; exact Nat.one_pos) fun h23 d23 => ?_⟩
        obtain ⟨q23, r23⟩ := q22.put d23
        have z23 := d23.size
        have et : takeAt T g m = (T, 0, ((setBit T g m true).1.write m zeros512).2) := by unfold takeAt; rw [if_neg (by rw [he]; simp), if_pos hw]
        rw [et] at hgot
        have x23 := x22.fr d23.fr fun b hb e => nq7 b (by omega) (by omega) hb
        rw [TM.write_bad hw] at x23
        refine refuse h23 F7 (setBit T g m true).1 _ _ hw (f22.did d23 fun hb => by omega) ⟨g22.old, fun b hb => by rw [z23]; exact g22.lt b hb⟩ x23 ua (setBit_back he) nq7 q23 r23 fun h24 F' f24 g24 x24 r24 => ⟨_, rdc r24 rfl, hgot h24 F' f24 g24 x24⟩
      · have et : takeAt T g m = (((setBit T g m true).1.write m zeros512).1, (m : Int), 0) := by unfold takeAt; rw [if_neg (by rw [he]; simp), if_neg (by rw [hw]; simp)]
        rw [et] at hgot
        refine ⟨_, rdc q22.r4 rfl, Put.intro q22.o3 (by rw [q22.l3]; exact Nat.one_pos) fun h25 d25 => ?_⟩
        obtain ⟨q25, r25⟩ := q22.put d25
        have z25 := d25.size
        have x25 := x22.fr d25.fr fun b hb e => nq7 b (by omega) (by omega) hb
        refine space_Take_c2.okD (os ⟨_, rdc q25.r1 rfl, os ⟨_, rdc q25.r5 rfl, space_back.ok (os ⟨_, rdc r25 rfl, cf rfl ⟨rfl, 0, rdc r25 rfl, ?_⟩⟩)⟩⟩)
        exact hgot h25 F7 (f22.did d25 fun hb => by omega) ⟨g22.old, fun b hb => by rw [z25]; exact g22.lt b hb⟩ x25
  · obtain ⟨j, jn⟩ := j
    refine ⟨_, rfl, pe j fun h8 z8 f8 r3 o3 r1 r2 r4 => ⟨_, rdc r3 rfl, cn (fun _ => ⟨_, rdc r3 rfl, ?_⟩) fun e => absurd e he⟩⟩
    refine Put.intro o3 (by rw [r3]; exact Nat.one_pos) fun h9 d9 => ⟨_, rdc (xs := [.int .i64 (T.read k).2]) (by rw [d9.rd, r3]; rfl) rfl, hbad k hk0 hk1 jn he h9 (f8.did d9 fun hb => by omega)⟩
end Go.Proofs.YtcdpakjhjmchhaaDoor.Spc
namespace Go.Proofs.YtcdpakjhjmchhaaDoor.Spc
open Go Go.Proofs Go.Proofs.YtcdpakjhjmchhaaDoor.Wx Go.Proofs.YtcdpakjhjmchhaaDoor.Hp Go.Proofs.YtcdpakjhjmchhaaDoor.W Go.Proofs.YtcdpakjhjmchhaaDoor.Ad Go.Proofs.YtcdpakjhjmchhaaDoor.Tm Go.Proofs.YtcdpakjhjmchhaaDoor.Bt Go.Proofs.YtcdpakjhjmchhaaDoor.Rg
/-- where the regions of n blocks lie -/
def geoN (n : Nat) : G := ⟨n, 98, 98 + (n + 4095) / 4096, 98 + (n + 4095) / 4096 + n / 64, 8 * (n / 64)⟩
theorem geoN_ok {n : Nat} (h : n ≤ 16384) : (geoN n).ok := by
  refine ⟨?_, ?_, ?_, ?_⟩
  · show n ≤ _; omega
  · show 98 ≤ _; omega
  · show 98 + (n + 4095) / 4096 ≤ _; omega
  · show 98 + (n + 4095) / 4096 + n / 64 ≤ _; omega
theorem G.one (g : G) : ∀ v ∈ g.v, v.oneCell' = true := by
  intro v hv
  simp only [G.v, List.mem_cons, List.not_mem_nil, or_false] at hv
  rcases hv with rfl | rfl | rfl | rfl | rfl <;> rfl
theorem Geo_spec {n : Nat} {h : Heap} {K : Value → Heap → Prop} (hn : n ≤ 1099511627776) (hK : ∀ h', Fr No h h' → K (.agg ⟨(geoN n).v⟩) h') : C.boleref09_Geo n h K := by
  refine boleref09_Geo.ok ?_
  unfold boleref09_Geo
  have e1 : Int.tdiv ((n : Int) + 4096 - 1) 4096 = (((n + 4095) / 4096 : Nat) : Int) := by
    rw [show (n : Int) + 4096 - 1 = ((n + 4095 : Nat) : Int) by omega]; rfl
  have e2 : Int.tdiv (n : Int) 64 = ((n / 64 : Nat) : Int) := rfl
  rw [wrap_i64 (n := (n : Int) + 4096) (by omega) (by omega), wrap_i64 (n := (n : Int) + 4096 - 1) (by omega) (by omega), e1, e2, wrap_i64 (n := (((n + 4095) / 4096 : Nat) : Int)) (by omega) (by omega),
    wrap_i64 (n := 98 + (((n + 4095) / 4096 : Nat) : Int)) (by omega) (by omega), wrap_i64 (n := ((n / 64 : Nat) : Int)) (by omega) (by omega), wrap_i64 (n := 98 + (((n + 4095) / 4096 : Nat) : Int) + ((n / 64 : Nat) : Int)) (by omega) (by omega), wrap_i64 (n := 8 * ((n / 64 : Nat) : Int)) (by omega) (by omega)]
  rw [show (98 : Int) + (((n + 4095) / 4096 : Nat) : Int) = ((98 + (n + 4095) / 4096 : Nat) : Int) by omega, show ((98 + (n + 4095) / 4096 : Nat) : Int) + ((n / 64 : Nat) : Int) = ((98 + (n + 4095) / 4096 + n / 64 : Nat) : Int) by omega, show 8 * ((n / 64 : Nat) : Int) = ((8 * (n / 64) : Nat) : Int) by omega]
  exact NewRow.intro (cs := (geoN n).v) rfl (G.one _) rfl fun h3 n3 => ⟨(geoN n).v, rfl, cellsAll n3.rd, hK h3 n3.fr⟩
structure Ext (T T' : TM) : Prop where
  disk : T'.disk = T.disk
  over : T'.over = T.over
  undo : ∃ us, T'.undo = T.undo ++ us ∧ undoAll T'.put us = T.put
theorem Ext.refl (T : TM) : Ext T T := ⟨rfl, rfl, [], (List.append_nil _).symm, rfl⟩
theorem Ext.write {T T' : TM} (e : Ext T T') (i : Int) (bs : Txt) : Ext T (T'.write i bs).1 := by
  by_cases h : (T'.write i bs).2 = 0
  · obtain ⟨h1, h2, h3, h4, h5, ew⟩ := TM.write_ok h
    obtain ⟨us, e1, e2⟩ := e.undo
    rw [ew]
    refine ⟨e.disk, e.over, us ++ [(i, aget T'.put i)], ?_, ?_⟩
    · show T'.undo ++ [_] = _
      rw [e1, List.append_assoc]
    · show undoAll (aput T'.put i bs) (us ++ [(i, aget T'.put i)]) = T.put
      unfold undoAll
      rw [List.foldr_append]
      have : List.foldr (fun u m => undo1 m u) (aput T'.put i bs) [(i, aget T'.put i)] = T'.put := by
        show undo1 (aput T'.put i bs) (i, aget T'.put i) = _
        unfold undo1
        cases ea : aget T'.put i with
        | none => exact adel_aput ea
        | some b => exact aput_aput ea
      rw [this]; exact e2
  · rw [TM.write_bad h]; exact e
theorem Ext.back {T T' : TM} (e : Ext T T') (h : T.over = false) : T'.back T.undo.length = (T, 0) := by
  obtain ⟨us, e1, e2⟩ := e.undo
  have ho : T'.over = false := e.over.trans h
  unfold TM.back
  rw [if_neg (by rw [ho]; simp), if_neg (by rw [e1, List.length_append]; omega)]
  have et : ((T.undo.length : Nat) : Int).toNat = T.undo.length := rfl
  rw [et, e1, List.drop_left, List.take_left, e2]
  have hd := e.disk
  have hv := e.over
  cases T; cases T'; simp_all
theorem setBit_ext {T T' : TM} (e : Ext T T') (g : G) (i : Nat) (on : Bool) : Ext T (setBit T' g i on).1 := by
  unfold setBit
  split
  · exact e
  · exact e.write _ _
theorem takeAt_ext {T T' : TM} (e : Ext T T') (g : G) (m : Nat) : Ext T (takeAt T' g m).1 := by
  unfold takeAt
  split
  · exact e
  · split
    · exact e
    · exact (setBit_ext e g m true).write _ _
end Go.Proofs.YtcdpakjhjmchhaaDoor.Spc
namespace Go.Proofs.YtcdpakjhjmchhaaDoor.Av
open Go Go.Proofs Go.Proofs.YtcdpakjhjmchhaaDoor.Wx Go.Proofs.YtcdpakjhjmchhaaDoor.Hp Go.Proofs.YtcdpakjhjmchhaaDoor.W Go.Proofs.YtcdpakjhjmchhaaDoor.Ad Go.Proofs.YtcdpakjhjmchhaaDoor.Tm Go.Proofs.YtcdpakjhjmchhaaDoor.Bt Go.Proofs.YtcdpakjhjmchhaaDoor.Spc
def up {α : Type} (Z : Nat → α) (i : Nat) (b : α) : Nat → α := fun j => if j = i then b else Z j
theorem up_at {α : Type} (Z : Nat → α) (i : Nat) (b : α) : up Z i b i = b := if_pos rfl
theorem up_ne {α : Type} (Z : Nat → α) {i j : Nat} (b : α) (h : j ≠ i) : up Z i b j = Z j := if_neg h
/-- the numbers of what is put -/
def ks (T : TM) : List Int := T.put.map (·.1)
/-- a live transaction over n blocks, each of which it has as Z says -/
structure Av (n : Nat) (Z : Nat → Txt) (T : TM) : Prop where
  live : T.over = false
  N : T.N = n
  z : ∀ k : Nat, k < n → T.read k = (Z k, 0)
  len : ∀ k : Nat, k < n → (Z k).length = 512
  keys : (ks T).Nodup
  rng : ∀ x ∈ ks T, 98 ≤ x ∧ x < n
theorem Av.write_full {n : Nat} {Z : Nat → Txt} {T : TM} (a : Av n Z T) {i : Nat} {bs : Txt} (h1 : 98 ≤ i) (h2 : i < n) (h3 : bs.length = 512) : (T.write i bs).2 = 0 ∨ (T.write i bs = (T, 60) ∧ 96 ≤ (ks T).length ∧ (i : Int) ∉ ks T) := by
  by_cases h : aget T.put i = none ∧ T.put.length ≥ 96
  · right
    refine ⟨?_, by unfold ks; rw [List.length_map]; exact h.2, fun hm => ?_⟩
    · unfold TM.write
      rw [if_neg (by rw [a.live]; simp), if_neg (by rw [a.N]; omega), if_neg (fun y => y h3), if_pos h]
    · obtain ⟨p, hp, e⟩ := List.mem_map.mp hm
      exact aget_none.mp h.1 p hp e
  · left
    rw [TM.write_get a.live (by omega) (by rw [a.N]; omega) h3 h]
theorem write_keys {T : TM} {i : Int} {bs : Txt} (e : (T.write i bs).2 = 0) (x : Int) : x ∈ ks (T.write i bs).1 ↔ x ∈ ks T ∨ x = i := by
  obtain ⟨_, _, _, _, _, ew⟩ := TM.write_ok e
  have ek : ks (T.write i bs).1 = if aget T.put i = none then ks T ++ [i] else ks T := by rw [ew]; exact aput_keys ..
  rw [ek]
  split
  · rw [List.mem_append, List.mem_singleton]
  · rename_i hno
    refine ⟨.inl, fun h => ?_⟩
    rcases h with h | rfl
    · exact h
    · cases eg : aget T.put x with
      | none => exact absurd eg hno
      | some b => exact List.mem_map.mpr ⟨_, aget_mem eg, rfl⟩
theorem write_len {T : TM} {i : Int} {bs : Txt} (e : (T.write i bs).2 = 0) : (ks (T.write i bs).1).length ≤ (ks T).length + 1 ∧ ((ks (T.write i bs).1).length ≤ 96 ∨ (ks (T.write i bs).1).length ≤ (ks T).length) := by
  obtain ⟨_, _, _, _, h5, ew⟩ := TM.write_ok e
  have ek : ks (T.write i bs).1 = if aget T.put i = none then ks T ++ [i] else ks T := by rw [ew]; exact aput_keys ..
  rw [ek]
  have el : (ks T).length = T.put.length := List.length_map ..
  split
  · rename_i hno
    rw [List.length_append, List.length_singleton]
    refine ⟨Nat.le_refl _, .inl ?_⟩
    rw [el]
    rcases Nat.lt_or_ge T.put.length 96 with h | h
    · omega
    · exact absurd ⟨hno, h⟩ h5
  · exact ⟨Nat.le_add_right _ _, .inr (Nat.le_refl _)⟩
theorem write_nodup {T : TM} {i : Int} {bs : Txt} (e : (T.write i bs).2 = 0) (h : (ks T).Nodup) : (ks (T.write i bs).1).Nodup := by
  obtain ⟨_, _, _, _, _, ew⟩ := TM.write_ok e
  have ek : ks (T.write i bs).1 = if aget T.put i = none then ks T ++ [i] else ks T := by rw [ew]; exact aput_keys ..
  rw [ek]
  split
  · rename_i hno
    rw [List.nodup_append]
    refine ⟨h, by simp, fun x hx y hy e => ?_⟩
    rw [List.mem_singleton.mp hy] at e
    subst e
    obtain ⟨p, hp, e⟩ := List.mem_map.mp hx
    exact aget_none.mp hno p hp e
  · exact h
theorem Av.write {n : Nat} {Z : Nat → Txt} {T : TM} (a : Av n Z T) {i : Nat} {bs : Txt} (h1 : 98 ≤ i) (h2 : i < n) (h3 : bs.length = 512) (e : (T.write i bs).2 = 0) : Av n (up Z i bs) (T.write i bs).1 := by
  have hr := TM.read_write e
  have hk := write_keys e
  have hd := write_nodup e a.keys
  obtain ⟨_, _, _, _, _, ew⟩ := TM.write_ok e
  refine ⟨by rw [ew]; exact a.live, by rw [ew]; exact a.N, fun k hkn => ?_, fun k hkn => ?_, hd, fun x hx => ?_⟩
  · rw [hr]
    by_cases hki : k = i
    · rw [if_pos (by omega), hki, up_at]
    · rw [if_neg (by omega), up_ne _ _ hki]; exact a.z k hkn
  · by_cases hki : k = i
    · rw [hki, up_at]; exact h3
    · rw [up_ne _ _ hki]; exact a.len k hkn
  · rcases (hk x).mp hx with hx | rfl
    · exact a.rng x hx
    · omega
structure Dim (n : Nat) : Prop where
  lo : 128 ≤ n
  hi : n ≤ 16384
theorem Dim.data {n : Nat} (d : Dim n) : (geoN n).data = 98 + (n + 4095) / 4096 + n / 64 ∧ (geoN n).data < n ∧ (geoN n).data < 4096 ∧ 101 ≤ (geoN n).data := by
  have := d.lo
  have := d.hi
  have e : (geoN n).data = 98 + (n + 4095) / 4096 + n / 64 := rfl
  omega
theorem Dim.map {n : Nat} (d : Dim n) {i : Nat} (hi : i < n) : 98 ≤ 98 + i / 4096 ∧ 98 + i / 4096 < (geoN n).inodes ∧ (geoN n).inodes ≤ (geoN n).data ∧ 98 + i / 4096 < n := by
  have := d.lo
  have := d.hi
  have e : (geoN n).data = 98 + (n + 4095) / 4096 + n / 64 := rfl
  have e : (geoN n).inodes = 98 + (n + 4095) / 4096 := rfl
  omega
theorem at_eq (n i : Nat) : (geoN n).at_ i = ((98 + i / 4096 : Nat) : Int) := rfl
def bit (Z : Nat → Txt) (j : Nat) : Bool := bitAt (Z (98 + j / 4096)) (j % 4096)
def setZ (Z : Nat → Txt) (i : Nat) (on : Bool) : Nat → Txt := up Z (98 + i / 4096) (putBit (Z (98 + i / 4096)) (i % 4096) on)
theorem bit_setZ {Z : Nat → Txt} {i : Nat} (h : (Z (98 + i / 4096)).length = 512) (on : Bool) (j : Nat) : bit (setZ Z i on) j = if j = i then on else bit Z j := by
  unfold bit setZ
  by_cases hb : j / 4096 = i / 4096
  · rw [hb, up_at, bitAt_putBit _ _ _ _ (by rw [h]; omega)]
    by_cases hji : j = i
    · rw [if_pos hji, if_pos (by rw [hji])]
    · rw [if_neg hji, if_neg (by omega)]
  · rw [up_ne _ _ (by omega), if_neg (by rintro rfl; exact hb rfl)]
theorem bit_up {Z : Nat → Txt} {i : Nat} {b : Txt} {j : Nat} (h : i ≠ 98 + j / 4096) : bit (up Z i b) j = bit Z j := by
  unfold bit; rw [up_ne _ _ (fun e => h e.symm)]
theorem setZ_ne {Z : Nat → Txt} {i k : Nat} {on : Bool} (h : k ≠ 98 + i / 4096) : setZ Z i on k = Z k := up_ne _ _ h
theorem Av.setBit {n : Nat} {Z : Nat → Txt} {T : TM} (a : Av n Z T) (d : Dim n) {i : Nat} (hi : i < n) (on : Bool) :
    ((Spc.setBit T (geoN n) i on).2 = 0 ∧ Av n (setZ Z i on) (Spc.setBit T (geoN n) i on).1 ∧ Spc.setBit T (geoN n) i on = T.write ((98 + i / 4096 : Nat) : Int) (putBit (Z (98 + i / 4096)) (i % 4096) on)) ∨ (Spc.setBit T (geoN n) i on = (T, 60) ∧ 96 ≤ (ks T).length ∧ ((98 + i / 4096 : Nat) : Int) ∉ ks T) := by
  obtain ⟨m1, m2, m3, m4⟩ := d.map hi
  have hr := a.z _ m4
  have es : Spc.setBit T (geoN n) i on = T.write ((98 + i / 4096 : Nat) : Int) (putBit (Z (98 + i / 4096)) (i % 4096) on) := by
    unfold Spc.setBit
    rw [at_eq, hr, if_neg (fun y => y rfl)]
  have hl : (putBit (Z (98 + i / 4096)) (i % 4096) on).length = 512 := (putBit_length ..).trans (a.len _ m4)
  rw [es]
  rcases a.write_full m1 m4 hl with h | h
  · exact .inl ⟨h, a.write m1 m4 hl h, rfl⟩
  · exact .inr h
def isFree (n : Nat) (Z : Nat → Txt) (m : Nat) : Bool := decide ((geoN n).data ≤ m) && (decide (m < n) && !bit Z m)
theorem isFree_iff {n : Nat} {Z : Nat → Txt} {m : Nat} : isFree n Z m = true ↔ (geoN n).data ≤ m ∧ m < n ∧ bit Z m = false := by
  unfold isFree
  rw [Bool.and_eq_true, Bool.and_eq_true, decide_eq_true_eq, decide_eq_true_eq, Bool.not_eq_true']
theorem Av.free {n : Nat} {Z : Nat → Txt} {T : TM} (a : Av n Z T) (d : Dim n) (m : Nat) : FreeAt T (geoN n) m ↔ isFree n Z m = true := by
  rw [isFree_iff]
  unfold FreeAt
  have e : (geoN n).blocks = n := rfl
  rw [e]
  constructor
  · rintro ⟨h1, h2, h3⟩
    rw [at_eq, a.z _ (d.map h3).2.2.2] at h1
    exact ⟨h2, h3, h1⟩
  · rintro ⟨h2, h3, h1⟩
    refine ⟨?_, h2, h3⟩
    rw [at_eq, a.z _ (d.map h3).2.2.2]
    exact h1
def zeros : Txt := List.replicate 512 0
/-- what Take does with the lowest free block m -/
def takeZ (Z : Nat → Txt) (m : Nat) : Nat → Txt := up (setZ Z m true) m zeros
theorem Av.take {n : Nat} {Z : Nat → Txt} {T : TM} (a : Av n Z T) (d : Dim n) {m : Nat} (h1 : (geoN n).data ≤ m) (h2 : m < n) :
    (takeAt T (geoN n) m).2 = ((m : Int), 0) ∧ Av n (takeZ Z m) (takeAt T (geoN n) m).1 ∧ (∀ x, x ∈ ks (takeAt T (geoN n) m).1 ↔ x ∈ ks T ∨ x = ((98 + m / 4096 : Nat) : Int) ∨ x = m) ∨ (takeAt T (geoN n) m = (T, 0, 60) ∧ 95 ≤ (ks T).length) := by
  have hd := d.data
  unfold takeAt
  rcases a.setBit d h2 true with ⟨e, a', es⟩ | ⟨e, h3, _⟩
  · rw [if_neg (fun y => y e)]
    rcases a'.write_full (i := m) (bs := zeros) (by omega) h2 List.length_replicate with h | ⟨h, h3, _⟩
    · have h' : ((Spc.setBit T (geoN n) m true).1.write m zeros512).2 = 0 := h
      rw [if_neg (fun y => y h')]
      refine .inl ⟨rfl, a'.write (by omega) h2 List.length_replicate h, fun x => ?_⟩
      rw [es] at h' ⊢ e
      rw [write_keys h', write_keys e, or_assoc]
    · have h' : (Spc.setBit T (geoN n) m true).1.write m zeros512 = ((Spc.setBit T (geoN n) m true).1, 60) := h
      rw [h', if_pos (show (60 : Int) ≠ 0 by decide)]
      refine .inr ⟨rfl, ?_⟩
      rw [es] at e h3
      have := (write_len e).1
      omega
  · rw [e, if_pos (show (60 : Int) ≠ 0 by decide)]
    exact .inr ⟨rfl, by omega⟩
theorem bitAt_nil (i : Nat) : bitAt [] i = false := by
  unfold bitAt
  rw [List.getD_nil]
  exact Nat.zero_testBit _
/-- Take -/
def takeM (T : TM) (g : G) : TM × Int × Int :=
  match (List.range g.blocks).find? (fun m => decide (FreeAt T g m)) with
  | some m => takeAt T g m
  | none => (T, 0, 90)
theorem find_low {p : Nat → Bool} {n m : Nat} (h : m < n) (hp : p m = true) (hl : ∀ k, k < m → p k = false) : (List.range n).find? p = some m := by
  rw [List.find?_eq_some_iff_getElem]
  refine ⟨hp, m, by rw [List.length_range]; exact h, List.getElem_range _, fun j hj => ?_⟩
  rw [List.getElem_range, hl j hj]; rfl
theorem find_none {p : Nat → Bool} {n : Nat} (h : ∀ k, k < n → p k = false) : (List.range n).find? p = none := by
  rw [List.find?_eq_none]
  intro x hx
  rw [h x (List.mem_range.mp hx)]; simp
theorem takeM_low {T : TM} {g : G} {m : Nat} (h : FreeAt T g m) (hl : ∀ k, k < m → ¬ FreeAt T g k) : takeM T g = takeAt T g m := by
  unfold takeM
  rw [find_low h.2.2 (decide_eq_true h) fun k hk => decide_eq_false (hl k hk)]
theorem takeM_none {T : TM} {g : G} (h : ∀ k, ¬ FreeAt T g k) : takeM T g = (T, 0, 90) := by
  unfold takeM
  rw [find_none fun k _ => decide_eq_false (h k)]
theorem read_fail {T : TM} {i : Int} (h : (T.read i).2 ≠ 0) : (T.read i).1 = [] := by
  unfold TM.read at h ⊢
  split
  · rfl
  · rename_i h1
    rw [if_neg h1] at h
    split
    · rfl
    · rename_i h2
      rw [if_neg h2] at h
      unfold TM.get at h ⊢
      split
      · rename_i e
        rw [e] at h; exact absurd rfl h
      · rename_i e
        rw [e] at h
        simp only at h
        split
        · rfl
        · rename_i h3
          rw [if_neg h3] at h; exact absurd rfl h
theorem Take_any {h : Heap} {F : Nat → Prop} {t d : Option Addr} {T : TM} {n : Nat} {K : Value → Heap → Prop} (x : Tx h F t d T) (dm : Dim n) (hu : T.undo.length < 900000000)
    (hK : ∀ h' F', Fr F h h' → Gw h F h' F' → Tx h' F' t d (takeM T (geoN n)).1 → K (.tuple #[.int .i64 (takeM T (geoN n)).2.1, .int .i64 (takeM T (geoN n)).2.2]) h') : C.space_Take t (geoN n).v h K := by
  have hd := dm.data
  have hlo := dm.lo
  have hhi := dm.hi
  have hino : (geoN n).inodes = 98 + (n + 4095) / 4096 := rfl
  have hbm : (geoN n).bitmap = 98 := rfl
  have hbl : (geoN n).blocks = n := rfl
  have same : ∀ e h', Fr No h h' → takeM T (geoN n) = (T, 0, e) → K (.tuple #[.int .i64 0, .int .i64 e]) h' := fun e h' f e0 => by
    rw [e0] at hK
    exact hK h' F (f.mono fun _ _ y => y.elim) (Gw.refl f.size fun b hb => x.lt hb) (x.no f)
  refine Take_spec x (geoN_ok hhi) (by omega) (by omega) hu (fun k h1 h2 hno he h' f => same _ h' f ?_) (fun hno h' f => same _ h' f (takeM_none fun k hk => ?_)) (fun m hm hfree hlow hr h' F' f g x' => ?_)
  · rw [hbm] at h1 hno
    -- the first data block of this bitmap block reads as free
    have ex : ∃ m, FreeAt T (geoN n) m ∧ m / 4096 = k - 98 := by
      refine ⟨max (4096 * (k - 98)) (geoN n).data, ⟨?_, Nat.le_max_right _ _, by omega⟩, by omega⟩
      have : (geoN n).at_ (max (4096 * (k - 98)) (geoN n).data) = (k : Int) := by rw [at_eq]; omega
      rw [this, read_fail he]
      exact bitAt_nil _
    obtain ⟨m0, hm0, hk0⟩ := ex
    obtain ⟨m, hm, hl⟩ : ∃ m, FreeAt T (geoN n) m ∧ ∀ k, k < m → ¬ FreeAt T (geoN n) k := by
      clear hk0
      induction m0 using Nat.strongRecOn with
      | ind m0 ih =>
        by_cases h : ∃ k, k < m0 ∧ FreeAt T (geoN n) k
        · obtain ⟨k, h1, h2⟩ := h
          exact ih k h1 h2
        · exact ⟨m0, hm0, fun k h1 h2 => h ⟨k, h1, h2⟩⟩
    have hle : m ≤ m0 := by
      rcases Nat.lt_or_ge m0 m with h | h
      · exact absurd hm0 (hl _ h)
      · exact h
    have hge : 4096 * (k - 98) ≤ m := by
      rcases Nat.lt_or_ge m (4096 * (k - 98)) with h | h
      · exact absurd hm (hno m h)
      · exact h
    have ea : (geoN n).at_ m = (k : Int) := by rw [at_eq]; omega
    rw [takeM_low hm hl]
    unfold takeAt Spc.setBit
    rw [ea, if_pos he, if_pos he]
  · have h3 := hk.2.2
    exact hno k (by omega) hk
  · rw [takeM_low hfree hlow] at hK
    exact hK h' F' f g x'
theorem Av.taken {n : Nat} {Z : Nat → Txt} {T : TM} (a : Av n Z T) (d : Dim n) :
    (∃ m, isFree n Z m = true ∧ (∀ k, k < m → isFree n Z k = false) ∧ takeM T (geoN n) = takeAt T (geoN n) m) ∨ ((∀ k, isFree n Z k = false) ∧ takeM T (geoN n) = (T, 0, 90)) := by
  by_cases h : ∃ m, isFree n Z m = true
  · left
    obtain ⟨m0, hm0⟩ := h
    obtain ⟨m, hm, hl⟩ : ∃ m, isFree n Z m = true ∧ ∀ k, k < m → isFree n Z k = false := by
      induction m0 using Nat.strongRecOn with
      | ind m0 ih =>
        by_cases h : ∃ k, k < m0 ∧ isFree n Z k = true
        · obtain ⟨k, h1, h2⟩ := h
          exact ih k h1 h2
        · exact ⟨m0, hm0, fun k h1 => by
            cases e : isFree n Z k with
            | false => rfl
            | true => exact absurd ⟨k, h1, e⟩ h⟩
    exact ⟨m, hm, hl, takeM_low ((a.free d m).mpr hm) fun k hk y => absurd ((hl k hk).symm.trans ((a.free d k).mp y)) (by simp)⟩
  · right
    have hn : ∀ k, isFree n Z k = false := fun k => by
      cases e : isFree n Z k with
      | false => rfl
      | true => exact absurd ⟨k, e⟩ h
    exact ⟨hn, takeM_none fun k y => absurd ((hn k).symm.trans ((a.free d k).mp y)) (by simp)⟩
theorem Av.give {n : Nat} {Z : Nat → Txt} {T : TM} (a : Av n Z T) (d : Dim n) {i : Nat} (h1 : (geoN n).data ≤ i) (h2 : i < n) (hb : bit Z i = true) :
    ((Spc.give T (geoN n) i).2 = 0 ∧ Av n (setZ Z i false) (Spc.give T (geoN n) i).1 ∧ ∀ x, x ∈ ks (Spc.give T (geoN n) i).1 ↔ x ∈ ks T ∨ x = ((98 + i / 4096 : Nat) : Int)) ∨ (Spc.give T (geoN n) i = (T, 60) ∧ 96 ≤ (ks T).length) := by
  have e : Spc.give T (geoN n) i = Spc.setBit T (geoN n) i false := by
    unfold Spc.give
    have hbl : (geoN n).blocks = n := rfl
    have m4 := (d.map h2).2.2.2
    have et : ((i : Nat) : Int).toNat = i := rfl
    rw [if_neg (by omega), et, at_eq, a.z _ m4, if_neg (fun y => y rfl), if_neg]
    intro y
    have hb : bitAt (Z (98 + i / 4096)) (i % 4096) = true := hb
    rw [hb] at y; cases y
  rw [e]
  rcases a.setBit d h2 false with ⟨e1, a', es⟩ | ⟨e1, h3, _⟩
  · refine .inl ⟨e1, a', fun x => ?_⟩
    rw [es] at e1 ⊢
    exact write_keys e1 x
  · exact .inr ⟨e1, h3⟩
def cnt (p : Nat → Bool) : Nat → Nat
  | 0 => 0
  | m + 1 => cnt p m + if p m = true then 1 else 0
theorem cnt_upd {p q : Nat → Bool} {i : Nat} (h : ∀ j, j ≠ i → p j = q j) (hp : p i = false) (hq : q i = true) : ∀ m, cnt q m = cnt p m + if i < m then 1 else 0
  | 0 => by rw [if_neg (by omega)]; rfl
  | m + 1 => by
    show cnt q m + (if q m = true then 1 else 0) = cnt p m + (if p m = true then 1 else 0) + _
    rw [cnt_upd h hp hq m]
    by_cases e : m = i
    · subst e
      rw [if_pos hq, if_neg (show ¬ p m = true by rw [hp]; simp), if_neg (show ¬ m < m by omega), if_pos (show m < m + 1 by omega)]
    · rw [h m e]
      by_cases e2 : i < m
      · rw [if_pos e2, if_pos (show i < m + 1 by omega)]; omega
      · rw [if_neg e2, if_neg (show ¬ i < m + 1 by omega)]; omega
theorem cnt_congr {p q : Nat → Bool} : ∀ {m : Nat}, (∀ j, j < m → p j = q j) → cnt p m = cnt q m
  | 0, _ => rfl
  | m + 1, h => by
    show cnt p m + (if p m = true then 1 else 0) = cnt q m + (if q m = true then 1 else 0)
    rw [h m (by omega), cnt_congr fun j hj => h j (by omega)]
theorem cnt_hi {p : Nat → Bool} {n : Nat} (h : ∀ j, n ≤ j → p j = false) : ∀ d, cnt p (n + d) = cnt p n
  | 0 => rfl
  | d + 1 => by
    show cnt p (n + d) + (if p (n + d) = true then 1 else 0) = _
    rw [h (n + d) (by omega), cnt_hi h d, if_neg (by simp)]; rfl
theorem cnt_zero {p : Nat → Bool} : ∀ {m : Nat}, (∀ j, j < m → p j = false) → cnt p m = 0
  | 0, _ => rfl
  | m + 1, h => by
    show cnt p m + (if p m = true then 1 else 0) = 0
    rw [h m (by omega), cnt_zero fun j hj => h j (by omega), if_neg (by simp)]
/-- how many blocks are free -/
def frees (n : Nat) (Z : Nat → Txt) : Nat := cnt (isFree n Z) n
theorem Av.cntZ {n : Nat} {Z : Nat → Txt} {T : TM} (a : Av n Z T) (d : Dim n) : cntTo T (geoN n) (4096 * ((geoN n).inodes - (geoN n).bitmap)) = frees n Z := by
  have h : ∀ m, cntTo T (geoN n) m = cnt (isFree n Z) m := fun m => by
    induction m with
    | zero => rfl
    | succ m ih =>
      show cntTo T (geoN n) m + (if FreeAt T (geoN n) m then 1 else 0) = cnt (isFree n Z) m + (if isFree n Z m = true then 1 else 0)
      rw [ih]
      by_cases e : isFree n Z m = true
      · rw [if_pos e, if_pos ((a.free d m).mpr e)]
      · rw [if_neg e, if_neg fun x => e ((a.free d m).mp x)]
  rw [h]
  have hino : (geoN n).inodes = 98 + (n + 4095) / 4096 := rfl
  have hbm : (geoN n).bitmap = 98 := rfl
  have e : 4096 * ((geoN n).inodes - (geoN n).bitmap) = n + (4096 * ((geoN n).inodes - (geoN n).bitmap) - n) := by omega
  rw [e]
  exact cnt_hi (fun j hj => by
    cases e : isFree n Z j with
    | false => rfl
    | true => have := (isFree_iff.mp e).2.1; omega) _
end Go.Proofs.YtcdpakjhjmchhaaDoor.Av
namespace Go.Proofs.YtcdpakjhjmchhaaDoor.Bm
open Go Go.Proofs Go.Proofs.YtcdpakjhjmchhaaDoor.Wx Go.Proofs.YtcdpakjhjmchhaaDoor.Hp Go.Proofs.YtcdpakjhjmchhaaDoor.W Go.Proofs.YtcdpakjhjmchhaaDoor.Ad Go.Proofs.YtcdpakjhjmchhaaDoor.Tm Go.Proofs.YtcdpakjhjmchhaaDoor.Bt Go.Proofs.YtcdpakjhjmchhaaDoor.Spc Go.Proofs.YtcdpakjhjmchhaaDoor.Re Go.Proofs.YtcdpakjhjmchhaaDoor.Av
theorem leN_leB (v : Nat) : ∀ n, leN (leBs n v) = v % 256 ^ n
  | 0 => by show 0 = v % 1; omega
  | n + 1 => by
    have e : leBs (n + 1) v = leBs n v ++ [UInt8.ofNat (v / 256 ^ n)] := by unfold leBs; rw [List.range_succ, List.map_append]; rfl
    rw [e, leN_snoc, leB_length, leN_leB v n, Nat.mod_pow_succ]
    have : (UInt8.ofNat (v / 256 ^ n)).toNat = v / 256 ^ n % 256 := by simp
    rw [this, Nat.mul_comm]
def num4 (b : Txt) (p : Nat) : Nat := leN ((b.drop (4 * p)).take 4)
def set4 (b : Txt) (p v : Nat) : Txt := putU b (4 * p) (leBs 4 v)
theorem num4_lt (b : Txt) (p : Nat) : num4 b p < 4294967296 := by
  have h := leN_lt ((b.drop (4 * p)).take 4)
  have hl : ((b.drop (4 * p)).take 4).length ≤ 4 := by rw [List.length_take]; omega
  exact Nat.lt_of_lt_of_le h (Nat.le_trans (Nat.pow_le_pow_right (by decide) hl) (by decide))
theorem set4_length {b : Txt} {p v : Nat} (hb : b.length = 512) (hp : p < 128) : (set4 b p v).length = 512 := by
  unfold set4
  rw [putU_length (by rw [leB_length]; omega), hb]
theorem part_put {b z : Txt} {o q : Nat} (hz : z.length = 4) (hb : b.length = 512) (ho : 4 * o + 4 ≤ 512) (hq : 4 * q + 4 ≤ 512) : ((putU b (4 * o) z).drop (4 * q)).take 4 = if q = o then z else (b.drop (4 * q)).take 4 := by
  unfold putU
  have l1 : (b.take (4 * o)).length = 4 * o := by rw [List.length_take]; omega
  by_cases h : q = o
  · rw [if_pos h, h, List.append_assoc, List.drop_append_of_le_length (by omega), List.drop_of_length_le (by omega), List.nil_append, List.take_append_of_le_length (by omega), List.take_of_length_le (by omega)]
  · rw [if_neg h]
    rcases Nat.lt_or_ge q o with h1 | h1
    · rw [List.append_assoc, List.drop_append_of_le_length (by omega), List.take_append_of_le_length (by rw [List.length_drop]; omega), List.drop_take, List.take_take, Nat.min_eq_left (by omega)]
    · have l2 : (b.take (4 * o) ++ z).length = 4 * o + 4 := by rw [List.length_append]; omega
      rw [List.drop_append, List.drop_of_length_le (by omega), List.nil_append, List.drop_drop, l2, hz, show 4 * o + 4 + (4 * q - (4 * o + 4)) = 4 * q by omega]
theorem num4_set {b : Txt} {o q v : Nat} (hb : b.length = 512) (ho : o < 128) (hq : q < 128) (hv : v < 4294967296) : num4 (set4 b o v) q = if q = o then v else num4 b q := by
  unfold num4 set4
  rw [part_put (leB_length 4 v) hb (by omega) (by omega)]
  split
  · rw [leN_leB]; exact Nat.mod_eq_of_lt hv
  · rfl
theorem num4_zeros (p : Nat) : num4 zeros p = 0 := by
  unfold num4 zeros
  rw [List.drop_replicate, List.take_replicate]
  generalize min 4 (512 - 4 * p) = k
  induction k with
  | zero => rfl
  | succ k ih => rw [List.replicate_succ]; show (0 : UInt8).toNat + 256 * leN (List.replicate k 0) = 0; rw [ih]; rfl
def nS : Nat := 16652
def par (s : Nat) : Option (Nat × Nat) :=
  if s < 10 then none else if s < 138 then some (16522, s - 10) else if s < 16522 then some (16524 + (s - 138) / 128, (s - 138) % 128) else if s < 16524 then none else some (16523, s - 16524)
def root (R : List Int) (s : Nat) : Int := if s < 10 then R.getD (3 + s) 0 else if s = 16522 then R.getD 13 0 else R.getD 14 0
def sub (Z : Nat → Txt) (b p : Nat) : Nat := if b = 0 then 0 else num4 (Z b) p
def num0 (R : List Int) (s : Nat) : Nat := (root R s).toNat
def num1 (Z : Nat → Txt) (R : List Int) (s : Nat) : Nat := match par s with
  | none => num0 R s
  | some (q, p) => sub Z (num0 R q) p
/-- the block that stands at a slot; 0: none -/
def num (Z : Nat → Txt) (R : List Int) (s : Nat) : Nat := match par s with
  | none => num0 R s
  | some (q, p) => sub Z (num1 Z R q) p
theorem par_up {s q p : Nat} (h : par s = some (q, p)) (hs : s < nS) : p < 128 ∧ ((q = 16522 ∧ s = 10 + p) ∨ (q = 16523 ∧ s = 16524 + p) ∨ (16524 ≤ q ∧ q < nS ∧ s = 138 + (q - 16524) * 128 + p)) := by
  unfold par at h
  unfold nS at *
  split at h
  · cases h
  · split at h
    · cases h; omega
    · split at h
      · cases h; omega
      · split at h
        · cases h
        · cases h; omega
theorem par_none {s : Nat} (h : par s = none) : s < 10 ∨ s = 16522 ∨ s = 16523 := by
  unfold par at h
  split at h
  · omega
  · split at h
    · cases h
    · split at h
      · cases h
      · split at h
        · omega
        · cases h
theorem par_table {p : Nat} (_ : p < 128) : par (16524 + p) = some (16523, p) := by
  unfold par
  rw [if_neg (by omega), if_neg (by omega), if_neg (by omega), if_neg (by omega), Nat.add_sub_cancel_left]
theorem par_inj {s s' q p : Nat} (h : par s = some (q, p)) (h' : par s' = some (q, p)) (hs : s < nS) (hs' : s' < nS) : s = s' := by
  have a := par_up h hs
  have b := par_up h' hs'
  omega
theorem par_ne {s q p : Nat} (h : par s = some (q, p)) (hs : s < nS) : q ≠ s ∧ q < nS ∧ 16522 ≤ q := by
  have a := par_up h hs
  unfold nS at *
  omega
theorem num_none {Z : Nat → Txt} {R : List Int} {s : Nat} (h : par s = none) : num Z R s = (root R s).toNat := by unfold num; rw [h]; rfl
theorem num1_num {Z : Nat → Txt} {R : List Int} {q : Nat} (hq : 16522 ≤ q) (hn : q < nS) : num1 Z R q = num Z R q := by
  unfold num1 num
  rcases Nat.lt_or_ge q 16524 with h | h
  · have : par q = none := by unfold par; rw [if_neg (by omega), if_neg (by omega), if_neg (by omega), if_pos h]
    rw [this]
  · have e : par q = some (16523, q - 16524) := by
      have := par_table (p := q - 16524) (by unfold nS at hn; omega)
      rw [show 16524 + (q - 16524) = q by omega] at this
      exact this
    rw [e]
    show sub Z (num0 R 16523) _ = sub Z (num1 Z R 16523) _
    rfl
theorem num_some {Z : Nat → Txt} {R : List Int} {s q p : Nat} (h : par s = some (q, p)) (hs : s < nS) : num Z R s = sub Z (num Z R q) p := by
  have a := par_ne h hs
  unfold num
  rw [h]
  show sub Z (num1 Z R q) p = sub Z (num Z R q) p
  rw [num1_num a.2.2 a.2.1]
/-- induction over slots: a slot behind its table -/
theorem slots {P : Nat → Prop} (h0 : ∀ s, s < nS → par s = none → P s) (h1 : ∀ s q p, s < nS → par s = some (q, p) → P q → P s) : ∀ s, s < nS → P s := by
  have two : P 16523 := h0 _ (by decide) (by decide)
  have tab : ∀ q, 16522 ≤ q → q < nS → P q := fun q hq hn => by
    cases e : par q with
    | none => exact h0 q hn e
    | some x =>
      obtain ⟨q', p⟩ := x
      have := par_up e hn
      have : q' = 16523 := by unfold nS at *; omega
      subst this
      exact h1 q _ p hn e two
  intro s hs
  cases e : par s with
  | none => exact h0 s hs e
  | some x =>
    obtain ⟨q, p⟩ := x
    have := par_ne e hs
    exact h1 s q p hs e (tab q this.2.2 this.2.1)
/-- the numbers of a record are sound: data blocks that are taken, none twice -/
structure Wf (n : Nat) (Z : Nat → Txt) (R : List Int) : Prop where
  rl : R.length = 15
  rr : ∀ i, 3 ≤ i → i < 15 → 0 ≤ R.getD i 0
  rng : ∀ s, s < nS → num Z R s ≠ 0 → (geoN n).data ≤ num Z R s ∧ num Z R s < n ∧ bit Z (num Z R s) = true
  inj : ∀ s s', s < nS → s' < nS → num Z R s ≠ 0 → num Z R s = num Z R s' → s = s'
/-- other contents, the same in all tables of a record -/
theorem num_congr {Z Z' : Nat → Txt} {R R' : List Int} (hr : ∀ s, s < nS → par s = none → root R' s = root R s) (hz : ∀ q, 16522 ≤ q → q < nS → num Z R q ≠ 0 → ∀ p, p < 128 → num4 (Z' (num Z R q)) p = num4 (Z (num Z R q)) p) : ∀ s, s < nS → num Z' R' s = num Z R s := by
  refine slots (fun s hs e => ?_) fun s q p hs e ih => ?_
  · rw [num_none e, num_none e, hr s hs e]
  · have a := par_ne e hs
    rw [num_some e hs, num_some e hs, ih]
    unfold sub
    split
    · rfl
    · rename_i h
      exact hz q a.2.2 a.2.1 h p (par_up e hs).1
def setRoot (R : List Int) (s : Nat) (v : Int) : List Int := if s < 10 then R.set (3 + s) v else if s = 16522 then R.set 13 v else R.set 14 v
theorem getD_set {α : Type} (l : List α) (i j : Nat) (b d : α) (h : i < l.length) : (l.set i b).getD j d = if j = i then b else l.getD j d := by
  rw [List.getD_eq_getElem?_getD, List.getD_eq_getElem?_getD]
  by_cases e : j = i
  · rw [if_pos e, e, List.getElem?_set_self h]; rfl
  · rw [if_neg e, List.getElem?_set_ne (fun x => e x.symm)]
theorem root_set {R : List Int} {s s' : Nat} {v : Int} (hl : R.length = 15) (h : par s = none) (h' : par s' = none) : root (setRoot R s v) s' = if s' = s then v else root R s' := by
  have a := par_none h
  have b := par_none h'
  unfold root setRoot
  by_cases e : s < 10
  · rw [if_pos e]
    simp only [getD_set R (3 + s) _ _ _ (show 3 + s < R.length by omega)]
    by_cases e' : s' < 10
    · rw [if_pos e', if_pos e']
      by_cases e2 : s' = s
      · rw [if_pos e2, if_pos (by omega)]
      · rw [if_neg e2, if_neg (by omega)]
    · rw [if_neg e', if_neg e', if_neg (show ¬ s' = s by omega), if_neg (show ¬ 13 = 3 + s by omega), if_neg (show ¬ 14 = 3 + s by omega)]
  · rw [if_neg e]
    by_cases e1 : s = 16522
    · rw [if_pos e1]
      simp only [getD_set R 13 _ _ _ (show 13 < R.length by omega)]
      by_cases e' : s' < 10
      · rw [if_pos e', if_pos e', if_neg (show ¬ s' = s by omega), if_neg (show ¬ 3 + s' = 13 by omega)]
      · rw [if_neg e', if_neg e']
        by_cases e2 : s' = 16522
        · rw [if_pos e2, if_pos e2, if_pos trivial, if_pos (by omega)]
        · rw [if_neg e2, if_neg e2, if_neg (show ¬ s' = s by omega), if_neg (show ¬ 14 = 13 by omega)]
    · rw [if_neg e1]
      simp only [getD_set R 14 _ _ _ (show 14 < R.length by omega)]
      by_cases e' : s' < 10
      · rw [if_pos e', if_pos e', if_neg (show ¬ s' = s by omega), if_neg (show ¬ 3 + s' = 14 by omega)]
      · rw [if_neg e', if_neg e']
        by_cases e2 : s' = 16522
        · rw [if_pos e2, if_pos e2, if_neg (show ¬ s' = s by omega), if_neg (show ¬ 13 = 14 by omega)]
        · rw [if_neg e2, if_neg e2, if_pos trivial, if_pos (by omega)]
/-- a hole is filled: the record, the blocks -/
def fillR (R : List Int) (s m : Nat) : List Int := match par s with
  | none => setRoot R s m
  | some _ => R
def fillZ (Z : Nat → Txt) (R : List Int) (s m : Nat) : Nat → Txt := match par s with
  | none => takeZ Z m
  | some (q, p) => up (takeZ Z m) (num Z R q) (set4 (Z (num Z R q)) p m)
theorem takeZ_at {n m : Nat} {Z : Nat → Txt} (d : Dim n) (hl : ∀ k, k < n → (Z k).length = 512) (f1 : (geoN n).data ≤ m) (f2 : m < n) :
    (∀ j, j < n → bit (takeZ Z m) j = if j = m then true else bit Z j) ∧ takeZ Z m m = zeros ∧ ∀ b, (geoN n).inodes ≤ b → b ≠ m → takeZ Z m b = Z b := by
  obtain ⟨m1, m2, m3, m4⟩ := d.map f2
  refine ⟨fun j hj => ?_, up_at _ _ _, fun b hb hm => ?_⟩
  · unfold takeZ
    rw [bit_up (by have := (d.map hj).2; omega), bit_setZ (hl _ m4)]
  · unfold takeZ
    rw [up_ne _ _ hm, setZ_ne (by omega)]
/-- what stands in the blocks behind that -/
theorem fillZ_at {n m s : Nat} {Z : Nat → Txt} {R : List Int} (d : Dim n) (hl : ∀ k, k < n → (Z k).length = 512) (w : Wf n Z R) (hs : s < nS) (hp : ∀ q p, par s = some (q, p) → num Z R q ≠ 0) (hf : isFree n Z m = true) :
    (∀ j, j < n → bit (fillZ Z R s m) j = if j = m then true else bit Z j) ∧ fillZ Z R s m m = zeros ∧
      ∀ b, (geoN n).inodes ≤ b → b ≠ m → (∀ q p, par s = some (q, p) → b ≠ num Z R q) → fillZ Z R s m b = Z b := by
  obtain ⟨f1, f2, f3⟩ := isFree_iff.mp hf
  have t := takeZ_at d hl f1 f2
  cases e : par s with
  | none =>
    simp only [fillZ, e]
    exact ⟨t.1, t.2.1, fun b h1 h2 _ => t.2.2 b h1 h2⟩
  | some x =>
    obtain ⟨q, p⟩ := x
    have hq := hp q p e
    have a := par_ne e hs
    obtain ⟨r1, r2, r3⟩ := w.rng q a.2.1 hq
    have hqm : num Z R q ≠ m := fun y => by rw [y, f3] at r3; cases r3
    simp only [fillZ, e]
    refine ⟨fun j hj => ?_, ?_, fun b h1 h2 h3 => ?_⟩
    · rw [bit_up (by have := (d.map hj).2; omega)]; exact t.1 j hj
    · rw [up_ne _ _ (fun y => hqm y.symm)]; exact t.2.1
    · rw [up_ne _ _ (h3 q p rfl)]; exact t.2.2 b h1 h2
theorem setRoot_rr {R : List Int} {s : Nat} {v : Int} (hl : R.length = 15) (h : ∀ i, 3 ≤ i → i < 15 → 0 ≤ R.getD i 0) (hv : 0 ≤ v) : (setRoot R s v).length = 15 ∧ ∀ i, 3 ≤ i → i < 15 → 0 ≤ (setRoot R s v).getD i 0 := by
  unfold setRoot
  refine ⟨?_, fun i h1 h2 => ?_⟩
  · split
    · rw [List.length_set]; exact hl
    · split
      · rw [List.length_set]; exact hl
      · rw [List.length_set]; exact hl
  split
  · rw [getD_set _ _ _ _ _ (by omega)]; split
    · exact hv
    · exact h i h1 h2
  · split
    · rw [getD_set _ _ _ _ _ (by omega)]; split
      · exact hv
      · exact h i h1 h2
    · rw [getD_set _ _ _ _ _ (by omega)]; split
      · exact hv
      · exact h i h1 h2
/-- a hole is filled with a free block -/
theorem Wf.fill {n m s : Nat} {Z : Nat → Txt} {R : List Int} (d : Dim n) (hl : ∀ k, k < n → (Z k).length = 512) (w : Wf n Z R) (hs : s < nS) (h0 : num Z R s = 0) (hp : ∀ q p, par s = some (q, p) → num Z R q ≠ 0) (hf : isFree n Z m = true) :
    (∀ s', s' < nS → num (fillZ Z R s m) (fillR R s m) s' = if s' = s then m else num Z R s') ∧ Wf n (fillZ Z R s m) (fillR R s m) := by
  obtain ⟨f1, f2, f3⟩ := isFree_iff.mp hf
  obtain ⟨b1, b2, b3⟩ := fillZ_at d hl w hs hp hf
  have hd := d.data
  have hi := (d.map f2).2.2.1
  have hhi := d.hi
  have ne : ∀ s', s' < nS → num Z R s' ≠ 0 → num Z R s' ≠ m := fun s' h1 h2 y => by
    have := (w.rng s' h1 h2).2.2
    rw [y, f3] at this; cases this
  have numb : ∀ s', s' < nS → num (fillZ Z R s m) (fillR R s m) s' = if s' = s then m else num Z R s' := by
    refine slots (fun s' h1 e' => ?_) fun s' q' p' h1 e' ih => ?_
    · rw [num_none e', num_none e']
      cases e : par s with
      | none =>
        simp only [fillR, e]
        rw [root_set w.rl e e']
        by_cases h : s' = s
        · rw [if_pos h, if_pos h]; rfl
        · rw [if_neg h, if_neg h]
      | some x =>
        simp only [fillR, e]
        rw [if_neg (by rintro rfl; rw [e'] at e; cases e)]
    · have a' := par_ne e' h1
      have p128 := (par_up e' h1).1
      rw [num_some e' h1, num_some e' h1, ih]
      by_cases hq : q' = s
      · rw [if_pos hq, if_neg (by omega), hq, h0]
        unfold sub
        rw [if_neg (by omega), if_pos rfl, b2, num4_zeros]
      · rw [if_neg hq]
        by_cases h : num Z R q' = 0
        · rw [if_neg (by rintro rfl; exact hp _ _ e' h)]
          unfold sub
          rw [if_pos h, if_pos h]
        · unfold sub
          rw [if_neg h, if_neg h]
          by_cases hqq : ∃ p, par s = some (q', p)
          · obtain ⟨p, e⟩ := hqq
            have pp := (par_up e hs).1
            have ez : fillZ Z R s m (num Z R q') = set4 (Z (num Z R q')) p m := by
              simp only [fillZ, e]; exact up_at _ _ _
            rw [ez, num4_set (hl _ (w.rng q' a'.2.1 h).2.1) pp p128 (by omega)]
            by_cases hpp : p' = p
            · rw [if_pos hpp, if_pos]
              subst hpp
              exact par_inj e' e h1 hs
            · rw [if_neg hpp, if_neg (by rintro rfl; rw [e'] at e; cases e; exact hpp rfl)]
          · rw [if_neg (by rintro rfl; exact hqq ⟨_, e'⟩)]
            rw [b3 _ (by have := (w.rng q' a'.2.1 h).1; omega) (ne q' a'.2.1 h) fun q p e y => hqq ⟨p, by rw [e, w.inj q' q a'.2.1 (par_ne e hs).2.1 h y]⟩]
  refine ⟨numb, ?_, ?_, fun s' h1 h2 => ?_, fun s1 s2 h1 h2 h3 h4 => ?_⟩
  · cases e : par s with
    | none => simp only [fillR, e]; exact (setRoot_rr w.rl w.rr (by omega)).1
    | some x => simp only [fillR, e]; exact w.rl
  · cases e : par s with
    | none => simp only [fillR, e]; exact (setRoot_rr w.rl w.rr (by omega)).2
    | some x => simp only [fillR, e]; exact w.rr
  · rw [numb s' h1] at h2 ⊢
    by_cases h : s' = s
    · rw [if_pos h, b1 m f2, if_pos rfl]; exact ⟨f1, f2, rfl⟩
    · rw [if_neg h] at h2 ⊢
      have r := w.rng s' h1 h2
      rw [b1 _ r.2.1, if_neg (ne s' h1 h2)]; exact r
  · rw [numb s1 h1] at h3 h4
    rw [numb s2 h2] at h4
    by_cases e1 : s1 = s
    · by_cases e2 : s2 = s
      · rw [e1, e2]
      · rw [if_pos e1, if_neg e2] at h4
        exact absurd h4.symm (ne s2 h2 (by rw [← h4]; omega))
    · rw [if_neg e1] at h3 h4
      by_cases e2 : s2 = s
      · rw [if_pos e2] at h4
        exact absurd h4 (ne s1 h1 h3)
      · rw [if_neg e2] at h4
        exact w.inj s1 s2 h1 h2 h3 h4
def many (Z : Nat → Txt) (R : List Int) : Nat := cnt (fun s => decide (num Z R s ≠ 0)) nS
theorem many_fill {m s : Nat} {Z : Nat → Txt} {R : List Int} (hm : m ≠ 0) (hs : s < nS) (h0 : num Z R s = 0) {Z' : Nat → Txt} {R' : List Int} (h : ∀ s', s' < nS → num Z' R' s' = if s' = s then m else num Z R s') : many Z' R' = many Z R + 1 := by
  have e : many Z' R' = cnt (fun s' => decide ((if s' = s then m else num Z R s') ≠ 0)) nS := cnt_congr fun j hj => by rw [h j hj]
  rw [e]
  have := cnt_upd (p := fun s' => decide (num Z R s' ≠ 0)) (q := fun s' => decide ((if s' = s then m else num Z R s') ≠ 0)) (i := s) (fun j hj => by simp only [if_neg hj]) (by simp only [h0]; rfl) (by simp only [if_pos]; exact decide_eq_true hm) nS
  rw [if_pos hs] at this
  exact this
theorem frees_bits {n m : Nat} {Z Z' : Nat → Txt} (h1 : (geoN n).data ≤ m) (h2 : m < n) (hz : bit Z m = false) (h : ∀ j, j < n → bit Z' j = if j = m then true else bit Z j) : frees n Z = frees n Z' + 1 := by
  have := cnt_upd (p := isFree n Z') (q := isFree n Z) (i := m) (fun j hj => by
      unfold isFree
      by_cases hjn : j < n
      · rw [h j hjn, if_neg hj]
      · rw [decide_eq_false hjn]; simp) (by
      unfold isFree
      rw [h m h2, if_pos rfl]; simp) (isFree_iff.mpr ⟨h1, h2, hz⟩) n
  rw [if_pos h2] at this
  exact this
end Go.Proofs.YtcdpakjhjmchhaaDoor.Bm
namespace Go.Proofs.YtcdpakjhjmchhaaDoor.Bm
open Go Go.Proofs Go.Proofs.YtcdpakjhjmchhaaDoor.Wx Go.Proofs.YtcdpakjhjmchhaaDoor.Hp Go.Proofs.YtcdpakjhjmchhaaDoor.W Go.Proofs.YtcdpakjhjmchhaaDoor.Ad Go.Proofs.YtcdpakjhjmchhaaDoor.Tm Go.Proofs.YtcdpakjhjmchhaaDoor.Bt Go.Proofs.YtcdpakjhjmchhaaDoor.Spc Go.Proofs.YtcdpakjhjmchhaaDoor.Re Go.Proofs.YtcdpakjhjmchhaaDoor.Av
/-- the number of a step, at the table at_: the number, the table's bytes, the error -/
def numM (T : TM) (R : List Int) (s : Nat × Nat) (at_ : Int) : Int × Txt × Int :=
  if s.1 = 0 then (R.getD (3 + s.2) 0, [], 0) else if s.1 = 1 then (R.getD 13 0, [], 0) else if s.1 = 2 then (R.getD 14 0, [], 0) else
    if (T.read at_).2 ≠ 0 then (0, [], (T.read at_).2) else ((num4 (T.read at_).1 s.2 : Nat), (T.read at_).1, 0)
def lookM (g : G) (v : Int) : Int := if v < g.data ∨ v ≥ g.blocks then 100 else 0
def setM (T : TM) (R : List Int) (s : Nat × Nat) (at_ : Int) (b : Txt) (v : Int) : (TM × List Int) × Int :=
  if s.1 = 0 then ((T, R.set (3 + s.2) v), 0) else if s.1 = 1 then ((T, R.set 13 v), 0) else if s.1 = 2 then ((T, R.set 14 v), 0) else
    (((T.write at_ (set4 b s.2 v.toNat)).1, R), (T.write at_ (set4 b s.2 v.toNat)).2)
def walkF (T : TM) (g : G) (R : List Int) : List (Nat × Nat) → Int → Int × Int
  | [], a => (a, 0)
  | s :: r, a => if (numM T R s a).2.2 ≠ 0 then (0, (numM T R s a).2.2) else if (numM T R s a).1 = 0 then (0, 0) else
      if lookM g (numM T R s a).1 ≠ 0 then (0, lookM g (numM T R s a).1) else walkF T g R r (numM T R s a).1
def walkA (g : G) : List (Nat × Nat) → TM → List Int → Int → (TM × List Int) × Int × Int
  | [], T, R, a => ((T, R), a, 0)
  | s :: r, T, R, a => if (numM T R s a).2.2 ≠ 0 then ((T, R), 0, (numM T R s a).2.2) else if (numM T R s a).1 ≠ 0 then
      if lookM g (numM T R s a).1 ≠ 0 then ((T, R), 0, lookM g (numM T R s a).1) else walkA g r T R (numM T R s a).1
    else if (takeM T g).2.2 ≠ 0 then (((takeM T g).1, R), 0, (takeM T g).2.2) else
      if (setM (takeM T g).1 R s a (numM T R s a).2.1 (takeM T g).2.1).2 ≠ 0 then ((setM (takeM T g).1 R s a (numM T R s a).2.1 (takeM T g).2.1).1, 0, (setM (takeM T g).1 R s a (numM T R s a).2.1 (takeM T g).2.1).2) else
      if (takeM T g).2.1 = 0 then ((setM (takeM T g).1 R s a (numM T R s a).2.1 (takeM T g).2.1).1, 0, 0) else
      if lookM g (takeM T g).2.1 ≠ 0 then ((setM (takeM T g).1 R s a (numM T R s a).2.1 (takeM T g).2.1).1, 0, lookM g (takeM T g).2.1) else
        walkA g r (setM (takeM T g).1 R s a (numM T R s a).2.1 (takeM T g).2.1).1.1 (setM (takeM T g).1 R s a (numM T R s a).2.1 (takeM T g).2.1).1.2 (takeM T g).2.1
def wayM (k : Nat) : List (Nat × Nat) := if k < 10 then [(0, k)] else if k < 138 then [(1, 0), (3, k - 10)] else [(2, 0), (3, (k - 138) / 128), (3, (k - 138) % 128)]
def z15 : List Int := List.replicate 15 0
def findM (T : TM) (g : G) (R : List Int) (k : Int) : Int × Int := if k < 0 ∨ k ≥ 16522 then (0, 101) else walkF T g R (wayM k.toNat) 0
def addM (T : TM) (g : G) (R : List Int) (k : Int) : TM × List Int × Int × Int :=
  if k < 0 ∨ k ≥ 16522 then (T, z15, 0, 101) else
    if (walkA g (wayM k.toNat) T R 0).2.2 ≠ 0 then (((walkA g (wayM k.toNat) T R 0).1.1.back T.undo.length).1, z15, 0, (walkA g (wayM k.toNat) T R 0).2.2)
      else ((walkA g (wayM k.toNat) T R 0).1.1, (walkA g (wayM k.toNat) T R 0).1.2, (walkA g (wayM k.toNat) T R 0).2.1, 0)
def stepOf (s : Nat) : Nat × Nat := if s < 10 then (0, s) else if s = 16522 then (1, 0) else if s = 16523 then (2, 0) else (3, ((par s).getD (0, 0)).2)
def path (k : Nat) : List Nat := if k < 10 then [k] else if k < 138 then [16522, k] else [16523, 16524 + (k - 138) / 128, k]
/-- slots one behind the other, each in the table of the one ahead -/
def Chain : Option Nat → List Nat → Prop
  | _, [] => True
  | o, s :: r => s < nS ∧ (match o with | none => par s = none | some q => ∃ p, par s = some (q, p)) ∧ s ∉ r ∧ Chain (some s) r
theorem path_chain {k : Nat} (hk : k < 16522) : Chain none (path k) ∧ (path k).map stepOf = wayM k := by
  unfold path wayM
  by_cases h1 : k < 10
  · rw [if_pos h1, if_pos h1]
    refine ⟨⟨by unfold nS; omega, by unfold par; exact if_pos h1, by simp, trivial⟩, ?_⟩
    simp only [List.map_cons, List.map_nil, stepOf, if_pos h1]
  · rw [if_neg h1, if_neg h1]
    by_cases h2 : k < 138
    · rw [if_pos h2, if_pos h2]
      have e : par k = some (16522, k - 10) := by unfold par; rw [if_neg h1, if_pos h2]
      refine ⟨⟨by decide, by decide, by simp; omega, by unfold nS; omega, ⟨_, e⟩, by simp, trivial⟩, ?_⟩
      simp only [List.map_cons, List.map_nil, stepOf, if_neg h1, e]
      rw [if_neg (show ¬ 16522 < 10 by decide), if_pos trivial, if_neg (by omega), if_neg (by omega)]; rfl
    · rw [if_neg h2, if_neg h2]
      have e : par k = some (16524 + (k - 138) / 128, (k - 138) % 128) := by unfold par; rw [if_neg h1, if_neg h2, if_pos hk]
      have e2 : par (16524 + (k - 138) / 128) = some (16523, (k - 138) / 128) := par_table (by omega)
      refine ⟨⟨by decide, by decide, by simp; omega, by unfold nS; omega, ⟨_, e2⟩, by simp; omega, by unfold nS; omega, ⟨_, e⟩, by simp, trivial⟩, ?_⟩
      simp only [List.map_cons, List.map_nil, stepOf, if_neg h1, e, e2]
      rw [if_neg (show ¬ 16523 < 10 by decide), if_neg (show ¬ 16523 = 16522 by decide), if_pos trivial, if_neg (by omega), if_neg (by omega), if_neg (by omega), if_neg (by omega), if_neg (by omega)]; rfl
theorem root_num {n : Nat} {Z : Nat → Txt} {R : List Int} {s : Nat} (w : Wf n Z R) (hs : s < nS) (h : par s = none) : root R s = (num Z R s : Nat) := by
  rw [num_none h]
  have a := par_none h
  have : 0 ≤ root R s := by
    unfold root
    split
    · exact w.rr _ (by omega) (by omega)
    · split
      · exact w.rr _ (by omega) (by omega)
      · exact w.rr _ (by omega) (by omega)
  omega
/-- where a step's number stands -/
def at_ (Z : Nat → Txt) (R : List Int) : Option Nat → Int
  | none => 0
  | some q => (num Z R q : Nat)
def tabO (Z : Nat → Txt) (R : List Int) : Option Nat → Txt
  | none => []
  | some q => Z (num Z R q)
theorem numM_tab (T : TM) (R : List Int) (p : Nat) (a : Int) : numM T R (3, p) a = if (T.read a).2 ≠ 0 then ((0 : Int), ([] : Txt), (T.read a).2) else (((num4 (T.read a).1 p : Nat) : Int), (T.read a).1, (0 : Int)) := rfl
theorem stepOf_table {s q p : Nat} (h : par s = some (q, p)) (hs : s < nS) : stepOf s = (3, p) := by
  have b := par_up h hs
  unfold stepOf
  rw [h, if_neg (by omega), if_neg (by unfold nS at *; omega), if_neg (by unfold nS at *; omega)]; rfl
theorem step_num {n : Nat} {Z : Nat → Txt} {R : List Int} {T : TM} {o : Option Nat} {s : Nat} {r : List Nat} (a : Av n Z T) (w : Wf n Z R) (c : Chain o (s :: r)) (ho : ∀ q, o = some q → q < nS ∧ num Z R q ≠ 0) :
    numM T R (stepOf s) (at_ Z R o) = (((num Z R s : Nat) : Int), tabO Z R o, 0) := by
  obtain ⟨hs, hp, _, _⟩ := c
  cases o with
  | none =>
    have hp : par s = none := hp
    have e := root_num w hs hp
    have b := par_none hp
    rcases b with h1 | rfl | rfl
    · have es : stepOf s = (0, s) := by unfold stepOf; rw [if_pos h1]
      rw [es, ← e]
      unfold root
      rw [if_pos h1]; rfl
    · rw [← e]; rfl
    · rw [← e]; rfl
  | some q =>
    obtain ⟨p, hp⟩ := hp
    obtain ⟨hq, h0⟩ := ho q rfl
    have ru := w.rng q hq h0
    rw [stepOf_table hp hs, numM_tab]
    have ez : at_ Z R (some q) = ((num Z R q : Nat) : Int) := rfl
    rw [ez, a.z _ ru.2.1, if_neg (fun y => y rfl), num_some hp hs]
    unfold sub
    rw [if_neg h0]; rfl
theorem look_ok {n : Nat} {v : Nat} (h1 : (geoN n).data ≤ v) (h2 : v < n) : lookM (geoN n) (v : Int) = 0 := by
  unfold lookM
  have : (geoN n).blocks = n := rfl
  rw [if_neg (by omega)]
theorem walkF_ok {n : Nat} {Z : Nat → Txt} {R : List Int} {T : TM} (a : Av n Z T) (w : Wf n Z R) : ∀ (r : List Nat) (o : Option Nat), Chain o r → (∀ q, o = some q → q < nS ∧ num Z R q ≠ 0) →
    walkF T (geoN n) R (r.map stepOf) (at_ Z R o) = (((match r.getLast? with | none => at_ Z R o | some s => (num Z R s : Nat)) : Int), 0)
  | [], o, _, _ => rfl
  | s :: r, o, c, ho => by
    have e := step_num a w c ho
    show walkF T (geoN n) R (stepOf s :: r.map stepOf) (at_ Z R o) = _
    unfold walkF
    rw [e]
    simp only
    rw [if_neg (fun y => y rfl)]
    obtain ⟨hs, _, _, c'⟩ := c
    have below : num Z R s = 0 → ∀ (l : List Nat) (x : Nat), Chain (some x) l → num Z R x = 0 → ∀ y ∈ l, num Z R y = 0 := fun _ l => by
      induction l with
      | nil => intro x _ _ y hy; cases hy
      | cons y l ih =>
        intro x c h0 z hz
        obtain ⟨h1, ⟨p, h2⟩, _, h4⟩ := c
        have hy : num Z R y = 0 := by rw [num_some h2 h1, h0]; exact if_pos rfl
        rcases List.mem_cons.mp hz with rfl | hz
        · exact hy
        · exact ih y h4 hy z hz
    by_cases h0 : num Z R s = 0
    · rw [if_pos (by omega)]
      have hl : (match (s :: r).getLast? with | none => at_ Z R o | some s => ((num Z R s : Nat) : Int)) = 0 := by
        cases hg : (s :: r).getLast? with
        | none => rw [List.getLast?_eq_none_iff] at hg; cases hg
        | some x =>
          have hx := List.mem_of_getLast? hg
          show ((num Z R x : Nat) : Int) = 0
          rcases List.mem_cons.mp hx with rfl | hx
          · omega
          · rw [below h0 r s c' h0 x hx]; rfl
      rw [hl]
    · have ru := w.rng s hs h0
      rw [if_neg (by omega), look_ok ru.1 ru.2.1, if_neg (fun y => y rfl)]
      have := walkF_ok a w r (some s) c' fun q e => by cases e; exact ⟨hs, h0⟩
      have ea : at_ Z R (some s) = ((num Z R s : Nat) : Int) := rfl
      rw [ea] at this
      rw [this]
      cases r with
      | nil => rfl
      | cons y r =>
        rw [List.getLast?_cons_cons]
        cases hg : (y :: r).getLast? with
        | none => rw [List.getLast?_eq_none_iff] at hg; cases hg
        | some x => rfl
theorem path_last (k : Nat) : (path k).getLast? = some k := by
  unfold path
  split
  · rfl
  · split <;> rfl
theorem find_ok {n : Nat} {Z : Nat → Txt} {R : List Int} {T : TM} (a : Av n Z T) (w : Wf n Z R) {k : Nat} (hk : k < 16522) : findM T (geoN n) R k = (((num Z R k : Nat) : Int), 0) := by
  obtain ⟨c, e⟩ := path_chain hk
  unfold findM
  rw [if_neg (by omega)]
  have := walkF_ok a w (path k) none c fun q y => by cases y
  rw [e, path_last] at this
  exact this
/-- how many slots of a way are empty -/
def miss (Z : Nat → Txt) (R : List Int) : List Nat → Nat
  | [] => 0
  | s :: r => (if num Z R s = 0 then 1 else 0) + miss Z R r
theorem miss_congr {Z Z' : Nat → Txt} {R R' : List Int} : ∀ {l : List Nat}, (∀ s ∈ l, num Z' R' s = num Z R s) → miss Z' R' l = miss Z R l
  | [], _ => rfl
  | s :: r, h => by
    show (if num Z' R' s = 0 then 1 else 0) + _ = (if num Z R s = 0 then 1 else 0) + _
    rw [h s (List.mem_cons_self ..), miss_congr fun x hx => h x (List.mem_cons_of_mem _ hx)]
theorem chain_nS : ∀ {l : List Nat} {o : Option Nat}, Chain o l → ∀ s ∈ l, s < nS
  | [], _, _, s, h => by cases h
  | x :: r, _, c, s, h => by
    rcases List.mem_cons.mp h with rfl | h
    · exact c.1
    · exact chain_nS c.2.2.2 s h
/-- all blocks from nx on are free, and no other data block -/
def From_ (n : Nat) (Z : Nat → Txt) (nx : Nat) : Prop := ∀ j, isFree n Z j = true ↔ nx ≤ j ∧ j < n
/-- a way was gone and filled; o: the table in which it begins -/
structure Added (n : Nat) (Z : Nat → Txt) (R : List Int) (o : Option Nat) (l : List Nat) (Z' : Nat → Txt) (R' : List Int) : Prop where
  w : Wf n Z' R'
  off : ∀ s, s < nS → s ∉ l → num Z' R' s = num Z R s
  old : ∀ s ∈ l, num Z R s ≠ 0 → num Z' R' s = num Z R s
  got : ∀ s ∈ l, num Z' R' s ≠ 0
  bits : ∀ j, j < n → bit Z j = true → bit Z' j = true
  many : many Z' R' = many Z R + miss Z R l
  frees : frees n Z = frees n Z' + miss Z R l
  head : ∀ i, i < 3 → R'.getD i 0 = R.getD i 0
  cont : ∀ b, b < n → (geoN n).inodes ≤ b → (b < (geoN n).data ∨ bit Z b = true) → (∀ q ∈ l, b ≠ num Z' R' q) → (∀ q, o = some q → b ≠ num Z R q) → Z' b = Z b
  zero : ∀ s ∈ l, s < 16522 → num Z R s = 0 → Z' (num Z' R' s) = zeros
  low : ∀ nx, From_ n Z nx → From_ n Z' (nx + miss Z R l) ∧ ∀ i (h : i < l.length), num Z R l[i] = 0 → num Z' R' l[i] = nx + miss Z R (l.take i)
  same : miss Z R l = 0 → Z' = Z ∧ R' = R
  ex : ∀ j, j < n → bit Z' j = true → bit Z j = true ∨ ∃ s, s ∈ l ∧ num Z R s = 0 ∧ num Z' R' s = j
  new : ∀ s ∈ l, num Z R s = 0 → bit Z (num Z' R' s) = false
theorem Added.nil {n : Nat} {Z : Nat → Txt} {R : List Int} (w : Wf n Z R) (o : Option Nat) : Added n Z R o [] Z R :=
  ⟨w, fun _ _ _ => rfl, fun s h => (by cases h), fun s h => (by cases h), fun _ _ h => h, (Nat.add_zero _).symm, (Nat.add_zero _).symm, fun _ _ => rfl, fun _ _ _ _ _ _ => rfl, fun s h => (by cases h), fun nx h => ⟨h, fun i h => (by cases h)⟩, fun _ => ⟨rfl, rfl⟩, fun _ _ h => .inl h, fun s h => (by cases h)⟩
theorem From_.take {n m nx : Nat} {Z Z' : Nat → Txt} (h : From_ n Z nx) (hm : isFree n Z m = true) (hl : ∀ k, k < m → isFree n Z k = false) (hb : ∀ j, j < n → bit Z' j = if j = m then true else bit Z j) : m = nx ∧ From_ n Z' (nx + 1) := by
  have h1 := (h m).mp hm
  have e : m = nx := by
    rcases Nat.lt_or_ge nx m with y | y
    · have := (h nx).mpr ⟨Nat.le_refl _, by omega⟩
      rw [hl nx y] at this; cases this
    · omega
  refine ⟨e, fun j => ?_⟩
  rw [isFree_iff]
  have hj := h j
  rw [isFree_iff] at hj
  constructor
  · rintro ⟨a, b, c⟩
    rw [hb j b] at c
    by_cases hjm : j = m
    · rw [if_pos hjm] at c; cases c
    · rw [if_neg hjm] at c
      have := hj.mp ⟨a, b, c⟩
      omega
  · rintro ⟨a, b⟩
    obtain ⟨x, y, z⟩ := hj.mpr ⟨by omega, b⟩
    refine ⟨x, y, ?_⟩
    rw [hb j b, if_neg (by omega)]; exact z
/-- a slot that was full already -/
theorem Added.skip {n : Nat} {Z Z' : Nat → Txt} {R R' : List Int} {s : Nat} {r : List Nat} {o : Option Nat} (a : Added n Z R (some s) r Z' R') (hs : s < nS) (hn : s ∉ r) (h0 : num Z R s ≠ 0) : Added n Z R o (s :: r) Z' R' := by
  have em : miss Z R (s :: r) = miss Z R r := by show (if num Z R s = 0 then 1 else 0) + _ = _; rw [if_neg h0]; omega
  have eo := a.off s hs hn
  refine ⟨a.w, fun x hx hxn => a.off x hx fun h => hxn (List.mem_cons_of_mem _ h), fun x hx h => ?_, fun x hx => ?_, a.bits, by rw [em]; exact a.many, by rw [em]; exact a.frees, a.head, fun b h1 h2 h3 h4 _ => a.cont b h1 h2 h3 (fun q hq => h4 q (List.mem_cons_of_mem _ hq)) fun q e => ?_, fun x hx h1 h2 => ?_, fun nx h => ⟨by rw [em]; exact (a.low nx h).1, fun i hi hz => ?_⟩, by rw [em]; exact a.same, fun j hj h => (a.ex j hj h).imp id fun ⟨x, hx, h1, h2⟩ => ⟨x, List.mem_cons_of_mem _ hx, h1, h2⟩, fun x hx h1 => (List.mem_cons.mp hx).elim (fun e => absurd (e ▸ h1) h0) fun hx => a.new x hx h1⟩
  · rcases List.mem_cons.mp hx with rfl | hx
    · exact eo
    · exact a.old x hx h
  · rcases List.mem_cons.mp hx with rfl | hx
    · rw [eo]; exact h0
    · exact a.got x hx
  · cases e
    have := h4 s (List.mem_cons_self ..)
    rw [eo] at this; exact this
  · rcases List.mem_cons.mp hx with rfl | hx
    · exact absurd h2 h0
    · exact a.zero x hx h1 h2
  · cases i with
    | zero => exact absurd hz h0
    | succ i =>
      rw [List.getElem_cons_succ] at hz ⊢
      rw [(a.low nx h).2 i (by rw [List.length_cons] at hi; omega) hz, List.take_succ_cons]
      show _ = nx + ((if num Z R s = 0 then 1 else 0) + miss Z R (r.take i))
      rw [if_neg h0, Nat.zero_add]
theorem fillR_head {R : List Int} (s m : Nat) (hl : R.length = 15) : ∀ i, i < 3 → (fillR R s m).getD i 0 = R.getD i 0 := fun i hi => by
  unfold fillR
  split
  · unfold setRoot
    split
    · exact (getD_set _ _ _ _ _ (by omega)).trans (if_neg (by omega))
    · split
      · exact (getD_set _ _ _ _ _ (by omega)).trans (if_neg (by omega))
      · exact (getD_set _ _ _ _ _ (by omega)).trans (if_neg (by omega))
  · rfl
/-- a slot that is filled, and what follows -/
theorem Added.step {n m : Nat} {Z Z' : Nat → Txt} {R R' : List Int} {s : Nat} {r : List Nat} {o : Option Nat} (d : Dim n) (hl : ∀ k, k < n → (Z k).length = 512) (w : Wf n Z R) (c : Chain o (s :: r)) (h0 : num Z R s = 0) (ho : ∀ q, o = some q → q < nS ∧ num Z R q ≠ 0) (hf : isFree n Z m = true) (hlow : ∀ k, k < m → isFree n Z k = false)
    (a : Added n (fillZ Z R s m) (fillR R s m) (some s) r Z' R') : Added n Z R o (s :: r) Z' R' := by
  obtain ⟨hs, hpo, hn, c'⟩ := c
  have hp : ∀ q p, par s = some (q, p) → o = some q ∧ num Z R q ≠ 0 := fun q p e => by
    cases o with
    | none =>
      have hpo : par s = none := hpo
      rw [hpo] at e; cases e
    | some q' =>
      obtain ⟨p', hpo⟩ := hpo
      rw [hpo] at e; cases e
      exact ⟨rfl, (ho _ rfl).2⟩
  obtain ⟨f1, f2, f3⟩ := isFree_iff.mp hf
  have hd := d.data
  obtain ⟨N1, W1⟩ := Wf.fill d hl w hs h0 (fun q p e => (hp q p e).2) hf
  obtain ⟨b1, b2, b3⟩ := fillZ_at d hl w hs (fun q p e => (hp q p e).2) hf
  have ne : ∀ x ∈ r, x ≠ s := fun x hx e => hn (e ▸ hx)
  have rn : ∀ x ∈ r, x < nS := chain_nS c'
  have Nr : ∀ x ∈ r, num (fillZ Z R s m) (fillR R s m) x = num Z R x := fun x hx => by rw [N1 x (rn x hx), if_neg (ne x hx)]
  have mr : ∀ l : List Nat, (∀ x ∈ l, x ∈ r) → miss (fillZ Z R s m) (fillR R s m) l = miss Z R l := fun l h => miss_congr fun x hx => Nr x (h x hx)
  have ms : miss Z R (s :: r) = 1 + miss Z R r := by show (if num Z R s = 0 then 1 else 0) + _ = _; rw [if_pos h0]
  have es : num Z' R' s = m := by rw [a.off s hs hn, N1 s hs, if_pos rfl]
  refine ⟨a.w, fun x hx hxn => ?_, fun x hx h => ?_, fun x hx => ?_, fun j hj h => a.bits j hj (by rw [b1 j hj]; split <;> first | rfl | exact h), ?_, ?_, fun i hi => (a.head i hi).trans (fillR_head s m w.rl i hi), fun b h1 h2 h3 h4 h5 => ?_, fun x hx h1 h2 => ?_, fun nx h => ?_, fun h => by omega, fun j hj h => ?_, fun x hx h1 => ?_⟩
  · rw [a.off x hx fun h => hxn (List.mem_cons_of_mem _ h), N1 x hx, if_neg (fun e : x = s => hxn (by rw [e]; exact List.mem_cons_self ..))]
  · rcases List.mem_cons.mp hx with rfl | hx
    · exact absurd h0 h
    · rw [a.old x hx (by rw [Nr x hx]; exact h), Nr x hx]
  · rcases List.mem_cons.mp hx with rfl | hx
    · rw [es]; omega
    · exact a.got x hx
  · have q1 := many_fill (show m ≠ 0 by omega) hs h0 N1
    have q2 := a.many
    rw [mr r fun _ h => h] at q2
    omega
  · have q1 := frees_bits f1 f2 f3 b1
    have q2 := a.frees
    rw [mr r fun _ h => h] at q2
    omega
  · have hbm : b ≠ m := fun e => h4 s (List.mem_cons_self ..) (by rw [es]; exact e)
    have e1 : fillZ Z R s m b = Z b := b3 b h2 hbm fun q p e => h5 q (hp q p e).1
    rw [← e1]
    refine a.cont b h1 h2 (h3.imp id fun y => ?_) (fun q hq => h4 q (List.mem_cons_of_mem _ hq)) fun q e => ?_
    · rw [b1 b h1]; split
      · rfl
      · exact y
    · cases e
      rw [N1 s hs, if_pos rfl]; exact hbm
  · rcases List.mem_cons.mp hx with rfl | hx
    · have er : r = [] := by
        cases r with
        | nil => rfl
        | cons y r =>
          obtain ⟨hy, ⟨p, e⟩, _⟩ := c'
          have := (par_ne e hy).2.2
          omega
      subst er
      obtain ⟨e1, e2⟩ := a.same rfl
      rw [es, e1]; exact b2
    · exact a.zero x hx h1 (by rw [Nr x hx]; exact h2)
  · obtain ⟨e1, h'⟩ := h.take hf hlow b1
    obtain ⟨q1, q2⟩ := a.low (nx + 1) h'
    refine ⟨?_, fun i hi hz => ?_⟩
    · rw [mr r fun _ h => h] at q1
      rw [ms, show nx + (1 + miss Z R r) = nx + 1 + miss Z R r by omega]; exact q1
    · cases i with
      | zero =>
        show num Z' R' s = nx + 0
        rw [es, e1]; rfl
      | succ i =>
        have hi' : i < r.length := by rw [List.length_cons] at hi; omega
        rw [List.getElem_cons_succ] at hz ⊢
        rw [q2 i hi' (by rw [Nr _ (List.getElem_mem hi')]; exact hz), List.take_succ_cons, mr (r.take i) fun x hx => List.mem_of_mem_take hx]
        show _ = nx + ((if num Z R s = 0 then 1 else 0) + miss Z R (r.take i))
        rw [if_pos h0]; omega
  · rcases a.ex j hj h with h | ⟨x, hx, h1, h2⟩
    · rw [b1 j hj] at h
      by_cases e : j = m
      · exact .inr ⟨s, List.mem_cons_self .., h0, by rw [es, e]⟩
      · rw [if_neg e] at h; exact .inl h
    · exact .inr ⟨x, List.mem_cons_of_mem _ hx, by rw [← Nr x hx]; exact h1, h2⟩
  · rcases List.mem_cons.mp hx with rfl | hx
    · rw [es]; exact f3
    · have hb := a.new x hx (by rw [Nr x hx]; exact h1)
      have hr := a.w.rng x (rn x hx) (a.got x hx)
      rw [b1 _ hr.2.1] at hb
      by_cases e : num Z' R' x = m
      · rw [if_pos e] at hb; cases hb
      · rw [if_neg e] at hb; exact hb
theorem setM_root {T : TM} {R : List Int} {s : Nat} {a : Int} {b : Txt} {m : Nat} (h : par s = none) : setM T R (stepOf s) a b m = ((T, fillR R s m), 0) := by
  rcases par_none h with h1 | rfl | rfl
  · have es : stepOf s = (0, s) := by unfold stepOf; rw [if_pos h1]
    have ef : fillR R s m = R.set (3 + s) m := by unfold fillR setRoot; rw [h]; simp only [if_pos h1]
    rw [es, ef]; rfl
  · rfl
  · rfl
theorem keys_le {l m k : List Int} (h : m.Nodup) (hs : ∀ x ∈ m, x ∈ k ∨ x ∈ l) : m.length ≤ k.length + l.length := by
  have := nodup_len (l := m) (m := k ++ l) h fun x hx => List.mem_append.mpr (hs x hx)
  rw [List.length_append] at this
  exact this
/-- what the walk of Add comes to -/
inductive AddR (n : Nat) (Z : Nat → Txt) (T : TM) (R : List Int) (o : Option Nat) (l : List Nat) (res : (TM × List Int) × Int × Int) : Prop where
  | ok (Z' : Nat → Txt) : res.2 = (at_ Z' res.1.2 (match l.getLast? with | none => o | some s => some s), 0) → Av n Z' res.1.1 → Added n Z R o l Z' res.1.2 → (miss Z R l = 0 → res.1.1 = T) → (∀ x ∈ ks res.1.1, x ∈ ks T ∨ x < (geoN n).inodes ∨ (∃ s ∈ l, x = (num Z' res.1.2 s : Nat)) ∨ ∃ q, o = some q ∧ x = (num Z R q : Nat)) → ((∀ x ∈ ks T, x ∈ ks res.1.1) ∧ ∀ s ∈ l, num Z R s = 0 → ((num Z' res.1.2 s : Nat) : Int) ∈ ks res.1.1) → AddR n Z T R o l res
  | full : res.2 = (0, 60) → 96 ≤ (ks T).length + 3 * l.length → AddR n Z T R o l res
  | none_ : res.2 = (0, 90) → frees n Z < miss Z R l → AddR n Z T R o l res
theorem walkA_ok {n : Nat} (d : Dim n) : ∀ (l : List Nat) (o : Option Nat) (Z : Nat → Txt) (T T0 : TM) (R : List Int), Av n Z T → Wf n Z R → Chain o l → (∀ q, o = some q → q < nS ∧ num Z R q ≠ 0) → Ext T0 T →
    AddR n Z T R o l (walkA (geoN n) (l.map stepOf) T R (at_ Z R o)) ∧ Ext T0 (walkA (geoN n) (l.map stepOf) T R (at_ Z R o)).1.1
  | [], o, Z, T, T0, R, a, w, _, _, ex => ⟨.ok Z rfl a (Added.nil w o) (fun _ => rfl) (fun x hx => .inl hx) ⟨fun x hx => hx, fun s hs => by cases hs⟩, ex⟩
  | s :: r, o, Z, T, T0, R, a, w, c, ho, ex => by
    have e := step_num a w c ho
    have c0 := c
    obtain ⟨hs, hpo, hn, c'⟩ := c
    show AddR n Z T R o (s :: r) (walkA (geoN n) (stepOf s :: r.map stepOf) T R (at_ Z R o)) ∧ Ext T0 (walkA (geoN n) (stepOf s :: r.map stepOf) T R (at_ Z R o)).1.1
    unfold walkA
    rw [e]
    simp only
    rw [if_neg (fun y => y rfl)]
    have last : ∀ {Z' : Nat → Txt} {R' : List Int}, at_ Z' R' (match r.getLast? with | none => some s | some s => some s) = at_ Z' R' (match (s :: r).getLast? with | none => o | some s => some s) := fun {Z' R'} => by
      cases r with
      | nil => rfl
      | cons y r =>
        rw [List.getLast?_cons_cons]
        cases hg : (y :: r).getLast? with
        | none => rw [List.getLast?_eq_none_iff] at hg; cases hg
        | some x => rfl
    have hd := d.data
    by_cases h0 : num Z R s = 0
    · rw [if_neg (by omega)]
      rcases a.taken d with ⟨m, hm, hl, et⟩ | ⟨hno, et⟩
      · obtain ⟨f1, f2, f3⟩ := isFree_iff.mp hm
        have hmi := (d.map f2).2.2.1
        rw [et]
        rcases a.take d f1 f2 with ⟨e1, a1, k1⟩ | ⟨e1, h95⟩
        · have ex1 := takeAt_ext ex (geoN n) m
          have e11 : (takeAt T (geoN n) m).2.1 = m := by rw [e1]
          have e12 : (takeAt T (geoN n) m).2.2 = 0 := by rw [e1]
          rw [e12, e11, if_neg (fun y => y rfl)]
          have hlen := a.len
          -- what follows, once the number stands
          have go : ∀ (T2 : TM), Av n (fillZ Z R s m) T2 → Ext T0 T2 → (∀ x ∈ ks T2, x ∈ ks T ∨ x < (geoN n).inodes ∨ x = (m : Nat) ∨ ∃ q, o = some q ∧ x = (num Z R q : Nat)) → (∀ x ∈ ks T, x ∈ ks T2) ∧ ((m : Nat) : Int) ∈ ks T2 → (ks T2).length ≤ (ks T).length + 3 → (∀ q p, par s = some (q, p) → num Z R q ≠ 0) →
              AddR n Z T R o (s :: r) (walkA (geoN n) (r.map stepOf) T2 (fillR R s m) m) ∧ Ext T0 (walkA (geoN n) (r.map stepOf) T2 (fillR R s m) m).1.1 := by
            intro T2 a2 ex2 k2 lw l2 hp
            obtain ⟨N1, W1⟩ := Wf.fill d hlen w hs h0 hp hm
            obtain ⟨b1, b2, b3⟩ := fillZ_at d hlen w hs hp hm
            have ih := walkA_ok d r (some s) (fillZ Z R s m) T2 T0 (fillR R s m) a2 W1 c' (fun q e => by cases e; exact ⟨hs, by rw [N1 s hs, if_pos rfl]; omega⟩) ex2
            have ea : at_ (fillZ Z R s m) (fillR R s m) (some s) = (m : Int) := by show ((num _ _ s : Nat) : Int) = _; rw [N1 s hs, if_pos rfl]
            rw [ea] at ih
            refine ⟨?_, ih.2⟩
            have rn : ∀ x ∈ r, x < nS := chain_nS c'
            have mr : miss (fillZ Z R s m) (fillR R s m) r = miss Z R r := miss_congr fun x hx => by rw [N1 x (rn x hx), if_neg fun e : x = s => hn (by rw [← e]; exact hx)]
            have ms : miss Z R (s :: r) = 1 + miss Z R r := by show (if num Z R s = 0 then 1 else 0) + _ = _; rw [if_pos h0]
            rcases ih.1 with ⟨Z', e', a', ad, _, kk, lk1, lk2⟩ | ⟨e', h96⟩ | ⟨e', hfr⟩
            · have AD := ad.step d hlen w c0 h0 ho hm hl
              refine .ok Z' (by rw [e', last]) a' AD (fun y => by omega) (fun x hx => ?_) ⟨fun x hx => lk1 x (lw.1 x hx), fun x hx h0x => ?_⟩
              · rcases kk x hx with h | h | ⟨s', h1, h2⟩ | ⟨q, h1, h2⟩
                · rcases k2 x h with h | h | h | h
                  · exact .inl h
                  · exact .inr (.inl h)
                  · exact .inr (.inr (.inl ⟨s, List.mem_cons_self .., by rw [h, ad.off s hs hn, N1 s hs, if_pos rfl]⟩))
                  · exact .inr (.inr (.inr h))
                · exact .inr (.inl h)
                · exact .inr (.inr (.inl ⟨s', List.mem_cons_of_mem _ h1, h2⟩))
                · cases h1
                  exact .inr (.inr (.inl ⟨s, List.mem_cons_self .., by rw [h2, ad.off s hs hn]⟩))
              · rcases List.mem_cons.mp hx with rfl | hx
                · rw [ad.off _ hs hn, N1 _ hs, if_pos rfl]
                  exact lk1 _ lw.2
                · exact lk2 x hx (by rw [N1 x (rn x hx), if_neg fun e : x = s => hn (by rw [← e]; exact hx)]; exact h0x)
            · exact .full e' (by rw [List.length_cons]; omega)
            · refine .none_ e' ?_
              rw [frees_bits f1 f2 f3 b1, ms, ← mr]; omega
          have lk := look_ok (n := n) f1 f2
          cases o with
          | none =>
            have hpo : par s = none := hpo
            have ez : fillZ Z R s m = takeZ Z m := by simp only [fillZ, hpo]
            rw [setM_root hpo, if_neg (fun y => y rfl), if_neg (by omega), lk, if_neg (fun y => y rfl)]
            refine go _ (by rw [ez]; exact a1) ex1 (fun x hx => ?_) ⟨fun x hx => (k1 x).mpr (.inl hx), (k1 _).mpr (.inr (.inr rfl))⟩ ?_ fun q p e => by rw [hpo] at e; cases e
            · rcases (k1 x).mp hx with h | h | h
              · exact .inl h
              · exact .inr (.inl (by have := d.map f2; omega))
              · exact .inr (.inr (.inl h))
            · have := Bm.keys_le (l := [((98 + m / 4096 : Nat) : Int), (m : Int)]) a1.keys fun x hx => by
                rcases (k1 x).mp hx with h | h | h
                · exact .inl h
                · exact .inr (by rw [h]; simp)
                · exact .inr (by rw [h]; simp)
              exact Nat.le_trans this (by show _ + 2 ≤ _; omega)
          | some q =>
            obtain ⟨p, hp⟩ := hpo
            obtain ⟨hq, hq0⟩ := ho q rfl
            have ru := w.rng q hq hq0
            have hqm : num Z R q ≠ m := fun y => by have := ru.2.2; rw [y, f3] at this; cases this
            have pp := (par_up hp hs).1
            have hqd := (d.map ru.2.1).2.2.1
            have ez : fillZ Z R s m = up (takeZ Z m) (num Z R q) (set4 (Z (num Z R q)) p m) := by simp only [fillZ, hp]
            have er : fillR R s m = R := by simp only [fillR, hp]
            have es : setM (takeAt T (geoN n) m).1 R (stepOf s) (at_ Z R (some q)) (tabO Z R (some q)) m = ((((takeAt T (geoN n) m).1.write (num Z R q : Nat) (set4 (Z (num Z R q)) p m)).1, R), ((takeAt T (geoN n) m).1.write (num Z R q : Nat) (set4 (Z (num Z R q)) p m)).2) := by
              rw [stepOf_table hp hs]; rfl
            rw [es]
            simp only
            have l5 := set4_length (v := m) (a.len _ ru.2.1) pp
            rcases a1.write_full (i := num Z R q) (bs := set4 (Z (num Z R q)) p m) (by omega) ru.2.1 l5 with h | ⟨h, h96, _⟩
            · rw [if_neg (fun y => y h), if_neg (by omega), lk, if_neg (fun y => y rfl)]
              have k3 := write_keys h
              have a2 := a1.write (by omega) ru.2.1 l5 h
              have kall : ∀ x ∈ ks ((takeAt T (geoN n) m).1.write (num Z R q : Nat) (set4 (Z (num Z R q)) p m)).1, x ∈ ks T ∨ x = ((98 + m / 4096 : Nat) : Int) ∨ x = (m : Nat) ∨ x = (num Z R q : Nat) := fun x hx => by
                rcases (k3 x).mp hx with hx | hx
                · rcases (k1 x).mp hx with h | h | h
                  · exact .inl h
                  · exact .inr (.inl h)
                  · exact .inr (.inr (.inl h))
                · exact .inr (.inr (.inr hx))
              have G := go _ (by rw [ez]; exact a2) (ex1.write _ _) (fun x hx => by
                rcases kall x hx with h | h | h | h
                · exact .inl h
                · exact .inr (.inl (by have := d.map f2; omega))
                · exact .inr (.inr (.inl h))
                · exact .inr (.inr (.inr ⟨q, rfl, h⟩))) ⟨fun x hx => (k3 x).mpr (.inl ((k1 x).mpr (.inl hx))), (k3 _).mpr (.inl ((k1 _).mpr (.inr (.inr rfl))))⟩ (by
                have := Bm.keys_le (l := [((98 + m / 4096 : Nat) : Int), (m : Int), (num Z R q : Int)]) a2.keys fun x hx => by
                  rcases kall x hx with h | h | h | h
                  · exact .inl h
                  · exact .inr (by rw [h]; simp)
                  · exact .inr (by rw [h]; simp)
                  · exact .inr (by rw [h]; simp)
                exact this) fun q' p' e => by rw [hp] at e; cases e; exact hq0
              rw [er] at G
              exact G
            · rw [h, if_pos (show (60 : Int) ≠ 0 by decide)]
              refine ⟨.full rfl ?_, ex1⟩
              have := Bm.keys_le (l := [((98 + m / 4096 : Nat) : Int), (m : Int)]) a1.keys fun x hx => by
                rcases (k1 x).mp hx with h | h | h
                · exact .inl h
                · exact .inr (by rw [h]; simp)
                · exact .inr (by rw [h]; simp)
              have : (ks (takeAt T (geoN n) m).1).length ≤ (ks T).length + 2 := this
              rw [List.length_cons]; omega
        · rw [e1, if_pos (show (60 : Int) ≠ 0 by decide)]
          exact ⟨.full rfl (by rw [List.length_cons]; omega), ex⟩
      · rw [et, if_pos (show (90 : Int) ≠ 0 by decide)]
        refine ⟨.none_ rfl ?_, ex⟩
        have : frees n Z = 0 := cnt_zero fun j _ => hno j
        show frees n Z < (if num Z R s = 0 then 1 else 0) + _
        rw [if_pos h0]; omega
    · have ru := w.rng s hs h0
      rw [if_pos (by omega), look_ok ru.1 ru.2.1, if_neg (fun y => y rfl)]
      obtain ⟨ih, ex'⟩ := walkA_ok d r (some s) Z T T0 R a w c' (fun q e => by cases e; exact ⟨hs, h0⟩) ex
      have ea : at_ Z R (some s) = ((num Z R s : Nat) : Int) := rfl
      rw [ea] at ih ex'
      refine ⟨?_, ex'⟩
      have em : miss Z R (s :: r) = miss Z R r := by show (if num Z R s = 0 then 1 else 0) + _ = _; rw [if_neg h0]; omega
      rcases ih with ⟨Z', e', a', ad, sm, kk, lk1, lk2⟩ | ⟨e', h96⟩ | ⟨e', hfr⟩
      · refine .ok Z' (by rw [e', last]) a' (ad.skip hs hn h0) (by rw [em]; exact sm) (fun x hx => ?_) ⟨lk1, fun x hx h0x => (List.mem_cons.mp hx).elim (fun e => absurd (e ▸ h0x) h0) fun hx => lk2 x hx h0x⟩
        rcases kk x hx with h | h | ⟨s', h1, h2⟩ | ⟨q, h1, h2⟩
        · exact .inl h
        · exact .inr (.inl h)
        · exact .inr (.inr (.inl ⟨s', List.mem_cons_of_mem _ h1, h2⟩))
        · cases h1
          exact .inr (.inr (.inl ⟨s, List.mem_cons_self .., by rw [h2, ad.off s hs hn]⟩))
      · exact .full e' (by rw [List.length_cons]; omega)
      · exact .none_ e' (by rw [em]; exact hfr)
end Go.Proofs.YtcdpakjhjmchhaaDoor.Bm
namespace Go.Proofs.YtcdpakjhjmchhaaDoor.In
open Go Go.Proofs Go.Proofs.YtcdpakjhjmchhaaDoor.Wx Go.Proofs.YtcdpakjhjmchhaaDoor.Hp Go.Proofs.YtcdpakjhjmchhaaDoor.W Go.Proofs.YtcdpakjhjmchhaaDoor.Su Go.Proofs.YtcdpakjhjmchhaaDoor.Re Go.Proofs.YtcdpakjhjmchhaaDoor.Hd
theorem ints_one (ns : List Int) : ∀ v ∈ ints ns, v.oneCell' = true := by
  intro v hv; obtain ⟨n, _, rfl⟩ := List.mem_map.mp hv; rfl
theorem ints_length (ns : List Int) : (ints ns).length = ns.length := List.length_map ..
end Go.Proofs.YtcdpakjhjmchhaaDoor.In
namespace Go.Proofs.YtcdpakjhjmchhaaDoor.Bm
open Go Go.Proofs Go.Proofs.YtcdpakjhjmchhaaDoor.Wx Go.Proofs.YtcdpakjhjmchhaaDoor.Hp Go.Proofs.YtcdpakjhjmchhaaDoor.W Go.Proofs.YtcdpakjhjmchhaaDoor.Ad Go.Proofs.YtcdpakjhjmchhaaDoor.Tm Go.Proofs.YtcdpakjhjmchhaaDoor.Spc Go.Proofs.YtcdpakjhjmchhaaDoor.Re Go.Proofs.YtcdpakjhjmchhaaDoor.Av
open Go.Proofs.YtcdpakjhjmchhaaDoor.Hd (ints wrap_u64)
open Go.Proofs.YtcdpakjhjmchhaaDoor.In (Glo ints_length ints_one)
def stV (s : Nat × Nat) : List Value := [.int .i64 s.1, .int .i64 s.2]
def fileV (t : Option Addr) (g : G) (R : List Int) : List Value := .pointer t :: (g.v ++ ints R)
theorem fileV_get {t : Option Addr} {g : G} {R : List Int} {i : Nat} (hi : i < R.length) : (fileV t g R)[6 + i]? = some (.int .i64 (R.getD i 0)) := by
  rw [Nat.add_comm 6 i]
  show (ints R)[i]? = _
  rw [ints, List.getElem?_map, List.getD_eq_getElem?_getD, List.getElem?_eq_getElem hi]; rfl
theorem fileV_set (t : Option Addr) (g : G) (R : List Int) (i : Nat) (v : Int) : (fileV t g R).set (6 + i) (.int .i64 v) = fileV t g (R.set i v) := by
  rw [Nat.add_comm 6 i]
  show .pointer t :: .int .i64 g.blocks :: .int .i64 g.bitmap :: .int .i64 g.inodes :: .int .i64 g.data :: .int .i64 g.count :: (ints R).set i (.int .i64 v) = _
  have e : ints (R.set i v) = (ints R).set i (.int .i64 v) := by rw [ints, ints, List.map_set]
  unfold fileV; rw [e]; rfl
theorem fileV_len {t : Option Addr} {g : G} {R : List Int} (h : R.length = 15) : (fileV t g R).length = 21 := by
  unfold fileV; rw [List.length_cons, List.length_append, ints_length, h]; rfl
theorem cell2 {h : Heap} {b i j : Nat} {xs : List Value} {v : Value} (e : rd h b = xs) (hv : xs[i + j]? = some v) : cellOf h (Addr.add (Addr.add ⟨b, 0, none⟩ i) j) = some v := by
  rw [add_mk, add_mk, cellOf_rd, e, Nat.zero_add]; exact hv
theorem look_spec {h : Heap} {fb : Nat} {t : Option Addr} {g : G} {R : List Int} {v : Int} {K : Value → Heap → Prop} (e : rd h fb = fileV t g R) (hK : K (.int .i64 (lookM g v)) h) : C.bmap_file_look (some ⟨fb, 0, none⟩) v h K := by
  refine bmap_file_look.ok (os ⟨g.data, cell2 e rfl, cd (fun y => ?_) fun y => os ⟨g.blocks, cell2 e rfl, cd (fun y2 => ?_) fun y2 => ?_⟩⟩)
  · have : lookM g v = 100 := by unfold lookM; rw [if_pos (.inl y)]
    rw [this] at hK; exact hK
  · have : lookM g v = 100 := by unfold lookM; rw [if_pos (.inr y2)]
    rw [this] at hK; exact hK
  · have : lookM g v = 0 := by unfold lookM; rw [if_neg (by omega)]
    rw [this] at hK; exact hK
theorem way_spec {k : Int} {h : Heap} {K : Value → Heap → Prop} (h0 : 0 ≤ k) (h1 : k < 16522)
    (hK : ∀ h', Fr No h h' → h.size < h'.size → rd h' h.size = (wayM k.toNat).flatMap stV → K (.slice (some ⟨h.size, 0, none⟩) (wayM k.toNat).length (wayM k.toNat).length) h') : C.bmap_way k h K := by
  have cast : ((k.toNat : Nat) : Int) = k := by omega
  refine bmap_way.ok (cd (fun y => ⟨rfl, New.intro fun h2 n2 => ?_⟩) fun y => cd (fun y2 => ⟨rfl, rfl, New.intro fun h2 n2 => ?_⟩) fun y2 => ⟨rfl, rfl, rfl, New.intro fun h2 n2 => ?_⟩)
  · have e : wayM k.toNat = [(0, k.toNat)] := by unfold wayM; rw [if_pos (by omega)]
    rw [e] at hK
    refine hK h2 n2.fr n2.own.lt (n2.rd.trans ?_)
    show _ = [Value.int .i64 ((0 : Nat) : Int), .int .i64 ((k.toNat : Nat) : Int)]
    rw [cast]; rfl
  · have e : wayM k.toNat = [(1, 0), (3, k.toNat - 10)] := by unfold wayM; rw [if_neg (by omega), if_pos (by omega)]
    rw [e] at hK
    refine hK h2 n2.fr n2.own.lt (n2.rd.trans ?_)
    show _ = [Value.int .i64 ((1 : Nat) : Int), .int .i64 ((0 : Nat) : Int), .int .i64 ((3 : Nat) : Int), .int .i64 ((k.toNat - 10 : Nat) : Int)]
    rw [wrap_i64 (by omega) (by omega), show ((k.toNat - 10 : Nat) : Int) = k - 10 by omega]; rfl
  · have e : wayM k.toNat = [(2, 0), (3, (k.toNat - 138) / 128), (3, (k.toNat - 138) % 128)] := by unfold wayM; rw [if_neg (by omega), if_neg (by omega)]
    rw [e] at hK
    refine hK h2 n2.fr n2.own.lt (n2.rd.trans ?_)
    show _ = [Value.int .i64 ((2 : Nat) : Int), .int .i64 ((0 : Nat) : Int), .int .i64 ((3 : Nat) : Int), .int .i64 (((k.toNat - 138) / 128 : Nat) : Int), .int .i64 ((3 : Nat) : Int), .int .i64 (((k.toNat - 138) % 128 : Nat) : Int)]
    have e1 : Int.tdiv (k - 138) 128 = (((k.toNat - 138) / 128 : Nat) : Int) := by rw [Int.tdiv_eq_ediv_of_nonneg (by omega)]; omega
    have e2 : Int.tmod (k - 138) 128 = (((k.toNat - 138) % 128 : Nat) : Int) := by rw [Int.tmod_eq_emod_of_nonneg (by omega)]; omega
    rw [wrap_i64 (n := k - 138) (by omega) (by omega), e1, e2, wrap_i64 (by omega) (by omega)]; rfl
/-- a step that may be -/
def StOk (s : Nat × Nat) : Prop := s.1 = 0 ∧ s.2 < 10 ∨ s.1 = 1 ∨ s.1 = 2 ∨ s.1 = 3 ∧ s.2 < 128
theorem wayM_ok {k : Nat} (h : k < 16522) : ∀ s ∈ wayM k, StOk s := by
  unfold wayM StOk
  intro s hs
  split at hs
  · simp at hs; subst hs; exact .inl ⟨rfl, by assumption⟩
  · split at hs
    · simp at hs; rcases hs with rfl | rfl
      · exact .inr (.inl rfl)
      · exact .inr (.inr (.inr ⟨rfl, by simp only; omega⟩))
    · simp at hs; rcases hs with rfl | rfl | rfl
      · exact .inr (.inr (.inl rfl))
      · exact .inr (.inr (.inr ⟨rfl, by simp only; omega⟩))
      · exact .inr (.inr (.inr ⟨rfl, by simp only; omega⟩))
def ownI (s : Nat × Nat) : Nat := if s.1 = 0 then 3 + s.2 else if s.1 = 1 then 13 else 14
theorem ownI_lt {s : Nat × Nat} (hs : StOk s) : ownI s < 15 := by
  unfold ownI
  rcases hs with ⟨h1, h2⟩ | h1 | h1 | ⟨h1, _⟩
  · rw [if_pos h1]; omega
  · rw [if_neg (by omega), if_pos h1]; decide
  · rw [if_neg (by omega), if_neg (by omega)]; decide
  · rw [if_neg (by omega), if_neg (by omega)]; decide
theorem own_spec {h : Heap} {fb : Nat} {s : Nat × Nat} {K : Value → Heap → Prop} (hs : StOk s) (hK : ∀ h', Fr No h h' → K (.pointer (some ⟨fb, 6 + ownI s, none⟩)) h') : C.bmap_file_own (some ⟨fb, 0, none⟩) (stV s) h K := by
  refine bmap_file_own.ok (New.intro fun h2 n2 => ⟨_, rda n2.rd rfl, ce (fun y => ⟨_, rda n2.rd rfl, os ⟨⟨by omega, ?_⟩, ?_⟩⟩) fun y => ce (fun y2 => os ?_) fun y2 => os ?_⟩)
  · rcases hs with ⟨_, h2⟩ | h1 | h1 | ⟨h1, _⟩ <;> omega
  · have e : ownI s = 3 + s.2 := by unfold ownI; rw [if_pos (by omega)]
    have hK := hK h2 n2.fr
    rw [add_mk, add_mk, add_mk, Int.toNat_natCast]
    rw [e] at hK
    rw [show 0 + 6 + 3 + s.2 = 6 + (3 + s.2) by omega]; exact hK
  · have e : ownI s = 13 := by unfold ownI; rw [if_neg (by omega), if_pos (by omega)]
    have hK := hK h2 n2.fr
    rw [e] at hK
    rw [add_mk, add_mk]; exact hK
  · have e : ownI s = 14 := by unfold ownI; rw [if_neg (by omega), if_neg (by omega)]
    have hK := hK h2 n2.fr
    rw [e] at hK
    rw [add_mk, add_mk]; exact hK
theorem numM_own {T : TM} {R : List Int} {s : Nat × Nat} {a : Int} (hs : StOk s) (h : s.1 ≠ 3) : numM T R s a = (R.getD (ownI s) 0, [], 0) := by
  unfold numM ownI
  rcases hs with ⟨h1, _⟩ | h1 | h1 | ⟨h1, _⟩
  · rw [if_pos h1, if_pos h1]
  · rw [if_neg (by omega), if_pos h1, if_neg (by omega), if_pos h1]
  · rw [if_neg (by omega), if_neg (by omega), if_pos h1, if_neg (by omega), if_neg (by omega)]
  · exact absurd h1 h
theorem numM_t {T : TM} {R : List Int} {s : Nat × Nat} {a : Int} (h : s.1 = 3) : numM T R s a = if (T.read a).2 ≠ 0 then ((0 : Int), ([] : Txt), (T.read a).2) else (((num4 (T.read a).1 s.2 : Nat) : Int), (T.read a).1, (0 : Int)) := by
  unfold numM
  rw [if_neg (by omega), if_neg (by omega), if_neg (by omega)]
theorem number_spec {h : Heap} {F : Nat → Prop} {t d : Option Addr} {T : TM} {g : G} {R : List Int} {fb : Nat} {s : Nat × Nat} {a : Int} {K : Value → Heap → Prop} (gl : Glo h) (x : Tx h F t d T) (e : rd h fb = fileV t g R) (hR : R.length = 15) (hs : StOk s)
    (hK : ∀ sa sl sc h', Fr No h h' → sl = (numM T R s a).2.1.length → Sl h' 1 sa sl sc ((numM T R s a).2.1.map bv) (From h.size) → K (.tuple #[.int .i64 (numM T R s a).1, .slice sa sl sc, .int .i64 (numM T R s a).2.2]) h') : C.bmap_file_number (some ⟨fb, 0, none⟩) (stV s) a h K := by
  have fl : fb < h.size := rd_lt (o := 0) (by rw [e]; rfl)
  refine bmap_file_number.ok (New.intro fun h2 n2 => ⟨_, rda n2.rd rfl, cn (fun y => ⟨stV s, rfl, cellsAll n2.rd, own_spec hs fun h3 f3 => ⟨_, rfl, os ?_⟩⟩) fun y => os ?_⟩)
  · rw [numM_own hs (by omega)] at hK
    have F3 := n2.fr.no f3
    refine ⟨_, rdc ((F3.rd fl fun y => y).trans e) (fileV_get (by rw [hR]; exact ownI_lt hs)), hK none 0 0 h3 F3 rfl (Sl.nil _ _ _)⟩
  · have hs3 : s.1 = 3 := by omega
    have hs2 : s.2 < 128 := by rcases hs with ⟨h1, _⟩ | h1 | h1 | ⟨_, h2⟩ <;> omega
    rw [numM_t hs3] at hK
    refine ⟨t, rda ((n2.at_ fl).trans e) rfl, Tm.Read_spec (x.no n2.fr) fun sa sl sc h4 f4 el s4 => ⟨_, _, _, _, rfl, cn (fun he => ?_) fun he => ?_⟩⟩
    · rw [if_pos he] at hK
      exact hK none 0 0 h4 (n2.fr.no f4) rfl (Sl.nil _ _ _)
    · rw [if_neg (fun y => y he)] at hK
      have hlen : (T.read a).1.length = 512 := Tx.readLen x he
      have F4 := n2.fr.no f4
      have z2 := n2.size
      refine ⟨_, rda ((f4.rd n2.own.lt fun y => y).trans n2.rd) rfl, ?_⟩
      rw [wrap_i64 (n := 4 * (s.2 : Int)) (by omega) (by omega)]
      refine In.Get_w (gl.no F4) s4.str (by omega) (.inr (.inr (.inl rfl))) (by omega) (by omega) ⟨_, _, rfl, ?_⟩
      have en : leN (((T.read a).1.drop (4 * (s.2 : Int)).toNat).take (Int.toNat 4)) = num4 (T.read a).1 s.2 := by
        unfold num4
        rw [show (4 * (s.2 : Int)).toNat = 4 * s.2 by omega]; rfl
      rw [en]
      have lt := num4_lt (T.read a).1 s.2
      rw [wrap_i64 (by omega) (by omega)]
      exact hK sa sl sc h4 F4 el (s4.mono fun b hb => by have : h2.size ≤ b := hb; show h.size ≤ b; omega)
theorem setM_own {T : TM} {R : List Int} {s : Nat × Nat} {a v : Int} {b : Txt} (hs : StOk s) (h : s.1 ≠ 3) : setM T R s a b v = ((T, R.set (ownI s) v), 0) := by
  unfold setM ownI
  rcases hs with ⟨h1, _⟩ | h1 | h1 | ⟨h1, _⟩
  · rw [if_pos h1, if_pos h1]
  · rw [if_neg (by omega), if_pos h1, if_neg (by omega), if_pos h1]
  · rw [if_neg (by omega), if_neg (by omega), if_pos h1, if_neg (by omega), if_neg (by omega)]
  · exact absurd h1 h
theorem setM_t {T : TM} {R : List Int} {s : Nat × Nat} {a v : Int} {b : Txt} (h : s.1 = 3) : setM T R s a b v = (((T.write a (set4 b s.2 v.toNat)).1, R), (T.write a (set4 b s.2 v.toNat)).2) := by
  unfold setM
  rw [if_neg (by omega), if_neg (by omega), if_neg (by omega)]
theorem setM_len {T : TM} {R : List Int} {s : Nat × Nat} {a v : Int} {b : Txt} (hs : StOk s) (hR : R.length = 15) : (setM T R s a b v).1.2.length = 15 := by
  by_cases h : s.1 = 3
  · rw [setM_t h]; exact hR
  · rw [setM_own hs h]; show (R.set _ _).length = 15; rw [List.length_set]; exact hR
theorem sl_rngB {h : Heap} {ec l c : Nat} {a : Option Addr} {xs : List Value} {F : Nat → Prop} (s : Sl h ec a l c xs F) : Sl h ec a l c xs (fun b => F b ∧ b < h.size) := by
  obtain ⟨h1, h2⟩ := s
  refine ⟨h1, ?_⟩
  cases a with
  | none => exact h2
  | some p => exact ⟨h2.1, ⟨h2.2.1, h2.2.2.1.lt⟩, h2.2.2.1, h2.2.2.2.1, h2.2.2.2.2⟩
theorem write_un (T : TM) (i : Int) (bs : Txt) : (T.write i bs).1.undo.length ≤ T.undo.length + 1 := by
  by_cases h : (T.write i bs).2 = 0
  · obtain ⟨_, _, _, _, _, ew⟩ := TM.write_ok h
    rw [ew]
    show (T.undo ++ [_]).length ≤ _
    rw [List.length_append]; exact Nat.le_refl _
  · rw [TM.write_bad h]; exact Nat.le_add_right _ _
theorem setM_un {T : TM} {R : List Int} {s : Nat × Nat} {a v : Int} {b : Txt} (hs : StOk s) : (setM T R s a b v).1.1.undo.length ≤ T.undo.length + 1 := by
  by_cases h : s.1 = 3
  · rw [setM_t h]; exact write_un _ _ _
  · rw [setM_own hs h]; exact Nat.le_add_right _ _
theorem setBit_un (T : TM) (g : G) (i : Nat) (on : Bool) : (setBit T g i on).1.undo.length ≤ T.undo.length + 1 := by
  unfold setBit
  split
  · exact Nat.le_add_right _ _
  · exact write_un _ _ _
theorem takeM_un (T : TM) (g : G) : (takeM T g).1.undo.length ≤ T.undo.length + 2 := by
  unfold takeM
  split
  · unfold takeAt
    split
    · exact Nat.le_add_right _ _
    · split
      · exact Nat.le_add_right _ _
      · exact Nat.le_trans (write_un _ _ _) (Nat.succ_le_succ (setBit_un _ _ _ _))
  · exact Nat.le_add_right _ _
theorem takeM_rng (T : TM) (g : G) : 0 ≤ (takeM T g).2.1 ∧ ((takeM T g).2.1 = 0 ∨ (takeM T g).2.1 < g.blocks) := by
  unfold takeM
  split
  · rename_i m hm
    have hm := List.mem_of_find?_eq_some hm
    rw [List.mem_range] at hm
    unfold takeAt
    split
    · exact ⟨Int.le_refl _, .inl rfl⟩
    · split
      · exact ⟨Int.le_refl _, .inl rfl⟩
      · exact ⟨Int.natCast_nonneg _, .inr (by show (m : Int) < _; omega)⟩
  · exact ⟨Int.le_refl _, .inl rfl⟩
theorem set_spec {h : Heap} {F : Nat → Prop} {t d : Option Addr} {T : TM} {g : G} {R : List Int} {fb lo : Nat} {s : Nat × Nat} {a v : Int} {sa : Option Addr} {sl sc : Nat} {b : Txt} {K : Value → Heap → Prop} (gl : Glo h) (x : Tx h F t d T) (e : rd h fb = fileV t g R) (fo : Own h fb) (hR : R.length = 15) (hs : StOk s)
    (hf : ¬ F fb) (hu : T.undo.length < 1000000000) (hv : 0 ≤ v ∧ v < 4294967296) (hb : s.1 = 3 → b.length = 512 ∧ Sl h 1 sa sl sc (b.map bv) (fun y => lo ≤ y ∧ ¬ F y ∧ y ≠ fb))
    (hK : ∀ h' F', Fr (fun y => F y ∨ y = fb ∨ lo ≤ y) h h' → Gw h F h' F' → Tx h' F' t d (setM T R s a b v).1.1 → rd h' fb = fileV t g (setM T R s a b v).1.2 → Own h' fb → K (.int .i64 (setM T R s a b v).2) h') : C.bmap_file_set (some ⟨fb, 0, none⟩) (stV s) a sa sl sc v h K := by
  have fl := fo.lt
  have Flt := fun y (hy : F y) => x.lt hy
  refine bmap_file_set.ok (New.intro fun h2 n2 => ⟨_, rda n2.rd rfl, cn (fun y => ⟨stV s, rfl, cellsAll n2.rd, own_spec hs fun h3 f3 => ⟨_, rfl, os ?_⟩⟩) fun y => ?_⟩)
  · rw [setM_own hs (by omega)] at hK
    have F3 := n2.fr.no f3
    have r3 : rd h3 fb = _ := (F3.rd fl fun y => y).trans e
    have hi := ownI_lt hs
    refine Put.intro (F3.own fl (fun y => y) fo) (by rw [r3, fileV_len hR]; omega) fun h4 d4 => ?_
    rw [r3, fileV_set] at d4
    have F4 : Fr (fun y => F y ∨ y = fb ∨ lo ≤ y) h h4 := (F3.mono fun _ _ y => y.elim).did d4 fun _ => .inr (.inl rfl)
    exact hK h4 F F4 (Gw.refl F4.size Flt) ((x.no F3).fr d4.fr fun c hc y => hf (by have y : c = fb := y; rw [← y]; exact hc)) d4.rd d4.own
  · have hs3 : s.1 = 3 := by omega
    have hs2 : s.2 < 128 := by rcases hs with ⟨h1, _⟩ | h1 | h1 | ⟨_, h2⟩ <;> omega
    rw [setM_t hs3] at hK
    obtain ⟨lb, S⟩ := hb hs3
    have z2 := n2.size
    have ll : sl = 512 := by have := S.1; rw [List.length_map] at this; omega
    subst ll
    obtain ⟨⟨pb, po, sp⟩, ep, _⟩ := S.get (by decide)
    subst ep
    have esp : sp = none := S.2.1
    subst esp
    have k1 := S.2.2.1
    have k1 : lo ≤ pb ∧ ¬ F pb ∧ pb ≠ fb := k1
    have pl := S.lt
    have pl : pb < h.size := pl
    refine ⟨_, rda n2.rd rfl, ?_⟩
    rw [wrap_i64 (n := 4 * (s.2 : Int)) (by omega) (by omega), wrap_u64 (n := v) hv.1 (by omega), show v = ((v.toNat : Nat) : Int) by omega]
    refine In.Put_w (gl.no n2.fr) (S.fr n2.fr fun _ _ _ y => y) (by decide) (.inr (.inr rfl)) (by omega) (by omega) (by show _ < 256 ^ 4; omega) fun h5 f5 s5 => ⟨_, rfl, os ?_⟩
    have z5 := f5.size
    have e5 : putU b (4 * (s.2 : Int)).toNat (leBs (Int.toNat 4) v.toNat) = set4 b s.2 v.toNat := by
      unfold set4
      rw [show (4 * (s.2 : Int)).toNat = 4 * s.2 by omega]; rfl
    rw [e5] at s5
    have F5 : Fr (fun y => y = pb) h h5 := (n2.fr.mono fun _ _ y => y.elim).trans f5 fun _ _ y => y
    have r5 : rd h5 fb = _ := (F5.rd fl fun y => k1.2.2 y.symm).trans e
    have x5 : Tx h5 F t d T := x.fr F5 fun c hc y => k1.2.1 (by have y : c = pb := y; rw [← y]; exact hc)
    refine ⟨t, rda r5 rfl, Tm.Write_spec x5 s5.str (by decide) (fun p e y => ?_) hu fun h6 F' f6 g6 x6 => ⟨_, rfl, ?_⟩⟩
    · cases e; exact k1.2.1 y
    · refine hK h6 F' ((F5.mono fun c _ y => ?_).trans f6 fun c _ y => .inl y) ((Gw.refl F5.size Flt).trans g6 F5.size) x6 ((f6.rd (by omega) hf).trans r5) (f6.own (by omega) hf (F5.own fl (fun y => k1.2.2 y.symm) fo))
      have y : c = pb := y
      rw [y]; exact .inr (.inr k1.1)
theorem Find_c1_spec {s : List Value} {a : Int} {sa : Option Addr} {sl sc : Nat} {h : Heap} {K : Value → Heap → Prop} (hK : ∀ h', Fr No h h' → K (.tuple #[.int .i64 0, .int .i64 0]) h') : C.bmap_Find_c1 s a sa sl sc h K :=
  bmap_Find_c1.ok (New.intro fun h2 n2 => hK h2 n2.fr)
theorem st_cells {h : Heap} {b : Nat} {l : List (Nat × Nat)} (e : rd h b = l.flatMap stV) {j : Nat} (hj : j < l.length) : Cells h (Addr.add ⟨b, 0, none⟩ (j * 2)) (stV l[j]) := by
  have c : Cells h ⟨b, 0, none⟩ (l.flatMap stV) := cellsAll e
  have := Cells.take (Cells.drop c (j * 2)) 2
  rw [flat_part stV 2 l (fun _ _ => rfl) j hj] at this
  exact this
theorem drop_cons {α : Type} {l : List α} {j : Nat} (h : j < l.length) : l.drop j = l[j] :: l.drop (j + 1) := List.drop_eq_getElem_cons h
theorem walkF_cons (T : TM) (g : G) (R : List Int) (s : Nat × Nat) (r : List (Nat × Nat)) (a : Int) : walkF T g R (s :: r) a = if (numM T R s a).2.2 ≠ 0 then (0, (numM T R s a).2.2) else if (numM T R s a).1 = 0 then (0, 0) else
      if lookM g (numM T R s a).1 ≠ 0 then (0, lookM g (numM T R s a).1) else walkF T g R r (numM T R s a).1 := rfl
theorem one_st (s : Nat × Nat) : ∀ v ∈ stV s, v.oneCell' = true := one2 rfl rfl
theorem walkF_spec {h : Heap} {F : Nat → Prop} {t d : Option Addr} {T : TM} {g : G} {R : List Int} {fb : Nat} {k : Int} {K : Value → Heap → Prop} (gl : Glo h) (x : Tx h F t d T) (e : rd h fb = fileV t g R) (hR : R.length = 15) (h0 : 0 ≤ k) (h1 : k < 16522)
    (hK : ∀ h', Fr No h h' → K (.tuple #[.int .i64 (walkF T g R (wayM k.toNat) 0).1, .int .i64 (walkF T g R (wayM k.toNat) 0).2]) h') : C.bmap_file_walk (some ⟨fb, 0, none⟩) k (Value.func (.func 84) #[] ⟨[]⟩) h K := by
  have fl : fb < h.size := rd_lt (o := 0) (by rw [e]; rfl)
  refine bmap_file_walk.ok (way_spec h0 h1 fun h2 f2 l2 rw2 => ⟨_, _, _, rfl, ?_⟩)
  have hok := wayM_ok (k := k.toNat) (by omega)
  have hwl : (wayM k.toNat).length ≤ 3 := by
    unfold wayM
    split
    · simp
    · split <;> simp
  generalize wayM k.toNat = w at hK rw2 hok hwl
  refine ⟨fun a i hh => ∃ j : Nat, i = j ∧ j ≤ w.length ∧ Fr No h2 hh ∧ walkF T g R (w.drop j) a = walkF T g R w 0, fun _ i _ => ((w.length : Int) - i).toNat, ⟨0, rfl, Nat.zero_le _, Fr.refl _ _, by rw [List.drop_zero]⟩, ?_⟩
  rintro a i h3 ⟨j, rfl, hj, f3, ew⟩
  refine cd (fun hl => ?_) fun hl => ?_
  · have hj' : j < w.length := by omega
    rw [drop_cons hj', walkF_cons] at ew
    have F3 := f2.no f3
    have hs := hok _ (List.getElem_mem hj')
    have z3 := f3.size
    rw [Int.toNat_natCast]
    refine ⟨⟨by omega, hl⟩, os ⟨stV w[j], rfl, st_cells ((f3.rd l2 fun y => y).trans rw2) hj', NewRow.intro rfl (one_st _) rfl fun h5 n5 => ⟨stV w[j], rfl, cellsAll n5.rd, ?_⟩⟩⟩
    have F5 := F3.new n5
    refine number_spec (gl.no F5) (x.no F5) ((F5.rd fl fun y => y).trans e) hR hs fun sa sl sc h6 f6 el s6 => ⟨_, _, _, _, _, rfl, ?_⟩
    have F6 := F5.no f6
    have z5 := n5.size
    have z6 := f6.size
    have wr : IntKind.wrap .i64 ((j : Int) + 1) = ((j + 1 : Nat) : Int) := by rw [wrap_i64 (by omega) (by omega)]; omega
    have go : ∀ h8, Fr No h3 h8 → ∀ (nu er : Int), (if er ≠ 0 then ((0 : Int), er) else if nu = 0 then (0, 0) else if lookM g nu ≠ 0 then (0, lookM g nu) else walkF T g R (w.drop (j + 1)) nu) = walkF T g R w 0 →
        bmap_file_walk.k1 (some ⟨fb, 0, none⟩) a (j : Int) h3 (fun a i hh => ∃ j : Nat, i = j ∧ j ≤ w.length ∧ Fr No h2 hh ∧ walkF T g R (w.drop j) a = walkF T g R w 0) (fun _ i _ => ((w.length : Int) - i).toNat) nu er h8 K := fun h8 f8 nu er e8 => by
      have F8 := F3.no f8
      unfold bmap_file_walk.k1
      refine cn (fun y => ?_) fun y => ce (fun y2 => ?_) fun y2 => ?_
      · rw [if_pos y] at e8; rw [← e8] at hK; exact hK h8 F8
      · rw [if_neg (fun z => z y), if_pos y2] at e8; rw [← e8] at hK; exact hK h8 F8
      · rw [if_neg (fun z => z y), if_neg y2] at e8
        refine look_spec ((F8.rd fl fun y => y).trans e) ⟨_, rfl, cn (fun y3 => ?_) fun y3 => ?_⟩
        · rw [if_pos y3] at e8; rw [← e8] at hK; exact hK h8 F8
        · rw [if_neg (fun z => z y3)] at e8
          rw [wr]
          exact ⟨⟨j + 1, rfl, hj', f3.no f8, e8⟩, by show ((w.length : Int) - ((j + 1 : Nat) : Int)).toNat < ((w.length : Int) - (j : Int)).toNat; omega⟩
    have F36 : Fr No h3 h6 := n5.fr.no f6
    refine ce (fun y => ce (fun y2 => ?_) fun y2 => go h6 F36 _ _ ew) fun y => go h6 F36 _ _ ew
    rw [if_neg (fun z => z y), if_pos y2] at ew
    refine ⟨stV w[j], rfl, cellsAll ((f6.rd n5.own.lt fun y => y).trans n5.rd), Find_c1_spec fun h7 f7 => ⟨_, _, rfl, go h7 (F36.no f7) 0 0 ?_⟩⟩
    rw [if_neg (fun z => z rfl), if_pos rfl]; exact ew
  · have ej : j = w.length := by omega
    subst ej
    rw [List.drop_length] at ew
    have ew : (a, (0 : Int)) = walkF T g R w 0 := ew
    rw [← ew] at hK
    exact hK h3 (f2.no f3)
theorem Find_spec {h : Heap} {F : Nat → Prop} {t d : Option Addr} {T : TM} {g : G} {R : List Int} {k : Int} {K : Value → Heap → Prop} (gl : Glo h) (x : Tx h F t d T) (hR : R.length = 15)
    (hK : ∀ h', Fr No h h' → K (.tuple #[.int .i64 (findM T g R k).1, .int .i64 (findM T g R k).2]) h') : C.bmap_Find t g.v (ints R) k h K := by
  refine bmap_Find.ok (New.intro fun h2 n2 => New.intro fun h3 n3 => cd (fun y => ?_) fun y => cd (fun y2 => ?_) fun y2 => ?_)
  · have e : findM T g R k = (0, 101) := by unfold findM; rw [if_pos (.inl y)]
    rw [e] at hK; exact hK h3 (n2.fr.new n3)
  · have e : findM T g R k = (0, 101) := by unfold findM; rw [if_pos (.inr y2)]
    rw [e] at hK; exact hK h3 (n2.fr.new n3)
  · have e : findM T g R k = walkF T g R (wayM k.toNat) 0 := by unfold findM; rw [if_neg (by omega)]
    rw [e] at hK
    unfold bmap_Find.k1
    refine ⟨g.v, rfl, cellsAll ((n3.at_ n2.own.lt).trans n2.rd), ints R, by rw [ints_length, hR], cellsAll n3.rd, rfl, by rw [ints_length, hR], New.intro fun h4 n4 => ?_⟩
    have F4 := (n2.fr.new n3).new n4
    exact walkF_spec (gl.no F4) (x.no F4) n4.rd hR (by omega) (by omega) fun h5 f5 => ⟨_, _, rfl, hK h5 (F4.no f5)⟩
end Go.Proofs.YtcdpakjhjmchhaaDoor.Bm
namespace Go.Proofs.YtcdpakjhjmchhaaDoor.Bm
open Go Go.Proofs Go.Proofs.YtcdpakjhjmchhaaDoor.Wx Go.Proofs.YtcdpakjhjmchhaaDoor.Hp Go.Proofs.YtcdpakjhjmchhaaDoor.W Go.Proofs.YtcdpakjhjmchhaaDoor.Ad Go.Proofs.YtcdpakjhjmchhaaDoor.Tm Go.Proofs.YtcdpakjhjmchhaaDoor.Spc Go.Proofs.YtcdpakjhjmchhaaDoor.Re Go.Proofs.YtcdpakjhjmchhaaDoor.Av
open Go.Proofs.YtcdpakjhjmchhaaDoor.Hd (ints wrap_u64)
open Go.Proofs.YtcdpakjhjmchhaaDoor.In (Glo ints_length ints_one)
def holeM (T : TM) (g : G) (R : List Int) (s : Nat × Nat) (a : Int) (b : Txt) : (TM × List Int) × Int × Int :=
  if (takeM T g).2.2 ≠ 0 then (((takeM T g).1, R), 0, (takeM T g).2.2) else ((setM (takeM T g).1 R s a b (takeM T g).2.1).1, (takeM T g).2.1, (setM (takeM T g).1 R s a b (takeM T g).2.1).2)
/-- what is done with a number that a step has -/
def nextM (g : G) (TR : TM × List Int) (nu er : Int) (go : TM → List Int → Int → (TM × List Int) × Int × Int) : (TM × List Int) × Int × Int :=
  if er ≠ 0 then (TR, 0, er) else if nu = 0 then (TR, 0, 0) else if lookM g nu ≠ 0 then (TR, 0, lookM g nu) else go TR.1 TR.2 nu
theorem walkA_cons (g : G) (s : Nat × Nat) (r : List (Nat × Nat)) (T : TM) (R : List Int) (a : Int) : walkA g (s :: r) T R a =
    if (numM T R s a).2.2 = 0 ∧ (numM T R s a).1 = 0 then nextM g (holeM T g R s a (numM T R s a).2.1).1 (holeM T g R s a (numM T R s a).2.1).2.1 (holeM T g R s a (numM T R s a).2.1).2.2 (walkA g r)
      else nextM g (T, R) (numM T R s a).1 (numM T R s a).2.2 (walkA g r) := by
  by_cases h1 : (numM T R s a).2.2 = 0
  · by_cases h2 : (numM T R s a).1 = 0
    · by_cases h3 : (takeM T g).2.2 = 0
      · simp [walkA, nextM, holeM, h1, h2, h3]
      · simp [walkA, nextM, holeM, h1, h2, h3]
    · simp [walkA, nextM, h1, h2]
  · simp [walkA, nextM, h1]
theorem holeM_len {T : TM} {g : G} {R : List Int} {s : Nat × Nat} {a : Int} {b : Txt} (hs : StOk s) (hR : R.length = 15) : (holeM T g R s a b).1.2.length = 15 := by
  unfold holeM
  split
  · exact hR
  · exact setM_len hs hR
theorem holeM_un {T : TM} {g : G} {R : List Int} {s : Nat × Nat} {a : Int} {b : Txt} (hs : StOk s) : (holeM T g R s a b).1.1.undo.length ≤ T.undo.length + 3 := by
  have h2 := takeM_un T g
  unfold holeM
  split
  · exact Nat.le_succ_of_le h2
  · have := setM_un (T := (takeM T g).1) (R := R) (a := a) (v := (takeM T g).2.1) (b := b) hs
    exact Nat.le_trans this (by omega)
/-- what Add's closures hold -/
structure Cap (h : Heap) (tb gb pb fb : Nat) (t : Option Addr) (g : G) : Prop where
  t : rd h tb = [.pointer t]
  g : rd h gb = g.v
  p : rd h pb = [.pointer (some ⟨fb, 0, none⟩)]
theorem Cap.lt {h : Heap} {tb gb pb fb : Nat} {t : Option Addr} {g : G} (c : Cap h tb gb pb fb t g) : tb < h.size ∧ gb < h.size ∧ pb < h.size :=
  ⟨rd_lt (o := 0) (by rw [c.t]; rfl), rd_lt (o := 0) (by rw [c.g]; rfl), rd_lt (o := 0) (by rw [c.p]; rfl)⟩
theorem Cap.fr {h h' : Heap} {tb gb pb fb : Nat} {t : Option Addr} {g : G} {G' : Nat → Prop} (c : Cap h tb gb pb fb t g) (f : Fr G' h h') (h1 : ¬ G' tb) (h2 : ¬ G' gb) (h3 : ¬ G' pb) : Cap h' tb gb pb fb t g := by
  obtain ⟨l1, l2, l3⟩ := c.lt
  exact ⟨(f.rd l1 h1).trans c.t, (f.rd l2 h2).trans c.g, (f.rd l3 h3).trans c.p⟩
theorem hole_spec {h : Heap} {F : Nat → Prop} {t d : Option Addr} {T : TM} {n : Nat} {R : List Int} {fb tb gb pb lo : Nat} {s : Nat × Nat} {a : Int} {sa : Option Addr} {sl sc : Nat} {b : Txt} {K : Value → Heap → Prop} (gl : Glo h) (dm : Dim n) (x : Tx h F t d T) (e : rd h fb = fileV t (geoN n) R) (fo : Own h fb) (hR : R.length = 15) (hs : StOk s)
    (cp : Cap h tb gb pb fb t (geoN n)) (hf : ¬ F fb ∧ ¬ F tb ∧ ¬ F gb ∧ ¬ F pb) (g0 : ∀ b, b < 1 → ¬ F b) (hu : T.undo.length < 800000000) (hb : s.1 = 3 → b.length = 512 ∧ Sl h 1 sa sl sc (b.map bv) (fun y => lo ≤ y ∧ ¬ F y ∧ y ≠ fb))
    (hK : ∀ h' F', Fr (fun y => F y ∨ y = fb ∨ lo ≤ y) h h' → Gw h F h' F' → Tx h' F' t d (holeM T (geoN n) R s a b).1.1 → rd h' fb = fileV t (geoN n) (holeM T (geoN n) R s a b).1.2 → Own h' fb → K (.tuple #[.int .i64 (holeM T (geoN n) R s a b).2.1, .int .i64 (holeM T (geoN n) R s a b).2.2]) h') :
    C.bmap_Add_c2 (stV s) a sa sl sc (some ⟨tb, 0, none⟩) (some ⟨gb, 0, none⟩) (some ⟨pb, 0, none⟩) h K := by
  obtain ⟨l1, l2, l3⟩ := cp.lt
  have fl := fo.lt
  refine bmap_Add_c2.ok (New.intro fun h2 n2 => os ⟨t, rdc ((n2.at_ l1).trans cp.t) rfl, os ⟨(geoN n).v, rfl, cellsAll ((n2.at_ l2).trans cp.g), ?_⟩⟩)
  have z2 := n2.size
  refine Take_any (x.no n2.fr) dm (by omega) fun h3 F3 f3 g3 x3 => ⟨_, _, rfl, ?_⟩
  have F03 : Fr F h h3 := (n2.fr.mono fun _ _ y => y.elim).trans f3 fun _ _ y => y
  have G03 : Gw h F h3 F3 := (Gw.refl n2.fr.size fun b hb => x.lt hb).trans g3 n2.fr.size
  have z3 := f3.size
  have old : ∀ y, y < h.size → (F3 y ↔ F y) := G03.old
  have hf3 : ¬ F3 fb := fun y => hf.1 ((old _ fl).mp y)
  have tu := takeM_un T (geoN n)
  have tr := takeM_rng T (geoN n)
  refine cn (fun he => ?_) fun he => ?_
  · have eh : holeM T (geoN n) R s a b = (((takeM T (geoN n)).1, R), 0, (takeM T (geoN n)).2.2) := by unfold holeM; rw [if_pos he]
    rw [eh] at hK
    exact hK h3 F3 (F03.mono fun _ _ y => .inl y) G03 x3 ((F03.rd fl hf.1).trans e) (F03.own fl hf.1 fo)
  · have eh : holeM T (geoN n) R s a b = ((setM (takeM T (geoN n)).1 R s a b (takeM T (geoN n)).2.1).1, (takeM T (geoN n)).2.1, (setM (takeM T (geoN n)).1 R s a b (takeM T (geoN n)).2.1).2) := by unfold holeM; rw [if_neg (fun y => y he)]
    rw [eh] at hK
    have hbl : ((geoN n).blocks : Int) ≤ 16384 := by have := dm.hi; show (n : Int) ≤ _; omega
    have ns : ¬ F h.size := fun y => by have := x.lt y; omega
    refine os ⟨_, rdc ((F03.rd l3 hf.2.2.2).trans cp.p) rfl, stV s, rfl, cellsAll ((f3.rd n2.own.lt ns).trans n2.rd), ?_⟩
    refine set_spec (lo := lo) (b := b) (gl.fr F03 g0) x3 ((F03.rd fl hf.1).trans e) (F03.own fl hf.1 fo) hR hs hf3 (by omega) ⟨tr.1, by omega⟩ (fun h3' => ?_) fun h4 F4 f4 g4 x4 r4 o4 => ⟨_, rfl, ?_⟩
    · obtain ⟨lb, S⟩ := hb h3'
      exact ⟨lb, ((sl_rngB S).fr F03 fun y _ hy z => hy.1.2.1 z).mono fun y hy => ⟨hy.1.1, fun z => hy.1.2.1 ((old y hy.2).mp z), hy.1.2.2⟩⟩
    · refine hK h4 F4 ((F03.mono fun _ _ y => .inl y).trans f4 fun y hy z => ?_) (G03.trans g4 F03.size) x4 r4 o4
      rcases z with z | z
      · exact .inl ((old y hy).mp z)
      · exact .inr z
theorem walkA_spec {h : Heap} {F : Nat → Prop} {t d : Option Addr} {T : TM} {n : Nat} {R : List Int} {fb tb gb pb : Nat} {k : Int} {K : Value → Heap → Prop} (gl : Glo h) (dm : Dim n) (x : Tx h F t d T) (e : rd h fb = fileV t (geoN n) R) (fo : Own h fb) (hR : R.length = 15) (h0 : 0 ≤ k) (h1 : k < 16522)
    (cp : Cap h tb gb pb fb t (geoN n)) (hf : ¬ F fb ∧ ¬ F tb ∧ ¬ F gb ∧ ¬ F pb) (hne : tb ≠ fb ∧ gb ≠ fb ∧ pb ≠ fb) (g0 : ∀ b, b < 1 → ¬ F b ∧ b ≠ fb) (hu : T.undo.length < 700000000)
    (hK : ∀ h' F', Fr (fun y => F y ∨ y = fb) h h' → Gw h F h' F' → Tx h' F' t d (walkA (geoN n) (wayM k.toNat) T R 0).1.1 → rd h' fb = fileV t (geoN n) (walkA (geoN n) (wayM k.toNat) T R 0).1.2 → Own h' fb → (walkA (geoN n) (wayM k.toNat) T R 0).1.2.length = 15 → (walkA (geoN n) (wayM k.toNat) T R 0).1.1.undo.length ≤ T.undo.length + 9 →
      K (.tuple #[.int .i64 (walkA (geoN n) (wayM k.toNat) T R 0).2.1, .int .i64 (walkA (geoN n) (wayM k.toNat) T R 0).2.2]) h') :
    C.bmap_file_walk (some ⟨fb, 0, none⟩) k (Value.func (.func 39) #[] ⟨[.pointer (some ⟨tb, 0, none⟩), .pointer (some ⟨gb, 0, none⟩), .pointer (some ⟨pb, 0, none⟩)]⟩) h K := by
  have fl := fo.lt
  have Flt := fun y (hy : F y) => x.lt hy
  refine bmap_file_walk.ok (way_spec h0 h1 fun h2 f2 l2 rw2 => ⟨_, _, _, rfl, ?_⟩)
  have hok := wayM_ok (k := k.toNat) (by omega)
  have hwl : (wayM k.toNat).length ≤ 3 := by
    unfold wayM
    split
    · simp
    · split <;> simp
  generalize wayM k.toNat = w at hK rw2 hok hwl
  have z2 := f2.size
  refine ⟨fun a i hh => ∃ (j : Nat) (F' : Nat → Prop) (T' : TM) (R' : List Int), i = j ∧ j ≤ w.length ∧ Fr (fun y => F y ∨ y = fb) h2 hh ∧ Gw h2 F hh F' ∧ Tx hh F' t d T' ∧ rd hh fb = fileV t (geoN n) R' ∧ Own hh fb ∧ R'.length = 15 ∧ T'.undo.length ≤ T.undo.length + 3 * j ∧ walkA (geoN n) (w.drop j) T' R' a = walkA (geoN n) w T R 0, fun _ i _ => ((w.length : Int) - i).toNat,
    ⟨0, F, T, R, rfl, Nat.zero_le _, Fr.refl _ _, Gw.refl (Nat.le_refl _) (fun b hb => Nat.lt_of_lt_of_le (Flt b hb) z2), x.no f2, (f2.rd fl fun y => y).trans e, f2.own fl (fun y => y) fo, hR, Nat.le_refl _, by rw [List.drop_zero]⟩, ?_⟩
  rintro a i h3 ⟨j, F', T', R', rfl, hj, f3, g3, x3, r3, o3, R3, u3, ew⟩
  have z3 := f3.size
  have f03 : Fr (fun y => F y ∨ y = fb) h h3 := (f2.mono fun _ _ y => y.elim).trans f3 fun _ _ y => y
  have old3 : ∀ y, y < h2.size → (F' y ↔ F y) := g3.old
  have G2 : Gw h F h2 F := Gw.refl z2 Flt
  refine cd (fun hl => ?_) fun hl => ?_
  · have hj' : j < w.length := by omega
    rw [drop_cons hj', walkA_cons] at ew
    have hs := hok _ (List.getElem_mem hj')
    have nP : ¬ (F h.size ∨ h.size = fb) := by
      rintro (y | y)
      · have := Flt _ y; omega
      · omega
    rw [Int.toNat_natCast]
    refine ⟨⟨by omega, hl⟩, os ⟨stV w[j], rfl, st_cells ((f3.rd l2 nP).trans rw2) hj', NewRow.intro rfl (one_st _) rfl fun h5 n5 => ⟨stV w[j], rfl, cellsAll n5.rd, ?_⟩⟩⟩
    have z5 := n5.size
    have fl3 := o3.lt
    have gl5 : Glo h5 := (gl.fr f03 fun b hb y => by rcases y with y | y; exact (g0 b hb).1 y; exact (g0 b hb).2 y).no n5.fr
    refine number_spec gl5 (x3.no n5.fr) ((n5.at_ fl3).trans r3) R3 hs fun sa sl sc h6 f6 el s6 => ⟨_, _, _, _, _, rfl, ?_⟩
    have z6 := f6.size
    have F36 : Fr No h3 h6 := n5.fr.no f6
    have wr : IntKind.wrap .i64 ((j : Int) + 1) = ((j + 1 : Nat) : Int) := by rw [wrap_i64 (by omega) (by omega)]; omega
    -- what a number does, at h8
    have go : ∀ (h8 : Heap) (F8 : Nat → Prop) (TR : TM × List Int) (nu er : Int), Fr (fun y => F y ∨ y = fb) h2 h8 → Gw h2 F h8 F8 → Tx h8 F8 t d TR.1 → rd h8 fb = fileV t (geoN n) TR.2 → Own h8 fb → TR.2.length = 15 → TR.1.undo.length ≤ T.undo.length + 3 * (j + 1) →
        nextM (geoN n) TR nu er (walkA (geoN n) (w.drop (j + 1))) = walkA (geoN n) w T R 0 →
        bmap_file_walk.k1 (some ⟨fb, 0, none⟩) a (j : Int) h3 (fun a i hh => ∃ (j : Nat) (F' : Nat → Prop) (T' : TM) (R' : List Int), i = j ∧ j ≤ w.length ∧ Fr (fun y => F y ∨ y = fb) h2 hh ∧ Gw h2 F hh F' ∧ Tx hh F' t d T' ∧ rd hh fb = fileV t (geoN n) R' ∧ Own hh fb ∧ R'.length = 15 ∧ T'.undo.length ≤ T.undo.length + 3 * j ∧ walkA (geoN n) (w.drop j) T' R' a = walkA (geoN n) w T R 0) (fun _ i _ => ((w.length : Int) - i).toNat) nu er h8 K := fun h8 F8 TR nu er f8 g8 x8 r8 o8 R8 u8 e8 => by
      have f08 : Fr (fun y => F y ∨ y = fb) h h8 := (f2.mono fun _ _ y => y.elim).trans f8 fun _ _ y => y
      unfold nextM at e8
      unfold bmap_file_walk.k1
      refine cn (fun y => ?_) fun y => ce (fun y2 => ?_) fun y2 => ?_
      · rw [if_pos y] at e8; rw [← e8] at hK; exact hK h8 F8 f08 (G2.trans g8 z2) x8 r8 o8 R8 (by show TR.1.undo.length ≤ _; omega)
      · rw [if_neg (fun z => z y), if_pos y2] at e8; rw [← e8] at hK; exact hK h8 F8 f08 (G2.trans g8 z2) x8 r8 o8 R8 (by show TR.1.undo.length ≤ _; omega)
      · rw [if_neg (fun z => z y), if_neg y2] at e8
        refine look_spec r8 ⟨_, rfl, cn (fun y3 => ?_) fun y3 => ?_⟩
        · rw [if_pos y3] at e8; rw [← e8] at hK; exact hK h8 F8 f08 (G2.trans g8 z2) x8 r8 o8 R8 (by show TR.1.undo.length ≤ _; omega)
        · rw [if_neg (fun z => z y3)] at e8
          rw [wr]
          exact ⟨⟨j + 1, F8, TR.1, TR.2, rfl, hj', f8, g8, x8, r8, o8, R8, u8, e8⟩, by show ((w.length : Int) - ((j + 1 : Nat) : Int)).toNat < ((w.length : Int) - (j : Int)).toNat; omega⟩
    have f26 : Fr (fun y => F y ∨ y = fb) h2 h6 := f3.no F36
    have g36 : Gw h2 F h6 F' := ⟨g3.old, fun b hb => Nat.lt_of_lt_of_le (g3.lt b hb) F36.size⟩
    have x6 := x3.no F36
    have r6 : rd h6 fb = _ := (F36.rd fl3 fun y => y).trans r3
    have o6 := F36.own fl3 (fun y => y) o3
    have plain : ¬ ((numM T' R' w[j] a).2.2 = 0 ∧ (numM T' R' w[j] a).1 = 0) → bmap_file_walk.k1 (some ⟨fb, 0, none⟩) a (j : Int) h3 (fun a i hh => ∃ (j : Nat) (F' : Nat → Prop) (T' : TM) (R' : List Int), i = j ∧ j ≤ w.length ∧ Fr (fun y => F y ∨ y = fb) h2 hh ∧ Gw h2 F hh F' ∧ Tx hh F' t d T' ∧ rd hh fb = fileV t (geoN n) R' ∧ Own hh fb ∧ R'.length = 15 ∧ T'.undo.length ≤ T.undo.length + 3 * j ∧ walkA (geoN n) (w.drop j) T' R' a = walkA (geoN n) w T R 0) (fun _ i _ => ((w.length : Int) - i).toNat) (numM T' R' w[j] a).1 (numM T' R' w[j] a).2.2 h6 K := fun hno => by
      rw [if_neg hno] at ew
      exact go h6 F' (T', R') _ _ f26 g36 x6 r6 o6 R3 (by show T'.undo.length ≤ _; omega) ew
    refine ce (fun y => ce (fun y2 => ?_) fun y2 => plain fun z => y2 z.2) fun y => plain fun z => y z.1
    rw [if_pos ⟨y, y2⟩] at ew
    refine ⟨stV w[j], rfl, cellsAll ((f6.rd n5.own.lt fun y => y).trans n5.rd), ?_⟩
    have f06 : Fr (fun y => F y ∨ y = fb) h h6 := f03.no F36
    obtain ⟨c1, c2, c3⟩ := cp.lt
    have cp6 : Cap h6 tb gb pb fb t (geoN n) := cp.fr f06 (by rintro (y | y); exact hf.2.1 y; exact hne.1 y) (by rintro (y | y); exact hf.2.2.1 y; exact hne.2.1 y) (by rintro (y | y); exact hf.2.2.2 y; exact hne.2.2 y)
    have hb : w[j].1 = 3 → (numM T' R' w[j] a).2.1.length = 512 ∧ Sl h6 1 sa sl sc ((numM T' R' w[j] a).2.1.map bv) (fun y => h5.size ≤ y ∧ ¬ F' y ∧ y ≠ fb) := fun h3' => by
      refine ⟨?_, s6.mono fun y hy => ⟨hy, fun z => ?_, ?_⟩⟩
      · rw [numM_t h3'] at y ⊢
        by_cases hh : (T'.read a).2 ≠ 0
        · rw [if_pos hh] at y; exact absurd y hh
        · rw [if_neg hh]; exact Tx.readLen x3 (by omega)
      · have hy : h5.size ≤ y := hy
        have := x3.lt z; omega
      · have hy : h5.size ≤ y := hy
        omega
    refine hole_spec (lo := h5.size) (gl5.no f6) dm x6 r6 o6 R3 hs cp6 ⟨fun z => hf.1 ((old3 _ (by omega)).mp z), fun z => hf.2.1 ((old3 _ (by omega)).mp z), fun z => hf.2.2.1 ((old3 _ (by omega)).mp z), fun z => hf.2.2.2 ((old3 _ (by omega)).mp z)⟩ (fun b hb' z => ?_) (by omega) hb fun h7 F7 f7 g7 x7 r7 o7 => ⟨_, _, rfl, ?_⟩
    · exact (g0 b hb').1 ((old3 b (by omega)).mp z)
    · have z7 := f7.size
      have f27 : Fr (fun y => F y ∨ y = fb) h2 h7 := f26.trans f7 fun c hc z => ?_
      · have hl7 := holeM_un (T := T') (g := geoN n) (R := R') (a := a) (b := (numM T' R' w[j] a).2.1) hs
        exact go h7 F7 _ _ _ f27 (g36.trans g7 f26.size) x7 r7 o7 (holeM_len hs R3) (by omega) ew
      · rcases z with z | z | z
        · exact .inl ((old3 c hc).mp z)
        · exact .inr z
        · omega
  · have ej : j = w.length := by omega
    subst ej
    rw [List.drop_length] at ew
    have ew : ((T', R'), a, (0 : Int)) = walkA (geoN n) w T R 0 := ew
    rw [← ew] at hK
    exact hK h3 F' f03 (G2.trans g3 z2) x3 r3 o3 R3 (by show T'.undo.length ≤ _; omega)
end Go.Proofs.YtcdpakjhjmchhaaDoor.Bm
namespace Go.Proofs.YtcdpakjhjmchhaaDoor.Bm
open Go Go.Proofs Go.Proofs.YtcdpakjhjmchhaaDoor.Wx Go.Proofs.YtcdpakjhjmchhaaDoor.Hp Go.Proofs.YtcdpakjhjmchhaaDoor.W Go.Proofs.YtcdpakjhjmchhaaDoor.Ad Go.Proofs.YtcdpakjhjmchhaaDoor.Tm Go.Proofs.YtcdpakjhjmchhaaDoor.Spc Go.Proofs.YtcdpakjhjmchhaaDoor.Re Go.Proofs.YtcdpakjhjmchhaaDoor.Av
open Go.Proofs.YtcdpakjhjmchhaaDoor.Hd (ints wrap_u64)
open Go.Proofs.YtcdpakjhjmchhaaDoor.In (Glo ints_length ints_one)
/-- what guard's closure holds -/
structure Gd (h : Heap) (ob tb mb : Nat) (t : Option Addr) (m : Int × Int) : Prop where
  o : rd h ob = [.int .i64 m.2]
  t : rd h tb = [.pointer t]
  m : rd h mb = [.int .i64 m.1]
def gdV (ob tb mb : Nat) : Value := .func (.func 90) ⟨[]⟩ ⟨[.pointer (some ⟨ob, 0, none⟩), .pointer (some ⟨tb, 0, none⟩), .pointer (some ⟨mb, 0, none⟩)]⟩
theorem Gd.lt {h : Heap} {ob tb mb : Nat} {t : Option Addr} {m : Int × Int} (c : Gd h ob tb mb t m) : ob < h.size ∧ tb < h.size ∧ mb < h.size :=
  ⟨rd_lt (o := 0) (by rw [c.o]; rfl), rd_lt (o := 0) (by rw [c.t]; rfl), rd_lt (o := 0) (by rw [c.m]; rfl)⟩
theorem Gd.fr {h h' : Heap} {ob tb mb : Nat} {t : Option Addr} {m : Int × Int} {G : Nat → Prop} (c : Gd h ob tb mb t m) (f : Fr G h h') (h1 : ¬ G ob) (h2 : ¬ G tb) (h3 : ¬ G mb) : Gd h' ob tb mb t m := by
  obtain ⟨l1, l2, l3⟩ := c.lt
  exact ⟨(f.rd l1 h1).trans c.o, (f.rd l2 h2).trans c.t, (f.rd l3 h3).trans c.m⟩
theorem guard_spec {h : Heap} {F : Nat → Prop} {t d : Option Addr} {T : TM} {K : Value → Heap → Prop} (x : Tx h F t d T)
    (hK : ∀ ob tb mb h', Fr No h h' → h.size ≤ ob → h.size ≤ tb → h.size ≤ mb → Gd h' ob tb mb t T.mark → K (gdV ob tb mb) h') : C.bmap_guard t h K := by
  refine bmap_guard.ok (New.intro fun h2 n2 => ⟨t, rdc n2.rd rfl, Mark_spec (x.no n2.fr) ⟨_, _, rfl, New.intro fun h4 n4 => New.intro fun h5 n5 => ?_⟩⟩)
  have z2 := n2.size
  have z4 := n4.size
  have z5 := n5.size
  refine Put.intro (n5.ow n4.own) (by rw [n5.at_ n4.own.lt, n4.rd]; decide) fun h6 d6 => Put.intro (d6.ow n5.own) (by rw [d6.at_ n5.own.lt (by omega), n5.rd]; decide) fun h7 d7 => ?_
  have z6 := d6.size
  have F7 : Fr No h h7 := (((n2.fr.new n4).new n5).did d6 fun hl => by omega).did d7 fun hl => by omega
  refine hK h4.size h.size h2.size h7 F7 (by omega) (Nat.le_refl _) (by omega) ⟨?_, ?_, ?_⟩
  · rw [d7.rd, d6.at_ n5.own.lt (by omega), n5.rd]; rfl
  · exact (d7.at_ (by omega) (by omega)).trans ((d6.at_ (by omega) (by omega)).trans ((n5.at_ (by omega)).trans ((n4.at_ n2.own.lt).trans n2.rd)))
  · rw [d7.at_ (by omega) (by omega), d6.rd, n5.at_ n4.own.lt, n4.rd]; rfl
theorem guard_c1_spec {h : Heap} {F : Nat → Prop} {t d : Option Addr} {T : TM} {ob tb mb : Nat} {m : Int × Int} {e : Int} {K : Value → Heap → Prop} (x : Tx h F t d T) (c : Gd h ob tb mb t m) (hu : T.undo.length < 1000000000)
    (hK : ∀ h', Fr F h h' → Tx h' F t d (if e ≠ 0 ∧ m.2 = 0 then (T.back m.1).1 else T) → K (.tuple #[]) h') : HCallsV Tryd.prog (gdV ob tb mb) [.int .i64 e] h K := by
  show C.bmap_guard_c1 e (some ⟨ob, 0, none⟩) (some ⟨tb, 0, none⟩) (some ⟨mb, 0, none⟩) h K
  refine bmap_guard_c1.ok (cn (fun he => os ⟨_, rdc c.o rfl, ce (fun hm => os ⟨t, rdc c.t rfl, os ⟨_, rdc c.m rfl, Back_spec x hu fun h2 f2 x2 => ⟨_, rfl, ?_⟩⟩⟩) fun hm => ?_⟩) fun he => ?_)
  · rw [if_pos ⟨he, hm⟩] at hK; exact hK h2 f2 x2
  · rw [if_neg (fun y => hm y.2)] at hK; exact hK h (Fr.refl _ _) x
  · rw [if_neg (fun y => y.1 he)] at hK; exact hK h (Fr.refl _ _) x
theorem rep_one' (n : Nat) : repCells z3 n = List.replicate n (Value.int .i64 0) := rfl
theorem z15_one : ∀ v ∈ ints z15, v.oneCell' = true := ints_one z15
theorem Add_spec {h : Heap} {F : Nat → Prop} {t d : Option Addr} {T : TM} {n : Nat} {R : List Int} {k : Int} {K : Value → Heap → Prop} (gl : Glo h) (dm : Dim n) (x : Tx h F t d T) (live : T.over = false) (hR : R.length = 15) (g0 : ∀ b, b < 1 → ¬ F b) (hu : T.undo.length < 700000000)
    (hK : ∀ h' F', Fr F h h' → Gw h F h' F' → Tx h' F' t d (addM T (geoN n) R k).1 → K (.tuple #[.agg ⟨ints (addM T (geoN n) R k).2.1⟩, .int .i64 (addM T (geoN n) R k).2.2.1, .int .i64 (addM T (geoN n) R k).2.2.2]) h') :
    C.bmap_Add t (geoN n).v (ints R) k h K := by
  have Flt := fun y (hy : F y) => x.lt hy
  have gl1 := gl.lt
  refine bmap_Add.ok (New.intro fun h2 n2 => New.intro fun h3 n3 => New.intro fun h4 n4 => New.intro fun h5 n5 => New.intro fun h6 n6 => New.intro fun h7 n7 => ?_)
  have z2 := n2.size
  have z3 := n3.size
  have z4 := n4.size
  have z5 := n5.size
  have z6 := n6.size
  have z7 := n7.size
  have F7 : Fr No h h7 := ((((n2.fr.new n3).new n4).new n5).new n6).new n7
  have ry : rd h7 h4.size = ints z15 := (n7.at_ (by omega)).trans ((n6.at_ (by omega)).trans n5.rd)
  have oy : Own h7 h4.size := n7.ow (n6.ow n5.own)
  have rn : rd h7 h5.size = [.int .i64 0] := (n7.at_ (by omega)).trans n6.rd
  have on : Own h7 h5.size := n7.ow n6.own
  have re : rd h7 h6.size = [.int .i64 0] := n7.rd
  have oe' : Own h7 h6.size := n7.own
  by_cases hk : 0 ≤ k ∧ k < 16522
  rotate_left
  · have e0 : addM T (geoN n) R k = (T, z15, 0, 101) := by unfold addM; rw [if_pos (by omega)]
    rw [e0] at hK
    have far : PutRow ⟨h4.size, 0, none⟩ (ints z15) 15 h7 fun h8 => Put ⟨h5.size, 0, none⟩ (.int .i64 0) h8 fun h9 => Put ⟨h6.size, 0, none⟩ (.int .i64 101) h9 fun h10 =>
        ∃ res1 : List Value, List.length res1 = 15 ∧ Cells h10 ⟨h4.size, 0, none⟩ res1 ∧ ∃ (res2 : Int), cellOf h10 ⟨h5.size, 0, none⟩ = some (.int .i64 res2) ∧ ∃ (res3 : Int), cellOf h10 ⟨h6.size, 0, none⟩ = some (.int .i64 res3) ∧ K (.tuple #[.agg ⟨res1⟩, .int .i64 res2, .int .i64 res3]) h10 := by
      refine PutRow.intro oy rfl z15_one (by rw [ry]; exact Nat.le_refl _) fun h8 d8 => Put.intro (d8.ow on) (by rw [d8.at_ (by omega) (by omega), rn]; decide) fun h9 d9 => Put.intro (d9.ow (d8.ow oe')) (by rw [d9.at_ (by have := d8.size; omega) (by omega), d8.at_ (by omega) (by omega), re]; decide) fun h10 d10 => ?_
      have z8 := d8.size
      have z9 := d9.size
      have F10 : Fr No h h10 := ((F7.did d8 fun hl => by omega).did d9 fun hl => by omega).did d10 fun hl => by omega
      refine ⟨ints z15, rfl, cellsAll ?_, 0, rdc (xs := [.int .i64 0]) ?_ rfl, 101, rdc (xs := [.int .i64 101]) ?_ rfl, hK h10 F (F10.mono fun _ _ y => y.elim) (Gw.refl F10.size Flt) (x.no F10)⟩
      · rw [d10.at_ (by omega) (by omega), d9.at_ (by omega) (by omega), d8.rd, ry]; exact put_all _ _ rfl
      · rw [d10.at_ (by omega) (by omega), d9.rd, d8.at_ (by omega) (by omega), rn]; rfl
      · rw [d10.rd, d9.at_ (by omega) (by omega), d8.at_ (by omega) (by omega), re]; rfl
    exact cd (fun _ => far) fun y => cd (fun _ => far) fun y2 => by exfalso; omega
  refine cd (fun y => by exfalso; omega) fun _ => cd (fun y => by exfalso; omega) fun _ => ?_
  have rt : rd h7 h.size = [.pointer t] := (n7.at_ (by omega)).trans ((n6.at_ (by omega)).trans ((n5.at_ (by omega)).trans ((n4.at_ (by omega)).trans ((n3.at_ (by omega)).trans n2.rd))))
  have rg : rd h7 h2.size = (geoN n).v := (n7.at_ (by omega)).trans ((n6.at_ (by omega)).trans ((n5.at_ (by omega)).trans ((n4.at_ (by omega)).trans n3.rd)))
  have rx : rd h7 h3.size = ints R := (n7.at_ (by omega)).trans ((n6.at_ (by omega)).trans ((n5.at_ (by omega)).trans n4.rd))
  unfold bmap_Add.k1
  refine ⟨t, rdc rt rfl, guard_spec (x.no F7) fun ob tb mb h15 f15 b1 b2 b3 gd => ⟨_, _, _, rfl, New.intro fun h16 n16 => ?_⟩⟩
  have z15' := f15.size
  have z16 := n16.size
  obtain ⟨gl1', gl2', gl3'⟩ := gd.lt
  refine Put.intro n16.own (by rw [n16.rd]; decide) fun h17 d17 => ?_
  have z17 := d17.size
  have q17 : ∀ b, b < h15.size → rd h17 b = rd h15 b := fun b hb => (d17.at_ (by omega) (by omega)).trans (n16.at_ hb)
  have q7 : ∀ b, b < h7.size → rd h15 b = rd h7 b := fun b hb => f15.rd hb fun y => y
  refine ⟨t, rdc ((q17 _ (by omega)).trans ((q7 _ (by omega)).trans rt)) rfl, (geoN n).v, rfl, cellsAll ((q17 _ (by omega)).trans ((q7 _ (by omega)).trans rg)), ints R, by rw [ints_length, hR], cellsAll ((q17 _ (by omega)).trans ((q7 _ (by omega)).trans rx)), rfl, by rw [ints_length, hR], New.intro fun h18 n18 => New.intro fun h19 n19 => ?_⟩
  have z18 := n18.size
  have z19 := n19.size
  refine Put.intro n19.own (by rw [n19.rd]; decide) fun h20 d20 => ?_
  have z20 := d20.size
  have q20 : ∀ b, b < h17.size → rd h20 b = rd h17 b := fun b hb => (d20.at_ (by omega) (by omega)).trans ((n19.at_ (by omega)).trans (n18.at_ hb))
  have o20 : ∀ {b}, Own h17 b → Own h20 b := fun w => d20.ow (n19.ow (n18.ow w))
  have o17 : ∀ {b}, Own h7 b → Own h17 b := fun w => d17.ow (n16.ow (f15.own w.lt (fun y => y) w))
  have F17 : Fr No h h17 := ((F7.no f15).new n16).did d17 fun hl => by omega
  have F20 : Fr No h h20 := ((F17.new n18).new n19).did d20 fun hl => by omega
  have s7 := F7.size
  have notF : ∀ b, h.size ≤ b → ¬ F b := fun b hb y => by have := Flt b y; omega
  have rf20 : rd h20 h17.size = fileV t (geoN n) R := (d20.at_ (by omega) (by omega)).trans ((n19.at_ (by omega)).trans n18.rd)
  have rp20 : rd h20 h18.size = [.pointer (some ⟨h17.size, 0, none⟩)] := by rw [d20.rd, n19.rd]; rfl
  have cap : Cap h20 h.size h2.size h18.size h17.size t (geoN n) := ⟨(q20 _ (by omega)).trans ((q17 _ (by omega)).trans ((q7 _ (by omega)).trans rt)), (q20 _ (by omega)).trans ((q17 _ (by omega)).trans ((q7 _ (by omega)).trans rg)), rp20⟩
  refine ⟨_, rdc rp20 rfl, walkA_spec (gl.no F20) dm (x.no F20) rf20 (d20.ow (n19.ow n18.own)) hR hk.1 hk.2 cap ⟨notF _ (by omega), notF _ (by omega), notF _ (by omega), notF _ (by omega)⟩ ⟨by omega, by omega, by omega⟩ (fun b hb => ⟨g0 b hb, by omega⟩) hu fun h21 F' f21 g21 x21 r21 o21 l21 u21 => ⟨_, _, rfl, ?_⟩⟩
  have ea : addM T (geoN n) R k = if (walkA (geoN n) (wayM k.toNat) T R 0).2.2 ≠ 0 then (((walkA (geoN n) (wayM k.toNat) T R 0).1.1.back T.undo.length).1, z15, 0, (walkA (geoN n) (wayM k.toNat) T R 0).2.2)
      else ((walkA (geoN n) (wayM k.toNat) T R 0).1.1, (walkA (geoN n) (wayM k.toNat) T R 0).1.2, (walkA (geoN n) (wayM k.toNat) T R 0).2.1, 0) := by unfold addM; rw [if_neg (by omega)]
  rw [ea] at hK
  generalize walkA (geoN n) (wayM k.toNat) T R 0 = W at hK x21 r21 l21 u21
  obtain ⟨⟨T', R'⟩, n1, e1⟩ := W
  simp only at hK x21 r21 l21 u21
  have z21 := f21.size
  have q21 : ∀ b, h.size ≤ b → b < h20.size → b ≠ h17.size → rd h21 b = rd h20 b := fun b h1 h2 h3 => f21.rd h2 (by rintro (y | y); exact notF b h1 y; exact h3 y)
  have w21 : ∀ {b}, h.size ≤ b → b ≠ h17.size → Own h20 b → Own h21 b := fun h1 h3 w => f21.own w.lt (by rintro (y | y); exact notF _ h1 y; exact h3 y) w
  have rn21 : rd h21 h5.size = [.int .i64 0] := (q21 _ (by omega) (by omega) (by omega)).trans ((q20 _ (by omega)).trans ((q17 _ (by omega)).trans ((q7 _ (by omega)).trans rn)))
  have re21 : rd h21 h6.size = [.int .i64 0] := (q21 _ (by omega) (by omega) (by omega)).trans ((q20 _ (by omega)).trans ((q17 _ (by omega)).trans ((q7 _ (by omega)).trans re)))
  have ry21 : rd h21 h4.size = ints z15 := (q21 _ (by omega) (by omega) (by omega)).trans ((q20 _ (by omega)).trans ((q17 _ (by omega)).trans ((q7 _ (by omega)).trans ry)))
  have on21 : Own h21 h5.size := w21 (by omega) (by omega) (o20 (o17 on))
  have oe21 : Own h21 h6.size := w21 (by omega) (by omega) (o20 (o17 oe'))
  have oy21 : Own h21 h4.size := w21 (by omega) (by omega) (o20 (o17 oy))
  have rp21 : rd h21 h18.size = [.pointer (some ⟨h17.size, 0, none⟩)] := (q21 _ (by omega) (by omega) (by omega)).trans rp20
  have rb21 : rd h21 h15.size = [gdV ob tb mb] := (q21 _ (by omega) (by omega) (by omega)).trans ((q20 _ (by omega)).trans (by rw [d17.rd, n16.rd]; rfl))
  have F21 : Fr F h h21 := (F20.mono fun _ _ y => y.elim).trans f21 fun b hb y => by
    rcases y with y | y
    · exact y
    · omega
  have G21 : Gw h F h21 F' := (Gw.refl F20.size Flt).trans g21 F20.size
  have old : ∀ b, b < h20.size → (F' b ↔ F b) := g21.old
  have notF' : ∀ b, h.size ≤ b → b < h20.size → ¬ F' b := fun b h1 h2 y => notF b h1 ((old b h2).mp y)
  have gd21 : Gd h21 ob tb mb t T.mark := by
    have g17 : Gd h17 ob tb mb t T.mark := ⟨(q17 _ gl1').trans gd.o, (q17 _ gl2').trans gd.t, (q17 _ gl3').trans gd.m⟩
    have g20 : Gd h20 ob tb mb t T.mark := ⟨(q20 _ (by omega)).trans g17.o, (q20 _ (by omega)).trans g17.t, (q20 _ (by omega)).trans g17.m⟩
    exact ⟨(q21 _ (by omega) (by omega) (by omega)).trans g20.o, (q21 _ (by omega) (by omega) (by omega)).trans g20.t, (q21 _ (by omega) (by omega) (by omega)).trans g20.m⟩
  have lr : R'.length = 15 := l21
  refine Put.intro on21 (by rw [rn21]; decide) fun h22 d22 => Put.intro (d22.ow oe21) (by rw [d22.at_ (by omega) (by omega), re21]; decide) fun h23 d23 => ?_
  have z22 := d22.size
  have z23 := d23.size
  have q23 : ∀ b, b < h21.size → b ≠ h5.size → b ≠ h6.size → rd h23 b = rd h21 b := fun b hb h1 h2 => (d23.at_ (by omega) h2).trans (d22.at_ hb h1)
  have rn23 : rd h23 h5.size = [.int .i64 n1] := (d23.at_ (by omega) (by omega)).trans (by rw [d22.rd, rn21]; rfl)
  have re23 : rd h23 h6.size = [.int .i64 e1] := by rw [d23.rd, d22.at_ (by omega) (by omega), re21]; rfl
  have rf23 : rd h23 h17.size = fileV t (geoN n) R' := (q23 _ (by omega) (by omega) (by omega)).trans r21
  refine ⟨_, rdc ((q23 _ (by omega) (by omega) (by omega)).trans rp21) rfl, os ⟨ints R', by rw [ints_length, lr], cellsa rf23 ?_, n1, rdc rn23 rfl, e1, rdc re23 rfl, ?_⟩⟩
  · show (ints R').take _ = _
    exact List.take_of_length_le (Nat.le_refl _)
  refine PutRow.intro (d23.ow (d22.ow oy21)) (by rw [ints_length, lr]) (ints_one _) (by rw [q23 _ (by omega) (by omega) (by omega), ry21]; exact Nat.le_refl _) fun h24 d24 => ?_
  have z24 := d24.size
  have ry24 : rd h24 h4.size = ints R' := by rw [d24.rd, q23 _ (by omega) (by omega) (by omega), ry21]; exact put_all _ _ (by rw [ints_length, lr]; rfl)
  have rn24 : rd h24 h5.size = [.int .i64 n1] := (d24.at_ (by omega) (by omega)).trans rn23
  have re24 : rd h24 h6.size = [.int .i64 e1] := (d24.at_ (by omega) (by omega)).trans re23
  refine ⟨rdc rn24 rfl, rdc re24 rfl, Put.intro (d24.ow (d23.ow (d22.ow on21))) (by rw [rn24]; exact Nat.zero_lt_one) fun h25 d25 => ?_⟩
  have z25 := d25.size
  have re25 : rd h25 h6.size = [.int .i64 e1] := (d25.at_ (by omega) (by omega)).trans re24
  have oe25 : Own h25 h6.size := d25.ow (d24.ow (d23.ow (d22.ow oe21)))
  refine ⟨rdc re25 rfl, Put.intro oe25 (by rw [re25]; exact Nat.zero_lt_one) fun h26 d26 => ?_⟩
  have z26 := d26.size
  have q26 : ∀ b, b < h21.size → b ≠ h4.size → b ≠ h5.size → b ≠ h6.size → rd h26 b = rd h21 b := fun b hb h1 h2 h3 => (d26.at_ (by omega) h3).trans ((d25.at_ (by omega) h2).trans ((d24.at_ (by omega) h1).trans (q23 b hb h2 h3)))
  have re26 : rd h26 h6.size = [.int .i64 e1] := by rw [d26.rd, re25]; rfl
  have rn26 : rd h26 h5.size = [.int .i64 n1] := (d26.at_ (by omega) (by omega)).trans (by rw [d25.rd, rn24]; rfl)
  have ry26 : rd h26 h4.size = ints R' := (d26.at_ (by omega) (by omega)).trans ((d25.at_ (by omega) (by omega)).trans ry24)
  have oy26 : Own h26 h4.size := d26.ow (d25.ow d24.own)
  have on26 : Own h26 h5.size := d26.ow d25.own
  have f2126 : Fr (fun b => b = h4.size ∨ b = h5.size ∨ b = h6.size) h21 h26 := ((((Fr.refl _ _).did d22 fun _ => .inr (.inl rfl)).did d23 fun _ => .inr (.inr rfl)).did d24 fun _ => .inl rfl).did d25 (fun _ => .inr (.inl rfl)) |>.did d26 fun _ => .inr (.inr rfl)
  have x26 : Tx h26 F' t d T' := x21.fr f2126 fun b hb y => by
    rcases y with rfl | rfl | rfl
    · exact notF' _ (by omega) (by omega) hb
    · exact notF' _ (by omega) (by omega) hb
    · exact notF' _ (by omega) (by omega) hb
  have gd26 : Gd h26 ob tb mb t T.mark := gd21.fr f2126 (by rintro (y | y | y) <;> omega) (by rintro (y | y | y) <;> omega) (by rintro (y | y | y) <;> omega)
  have F26 : Fr F h h26 := F21.trans f2126 fun b hb y => by rcases y with y | y | y <;> omega
  have G26 : Gw h F h26 F' := ⟨G21.old, fun b hb => Nat.lt_of_lt_of_le (G21.lt b hb) f2126.size⟩
  have em : T.mark = ((T.undo.length : Int), 0) := by unfold TM.mark; rw [live, if_neg (by simp)]
  refine bmap_Add_c1.okD (os ⟨_, rdc ((q26 _ (by omega) (by omega) (by omega) (by omega)).trans rb21) rfl, os ⟨_, rdc re26 rfl, guard_c1_spec x26 gd26 (by omega) fun h27 f27 x27 => ⟨rfl, ?_⟩⟩⟩)
  have z27 := f27.size
  have q27 : ∀ b, h.size ≤ b → b < h20.size → rd h27 b = rd h26 b := fun b h1 h2 => f27.rd (by omega) (notF' b h1 h2)
  have F27 : Fr F h h27 := F26.trans f27 fun b hb y => (old b (by omega)).mp y
  have G27 : Gw h F h27 F' := ⟨G26.old, fun b hb => Nat.lt_of_lt_of_le (G26.lt b hb) f27.size⟩
  rw [em] at x27
  refine os ⟨_, rdc ((q27 _ (by omega) (by omega)).trans re26) rfl, cn (fun he => ?_) fun he => ?_⟩
  · rw [if_pos ⟨he, rfl⟩] at x27
    rw [if_pos he] at hK
    refine os (PutRow.intro (f27.own (by omega) (notF' _ (by omega) (by omega)) oy26) rfl z15_one (by rw [q27 _ (by omega) (by omega), ry26, ints_length, lr]; exact Nat.le_refl _) fun h28 d28 => os (Put.intro (d28.ow (f27.own (by omega) (notF' _ (by omega) (by omega)) on26)) (by rw [d28.at_ (by omega) (by omega), q27 _ (by omega) (by omega), rn26]; exact Nat.zero_lt_one) fun h29 d29 => ?_))
    have z28 := d28.size
    have z29 := d29.size
    have f2729 : Fr (fun b => b = h4.size ∨ b = h5.size) h27 h29 := ((Fr.refl _ _).did d28 fun _ => .inl rfl).did d29 fun _ => .inr rfl
    refine ⟨ints z15, rfl, cellsAll ?_, 0, rdc (xs := [.int .i64 0]) ?_ rfl, e1, rdc (xs := [.int .i64 e1]) ?_ rfl, hK h29 F' (F27.trans f2729 fun b hb y => by rcases y with y | y <;> omega) ⟨G27.old, fun b hb => Nat.lt_of_lt_of_le (G27.lt b hb) f2729.size⟩ (x27.fr f2729 fun b hb y => ?_)⟩
    · rw [d29.at_ (by omega) (by omega), d28.rd, q27 _ (by omega) (by omega), ry26]; exact put_all _ _ (by rw [ints_length, lr]; rfl)
    · rw [d29.rd, d28.at_ (by omega) (by omega), q27 _ (by omega) (by omega), rn26]; rfl
    · rw [d29.at_ (by omega) (by omega), d28.at_ (by omega) (by omega), q27 _ (by omega) (by omega), re26]
    · rcases y with rfl | rfl
      · exact notF' _ (by omega) (by omega) hb
      · exact notF' _ (by omega) (by omega) hb
  · rw [if_neg (fun y => y.1 he)] at x27
    rw [if_neg (fun y => y he)] at hK
    have he : e1 = 0 := he
    subst he
    exact ⟨ints R', by rw [ints_length, lr], cellsAll ((q27 _ (by omega) (by omega)).trans ry26), n1, rdc ((q27 _ (by omega) (by omega)).trans rn26) rfl, 0, rdc ((q27 _ (by omega) (by omega)).trans re26) rfl, hK h27 F' F27 G27 x27⟩
end Go.Proofs.YtcdpakjhjmchhaaDoor.Bm
