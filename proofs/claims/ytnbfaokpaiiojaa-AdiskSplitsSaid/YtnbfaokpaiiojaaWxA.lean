import Derived.Test.YtnbfaokpaiiojaaWxDef
import Derived.Laws.CopyRow
namespace Go.Proofs.Ytnbfaokpaiiojaa.Wx
open Go

/-! Types. -/
def descSum : TypeDesc → D
  | .bool => .bool | .int k => .int k | .string => .str | .pointer e => .ptr e | .slice e => .slice e | .array n e => .arr n e
  | .struct fs => .struct (fs.toList.map fun f => (f.offset, f.type)) | .func _ _ _ => .fn | _ => .other
def infoSum (i : TypeInfo) : Nat × Nat × Option (List Value) := (i.size, i.bytes, i.zero.map cellsL)
structure TIok (P : Program) (t : Nat) (x : TI) : Prop where
  info : (P.info? t).map infoSum = some (x.cells, x.bytes, some x.zero)
  desc : (P.underlying t).map descSum = some x.d
  len : x.zero.length = x.cells
structure CtxOk (C : Ctx) : Prop where
  ti : ∀ t, C.ti t = noTI ∨ TIok C.P t (C.ti t)
  mixed : C.P.follows .mixedOrders = true

theorem tiOf_ok {P : Program} : ∀ (l : List (Nat × TI)), (∀ x ∈ l, TIok P x.1 x.2) → ∀ t, tiOf l t = noTI ∨ TIok P t (tiOf l t)
  | [], _, t => .inl rfl
  | (i, x) :: r, h, t => by
    unfold tiOf
    cases hb : Nat.beq i t with
    | true =>
      have e : i = t := Nat.eq_of_beq_eq_true hb
      subst e
      exact .inr (h (i, x) (by simp))
    | false => exact tiOf_ok r (fun y hy => h y (by simp [hy])) t

theorem CtxOk.ok {C : Ctx} (hC : CtxOk C) {t : Nat} (h : (C.ti t).ok = true) : TIok C.P t (C.ti t) := by
  rcases hC.ti t with e | e
  · rw [e] at h; simp [noTI] at h
  · exact e
theorem CtxOk.okX {C : Ctx} (hC : CtxOk C) {t : Nat} {p : Prop} (h : okX (C.ti t) p) : TIok C.P t (C.ti t) ∧ p := by
  unfold Wx.okX at h
  cases e : (C.ti t).ok with
  | true => rw [e] at h; exact ⟨hC.ok e, h⟩
  | false => rw [e] at h; exact h.elim
theorem CtxOk.okD {C : Ctx} (hC : CtxOk C) {t : Nat} (h : (C.ti t).d ≠ .other) : TIok C.P t (C.ti t) := by
  rcases hC.ti t with e | e
  · rw [e] at h; exact (h rfl).elim
  · exact e
theorem TIok.get {P : Program} {t : Nat} {x : TI} (h : TIok P t x) :
    ∃ i d z, P.info? t = some i ∧ P.underlying t = some d ∧ descSum d = x.d ∧ i.size = x.cells ∧ i.bytes = x.bytes ∧ i.zero = some z ∧ cellsL z = x.zero := by
  obtain ⟨h1, h2, _⟩ := h
  cases hi : P.info? t with
  | none => simp [hi] at h1
  | some i =>
    cases hd : P.underlying t with
    | none => simp [hd] at h2
    | some d =>
      simp only [hi, hd, Option.map_some, Option.some.injEq, infoSum, Prod.mk.injEq] at h1 h2
      obtain ⟨h1a, h1b, h1c⟩ := h1
      cases hz : i.zero with
      | none => simp [hz] at h1c
      | some z =>
        simp [hz] at h1c
        exact ⟨i, d, z, rfl, rfl, h2, h1a, h1b, hz, h1c⟩
theorem cellsL_eq (v : Value) : cellsL v = v.cells.toList := by cases v <;> simp [cellsL, Value.cells]

/-! The heap, as the world has it. -/
theorem cell_eq (w : World) (a : Addr) : w.cell? a = cellOf w.heap a := rfl
theorem frozen_eq (w : World) (a : Addr) : w.frozen? a = frozenOf w.heap a := rfl
theorem setCell_heap (w : World) (a : Addr) (v : Value) : (w.setCell a v).heap = setOf w.heap a v := rfl
theorem SameRest.refl (w : World) : SameRest w w := ⟨rfl, rfl, rfl⟩
theorem SameRest.trans {a b c : World} (h : SameRest a b) (k : SameRest b c) : SameRest a c := ⟨k.1.trans h.1, k.2.1.trans h.2.1, k.2.2.trans h.2.2⟩
theorem SameRest.set (w : World) (a : Addr) (v : Value) : SameRest w (w.setCell a v) := ⟨rfl, rfl, rfl⟩

/-! What a piece of the model comes to, said of the heap. -/
def To {α : Type} (P : Program) (s : Sem α) (w : World) (k : α → Heap → Prop) : Prop :=
  ∃ v w', s.run P w = .ok v w' ∧ SameRest w w' ∧ k v w'.heap
theorem To.mono {α : Type} {P : Program} {s : Sem α} {w : World} {k k' : α → Heap → Prop} (h : To P s w k) (hk : ∀ v h, k v h → k' v h) : To P s w k' :=
  let ⟨v, w', a, b, c⟩ := h; ⟨v, w', a, b, hk _ _ c⟩
theorem To.bind {α β : Type} {P : Program} {s : Sem α} {f : α → Sem β} {w : World} {k : β → Heap → Prop}
    (h : ∃ v w', s.run P w = .ok v w' ∧ SameRest w w' ∧ To P (f v) w' k) : To P (s >>= f) w k := by
  obtain ⟨v, w', h1, h2, v2, w2, h3, h4, h5⟩ := h
  exact ⟨v2, w2, by rw [Sem.run_bind, h1]; exact h3, h2.trans h4, h5⟩
theorem To.pure {α : Type} {P : Program} {v : α} {w : World} {k : α → Heap → Prop} (h : k v w.heap) : To P (Pure.pure v) w k := ⟨v, w, rfl, .refl _, h⟩
/-- without a change -/
theorem To.of_run {α : Type} {P : Program} {s : Sem α} {w : World} {k : α → Heap → Prop} {v : α} (hr : s.run P w = .ok v w) (h : k v w.heap) : To P s w k := ⟨v, w, hr, .refl _, h⟩

theorem run_underlying_ok {P : Program} {t : Nat} {d : TypeDesc} (h : P.underlying t = some d) (w : World) : (underlying t).run P w = .ok d w := run_underlying h w
theorem run_typeInfo_ok {P : Program} {t : Nat} {i : TypeInfo} (h : P.info? t = some i) (w : World) : (typeInfo t).run P w = .ok i w := by
  simp [typeInfo, h]
theorem run_sizeOf_ok {P : Program} {t : Nat} {i : TypeInfo} (h : P.info? t = some i) (w : World) : (sizeOf t).run P w = .ok i.size w := by
  simp [sizeOf, run_typeInfo_ok h]
def isAggD : D → Bool
  | .arr _ _ => true
  | .struct _ => true
  | _ => false
theorem run_isAgg_ok {P : Program} {t : Nat} {d : TypeDesc} (h : P.underlying t = some d) (w : World) :
    (isAgg t).run P w = .ok (isAggD (descSum d)) w := by
  unfold isAgg
  rw [Sem.run_bind, run_underlying h w]
  cases d <;> simp [descSum, isAggD]

theorem exT_elim {ty : Ty} {C K : Value → Prop} (h : exT ty C K) : ∃ v, C v ∧ K v := by
  cases ty <;> simp only [exT] at h <;> (first | (obtain ⟨a, l, c, h1, h2⟩ := h; exact ⟨_, h1, h2⟩) | (obtain ⟨a, h1, h2⟩ := h; exact ⟨_, h1, h2⟩))

theorem loadVar_to {P : Program} {t : Nat} {x : TI} (hx : TIok P t x) {p : Addr} {w : World} {k : Value → Prop} (h : loadX x p w.heap k) :
    ∃ v, (loadVar t p).run P w = .ok v w ∧ k v := by
  obtain ⟨i, d, z, hi, hd, hdx, hsz, _, _, _⟩ := hx.get
  unfold loadX at h
  unfold loadVar
  have hag := run_isAgg_ok hd w
  cases hq : descSum d with
  | arr n e =>
    rw [← hdx, hq] at h; simp only [D.ty] at h; rw [hq] at hag; simp only [isAggD] at hag
    obtain ⟨cs, hl, hc, hk⟩ := h
    have hlo := run_loadCells_list (P := P) w p cs (fun j v hv => hc j v hv)
    refine ⟨.agg ⟨cs⟩, ?_, hk⟩
    simp only [Sem.run_bind, hag, Result.andThen_ok, if_true, run_sizeOf_ok hi, hsz, ← hl, hlo, Sem.run_pure]
  | struct fs =>
    rw [← hdx, hq] at h; simp only [D.ty] at h; rw [hq] at hag; simp only [isAggD] at hag
    obtain ⟨cs, hl, hc, hk⟩ := h
    have hlo := run_loadCells_list (P := P) w p cs (fun j v hv => hc j v hv)
    refine ⟨.agg ⟨cs⟩, ?_, hk⟩
    simp only [Sem.run_bind, hag, Result.andThen_ok, if_true, run_sizeOf_ok hi, hsz, ← hl, hlo, Sem.run_pure]
  | bool => rw [← hdx, hq] at h; simp only [D.ty] at h; rw [hq] at hag; simp only [isAggD] at hag; obtain ⟨v, hc, hk⟩ := exT_elim h; exact ⟨v, by simp [Sem.run_bind, hag, cell_eq, hc], hk⟩
  | int kd => rw [← hdx, hq] at h; simp only [D.ty] at h; rw [hq] at hag; simp only [isAggD] at hag; obtain ⟨v, hc, hk⟩ := exT_elim h; exact ⟨v, by simp [Sem.run_bind, hag, cell_eq, hc], hk⟩
  | str => rw [← hdx, hq] at h; simp only [D.ty] at h; rw [hq] at hag; simp only [isAggD] at hag; obtain ⟨v, hc, hk⟩ := exT_elim h; exact ⟨v, by simp [Sem.run_bind, hag, cell_eq, hc], hk⟩
  | ptr e => rw [← hdx, hq] at h; simp only [D.ty] at h; rw [hq] at hag; simp only [isAggD] at hag; obtain ⟨v, hc, hk⟩ := exT_elim h; exact ⟨v, by simp [Sem.run_bind, hag, cell_eq, hc], hk⟩
  | slice e => rw [← hdx, hq] at h; simp only [D.ty] at h; rw [hq] at hag; simp only [isAggD] at hag; obtain ⟨v, hc, hk⟩ := exT_elim h; exact ⟨v, by simp [Sem.run_bind, hag, cell_eq, hc], hk⟩
  | fn => rw [← hdx, hq] at h; simp only [D.ty] at h; rw [hq] at hag; simp only [isAggD] at hag; obtain ⟨v, hc, hk⟩ := exT_elim h; exact ⟨v, by simp [Sem.run_bind, hag, cell_eq, hc], hk⟩
  | other => rw [← hdx, hq] at h; simp only [D.ty] at h; rw [hq] at hag; simp only [isAggD] at hag; obtain ⟨v, hc, hk⟩ := exT_elim h; exact ⟨v, by simp [Sem.run_bind, hag, cell_eq, hc], hk⟩

/-! Stores. -/
theorem Addr.add_add (a : Addr) (i j : Nat) (h : 0 < i) : (a.add i).add j = a.add (i + j) := by
  unfold Addr.add
  by_cases hj : j = 0
  · subst hj; simp
  · simp [hj, show i ≠ 0 by omega, Nat.add_assoc]

theorem cellOf_setOf (h : Heap) (a b : Addr) (v : Value) : (∃ u, cellOf h b = some u) → ∃ u, cellOf (setOf h a v) b = some u := by
  rintro ⟨u, hu⟩
  unfold cellOf setOf at *
  simp only [Array.getElem?_modify]
  by_cases e : a.block = b.block
  · rw [e]; simp only [if_true]
    cases hb : h[b.block]? with
    | none => rw [hb] at hu; simp at hu
    | some o =>
      rw [hb] at hu
      cases o with
      | cells c t fr =>
        simp only at hu
        simp only [Option.map_some]
        cases hs : b.spot with
        | some q => simp [hs] at hu
        | none =>
          simp [hs] at hu ⊢
          have hlt : b.off < c.size := by
            rcases Nat.lt_or_ge b.off c.size with h1 | h1
            · exact h1
            · simp [Array.getElem?_eq_none h1] at hu
          by_cases hsp : a.spot.isSome = true
          · simp [hsp, hlt]
          · simp only [hsp]
            simp [hlt]
      | _ => simp at hu
  · simp only [if_neg e]; exact ⟨u, hu⟩
theorem frozenOf_setOf (h : Heap) (a b : Addr) (v : Value) : frozenOf (setOf h a v) b = frozenOf h b := by
  unfold frozenOf setOf
  simp only [Array.getElem?_modify]
  by_cases e : a.block = b.block
  · rw [e]; simp only [if_true]
    cases hb : h[b.block]? with
    | none => simp
    | some o => cases o <;> simp
  · simp only [if_neg e]
theorem Wr.set {h : Heap} {a b : Addr} (v : Value) (hw : Wr h b) : Wr (setOf h a v) b := ⟨cellOf_setOf h a b v hw.1, by rw [frozenOf_setOf]; exact hw.2⟩

theorem store_to {P : Program} {w : World} {a : Addr} {v : Value} (hv : v.oneCell' = true) (hw : Wr w.heap a) : (store a v).run P w = .ok () (w.setCell a v) := by
  obtain ⟨⟨u, hu⟩, hf⟩ := hw
  rw [run_store P w a v .plain hv, cell_eq, hu]
  simp [frozen_eq, hf]
def setW (w : World) (h : Heap) : World := { w with heap := h }
theorem setW_rest (w : World) (h : Heap) : SameRest w (setW w h) := ⟨rfl, rfl, rfl⟩
theorem setW_heap (w : World) (h : Heap) : (setW w h).heap = h := rfl
theorem storeCells_to {P : Program} (a : Addr) : ∀ (cs : List Value) (i : Nat) (w : World), (∀ v ∈ cs, v.oneCell' = true) → (∀ j, j < cs.length → Wr w.heap (a.add (i + j))) →
    (storeCells a cs i).run P w = .ok () (setW w (setRow w.heap a cs i))
  | [], i, w, _, _ => rfl
  | v :: r, i, w, h1, h2 => by
    have hs := store_to (P := P) (w := w) (a := a.add i) (h1 v (by simp)) (by simpa using h2 0 (by simp))
    have ih := storeCells_to (P := P) a r (i + 1) (w.setCell (a.add i) v) (fun x hx => h1 x (by simp [hx]))
      (fun j hj => by
        rw [setCell_heap]
        have := h2 (j + 1) (by simp; omega)
        rw [show i + 1 + j = i + (j + 1) by omega]
        exact this.set v)
    simp only [storeCells, Sem.run_bind, hs, Result.andThen_ok, ih]
    rfl
theorem storeVar_to {P : Program} {t : Nat} {x : TI} (hx : TIok P t x) {p : Addr} {v : Value} {w : World} {k : Heap → Prop} (h : storeX x p v w.heap k) :
    ∃ w', (storeVar t p v).run P w = .ok () w' ∧ SameRest w w' ∧ k w'.heap := by
  obtain ⟨i, d, z, hi, hd, hdx, hsz, _, _, _⟩ := hx.get
  have one : ∀ u : Value, u.oneCell' = true → u.cells = #[u] → Nat.beq x.cells 1 = true → Wr w.heap p → k (setOf w.heap p u) →
      ∃ w', (storeVar t p u).run P w = .ok () w' ∧ SameRest w w' ∧ k w'.heap := by
    intro u hu hcs hb hw hk
    have hone : x.cells = 1 := Nat.eq_of_beq_eq_true hb
    have hs := storeCells_to (P := P) p [u] 0 w (by simpa using hu) (fun j hj => by
      have : j = 0 := by simpa using hj
      subst this; simpa [Addr.add] using hw)
    refine ⟨setW w (setRow w.heap p [u] 0), ?_, setW_rest w _, ?_⟩
    · simp only [storeVar, Sem.run_bind, run_sizeOf_ok hi, Result.andThen_ok, hcs, hsz, hone]
      simp only [List.size_toArray, List.length_cons, List.length_nil]
      simpa using hs
    · simpa [setRow, setW, Addr.add] using hk
  cases v with
  | agg a =>
    obtain ⟨⟨h1, h2, h3⟩, hk⟩ := h
    have hs := storeCells_to (P := P) p a.toList 0 w h2 (fun j hj => by
      rw [Nat.zero_add]; exact h3 j (by omega))
    refine ⟨setW w (setRow w.heap p a.toList 0), ?_, setW_rest w _, ?_⟩
    · simp only [storeVar, Sem.run_bind, run_sizeOf_ok hi, Result.andThen_ok, Value.cells, hsz]
      have e : a.size = x.cells := by simpa using h1
      simp only [e]
      simpa using hs
    · exact hk
  | tuple a => exact h.elim
  | _ =>
    simp only [storeX] at h
    cases hb : Nat.beq x.cells 1 with
    | false => rw [hb] at h; exact h.elim
    | true => rw [hb] at h; exact one _ rfl rfl hb h.1 h.2
end Go.Proofs.Ytnbfaokpaiiojaa.Wx
