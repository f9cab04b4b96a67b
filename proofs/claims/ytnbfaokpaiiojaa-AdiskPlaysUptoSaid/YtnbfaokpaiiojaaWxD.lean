import Derived.Test.YtnbfaokpaiiojaaWxDef
import Derived.Laws.CopyRow
namespace Go.Proofs.Ytnbfaokpaiiojaa.Wx
open Go

/-! Types. -/
def descSum : TypeDesc → D
  | .bool => .bool | .int k => .int k | .string => .str | .pointer e => .ptr e | .slice e => .slice e | .array n e => .arr n e
  | .struct fs => .struct (fs.toList.map fun f => (f.offset, f.type)) | .func _ _ _ => .fn | .map k e => .map k e | _ => .other
def infoSum (i : TypeInfo) : Nat × Nat × Option (List Value) := (i.size, i.bytes, i.zero.map cellsL)
/-- fields that lie one behind the other, each with what is in it -/
def flatFs (g : Nat → Option (List D)) : List Field → Nat → Option (List D)
  | [], _ => some []
  | fd :: r, off => bif fd.name == "_" then none else bif Nat.beq fd.offset off then (match g fd.type with
      | some ks => (flatFs g r (off + ks.length)).map (ks ++ ·)
      | none => none) else none
/-- the kinds of the cells of a type whose values are compared cell by cell -/
def flatD (P : Program) (g : Nat → Option (List D)) (t : Nat) : Option (List D) :=
  match P.underlying t with
  | some (.int k) => some [D.int k]
  | some .string => some [D.str]
  | some .bool => some [D.bool]
  | some (.struct fs) => bif P.stoodInHeld t then none else flatFs g fs.toList 0
  | some (.array n e) => (g e).map fun ks => (List.replicate n ks).flatten
  | _ => none
def flatZ (P : Program) (t : Nat) : Option (List D) → Option (List D)
  | some ks => bif (match P.info? t with | some i => Nat.beq i.size ks.length | none => false) then some ks else none
  | none => none
def flatK (P : Program) : Nat → Nat → Option (List D)
  | 0, _ => none
  | f + 1, t => flatZ P t (flatD P (flatK P f) t)
def dSame : D → D → Bool
  | .int a, .int b => kindEq a b
  | .str, .str => true
  | .bool, .bool => true
  | _, _ => false
def dsSame : List D → List D → Bool
  | [], [] => true
  | a :: r, b :: s => dSame a b && dsSame r s
  | _, _ => false
def eqsOk (P : Program) (t : Nat) (ks : List D) : Bool :=
  match ks with
  | [] => true
  | ks => (match flatK P 6 t with | some l => dsSame ks l && !(P.eqGuardType P.depth t) && (match P.underlying t with | some (.struct _) => true | some (.array _ _) => true | _ => false) | none => false)
def isAggV : Value → Bool
  | .agg _ => true
  | _ => false
def isAggTy : Ty → Bool
  | .agg => true
  | _ => false
structure TIok (P : Program) (t : Nat) (x : TI) : Prop where
  eqs : eqsOk P t x.eq = true
  zag : ((P.info? t).bind (·.zero)).map isAggV = some (isAggTy x.d.ty)
  info : (P.info? t).map infoSum = some (x.cells, x.bytes, some x.zero)
  desc : (P.underlying t).map descSum = some x.d
  len : x.zero.length = x.cells
/-- the search for a byte in a text, which the model does itself -/
def NatOk (P : Program) (g : Nat) : Prop := ∀ (s : ByteArray) (c : Int) (w : World), (callFunc g #[.string s, .int .u8 c]).run P w = .ok (.value (.int .i64 (byteIn s.toList (UInt8.ofNat c.toNat)))) w
structure CtxOk (C : Ctx) : Prop where
  nat : ∀ g ∈ C.nat, NatOk C.P g
  ti : ∀ t, C.ti t = noTI ∨ TIok C.P t (C.ti t)
  mixed : C.P.follows .mixedOrders = true

theorem tiOf_ok {P : Program} : ∀ (l : List (Nat × TI)), (∀ x ∈ l, TIok P x.1 x.2) → ∀ t, tiOf l t = noTI ∨ TIok P t (tiOf l t)
  | [], _, t => .inl rfl
  | (i, x) :: r, h, t => by
    unfold tiOf
    cases hb : Nat.beq i t with
    | true =>
      have e : i = t := Nat.eq_of_beq_eq_true hb
      subst e
      exact .inr (h (i, x) (by simp))
    | false => exact tiOf_ok r (fun y hy => h y (by simp [hy])) t

theorem CtxOk.ok {C : Ctx} (hC : CtxOk C) {t : Nat} (h : (C.ti t).ok = true) : TIok C.P t (C.ti t) := by
  rcases hC.ti t with e | e
  · rw [e] at h; simp [noTI] at h
  · exact e
theorem CtxOk.okX {C : Ctx} (hC : CtxOk C) {t : Nat} {p : Prop} (h : okX (C.ti t) p) : TIok C.P t (C.ti t) ∧ p := by
  unfold Wx.okX at h
  cases e : (C.ti t).ok with
  | true => rw [e] at h; exact ⟨hC.ok e, h⟩
  | false => rw [e] at h; exact h.elim
theorem CtxOk.okD {C : Ctx} (hC : CtxOk C) {t : Nat} (h : (C.ti t).d ≠ .other) : TIok C.P t (C.ti t) := by
  rcases hC.ti t with e | e
  · rw [e] at h; exact (h rfl).elim
  · exact e
theorem TIok.get {P : Program} {t : Nat} {x : TI} (h : TIok P t x) :
    ∃ i d z, P.info? t = some i ∧ P.underlying t = some d ∧ descSum d = x.d ∧ i.size = x.cells ∧ i.bytes = x.bytes ∧ i.zero = some z ∧ cellsL z = x.zero := by
  obtain ⟨_, _, h1, h2, _⟩ := h
  cases hi : P.info? t with
  | none => simp [hi] at h1
  | some i =>
    cases hd : P.underlying t with
    | none => simp [hd] at h2
    | some d =>
      simp only [hi, hd, Option.map_some, Option.some.injEq, infoSum, Prod.mk.injEq] at h1 h2
      obtain ⟨h1a, h1b, h1c⟩ := h1
      cases hz : i.zero with
      | none => simp [hz] at h1c
      | some z =>
        simp [hz] at h1c
        exact ⟨i, d, z, rfl, rfl, h2, h1a, h1b, hz, h1c⟩
theorem cellsL_eq (v : Value) : cellsL v = v.cells.toList := by cases v <;> simp [cellsL, Value.cells]

/-! The heap, as the world has it. -/
theorem cell_eq (w : World) (a : Addr) : w.cell? a = cellOf w.heap a := rfl
theorem frozen_eq (w : World) (a : Addr) : w.frozen? a = frozenOf w.heap a := rfl
theorem setCell_heap (w : World) (a : Addr) (v : Value) : (w.setCell a v).heap = setOf w.heap a v := rfl
theorem SameRest.refl (w : World) : SameRest w w := ⟨rfl, rfl, rfl⟩
theorem SameRest.trans {a b c : World} (h : SameRest a b) (k : SameRest b c) : SameRest a c := ⟨k.1.trans h.1, k.2.1.trans h.2.1, k.2.2.trans h.2.2⟩
theorem SameRest.set (w : World) (a : Addr) (v : Value) : SameRest w (w.setCell a v) := ⟨rfl, rfl, rfl⟩

/-! What a piece of the model comes to, said of the heap. -/
def To {α : Type} (P : Program) (s : Sem α) (w : World) (k : α → Heap → Prop) : Prop :=
  ∃ v w', s.run P w = .ok v w' ∧ SameRest w w' ∧ k v w'.heap
theorem To.mono {α : Type} {P : Program} {s : Sem α} {w : World} {k k' : α → Heap → Prop} (h : To P s w k) (hk : ∀ v h, k v h → k' v h) : To P s w k' :=
  let ⟨v, w', a, b, c⟩ := h; ⟨v, w', a, b, hk _ _ c⟩
theorem To.bind {α β : Type} {P : Program} {s : Sem α} {f : α → Sem β} {w : World} {k : β → Heap → Prop}
    (h : ∃ v w', s.run P w = .ok v w' ∧ SameRest w w' ∧ To P (f v) w' k) : To P (s >>= f) w k := by
  obtain ⟨v, w', h1, h2, v2, w2, h3, h4, h5⟩ := h
  exact ⟨v2, w2, by rw [Sem.run_bind, h1]; exact h3, h2.trans h4, h5⟩
theorem To.pure {α : Type} {P : Program} {v : α} {w : World} {k : α → Heap → Prop} (h : k v w.heap) : To P (Pure.pure v) w k := ⟨v, w, rfl, .refl _, h⟩
/-- without a change -/
theorem To.of_run {α : Type} {P : Program} {s : Sem α} {w : World} {k : α → Heap → Prop} {v : α} (hr : s.run P w = .ok v w) (h : k v w.heap) : To P s w k := ⟨v, w, hr, .refl _, h⟩

theorem run_underlying_ok {P : Program} {t : Nat} {d : TypeDesc} (h : P.underlying t = some d) (w : World) : (underlying t).run P w = .ok d w := run_underlying h w
theorem run_typeInfo_ok {P : Program} {t : Nat} {i : TypeInfo} (h : P.info? t = some i) (w : World) : (typeInfo t).run P w = .ok i w := by
  simp [typeInfo, h]
theorem run_sizeOf_ok {P : Program} {t : Nat} {i : TypeInfo} (h : P.info? t = some i) (w : World) : (sizeOf t).run P w = .ok i.size w := by
  simp [sizeOf, run_typeInfo_ok h]
def isAggD : D → Bool
  | .arr _ _ => true
  | .struct _ => true
  | _ => false
theorem run_isAgg_ok {P : Program} {t : Nat} {d : TypeDesc} (h : P.underlying t = some d) (w : World) :
    (isAgg t).run P w = .ok (isAggD (descSum d)) w := by
  unfold isAgg
  rw [Sem.run_bind, run_underlying h w]
  cases d <;> simp [descSum, isAggD]

theorem exT_elim {ty : Ty} {C K : Value → Prop} (h : exT ty C K) : ∃ v, C v ∧ K v := by
  cases ty <;> simp only [exT] at h <;> (first | (obtain ⟨a, l, c, h1, h2⟩ := h; exact ⟨_, h1, h2⟩) | (obtain ⟨a, h1, h2⟩ := h; exact ⟨_, h1, h2⟩))

theorem loadVar_to {P : Program} {t : Nat} {x : TI} (hx : TIok P t x) {p : Addr} {w : World} {k : Value → Prop} (h : loadX x p w.heap k) :
    ∃ v, (loadVar t p).run P w = .ok v w ∧ k v := by
  obtain ⟨i, d, z, hi, hd, hdx, hsz, _, _, _⟩ := hx.get
  unfold loadX at h
  unfold loadVar
  have hag := run_isAgg_ok hd w
  cases hq : descSum d with
  | arr n e =>
    rw [← hdx, hq] at h; simp only [D.ty] at h; rw [hq] at hag; simp only [isAggD] at hag
    obtain ⟨cs, hl, hc, hk⟩ := h
    have hlo := run_loadCells_list (P := P) w p cs (fun j v hv => hc j v hv)
    refine ⟨.agg ⟨cs⟩, ?_, hk⟩
    simp only [Sem.run_bind, hag, Result.andThen_ok, if_true, run_sizeOf_ok hi, hsz, ← hl, hlo, Sem.run_pure]
  | struct fs =>
    rw [← hdx, hq] at h; simp only [D.ty] at h; rw [hq] at hag; simp only [isAggD] at hag
    obtain ⟨cs, hl, hc, hk⟩ := h
    have hlo := run_loadCells_list (P := P) w p cs (fun j v hv => hc j v hv)
    refine ⟨.agg ⟨cs⟩, ?_, hk⟩
    simp only [Sem.run_bind, hag, Result.andThen_ok, if_true, run_sizeOf_ok hi, hsz, ← hl, hlo, Sem.run_pure]
  | bool => rw [← hdx, hq] at h; simp only [D.ty] at h; rw [hq] at hag; simp only [isAggD] at hag; obtain ⟨v, hc, hk⟩ := exT_elim h; exact ⟨v, by simp [Sem.run_bind, hag, cell_eq, hc], hk⟩
  | int kd => rw [← hdx, hq] at h; simp only [D.ty] at h; rw [hq] at hag; simp only [isAggD] at hag; obtain ⟨v, hc, hk⟩ := exT_elim h; exact ⟨v, by simp [Sem.run_bind, hag, cell_eq, hc], hk⟩
  | str => rw [← hdx, hq] at h; simp only [D.ty] at h; rw [hq] at hag; simp only [isAggD] at hag; obtain ⟨v, hc, hk⟩ := exT_elim h; exact ⟨v, by simp [Sem.run_bind, hag, cell_eq, hc], hk⟩
  | ptr e => rw [← hdx, hq] at h; simp only [D.ty] at h; rw [hq] at hag; simp only [isAggD] at hag; obtain ⟨v, hc, hk⟩ := exT_elim h; exact ⟨v, by simp [Sem.run_bind, hag, cell_eq, hc], hk⟩
  | slice e => rw [← hdx, hq] at h; simp only [D.ty] at h; rw [hq] at hag; simp only [isAggD] at hag; obtain ⟨v, hc, hk⟩ := exT_elim h; exact ⟨v, by simp [Sem.run_bind, hag, cell_eq, hc], hk⟩
  | fn => rw [← hdx, hq] at h; simp only [D.ty] at h; rw [hq] at hag; simp only [isAggD] at hag; obtain ⟨v, hc, hk⟩ := exT_elim h; exact ⟨v, by simp [Sem.run_bind, hag, cell_eq, hc], hk⟩
  | map k e => rw [← hdx, hq] at h; simp only [D.ty] at h; rw [hq] at hag; simp only [isAggD] at hag; obtain ⟨v, hc, hk⟩ := exT_elim h; exact ⟨v, by simp [Sem.run_bind, hag, cell_eq, hc], hk⟩
  | other => rw [← hdx, hq] at h; simp only [D.ty] at h; rw [hq] at hag; simp only [isAggD] at hag; obtain ⟨v, hc, hk⟩ := exT_elim h; exact ⟨v, by simp [Sem.run_bind, hag, cell_eq, hc], hk⟩

/-! Stores. -/
theorem Addr.add_add (a : Addr) (i j : Nat) (h : 0 < i) : (a.add i).add j = a.add (i + j) := by
  unfold Addr.add
  by_cases hj : j = 0
  · subst hj; simp
  · simp [hj, show i ≠ 0 by omega, Nat.add_assoc]

theorem cellOf_setOf (h : Heap) (a b : Addr) (v : Value) : (∃ u, cellOf h b = some u) → ∃ u, cellOf (setOf h a v) b = some u := by
  rintro ⟨u, hu⟩
  unfold cellOf setOf at *
  simp only [Array.getElem?_modify]
  by_cases e : a.block = b.block
  · rw [e]; simp only [if_true]
    cases hb : h[b.block]? with
    | none => rw [hb] at hu; simp at hu
    | some o =>
      rw [hb] at hu
      cases o with
      | cells c t fr =>
        simp only at hu
        simp only [Option.map_some]
        cases hs : b.spot with
        | some q => simp [hs] at hu
        | none =>
          simp [hs] at hu ⊢
          have hlt : b.off < c.size := by
            rcases Nat.lt_or_ge b.off c.size with h1 | h1
            · exact h1
            · simp [Array.getElem?_eq_none h1] at hu
          by_cases hsp : a.spot.isSome = true
          · simp [hsp, hlt]
          · simp only [hsp]
            simp [hlt]
      | _ => simp at hu
  · simp only [if_neg e]; exact ⟨u, hu⟩
theorem frozenOf_setOf (h : Heap) (a b : Addr) (v : Value) : frozenOf (setOf h a v) b = frozenOf h b := by
  unfold frozenOf setOf
  simp only [Array.getElem?_modify]
  by_cases e : a.block = b.block
  · rw [e]; simp only [if_true]
    cases hb : h[b.block]? with
    | none => simp
    | some o => cases o <;> simp
  · simp only [if_neg e]
theorem Wr.set {h : Heap} {a b : Addr} (v : Value) (hw : Wr h b) : Wr (setOf h a v) b := ⟨cellOf_setOf h a b v hw.1, by rw [frozenOf_setOf]; exact hw.2⟩

theorem store_to {P : Program} {w : World} {a : Addr} {v : Value} (hv : v.oneCell' = true) (hw : Wr w.heap a) : (store a v).run P w = .ok () (w.setCell a v) := by
  obtain ⟨⟨u, hu⟩, hf⟩ := hw
  rw [run_store P w a v .plain hv, cell_eq, hu]
  simp [frozen_eq, hf]
def setW (w : World) (h : Heap) : World := { w with heap := h }
theorem setW_rest (w : World) (h : Heap) : SameRest w (setW w h) := ⟨rfl, rfl, rfl⟩
theorem setW_heap (w : World) (h : Heap) : (setW w h).heap = h := rfl
theorem storeCells_to {P : Program} (a : Addr) : ∀ (cs : List Value) (i : Nat) (w : World), (∀ v ∈ cs, v.oneCell' = true) → (∀ j, j < cs.length → Wr w.heap (a.add (i + j))) →
    (storeCells a cs i).run P w = .ok () (setW w (setRow w.heap a cs i))
  | [], i, w, _, _ => rfl
  | v :: r, i, w, h1, h2 => by
    have hs := store_to (P := P) (w := w) (a := a.add i) (h1 v (by simp)) (by simpa using h2 0 (by simp))
    have ih := storeCells_to (P := P) a r (i + 1) (w.setCell (a.add i) v) (fun x hx => h1 x (by simp [hx]))
      (fun j hj => by
        rw [setCell_heap]
        have := h2 (j + 1) (by simp; omega)
        rw [show i + 1 + j = i + (j + 1) by omega]
        exact this.set v)
    simp only [storeCells, Sem.run_bind, hs, Result.andThen_ok, ih]
    rfl
theorem storeVar_to {P : Program} {t : Nat} {x : TI} (hx : TIok P t x) {p : Addr} {v : Value} {w : World} {k : Heap → Prop} (h : storeX x p v w.heap k) :
    ∃ w', (storeVar t p v).run P w = .ok () w' ∧ SameRest w w' ∧ k w'.heap := by
  obtain ⟨i, d, z, hi, hd, hdx, hsz, _, _, _⟩ := hx.get
  have one : ∀ u : Value, u.oneCell' = true → u.cells = #[u] → Nat.beq x.cells 1 = true → Wr w.heap p → k (setOf w.heap p u) →
      ∃ w', (storeVar t p u).run P w = .ok () w' ∧ SameRest w w' ∧ k w'.heap := by
    intro u hu hcs hb hw hk
    have hone : x.cells = 1 := Nat.eq_of_beq_eq_true hb
    have hs := storeCells_to (P := P) p [u] 0 w (by simpa using hu) (fun j hj => by
      have : j = 0 := by simpa using hj
      subst this; simpa [Addr.add] using hw)
    refine ⟨setW w (setRow w.heap p [u] 0), ?_, setW_rest w _, ?_⟩
    · simp only [storeVar, Sem.run_bind, run_sizeOf_ok hi, Result.andThen_ok, hcs, hsz, hone]
      simp only [List.size_toArray, List.length_cons, List.length_nil]
      simpa using hs
    · simpa [setRow, setW, Addr.add] using hk
  cases v with
  | agg a =>
    obtain ⟨⟨h1, h2, h3⟩, hk⟩ := h
    have hs := storeCells_to (P := P) p a.toList 0 w h2 (fun j hj => by
      rw [Nat.zero_add]; exact h3 j (by omega))
    refine ⟨setW w (setRow w.heap p a.toList 0), ?_, setW_rest w _, ?_⟩
    · simp only [storeVar, Sem.run_bind, run_sizeOf_ok hi, Result.andThen_ok, Value.cells, hsz]
      have e : a.size = x.cells := by simpa using h1
      simp only [e]
      simpa using hs
    · exact hk
  | tuple a => exact h.elim
  | _ =>
    simp only [storeX] at h
    cases hb : Nat.beq x.cells 1 with
    | false => rw [hb] at h; exact h.elim
    | true => rw [hb] at h; exact one _ rfl rfl hb h.1 h.2
end Go.Proofs.Ytnbfaokpaiiojaa.Wx
namespace Go.Proofs.Ytnbfaokpaiiojaa.Wx
open Go

/-- quietly: the value is known, whatever the world, and that stands -/
def Qt {α : Type} (P : Program) (s : Sem α) (k : α → Prop) : Prop := ∃ v, (∀ w : World, s.run P w = .ok v w) ∧ k v

theorem kindEq_eq {a b : IntKind} (h : kindEq a b = true) : a = b := by cases a <;> cases b <;> first | rfl | (simp [kindEq] at h)

theorem intB_to {P : Program} {t : Nat} {op : BinOp} {kd : IntKind} {a b : Int} {k : Value → Prop} (hs : isShift op = false) (h : intB op kd a b k) :
    Qt P (binOp op t (.int kd a) (.int kd b)) k := by
  cases op with
  | shl => simp [isShift] at hs
  | shr => simp [isShift] at hs
  | add => exact ⟨_, by simp [Op.intArith, binOp], h⟩
  | sub => exact ⟨_, by simp [Op.intArith, binOp], h⟩
  | mul => exact ⟨_, by simp [Op.intArith, binOp], h⟩
  | quo =>
    by_cases hb : b = 0
    · simp [intB, hb] at h
    · simp only [intB, if_neg hb] at h
      exact ⟨_, by simp [Op.intDiv, binOp, hb], h⟩
  | rem =>
    by_cases hb : b = 0
    · simp [intB, hb] at h
    · simp only [intB, if_neg hb] at h
      exact ⟨_, by simp [Op.intDiv, binOp, hb], h⟩
  | eql => exact ⟨_, by simp [Op.intCmp, binOp], h⟩
  | neq => exact ⟨_, by simp [Op.intCmp, binOp], h⟩
  | lss => exact ⟨_, by simp [Op.intCmp, binOp], h⟩
  | leq => exact ⟨_, by simp [Op.intCmp, binOp], h⟩
  | gtr => exact ⟨_, fun w => by simp only [Op.intCmp, binOp]; simp, h⟩
  | geq => exact ⟨_, fun w => by simp only [Op.intCmp, binOp]; simp, h⟩
  | and => exact ⟨_, by simp [Op.intBits, binOp, bitsI], h⟩
  | or => exact ⟨_, by simp [Op.intBits, binOp, bitsI], h⟩
  | xor => exact ⟨_, by simp [Op.intBits, binOp, bitsI], h⟩
  | andNot => exact ⟨_, by simp [Op.intBits, binOp, bitsI], h⟩

theorem shiftB_to {P : Program} {t : Nat} {op : BinOp} {kd kd' : IntKind} {a b : Int} {k : Value → Prop} (h : shiftB op kd a b k) :
    Qt P (binOp op t (.int kd a) (.int kd' b)) k := by
  cases op with
  | shl =>
    by_cases hb : b < 0
    · simp [shiftB, hb] at h
    · simp only [shiftB, if_neg hb] at h
      exact ⟨_, fun w => by simp only [binOp, Op.shift]; rw [if_neg hb]; rfl, h⟩
  | shr =>
    by_cases hb : b < 0
    · simp [shiftB, hb] at h
    · simp only [shiftB, if_neg hb] at h
      exact ⟨_, fun w => by simp only [binOp, Op.shift]; rw [if_neg hb]; rfl, h⟩
  | _ => exact h.elim

theorem strB_to {P : Program} {t : Nat} {op : BinOp} {a b : ByteArray} {k : Value → Prop} (h : strB op a b k) :
    Qt P (binOp op t (.string a) (.string b)) k := by
  cases op with
  | add =>
    obtain ⟨h1, h2⟩ := h
    refine ⟨_, fun w => ?_, h2⟩
    have e : IntKind.max .i64 = 9223372036854775807 := by decide
    simp only [binOp, Op.stringOp]
    rw [if_neg (by rw [e]; omega)]
    rfl
  | eql => exact ⟨_, by simp [Op.stringOp, binOp], h⟩
  | neq => exact ⟨_, by simp [Op.stringOp, binOp], h⟩
  | lss => exact ⟨_, by simp [Op.stringOp, binOp], h⟩
  | leq => exact ⟨_, by simp [Op.stringOp, binOp], h⟩
  | gtr => exact ⟨_, fun w => by simp only [Op.stringOp, binOp]; rfl, h⟩
  | geq => exact ⟨_, fun w => by simp only [Op.stringOp, binOp]; rfl, h⟩
  | _ => exact h.elim

theorem eq_to {P : Program} {t : Nat} {op : BinOp} {x y : Value} {b : Bool} {k : Value → Prop} (h : eqB op b k)
    (he : ∀ w : World, (Op.equal t x y).run P w = .ok b w) (h1 : binOp .eql t x y = (do Pure.pure (.bool (← Op.equal t x y)))) (h2 : binOp .neq t x y = (do Pure.pure (.bool (!(← Op.equal t x y))))) :
    Qt P (binOp op t x y) k := by
  cases op with
  | eql => exact ⟨_, fun w => by rw [h1]; simp [he], h⟩
  | neq => exact ⟨_, fun w => by rw [h2]; simp [he], h⟩
  | _ => exact h.elim

theorem equal_run {P : Program} {t : Nat} {d : TypeDesc} (hd : P.underlying t = some d) {x y : Value} {b : Bool}
    (h : (match d, x, y with
      | .bool, .bool a, .bool c => b = (a == c)
      | .pointer _, .pointer none, .pointer q => b = q.isNone
      | .pointer _, .pointer (some _), .pointer none => b = false
      | .slice _, .slice none _ _, .slice q _ _ => b = q.isNone
      | .slice _, .slice (some _) _ _, .slice none _ _ => b = false
      | .func _ _ _, .nilFunc, .nilFunc => b = true
      | .func _ _ _, .func _ _ _, .nilFunc => b = false
      | _, _, _ => False)) : ∀ w : World, (Op.equal t x y).run P w = .ok b w := by
  intro w
  unfold Op.equal Op.maxDepth
  rw [show (10000 : Nat) = 9999 + 1 from rfl]
  unfold Op.equalIn
  rw [Sem.run_bind, run_underlying hd w]
  simp only [Result.andThen_ok]
  split at h <;> first | (subst h; rfl) | exact h.elim

theorem binX_to {P : Program} {t : Nat} {d : TypeDesc} (hd : P.underlying t = some d) {op : BinOp} {x y : Value} {k : Value → Prop} (h : binX (descSum d) op x y k) :
    Qt P (binOp op t x y) k := by
  by_cases hf : descSum d = .fn
  · rw [hf] at h
    cases d <;> simp [descSum] at hf
    simp only [binX] at h
    cases y <;> try exact h.elim
    obtain ⟨h1, h2⟩ := h
    cases x <;> simp [isFnV] at h1
    · exact eq_to h2 (equal_run hd rfl) rfl rfl
    · exact eq_to h2 (equal_run hd rfl) rfl rfl
  · cases x with
    | int kd a =>
      cases y with
      | int kd' b =>
        have h' : bif isShift op then shiftB op kd a b k else bif kindEq kd kd' then intB op kd a b k else False := by
          unfold binX at h; split at h
          · exact (hf (by assumption)).elim
          · exact h
        cases hs : isShift op with
        | true => rw [hs] at h'; exact shiftB_to h'
        | false =>
          rw [hs] at h'
          cases hk : kindEq kd kd' with
          | false => rw [hk] at h'; exact h'.elim
          | true => rw [hk] at h'; obtain rfl := kindEq_eq hk; exact intB_to hs h'
      | _ => unfold binX at h; split at h <;> first | exact (hf (by assumption)).elim | exact h.elim
    | string a =>
      cases y with
      | string b => unfold binX at h; split at h <;> first | exact (hf (by assumption)).elim | exact strB_to h
      | _ => unfold binX at h; split at h <;> first | exact (hf (by assumption)).elim | exact h.elim
    | bool a =>
      cases y with
      | bool b =>
        unfold binX at h; split at h
        · exact (hf (by assumption)).elim
        · cases d <;> simp [descSum] at h
          exact eq_to h (equal_run hd rfl) rfl rfl
      | _ => unfold binX at h; split at h <;> first | exact (hf (by assumption)).elim | exact h.elim
    | pointer a =>
      cases y with
      | pointer b =>
        unfold binX at h; split at h
        · exact (hf (by assumption)).elim
        · cases b with
          | some q => exact h.elim
          | none =>
            cases d <;> simp [descSum] at h
            cases a with
            | none => exact eq_to h (equal_run hd rfl) rfl rfl
            | some p => exact eq_to h (equal_run hd rfl) rfl rfl
      | _ => unfold binX at h; split at h <;> first | exact (hf (by assumption)).elim | exact h.elim
    | slice a l c =>
      cases y with
      | slice b l' c' =>
        unfold binX at h; split at h
        · exact (hf (by assumption)).elim
        · cases b with
          | some q => exact h.elim
          | none =>
            cases d <;> simp [descSum] at h
            cases a with
            | none => exact eq_to h (equal_run hd rfl) rfl rfl
            | some p => exact eq_to h (equal_run hd rfl) rfl rfl
      | _ => unfold binX at h; split at h <;> first | exact (hf (by assumption)).elim | exact h.elim
    | _ => unfold binX at h; split at h <;> first | exact (hf (by assumption)).elim | exact h.elim

theorem unX_to {P : Program} {op : UnOp} {x : Value} {k : Value → Prop} (h : unX op x k) : Qt P (Op.unary op x) k := by
  cases op with
  | not => cases x <;> first | exact h.elim | exact ⟨_, fun _ => rfl, h⟩
  | neg => cases x <;> first | exact h.elim | exact ⟨_, fun _ => rfl, h⟩
  | xor => cases x <;> first | exact h.elim | exact ⟨_, fun _ => rfl, h⟩
  | plus => cases x <;> exact h.elim

def plainPair (a b : Value) : Bool :=
  match a, b with
  | .nilIface, .nilIface => false
  | .agg _, .agg _ => false
  | _, _ => true
theorem eqGuard_run {P : Program} {op : BinOp} {t : Nat} {x y : Operand} {a b : Value} {w : World} (h : plainPair a b = true) :
    (eqGuard op t x y a b).run P w = .ok () w := by
  have key : ∀ c : Bool, (if c = true then (Pure.pure () : Sem Unit) else Pure.pure ()).run P w = .ok () w := fun c => by cases c <;> rfl
  unfold eqGuard
  cases a <;> cases b <;> first | exact key _ | (simp [plainPair] at h; done)
theorem binX_guard {d : D} {op : BinOp} {x y : Value} {k : Value → Prop} (h : binX d op x y k) : plainPair x y = true := by
  unfold binX at h
  cases x <;> cases y <;> first | rfl | (split at h <;> exact h.elim)

end Go.Proofs.Ytnbfaokpaiiojaa.Wx
namespace Go.Proofs.Ytnbfaokpaiiojaa.Wx
open Go

theorem scale_eq (n s : Nat) : scale n s = n * s := by
  unfold scale
  cases h : Nat.beq s 1 with
  | false => rfl
  | true => have := Nat.eq_of_beq_eq_true h; subst this; simp
theorem Addr.add_zero (a : Addr) : a.add 0 = a := by simp [Addr.add]

/-! Cells that are given n times. -/
theorem range_mul_map (z : List Value) (n : Nat) : (List.range (n * z.length)).map (fun i => z[i % z.length]!) = (List.replicate n z).flatten := by
  by_cases hz : z.length = 0
  · have : z = [] := List.eq_nil_of_length_eq_zero hz
    subst this
    induction n with
    | zero => rfl
    | succ n ih => simp
  · induction n with
    | zero => simp
    | succ n ih =>
      have e : (List.replicate (n + 1) z).flatten = (List.replicate n z).flatten ++ z := by
        rw [List.replicate_succ', List.flatten_append]; simp
      rw [e, ← ih, Nat.add_mul, Nat.one_mul, List.range_add, List.map_append, List.map_map]
      congr 1
      apply List.ext_getElem?
      intro i
      simp only [List.getElem?_map]
      by_cases hi : i < z.length
      · simp [hi, Nat.mod_eq_of_lt hi]
      · simp [hi]
theorem repCells_eq (z : List Value) (n : Nat) : repCells z n = (List.replicate n z).flatten := by
  unfold repCells
  split
  · rename_i v
    induction n with
    | zero => rfl
    | succ n ih => rw [List.replicate_succ, ih, List.replicate_succ, List.flatten_cons]; rfl
  · rfl
theorem bang_getD (z : Array Value) (i : Nat) : z[i]! = z[i]?.getD default := by simp [getElem!_def]; split <;> simp_all
theorem zeroCells_eq (z : Value) (n : Nat) : Builtin.zeroCells z.cells n = ⟨repCells (cellsL z) n⟩ := by
  apply Array.ext'
  rw [repCells_eq, cellsL_eq, ← range_mul_map]
  simp only [Builtin.zeroCells, Array.toList_map, Array.toList_range, Array.length_toList]
  apply List.map_congr_left
  intro i _
  simp [bang_getD]
theorem madeCells_eq (z : Value) (n : Nat) : madeCells z.cells (n * z.cells.size) = ⟨repCells (cellsL z) n⟩ := by
  apply Array.ext'
  rw [repCells_eq, cellsL_eq, ← range_mul_map]
  simp only [madeCells, Array.toList_map, Array.toList_range, Array.length_toList]
  apply List.map_congr_left
  intro i _
  simp [bang_getD]
theorem length_repCells (z : List Value) (n : Nat) : (repCells z n).length = n * z.length := by
  rw [repCells_eq]
  induction n with
  | zero => simp
  | succ n ih => rw [List.replicate_succ, List.flatten_cons, List.length_append, ih, Nat.add_mul, Nat.one_mul, Nat.add_comm]

/-! make -/
theorem makeP_to {P : Program} {t e : Nat} {x : TI} (ht : ∃ d, P.underlying t = some d ∧ descSum d = .slice e) (hx : TIok P e x) {kl kc : IntKind} {l c : Int} {w : World} {k : Value → Heap → Prop}
    (h : MakeP x e l c w.heap k) : To P (Instr.makeSlice t (.int kl l) (.int kc c)) w k := by
  obtain ⟨i, d, z, hi, hd, hdx, hsz, hb, hz, hzc⟩ := hx.get
  obtain ⟨dt, hdt, hse⟩ := ht
  have hu : P.underlying t = some (.slice e) := by cases dt <;> simp [descSum] at hse; subst hse; exact hdt
  obtain ⟨⟨h0, h1, h2, h3⟩, hk⟩ := h
  have hr := run_make (P := P) w t e i z hu hi hz kl kc l c h0 h1 (by rw [hb]; exact h2) (by omega)
  have hl : z.cells.size = i.size := by
    have := hx.len
    rw [← hzc, cellsL_eq] at this
    rw [hsz, ← this]; simp
  rw [← hl, madeCells_eq, hzc] at hr
  exact ⟨_, _, hr, ⟨rfl, rfl, rfl⟩, hk⟩

/-! Slice expressions. -/
def ivs (o : Option (IntKind × Int)) : Option Value := o.map fun p => .int p.1 p.2
def ins (o : Option (IntKind × Int)) : Option Int := o.map (·.2)
theorem bound_run {P : Program} {w : World} (kd : IntKind) (i : Int) (y : Nat) (code : BoundsCode) (h0 : 0 ≤ i) (h1 : i ≤ (y : Int)) :
    (Instr.sliceBound (.int kd i) y code).run P w = .ok i.toNat w := by
  simp [Instr.sliceBound, asIntOf, h0, h1]
theorem cutX_run {P : Program} {isS : Bool} {a : Option Addr} {len cap size : Nat} {lo hi mx : Option (IntKind × Int)} {k : Value → Prop}
    (h : cutX a len cap size (ins lo) (ins hi) (ins mx) k) :
    ∃ l u m, (∀ w : World, (Instr.sliceBounds isS len cap (ivs lo) (ivs hi) (ivs mx)).run P w = .ok (l, u, m) w) ∧ k (.slice (if m = l then a else a.map (·.add (l * size))) (u - l) (m - l)) := by
  have hid : ∀ m : Nat, (if m = 0 then a else a.map (·.add (0 * size))) = a := fun m => by
    split
    · rfl
    · cases a <;> simp [Addr.add]
  have hid' : ∀ m : Nat, (if m = 0 then a else a.map (·.add 0)) = a := fun m => by
    split
    · rfl
    · cases a <;> simp [Addr.add]
  rcases lo with _ | ⟨kl, l⟩ <;> rcases hi with _ | ⟨kh, u⟩ <;> rcases mx with _ | ⟨km, m⟩ <;> simp only [cutX, ins, Option.map_none, Option.map_some] at h
  · refine ⟨0, len, cap, by simp [Instr.sliceBounds, ivs], ?_⟩
    rw [hid]; simpa using h
  · obtain ⟨⟨h0, h1⟩, hk⟩ := h
    refine ⟨0, u.toNat, cap, by simp [Instr.sliceBounds, ivs, bound_run kh u cap _ h0 h1], ?_⟩
    rw [hid]; simpa using hk
  · obtain ⟨⟨h0, h1, h2⟩, hk⟩ := h
    have e1 := fun w => bound_run (P := P) (w := w) km m cap (if isS then .slice3Acap else .slice3Alen) (by omega) h2
    have e2 := fun w => bound_run (P := P) (w := w) kh u m.toNat .slice3B h0 (by omega)
    refine ⟨0, u.toNat, m.toNat, by simp [Instr.sliceBounds, ivs, e1, e2], ?_⟩
    rw [hid]; simpa using hk
  · obtain ⟨⟨h0, h1⟩, hk⟩ := h
    refine ⟨l.toNat, len, cap, by simp [Instr.sliceBounds, ivs, bound_run kl l len _ h0 h1], ?_⟩
    simpa [subSlice, scale_eq] using hk
  · obtain ⟨⟨h0, h1, h2⟩, hk⟩ := h
    have e1 := fun w => bound_run (P := P) (w := w) kh u cap (if isS then .sliceAcap else .sliceAlen) (by omega) h2
    have e2 := fun w => bound_run (P := P) (w := w) kl l u.toNat .sliceB h0 (by omega)
    refine ⟨l.toNat, u.toNat, cap, by simp [Instr.sliceBounds, ivs, e1, e2], ?_⟩
    simpa [subSlice, scale_eq] using hk
  · obtain ⟨⟨h0, h1, h2, h3⟩, hk⟩ := h
    have e1 := fun w => bound_run (P := P) (w := w) km m cap (if isS then .slice3Acap else .slice3Alen) (by omega) h3
    have e2 := fun w => bound_run (P := P) (w := w) kh u m.toNat .slice3B (by omega) (by omega)
    have e3 := fun w => bound_run (P := P) (w := w) kl l u.toNat .slice3C h0 (by omega)
    refine ⟨l.toNat, u.toNat, m.toNat, by simp [Instr.sliceBounds, ivs, e1, e2, e3], ?_⟩
    simpa [subSlice, scale_eq] using hk
theorem cutStr_run {P : Program} {s : ByteArray} {lo hi mx : Option (IntKind × Int)} {k : Value → Prop} (h : cutStr s (ins lo) (ins hi) (ins mx) k) :
    mx = none ∧ ∃ l u m, (∀ w : World, (Instr.sliceBounds false s.size s.size (ivs lo) (ivs hi) none).run P w = .ok (l, u, m) w) ∧ k (.string (s.extract l u)) := by
  rcases lo with _ | ⟨kl, l⟩ <;> rcases hi with _ | ⟨kh, u⟩ <;> rcases mx with _ | ⟨km, m⟩ <;> simp only [cutStr, ins, Option.map_none, Option.map_some] at h <;> first | exact h.elim | refine ⟨rfl, ?_⟩
  · refine ⟨0, s.size, s.size, by simp [Instr.sliceBounds, ivs], ?_⟩
    rw [ByteArray.extract_zero_size]; exact h
  · obtain ⟨⟨h0, h1⟩, hk⟩ := h
    exact ⟨0, u.toNat, s.size, by simp [Instr.sliceBounds, ivs, bound_run kh u s.size _ h0 h1], hk⟩
  · obtain ⟨⟨h0, h1⟩, hk⟩ := h
    exact ⟨l.toNat, s.size, s.size, by simp [Instr.sliceBounds, ivs, bound_run kl l s.size _ h0 h1], hk⟩
  · obtain ⟨⟨h0, h1, h2⟩, hk⟩ := h
    have e1 := fun w => bound_run (P := P) (w := w) kh u s.size .sliceAlen (by omega) h2
    have e2 := fun w => bound_run (P := P) (w := w) kl l u.toNat .sliceB h0 (by omega)
    exact ⟨l.toNat, u.toNat, s.size, by simp [Instr.sliceBounds, ivs, e1, e2], hk⟩

theorem sliceX_to {P : Program} {t : Nat} {d : TypeDesc} (hd : P.underlying t = some d) {size : Nat}
    (he : ∀ e, (descSum d = .slice e ∨ ∃ n, descSum d = .arr n e) → ∃ i, P.info? e = some i ∧ i.size = size) {x : Value} {lo hi mx : Option (IntKind × Int)} {k : Value → Prop}
    (h : sliceX (descSum d) size x (ins lo) (ins hi) (ins mx) k) : Qt P (Instr.sliceAt t x (ivs lo) (ivs hi) (ivs mx)) k := by
  cases d with
  | string =>
    cases x <;> try exact h.elim
    rename_i s
    obtain ⟨rfl, l, u, m, hr, hk⟩ := cutStr_run (P := P) h
    refine ⟨_, fun w => ?_, hk⟩
    simp only [Instr.sliceAt, Instr.slice, Sem.run_bind, run_underlying hd, Result.andThen_ok]
    simp [ivs] at hr ⊢
    simp [hr]
  | slice e =>
    cases x <;> try exact h.elim
    rename_i a l c
    obtain ⟨i, hi', hs⟩ := he e (.inl rfl)
    obtain ⟨l', u, m, hr, hk⟩ := cutX_run (P := P) (isS := true) h
    refine ⟨_, fun w => ?_, hk⟩
    simp only [Instr.sliceAt, Instr.slice, Sem.run_bind, run_underlying hd, Result.andThen_ok, hr, run_sizeOf_ok hi', hs, Sem.run_pure]
  | array n e =>
    cases x <;> try exact h.elim
    rename_i q
    cases q with
    | none => exact h.elim
    | some p =>
      obtain ⟨i, hi', hs⟩ := he e (.inr ⟨n, rfl⟩)
      obtain ⟨l', u, m, hr, hk⟩ := cutX_run (P := P) (isS := false) (show cutX (some p) n n size (ins lo) (ins hi) (ins mx) k from h)
      refine ⟨_, fun w => ?_, hk⟩
      simp only [Instr.sliceAt, Instr.sureAddr, Sem.run_bind, run_underlying hd, Result.andThen_ok, hr, run_sizeOf_ok hi', hs, Sem.run_pure]
      congr 2
      split <;> simp
  | _ => cases x <;> exact h.elim

/-! Reading what is taken in. -/
theorem firstCells_some_to {P : Program} {w : World} {size n : Nat} {b : Option Addr} {len cap : Nat} {cs : List Value} (hl : cs.length = n * size) (h : SlCells w.heap b cs) :
    (Builtin.firstCells size n (.slice b len cap)).run P w = .ok ⟨cs⟩ w := by
  cases b with
  | none =>
    have : cs = [] := h
    subst this
    simp [Builtin.firstCells]
  | some p => exact run_firstCells_some (P := P) w size n p len cap cs hl (fun j v hv => h j v hv)
theorem firstCells_str {P : Program} {w : World} {s : ByteArray} {n : Nat} :
    (Builtin.firstCells 1 n (.string s)).run P w = .ok ⟨(s.toList.take n).map bv⟩ w := by
  simp only [Builtin.firstCells, Sem.run_pure]
  congr 1
  apply Array.ext'
  simp [ByteArray.toList_eq]
  rfl

/-- what a source comes to -/
structure Src (P : Program) (size : Nat) (x : Value) (h : Heap) (n : Nat) (new : List Value) : Prop where
  len : ∀ w : World, w.heap = h → (Builtin.lenOf x).run P w = .ok n w
  cells : ∀ w : World, w.heap = h → (Builtin.firstCells size n x).run P w = .ok ⟨new⟩ w
  length : new.length = n * size
  one : ∀ v ∈ new, v.oneCell' = true
theorem oneCell_bv (b : UInt8) : (bv b).oneCell' = true := rfl
theorem srcX_to {P : Program} {x : TI} {v : Value} {h : Heap} {k : Nat → List Value → Prop} (hk : srcX x h v k) : ∃ n new, Src P x.cells v h n new ∧ k n new := by
  cases v <;> try exact hk.elim
  · rename_i s
    unfold srcX at hk
    cases hb : Nat.beq x.cells 1 with
    | false => simp [hb] at hk
    | true =>
      have e : x.cells = 1 := Nat.eq_of_beq_eq_true hb
      simp [hb] at hk
      refine ⟨_, _, ⟨fun w _ => rfl, fun w _ => ?_, ?_, ?_⟩, hk⟩
      · rw [e]
        have := firstCells_str (P := P) (w := w) (s := s) (n := s.size)
        have hl : s.toList.length = s.size := by rw [ByteArray.toList_eq]; simp
        rw [List.take_of_length_le (by omega)] at this
        exact this
      · rw [e, ByteArray.toList_eq]; simp
      · intro v hv
        obtain ⟨b, _, rfl⟩ := List.mem_map.1 hv
        rfl
  · rename_i b n c
    obtain ⟨new, h1, h2, h3, hk⟩ := hk
    exact ⟨n, new, ⟨fun w _ => rfl, fun w hw => firstCells_some_to h1 (hw ▸ h2), h1, h3⟩, hk⟩

theorem append_to {P : Program} {t t' e ty : Nat} {x : TI} (ht : ∃ d, P.underlying t = some d ∧ descSum d = .slice e) (ht' : (∃ e', P.underlying t' = some (.slice e')) ∨ P.underlying t' = some .string)
    (hx : TIok P e x) {a : Option Addr} {l c n : Nat} {v : Value} {new : List Value} {w : World} {k : Option Addr → Nat → Nat → Heap → Prop} (hs : Src P x.cells v w.heap n new)
    (h : AppendP x e a l c n new w.heap k) : To P (Builtin.append_ #[t, t'] ty #[.slice a l c, v]) w fun r h' => ∃ a' l' c', r = .slice a' l' c' ∧ k a' l' c' h' := by
  obtain ⟨i, d, z, hi, hd, hdx, hsz, hb, hz, hzc⟩ := hx.get
  obtain ⟨dt, hdt, hse⟩ := ht
  have hu : P.underlying t = some (.slice e) := by cases dt <;> simp [descSum] at hse; subst hse; exact hdt
  obtain ⟨old, ho, hoc, hbytes, hlen, hfit, hgrow⟩ := h
  by_cases hc : l + n ≤ c
  · obtain ⟨hwr, hk⟩ := hfit hc
    have hst : ∃ w', (match a with | some a => storeCells (a.add (l * i.size)) new | none => Pure.pure () : Sem Unit).run P w = .ok () w' ∧ SameRest w w' ∧ w'.heap = setS w.heap a (l * x.cells) new := by
      cases a with
      | none => exact ⟨w, rfl, .refl _, rfl⟩
      | some p =>
        have := storeCells_to (P := P) (p.add (l * x.cells)) new 0 w hs.one (fun j hj => by
          rw [Nat.zero_add]; exact hwr j (by rw [← hs.length]; exact hj))
        exact ⟨_, by rw [hsz]; exact this, setW_rest _ _, rfl⟩
    obtain ⟨w', h1, h2, h3⟩ := hst
    refine ⟨.slice a (l + n) c, w', ?_, h2, a, l + n, c, rfl, by rw [h3]; exact hk⟩
    have hcs := hs.cells w rfl
    rw [← hsz] at hcs
    rcases ht' with ⟨e', ht'⟩ | ht'
    all_goals
      simp only [Builtin.append_, List.getElem?_toArray, List.getElem?_cons_zero, List.getElem?_cons_succ, Sem.run_bind, run_underlying hu, run_underlying ht', Result.andThen_ok, run_sizeOf_ok hi, Sem.run_pure, Bool.false_eq_true, if_false, Bool.not_false, if_true, hs.len w rfl, Sem.run_ite, if_pos hc, hcs]
      cases a with
      | none => simp at h1 ⊢; exact h1
      | some p => simp only at h1; simp [h1]
  · have hg : c < l + n := by omega
    have hk := hgrow hg
    have hfits := growslice_fits (bytes := i.bytes) hg (by rw [hb]; exact hbytes)
    have h48 : ¬ (Builtin.nextslicecap (l + n) c * i.bytes > 2 ^ 48) := by
      have e : (2 : Nat) ^ 48 = 281474976710656 := by decide
      rw [e]; omega
    have h63 : ¬ (((l + n : Nat) : Int) > IntKind.i64.max ∧ (false = true ∨ i.bytes = 0)) := by
      have e : IntKind.max .i64 = 9223372036854775807 := by decide
      rw [e]; omega
    let w1 : World := { w with drawn := w.drawn + 1 }
    let cap := (Question.appendCap (l + n) c e).cut (w.tape w.drawn (Question.appendCap (l + n) c e))
    have hcap : l + n ≤ cap := by show l + n ≤ Question.cut _ _; simp [Question.cut]
    have hcs := hs.cells w1 rfl
    rw [← hsz] at hcs
    have hos := firstCells_some_to (P := P) (w := w1) (size := i.size) (n := l) (len := l) (cap := c) (by rw [hsz]; exact ho) hoc
    refine ⟨.slice (some ⟨w.heap.size, 0, none⟩) (l + n) cap, w1.alloc (.cells ⟨old ++ new ++ repCells x.zero (cap - (l + n))⟩ e), ?_, ⟨rfl, rfl, rfl⟩, _, _, _, rfl, hk cap hcap⟩
    have hzv : (zeroValue e).run P w1 = .ok z w1 := by simp [zeroValue, run_typeInfo_ok hi, hz]
    have hch : (choose (Question.appendCap (l + n) c e)).run P w = .ok cap w1 := by simp [Question.forced, w1, cap]
    rcases ht' with ⟨e', ht'⟩ | ht'
    all_goals
      simp only [Builtin.append_, List.getElem?_toArray, List.getElem?_cons_zero, List.getElem?_cons_succ, Sem.run_bind, run_underlying hu, run_underlying ht', Result.andThen_ok, run_sizeOf_ok hi, Sem.run_pure, Bool.false_eq_true, if_false, Bool.not_false, if_true, hs.len w rfl, Sem.run_ite, if_neg hc, run_typeInfo_ok hi, if_neg h48]
      rw [if_neg (by simpa using h63)]
      simp only [Sem.run_bind, Result.andThen_ok, hch, run_askRoom, hos, hcs, hzv, newRow, run_newObj, Sem.run_pure, zeroCells_eq, hzc]
      congr 2
      simp
end Go.Proofs.Ytnbfaokpaiiojaa.Wx
namespace Go.Proofs.Ytnbfaokpaiiojaa.Wx
open Go

theorem setS_to {P : Program} {w : World} (a : Option Addr) (o : Nat) (new : List Value) (h1 : ∀ v ∈ new, v.oneCell' = true) (h2 : WrS w.heap a o new.length) :
    ∃ w', (match a with | some a => storeCells (a.add o) new | none => Pure.pure () : Sem Unit).run P w = .ok () w' ∧ SameRest w w' ∧ w'.heap = setS w.heap a o new := by
  cases a with
  | none => exact ⟨w, rfl, .refl _, rfl⟩
  | some p =>
    have := storeCells_to (P := P) (p.add o) new 0 w h1 (fun j hj => by rw [Nat.zero_add]; exact h2 j hj)
    exact ⟨_, this, setW_rest _ _, rfl⟩

theorem clear_to {P : Program} {t e ty : Nat} {x : TI} (ht : ∃ d, P.underlying t = some d ∧ descSum d = .slice e)
    (hx : TIok P e x) {a : Option Addr} {n c : Nat} {w : World} {k : Heap → Prop}
    (h : ClearP x a n w.heap k) : To P (Builtin.clear_ #[t] ty #[.slice a n c]) w fun r h' => r = .tuple #[] ∧ k h' := by
  obtain ⟨i, d, z, hi, hd, hdx, hsz, hb, hz, hzc⟩ := hx.get
  obtain ⟨dt, hdt, hse⟩ := ht
  have hu : P.underlying t = some (.slice e) := by cases dt <;> simp [descSum] at hse; subst hse; exact hdt
  obtain ⟨h1, h2, h3⟩ := h
  have hzv : (zeroValue e).run P w = .ok z w := by simp [zeroValue, run_typeInfo_ok hi, hz]
  have hone : ∀ v ∈ x.zero, v.oneCell' = true := by
    cases hb : x.zero.all Value.oneCell' with
    | true => exact List.all_eq_true.1 hb
    | false => rw [hb] at h1; exact h1.elim
  have hrep : ∀ v ∈ repCells x.zero n, v.oneCell' = true := by
    intro v hv
    unfold repCells at hv
    split at hv
    · rename_i u hu; exact hone v (by rw [hu]; simp [List.eq_of_mem_replicate hv])
    · obtain ⟨l, hl, hv⟩ := List.mem_flatten.1 hv
      rw [List.eq_of_mem_replicate hl] at hv
      exact hone v hv
  have hlen : (repCells x.zero n).length = n * x.cells := by rw [length_repCells, hx.len]
  cases a with
  | none => exact ⟨.tuple #[], w, by simp [Builtin.clear_, run_underlying hu], ⟨rfl, rfl, rfl⟩, rfl, h3⟩
  | some p =>
    cases n with
    | zero =>
      refine ⟨.tuple #[], w, by simp [Builtin.clear_, run_underlying hu], ⟨rfl, rfl, rfl⟩, rfl, ?_⟩
      have e0 : repCells x.zero 0 = [] := List.eq_nil_of_length_eq_zero (by rw [hlen, Nat.zero_mul])
      rw [e0] at h3; exact h3
    | succ n =>
      obtain ⟨w', hs1, hs2, hs3⟩ := setS_to (P := P) (w := w) (some p) 0 (repCells x.zero (n + 1)) hrep (by rw [hlen]; exact h2)
      simp only [Addr.add_zero] at hs1
      refine ⟨.tuple #[], w', ?_, hs2, rfl, by rw [hs3]; exact h3⟩
      simp [Builtin.clear_, run_underlying hu, hzv, zeroCells_eq, hzc, hs1]
theorem copy_to {P : Program} {t t' e ty : Nat} {x : TI} (ht : ∃ d, P.underlying t = some d ∧ descSum d = .slice e)
    (hx : TIok P e x) {a : Option Addr} {n c : Nat} {v : Value} {w : World} {k : Nat → Heap → Prop}
    (h : CopyP x a n v w.heap k) : To P (Builtin.copy_ #[t, t'] ty #[.slice a n c, v]) w fun r h' => ∃ m : Nat, r = .int .i64 (m : Int) ∧ k m h' := by
  obtain ⟨i, d, z, hi, hd, hdx, hsz, hb, hz, hzc⟩ := hx.get
  obtain ⟨dt, hdt, hse⟩ := ht
  have hu : P.underlying t = some (.slice e) := by cases dt <;> simp [descSum] at hse; subst hse; exact hdt
  have key : ∀ (m : Nat) (new : List Value), (∀ w' : World, w'.heap = w.heap → (Builtin.lenOf v).run P w' = .ok m w') →
      (∀ w' : World, w'.heap = w.heap → (Builtin.firstCells x.cells (min m n) v).run P w' = .ok ⟨new⟩ w') → (∀ u ∈ new, u.oneCell' = true) → WrS w.heap a 0 new.length → k (min m n) (setS w.heap a 0 new) →
      To P (Builtin.copy_ #[t, t'] ty #[.slice a n c, v]) w fun r h' => ∃ m : Nat, r = .int .i64 (m : Int) ∧ k m h' := by
    intro m new hl hc h1 hw hk
    obtain ⟨w', hs1, hs2, hs3⟩ := setS_to (P := P) (w := w) a 0 new h1 hw
    refine ⟨.int .i64 ((min m n : Nat) : Int), w', ?_, hs2, min m n, rfl, by rw [hs3]; exact hk⟩
    have hcs := hc w rfl
    rw [← hsz] at hcs
    have e : Nat.min m n = min m n := rfl
    cases a with
    | none =>
      simp only [Sem.run_pure, Result.ok.injEq, true_and] at hs1
      subst hs1
      simp [Builtin.copy_, run_underlying hu, hl w rfl, run_sizeOf_ok hi, e, hcs, goInt]
    | some p =>
      simp only [Addr.add_zero] at hs1
      simp [Builtin.copy_, run_underlying hu, hl w rfl, run_sizeOf_ok hi, e, hcs, hs1, goInt]
  cases v <;> try exact h.elim
  · rename_i s
    obtain ⟨hb1, hw, hk⟩ := h
    have e1 : x.cells = 1 := by
      cases hbb : Nat.beq x.cells 1 with
      | true => exact Nat.eq_of_beq_eq_true hbb
      | false => simp [hbb] at hb1
    refine key s.size ((s.toList.take (min s.size n)).map bv) (fun w' _ => rfl) (fun w' _ => ?_) ?_ ?_ hk
    · rw [e1]; exact firstCells_str
    · intro u hu
      obtain ⟨b, _, rfl⟩ := List.mem_map.1 hu
      rfl
    · have hl : s.toList.length = s.size := by rw [ByteArray.toList_eq]; simp
      have : ((s.toList.take (min s.size n)).map bv).length = min s.size n := by simp [hl]
      rw [this]; exact hw
  · rename_i b m c'
    obtain ⟨new, hl, hc, h1, hw, hk⟩ := h
    refine key m new (fun w' _ => rfl) (fun w' hw' => firstCells_some_to hl (hw' ▸ hc)) h1 ?_ hk
    rw [hl]; exact hw

/-! Composites. -/
theorem foldl_set (v : List Value) : ∀ (off j : Nat) (cells : Array Value), off + j + v.length ≤ cells.size →
    ((v.zipIdx j).foldl (fun cs (p : Value × Nat) => cs.setIfInBounds (off + p.2) p.1) cells).toList = cells.toList.take (off + j) ++ v ++ cells.toList.drop (off + j + v.length) := by
  induction v with
  | nil => intro off j cells _; simp
  | cons x r ih =>
    intro off j cells hl
    simp only [List.length_cons] at hl
    simp only [List.zipIdx_cons, List.foldl_cons]
    rw [ih off (j + 1) _ (by simp; omega)]
    have hlt : off + j < cells.toList.length := by simp; omega
    simp only [Array.toList_setIfInBounds, ← Nat.add_assoc]
    have e := list_seg_step cells.toList (off + j) x r (by simp; omega)
    simpa [Nat.add_assoc, Nat.add_comm, Nat.add_left_comm] using e

def fstep (place : Nat → Option (Nat × Nat)) (l : List Value) (q : Nat × Value) : List Value :=
  match place q.1 with | some (off, size) => l.take off ++ cellsL q.2 ++ l.drop (off + size) | none => l
theorem fill_to (place : Nat → Option (Nat × Nat)) (Z : List Value) : ∀ (parts : List (Nat × Value)) (cells : Array Value), cells.size = Z.length →
    (∀ q ∈ parts, ∃ off size, place q.1 = some (off, size) ∧ q.2.cells.size = size ∧ off + size ≤ Z.length) →
    ∃ cells', Instr.fill place cells parts = some cells' ∧ cells'.size = Z.length ∧
      cells'.toList = parts.foldl (fstep place) cells.toList
  | [], cells, hs, _ => ⟨cells, rfl, hs, rfl⟩
  | (i, v) :: r, cells, hs, h => by
    obtain ⟨off, size, hp, hv, hle⟩ := h (i, v) (by simp)
    simp only at hp hv
    have hle' : off + v.cells.size ≤ cells.size := by rw [hs, hv]; exact hle
    have hf := foldl_set v.cells.toList off 0 cells (by simpa using hle')
    simp only [Nat.add_zero] at hf
    have e1 : (v.cells.zipIdx.foldl (fun cs (p : Value × Nat) => cs.setIfInBounds (off + p.2) p.1) cells) = (v.cells.toList.zipIdx.foldl (fun cs (p : Value × Nat) => cs.setIfInBounds (off + p.2) p.1) cells) := by
      rw [← Array.foldl_toList, Array.toList_zipIdx]
    have hsz' : (v.cells.zipIdx.foldl (fun cs (p : Value × Nat) => cs.setIfInBounds (off + p.2) p.1) cells).size = Z.length := by
      rw [e1, ← Array.length_toList, hf]
      simp only [List.length_append, List.length_take, List.length_drop, Array.length_toList]
      omega
    obtain ⟨c', h1, h2, h3⟩ := fill_to place Z r _ hsz' (fun q hq => h q (by simp [hq]))
    refine ⟨c', ?_, h2, ?_⟩
    · simp only [Instr.fill, hp]
      rw [if_neg]
      · exact h1
      · simp only [Bool.or_eq_true, decide_eq_true_eq, not_or, ne_eq, Decidable.not_not, Nat.not_lt]
        exact ⟨hv, hle'⟩
    · rw [h3, e1, hf]
      simp only [List.foldl_cons, fstep, hp, cellsL_eq]
      rw [← hv]
      simp

theorem catAll_eq : ∀ xs : List (List Value), catAll xs = xs.flatten
  | [] => rfl
  | [x] => by simp [catAll]
  | x :: y :: r => by
    show x ++ catAll (y :: r) = _
    rw [catAll_eq (y :: r)]; simp

def evalO (f : Fr) (x : Operand) : Option Value :=
  match x with | .tmp t => Fr.get f t | .const v => some v | .global g => some (.pointer (some ⟨g, 0, none⟩)) | .func g => some (.func (.func g) #[] #[])
theorem findPart_cons (f : Fr) (i j : Nat) (x : Operand) (r : List (Nat × Operand)) : findPart f i ((j, x) :: r) = bif Nat.beq j i then some (evalO f x) else findPart f i r := rfl
theorem sorted_cons {n m j : Nat} {x : Operand} {r : List (Nat × Operand)} (h : sorted n ((j, x) :: r) m = true) : m ≤ j ∧ j < n ∧ sorted n r (j + 1) = true := by
  simp only [sorted, Bool.and_eq_true] at h
  exact ⟨Nat.le_of_ble_eq_true h.1.1, Nat.le_of_ble_eq_true h.1.2, h.2⟩
theorem sorted_weak {n : Nat} : ∀ {r : List (Nat × Operand)} {m m' : Nat}, sorted n r m = true → m' ≤ m → sorted n r m' = true
  | [], _, _, _, _ => rfl
  | (j, x) :: r, m, m', h, hm => by
    obtain ⟨h1, h2, h3⟩ := sorted_cons h
    simp only [sorted, Bool.and_eq_true]
    exact ⟨⟨Nat.ble_eq_true_of_le (by omega), Nat.ble_eq_true_of_le h2⟩, h3⟩
theorem findPart_none {f : Fr} {n i : Nat} : ∀ {r : List (Nat × Operand)} {m : Nat}, sorted n r m = true → i < m → findPart f i r = none
  | [], _, _, _ => rfl
  | (j, x) :: r, m, h, hm => by
    obtain ⟨h1, h2, h3⟩ := sorted_cons h
    have : Nat.beq j i = false := by
      cases hb : Nat.beq j i with
      | false => rfl
      | true => have := Nat.eq_of_beq_eq_true hb; omega
    rw [findPart_cons, this]
    exact findPart_none h3 (by omega)
theorem parts_fold {f : Fr} {ρ : Operand → Value} (hρ : ∀ x v, evalO f x = some v → ρ x = v) (place : Nat → Option (Nat × Nat)) (Z : List Value) :
    ∀ (segs : List (Nat × Nat)) (i m : Nat) (parts : List (Nat × Operand)) (acc : List (List Value)) (k : List (List Value) → Prop) (pre : List Value),
    partsX f parts Z segs i acc k → sorted (i + segs.length) parts i = true → (∀ idx, idx < segs.length → place (i + idx) = segs[idx]?) → layB segs m Z.length = true → pre.length = m →
    ∃ pcs : List (List Value), k (acc ++ pcs) ∧ (parts.map fun q => (q.1, ρ q.2)).foldl (fstep place) (pre ++ Z.drop m) = pre ++ pcs.flatten ∧
      ∀ q ∈ parts, ∃ off size, place q.1 = some (off, size) ∧ (ρ q.2).cells.size = size ∧ off + size ≤ Z.length
  | [], i, m, parts, acc, k, pre, h, hs, hp, hl, hm => by
    have hz : m = Z.length := Nat.eq_of_beq_eq_true hl
    cases parts with
    | nil => exact ⟨[], by simpa [partsX] using h, by simp [hz], by simp⟩
    | cons q r =>
      obtain ⟨h1, h2, _⟩ := sorted_cons (x := q.2) (j := q.1) (r := r) hs
      simp at h2; omega
  | (off, size) :: r, i, m, parts, acc, k, pre, h, hs, hp, hl, hm => by
    simp only [layB, Bool.and_eq_true] at hl
    have ho : off = m := Nat.eq_of_beq_eq_true hl.1
    subst ho
    have hlay := hl.2
    have hmZ : ∀ (s : List (Nat × Nat)) (a : Nat), layB s a Z.length = true → a ≤ Z.length := by
      intro s
      induction s with
      | nil => intro a ha; exact Nat.le_of_eq (Nat.eq_of_beq_eq_true ha)
      | cons x s ih =>
        intro a ha
        obtain ⟨x1, x2⟩ := x
        simp only [layB, Bool.and_eq_true] at ha
        have := ih _ ha.2
        omega
    have hle := hmZ _ _ hlay
    have hp0 : place i = some (off, size) := by simpa using hp 0 (by simp)
    have hp' : ∀ idx, idx < r.length → place (i + 1 + idx) = r[idx]? := fun idx hi => by
      have := hp (idx + 1) (by simp; omega)
      rw [show i + 1 + idx = i + (idx + 1) by omega]
      simpa using this
    have hlen : i + ((off, size) :: r).length = i + 1 + r.length := by simp; omega
    rw [hlen] at hs
    have skip : (∀ q ∈ parts, i < q.1) → findPart f i parts = none → ∃ pcs : List (List Value), k (acc ++ pcs) ∧ (parts.map fun q => (q.1, ρ q.2)).foldl (fstep place) (pre ++ Z.drop off) = pre ++ pcs.flatten ∧
        ∀ q ∈ parts, ∃ off size, place q.1 = some (off, size) ∧ (ρ q.2).cells.size = size ∧ off + size ≤ Z.length := by
      intro hgt hnone
      have hs' : sorted (i + 1 + r.length) parts (i + 1) = true := by
        cases parts with
        | nil => rfl
        | cons q t =>
          obtain ⟨q1, q2⟩ := q
          obtain ⟨a1, a2, a3⟩ := sorted_cons hs
          have := hgt (q1, q2) (by simp)
          simp only [sorted, Bool.and_eq_true]
          exact ⟨⟨Nat.ble_eq_true_of_le this, Nat.ble_eq_true_of_le a2⟩, a3⟩
      simp only [partsX, hnone] at h
      obtain ⟨pcs, h1, h2, h3⟩ := parts_fold hρ place Z r (i + 1) (off + size) parts _ k (pre ++ (Z.drop off).take size) h hs' hp' hlay (by simp; omega)
      refine ⟨(Z.drop off).take size :: pcs, by simpa using h1, ?_, h3⟩
      have e : pre ++ (Z.drop off).take size ++ Z.drop (off + size) = pre ++ Z.drop off := by
        rw [List.append_assoc, ← List.drop_drop, List.take_append_drop]
      rw [e] at h2
      rw [h2]; simp
    cases parts with
    | nil => exact skip (by simp) rfl
    | cons q t =>
      obtain ⟨j, x⟩ := q
      obtain ⟨a1, a2, a3⟩ := sorted_cons hs
      cases hb : Nat.beq j i with
      | false =>
        have hne : j ≠ i := fun e => by subst e; rw [Nat.beq_refl] at hb; cases hb
        refine skip ?_ ?_
        · intro q hq
          rcases List.mem_cons.1 hq with rfl | hq
          · exact Nat.lt_of_le_of_ne a1 (Ne.symm hne)
          · have : ∀ (l : List (Nat × Operand)) (b : Nat), sorted (i + 1 + r.length) l b = true → ∀ q ∈ l, b ≤ q.1 := by
              intro l
              induction l with
              | nil => intro b _ q hq; simp at hq
              | cons y l ih =>
                intro b hb q hq
                obtain ⟨y1, y2⟩ := y
                obtain ⟨b1, b2, b3⟩ := sorted_cons hb
                rcases List.mem_cons.1 hq with rfl | hq
                · exact b1
                · have := ih _ b3 q hq; omega
            have := this t _ a3 q hq
            omega
        · rw [findPart_cons, hb]; exact findPart_none a3 (by omega)
      | true =>
        have he : j = i := Nat.eq_of_beq_eq_true hb
        subst he
        have hfp : findPart f j ((j, x) :: t) = some (evalO f x) := by rw [findPart_cons, hb]; rfl
        -- the rest of the parts lies behind
        have rest : ∀ (v : Value), evalO f x = some v → (cellsL v).length = size → partsX f ((j, x) :: t) Z r (j + 1) (acc ++ [cellsL v]) k → (∃ pcs : List (List Value), k (acc ++ pcs) ∧ (((j, x) :: t).map fun q => (q.1, ρ q.2)).foldl (fstep place) (pre ++ Z.drop off) = pre ++ pcs.flatten ∧
              ∀ q ∈ (j, x) :: t, ∃ off size, place q.1 = some (off, size) ∧ (ρ q.2).cells.size = size ∧ off + size ≤ Z.length) := fun v hv hsz hpx => by
          have hpx' : partsX f t Z r (j + 1) (acc ++ [cellsL v]) k := by
            have drop : ∀ (s : List (Nat × Nat)) (b : Nat) (ac : List (List Value)), j < b → partsX f ((j, x) :: t) Z s b ac k → partsX f t Z s b ac k := by
              intro s
              induction s with
              | nil => intro b ac _ h; exact h
              | cons y s ih =>
                intro b ac hb h
                obtain ⟨y1, y2⟩ := y
                have hf : findPart f b ((j, x) :: t) = findPart f b t := by
                  rw [findPart_cons]
                  have : Nat.beq j b = false := by
                    cases hbb : Nat.beq j b with
                    | false => rfl
                    | true => have := Nat.eq_of_beq_eq_true hbb; omega
                  rw [this]; rfl
                simp only [partsX, hf] at h ⊢
                cases hfb : findPart f b t with
                | none => rw [hfb] at h; exact ih _ _ (by omega) h
                | some o =>
                  rw [hfb] at h
                  cases o with
                  | none => exact h
                  | some v =>
                    simp only [onSome] at h ⊢
                    cases v with
                    | agg a => exact ⟨h.1, ih _ _ (by omega) h.2⟩
                    | tuple a => exact h
                    | _ =>
                      simp only at h ⊢
                      cases hq : Nat.beq y2 1 with
                      | false => rw [hq] at h; exact h
                      | true => rw [hq] at h; exact ih _ _ (by omega) h
            exact drop r (j + 1) _ (by omega) hpx
          obtain ⟨pcs, h1, h2, h3⟩ := parts_fold hρ place Z r (j + 1) (off + size) t _ k (pre ++ cellsL v) hpx' a3 hp' hlay (by simp; omega)
          have hv' := hρ x v hv
          refine ⟨cellsL v :: pcs, by simpa using h1, ?_, ?_⟩
          · have e : fstep place (pre ++ Z.drop off) (j, ρ x) = pre ++ cellsL v ++ Z.drop (off + size) := by
              simp only [fstep, hp0, hv']
              rw [List.take_append_of_le_length (by omega), List.take_of_length_le (by omega), List.drop_append]
              rw [List.drop_of_length_le (by omega)]
              simp [hm, List.drop_drop]
            simp only [List.map_cons, List.foldl_cons, e, h2]
            simp
          · intro q hq
            rcases List.mem_cons.1 hq with rfl | hq
            · exact ⟨off, size, hp0, by rw [hv', ← Array.length_toList, ← cellsL_eq]; exact hsz, hle⟩
            · exact h3 q hq
        simp only [partsX, hfp] at h
        cases hev : evalO f x with
        | none => rw [hev] at h; exact h.elim
        | some v =>
          rw [hev] at h
          simp only [onSome] at h
          cases v with
          | agg a => exact rest (.agg a) hev h.1 h.2
          | tuple a => exact h.elim
          | _ =>
            simp only at h
            cases hq : Nat.beq size 1 with
            | false => rw [hq] at h; exact h.elim
            | true =>
              rw [hq] at h
              have : size = 1 := Nat.eq_of_beq_eq_true hq
              exact rest _ hev (by rw [this]; rfl) h
end Go.Proofs.Ytnbfaokpaiiojaa.Wx
