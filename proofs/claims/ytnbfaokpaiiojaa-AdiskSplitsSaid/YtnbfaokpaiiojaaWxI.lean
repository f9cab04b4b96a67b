import Derived.Test.YtnbfaokpaiiojaaWxH
import Derived.Orders
namespace Go.Proofs.Ytnbfaokpaiiojaa.Wx
open Go

/-! A region whose order is open: one order stands for all. -/
def RunsAt (P : Program) (a : Act) (o : Oper) (w : World) (v : Value) : Prop := (execOp a.eval o).run P w = .ok (.value v) w
def wantB (full : List Oper) (a : Act) (o : Oper) : Bool := Region.wanted o (yielded full.toArray a.tmps)
def dstV (a : Act) (o : Oper) : Value :=
  match o.dst with
  | some d => a.tmps.getD d undef
  | none => undef
def addD (D : Nat → Bool) (i : Nat) : Nat → Bool := fun j => Nat.beq j i || D j
theorem addD_comm (D : Nat → Bool) (i j : Nat) : addD (addD D i) j = addD (addD D j) i := by
  funext k; simp only [addD]; cases Nat.beq k i <;> cases Nat.beq k j <;> rfl
def Still (C : Ctx) (full : List Oper) (st : List Nat) (D : Nat → Bool) (a : Act) (w : World) : Prop :=
  ∀ j ∈ st, D j = true → ∀ oj, full[j]? = some oj → wantB full a oj = true → RunsAt C.P a oj w (dstV a oj)
def SW (C : Ctx) (full : List Oper) : List (Nat × List Nat) → (Nat → Bool) → (Act → World → Prop) → Act → World → Prop
  | [], _, N, a, w => N a w
  | (i, st) :: r, D, N, a, w => ∃ o, full[i]? = some o ∧
    (if wantB full a o = true then
      (if isQ o.op = true then ∃ v, RunsAt C.P a o w v ∧ (isReadOp C o.op = false → ∀ w', RunsAt C.P a o w' v) ∧ SW C full r (addD D i) N (a.put o.dst v) w
       else OpTo C.P a.eval o w fun v w' => Still C full st D a w' ∧ SW C full r (addD D i) N (a.put o.dst v) w')
    else SW C full r (addD D i) N (a.put o.dst undef) w)
/-- the operation i first, and then K -/
def Front (C : Ctx) (full : List Oper) (i : Nat) (st : List Nat) (D : Nat → Bool) (K : Act → World → Prop) (a : Act) (w : World) : Prop :=
  ∃ o, full[i]? = some o ∧
    (if wantB full a o = true then
      (if isQ o.op = true then ∃ v, RunsAt C.P a o w v ∧ (isReadOp C o.op = false → ∀ w', RunsAt C.P a o w' v) ∧ K (a.put o.dst v) w
       else OpTo C.P a.eval o w fun v w' => Still C full st D a w' ∧ K (a.put o.dst v) w')
    else K (a.put o.dst undef) w)

def predsOf (o : Oper) : List Nat := (o.after.toList.filter fun e => Region.binds .any e).map (·.on)
def mask (acc : Array Nat) : List Nat → Nat
  | [] => 0
  | p :: r => (2 ^ p ||| acc.getD p 0) ||| mask acc r
def masks : List Oper → Array Nat → Array Nat
  | [], acc => acc
  | o :: r, acc => masks r (acc.push (mask acc (predsOf o)))
def noSel (o : Oper) : Bool :=
  match o.op with
  | .select _ _ => false
  | _ => true
def looksB (full : List Oper) (o : Oper) (d : Nat) : Bool := (o.looksAt full.toArray).contains d
def dstLooks (full : List Oper) (x o : Oper) : Bool :=
  match x.dst with
  | some d => looksB full o d
  | none => false
def sameDst (x o : Oper) : Bool :=
  match x.dst, o.dst with
  | some d, some e => Nat.beq d e
  | _, _ => false
/-- x stands ahead of i in the order -/
def pairB (C : Ctx) (full : List Oper) (M : Array Nat) (x i : Nat × List Nat) : Bool :=
  match full[x.1]?, full[i.1]? with
  | some ox, some oi =>
    !(Nat.beq x.1 i.1) && !((predsOf ox).contains i.1) && !(sameDst ox oi) && !(isReadOp C ox.op && dstLooks full oi ox) &&
    ((M.getD i.1 0).testBit x.1 || (isQ ox.op && !(dstLooks full ox oi) && !(dstLooks full oi ox) && (isQ oi.op || !(isReadOp C ox.op) || i.2.contains x.1)))
  | _, _ => false
def pairsB (C : Ctx) (full : List Oper) (M : Array Nat) : List (Nat × List Nat) → Bool
  | [] => true
  | x :: r => r.all (pairB C full M x) && pairsB C full M r
def planB (C : Ctx) (full : List Oper) (L : List (Nat × List Nat)) : Bool :=
  Nat.ble L.length full.length && (full.all noSel) && (full.zipIdx.all fun p => (predsOf p.1).all fun q => Nat.blt q p.2) && (full.all fun o => !(isReadOp C o.op && (dstLooks full o o || o.dst.isNone))) &&
  ((List.range full.length).all fun i => (L.map (·.1)).contains i) && (L.all fun x => Nat.blt x.1 full.length && x.2.all fun j => match full[j]? with | some o => isReadOp C o.op | none => false) && pairsB C full (masks full #[]) L

theorem Act.put_none (a : Act) (v : Value) : a.put none v = a := rfl
theorem dstLooks_false {full : List Oper} {x o : Oper} (h : dstLooks full x o = false) : ∀ d, x.dst = some d → d ∉ o.looksAt full.toArray := by
  intro d hd
  unfold dstLooks at h
  rw [hd] at h
  simpa [looksB] using h
theorem sameDst_false {x o : Oper} (h : sameDst x o = false) : ∀ d, x.dst = some d → o.dst ≠ some d := by
  intro d hd he
  unfold sameDst at h
  rw [hd, he] at h
  simp at h
theorem exec_put {full : List Oper} {x o : Oper} (hs : noSel o = true) (a : Act) (v : Value) (h : dstLooks full x o = false) : execOp (a.put x.dst v).eval o = execOp a.eval o :=
  execOp_put (ops := full.toArray) o (fun cs b e => by simp [noSel, e] at hs) a x.dst v (dstLooks_false h)
theorem want_put {full : List Oper} {x o : Oper} (a : Act) (v : Value) (h : dstLooks full x o = false) : wantB full (a.put x.dst v) o = wantB full a o :=
  wanted_put (ops := full.toArray) o a x.dst v (dstLooks_false h)
theorem dstV_put_ne {x o : Oper} (a : Act) (v : Value) (h : sameDst x o = false) : dstV (a.put x.dst v) o = dstV a o := by
  unfold dstV
  cases ho : o.dst with
  | none => rfl
  | some e =>
    cases hx : x.dst with
    | none => rfl
    | some d =>
      have hne : d ≠ e := fun hh => sameDst_false h d hx (by rw [ho, hh])
      simp [Act.put, Array.getElem?_setIfInBounds_ne hne]

/-- what is known between what was done (D) and what is left (L) -/
def Apart (C : Ctx) (full : List Oper) (D : Nat → Bool) (L : List (Nat × List Nat)) : Prop :=
  ∀ j oj, D j = true → full[j]? = some oj → isReadOp C oj.op = true → ∀ x ∈ L, ∀ ox, full[x.1]? = some ox → dstLooks full ox oj = false ∧ sameDst ox oj = false
/-- x may stand on either side of i -/
structure Swap (C : Ctx) (full : List Oper) (x i : Nat × List Nat) : Prop where
  q : ∀ ox, full[x.1]? = some ox → isQ ox.op = true
  a : ∀ ox oi, full[x.1]? = some ox → full[i.1]? = some oi → dstLooks full ox oi = false ∧ dstLooks full oi ox = false ∧ sameDst ox oi = false
  s : ∀ ox oi, full[x.1]? = some ox → full[i.1]? = some oi → isQ oi.op = false → isReadOp C ox.op = true → x.1 ∈ i.2

theorem Still.back {C : Ctx} {full : List Oper} (hsel : ∀ o ∈ full, noSel o = true) {st : List Nat} {D : Nat → Bool} {x : Nat × List Nat} {ox : Oper} (hx : full[x.1]? = some ox) {L : List (Nat × List Nat)} (hap : Apart C full D (x :: L))
    (hrd : ∀ j ∈ st, D j = true → ∀ oj, full[j]? = some oj → isReadOp C oj.op = true) {a : Act} {v : Value} {w : World} (h : Still C full st (addD D x.1) (a.put ox.dst v) w) : Still C full st D a w := by
  intro j hj hD oj hoj hw
  have hr := hrd j hj hD oj hoj
  obtain ⟨h1, h2⟩ := hap j oj hD hoj hr x (by simp) ox hx
  have := h j hj (by simp [addD, hD]) oj hoj (by rw [want_put a v h1]; exact hw)
  rw [dstV_put_ne a v h2] at this
  unfold RunsAt at this ⊢
  rwa [exec_put (hsel oj (List.mem_of_getElem? hoj)) a v h1] at this

theorem OpTo.mono {P : Program} {ρ : Operand → Value} {o : Oper} {w : World} {k k' : Value → World → Prop} (h : OpTo P ρ o w k) (hk : ∀ v w', k v w' → k' v w') : OpTo P ρ o w k' := by
  rcases h with ⟨v, w', h1, h2⟩ | ⟨w', h1, h2⟩ | ⟨g, args, h1, h2⟩
  · exact .inl ⟨v, w', h1, hk _ _ h2⟩
  · exact .inr (.inl ⟨w', h1, hk _ _ h2⟩)
  · exact .inr (.inr ⟨g, args, h1, h2.mono fun e w'' ⟨v, he, hv⟩ => ⟨v, he, hk _ _ hv⟩⟩)
theorem OpTo.congr {P : Program} {ρ ρ' : Operand → Value} {o : Oper} {w : World} {k : Value → World → Prop} (he : execOp ρ o = execOp ρ' o) (h : OpTo P ρ o w k) : OpTo P ρ' o w k := by
  unfold OpTo at h ⊢; rw [he] at h; exact h
theorem dstV_put_self {n : Nat} {o : Oper} {a : Act} (hs : a.tmps.size = n) (hd : dstOk n o = true) (hn : o.dst.isNone = false) (v : Value) : dstV (a.put o.dst v) o = v := by
  unfold dstV dstOk at *
  cases ho : o.dst with
  | none => rw [ho] at hn; cases hn
  | some d =>
    rw [ho] at hd
    have hlt : d < n := Nat.le_of_ble_eq_true hd
    simp [Act.put, hs, hlt]
theorem size_put (a : Act) (d : Option Nat) (v : Value) : (a.put d v).tmps.size = a.tmps.size := by cases d <;> simp [Act.put]
theorem sameDst_comm (x o : Oper) : sameDst x o = sameDst o x := by
  unfold sameDst
  cases x.dst <;> cases o.dst <;> try rfl
  rename_i d e
  simp only
  cases h : Nat.beq d e with
  | true => have := Nat.eq_of_beq_eq_true h; subst this; exact h.symm
  | false =>
    cases h' : Nat.beq e d with
    | false => rfl
    | true => have := Nat.eq_of_beq_eq_true h'; subst this; rw [Nat.beq_refl] at h; cases h
theorem put_comm' {x o : Oper} (a : Act) (v u : Value) (h : sameDst x o = false) : (a.put x.dst v).put o.dst u = (a.put o.dst u).put x.dst v :=
  Act.put_comm a v u (sameDst_false h)
/-- x, standing ahead of y, leaves what y leans on -/
def Behind (C : Ctx) (full : List Oper) (x y : Nat × List Nat) : Prop :=
  ∀ ox oy, full[x.1]? = some ox → full[y.1]? = some oy → isReadOp C ox.op = true → dstLooks full oy ox = false ∧ sameDst oy ox = false

theorem front_of {C : Ctx} {full : List Oper} {n : Nat} (hdst : ∀ o ∈ full, dstOk n o = true) (hsel : ∀ o ∈ full, noSel o = true) (hself : ∀ o ∈ full, isReadOp C o.op = true → dstLooks full o o = false ∧ o.dst.isNone = false) (i : Nat) (st : List Nat)
    (hst : ∀ j ∈ st, ∀ oj, full[j]? = some oj → isReadOp C oj.op = true) (post : List (Nat × List Nat)) (N : Act → World → Prop) :
    ∀ (pre : List (Nat × List Nat)) (D : Nat → Bool) (a : Act) (w : World), a.tmps.size = n → (∀ x ∈ pre, Swap C full x (i, st)) → Apart C full D pre → pre.Pairwise (Behind C full) →
      SW C full (pre ++ (i, st) :: post) D N a w → Front C full i st D (fun a w => SW C full (pre ++ post) (addD D i) N a w) a w
  | [], D, a, w, _, _, _, _, h => h
  | x :: pre, D, a, w, hsz, hsw, hap, hpw, h => by
    obtain ⟨ox, hox, h⟩ := h
    have hX := hsw x (by simp)
    have hq := hX.q ox hox
    have hap' : Apart C full (addD D x.1) pre := by
      intro j oj hD hoj hr y hy oy hoy
      simp only [addD, Bool.or_eq_true] at hD
      rcases hD with hD | hD
      · have e := Nat.eq_of_beq_eq_true hD
        subst e
        exact (List.pairwise_cons.1 hpw).1 y hy oj oy hoj hoy hr
      · exact hap j oj hD hoj hr y (by simp [hy]) oy hoy
    have hpw' := (List.pairwise_cons.1 hpw).2
    have hsw' : ∀ y ∈ pre, Swap C full y (i, st) := fun y hy => hsw y (by simp [hy])
    -- what x does, v its value
    have core : ∀ v : Value, (wantB full a ox = true → RunsAt C.P a ox w v ∧ (isReadOp C ox.op = false → ∀ w', RunsAt C.P a ox w' v)) → (wantB full a ox = false → v = undef) →
        SW C full (pre ++ (i, st) :: post) (addD D x.1) N (a.put ox.dst v) w → Front C full i st D (fun a w => SW C full (x :: (pre ++ post)) (addD D i) N a w) a w := by
      intro v hv1 hv2 hrest
      obtain ⟨oi, hoi, hf⟩ := front_of hdst hsel hself i st hst post N pre (addD D x.1) (a.put ox.dst v) w (by rw [size_put]; exact hsz) hsw' hap' hpw' hrest
      obtain ⟨a1, a2, a3⟩ := hX.a ox oi hox hoi
      have hsi := hsel oi (List.mem_of_getElem? hoi)
      have hsx := hsel ox (List.mem_of_getElem? hox)
      have hwi := want_put (full := full) a v a1
      have hei := exec_put (full := full) hsi a v a1
      refine ⟨oi, hoi, ?_⟩
      -- x behind i, at a world where it runs as it ran
      have xback : ∀ (u : Value) (w' : World), (wantB full a ox = true → RunsAt C.P a ox w' v) → SW C full (pre ++ post) (addD (addD D x.1) i) N ((a.put ox.dst v).put oi.dst u) w' →
          SW C full (x :: (pre ++ post)) (addD D i) N (a.put oi.dst u) w' := by
        intro u w' hr hs
        rw [put_comm' a v u a3, addD_comm] at hs
        have hwx := want_put (full := full) a u a2
        refine ⟨ox, hox, ?_⟩
        rw [hwx]
        cases hw : wantB full a ox with
        | true =>
          rw [if_pos rfl, if_pos hq]
          refine ⟨v, ?_, fun hnr w2 => ?_, hs⟩
          · unfold RunsAt; rw [exec_put hsx a u a2]; exact hr hw
          · unfold RunsAt; rw [exec_put hsx a u a2]; exact (hv1 hw).2 hnr w2
        | false =>
          rw [if_neg (by simp)]
          have := hv2 hw
          subst this
          exact hs
      rw [hwi] at hf
      cases hwiB : wantB full a oi with
      | false =>
        rw [hwiB, if_neg (by simp)] at hf
        rw [if_neg (by simp)]
        exact xback undef w (fun hw => (hv1 hw).1) hf
      | true =>
        rw [hwiB, if_pos rfl] at hf
        rw [if_pos rfl]
        cases hqi : isQ oi.op with
        | true =>
          rw [hqi, if_pos rfl] at hf
          rw [if_pos rfl]
          obtain ⟨u, r1, r2, r3⟩ := hf
          refine ⟨u, ?_, fun hnr w2 => ?_, xback u w (fun hw => (hv1 hw).1) r3⟩
          · unfold RunsAt at r1 ⊢; rwa [hei] at r1
          · have := r2 hnr w2; unfold RunsAt at this ⊢; rwa [hei] at this
        | false =>
          rw [hqi, if_neg (by simp)] at hf
          rw [if_neg (by simp)]
          refine (OpTo.congr hei hf).mono fun u w' ⟨hstill, hk⟩ => ?_
          refine ⟨Still.back hsel hox (L := []) (fun j oj hD hoj hr y hy oy hoy => ?_) (fun j hj _ oj hoj => hst j hj oj hoj) hstill, xback u w' (fun hw => ?_) hk⟩
          · have : y = x := by simpa using hy
            subst this
            exact hap j oj hD hoj hr y (by simp) oy hoy
          · cases hr : isReadOp C ox.op with
            | false => exact (hv1 hw).2 hr w'
            | true =>
              have hmem := hX.s ox oi hox hoi hqi hr
              obtain ⟨hsf, hsn⟩ := hself ox (List.mem_of_getElem? hox) hr
              have := hstill x.1 hmem (by simp [addD, Nat.beq_refl]) ox hox (by rw [want_put a v hsf]; exact hw)
              unfold RunsAt at this ⊢
              rw [exec_put hsx a v hsf] at this
              rw [dstV_put_self hsz (hdst ox (List.mem_of_getElem? hox)) hsn] at this
              exact this
    cases hw : wantB full a ox with
    | true =>
      rw [hw, if_pos rfl, if_pos hq] at h
      obtain ⟨v, r1, r2, r3⟩ := h
      exact core v (fun _ => ⟨r1, r2⟩) (fun hf => by rw [hw] at hf; cases hf) r3
    | false =>
      rw [hw, if_neg (by simp)] at h
      exact core undef (fun hf => by rw [hw] at hf; cases hf) (fun _ => rfl) h
end Go.Proofs.Ytnbfaokpaiiojaa.Wx
