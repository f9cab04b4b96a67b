import Derived.Test.YtnbfaokpaiiojaaWxH
import Derived.Orders
namespace Go.Proofs.Ytnbfaokpaiiojaa.Wx
open Go

/-! A region whose order is open: one order stands for all. -/
def RunsAt (P : Program) (a : Act) (o : Oper) (w : World) (v : Value) : Prop := (execOp a.eval o).run P w = .ok (.value v) w
def wantB (full : List Oper) (a : Act) (o : Oper) : Bool := Region.wanted o (yielded full.toArray a.tmps)
def dstV (a : Act) (o : Oper) : Value :=
  match o.dst with
  | some d => a.tmps.getD d undef
  | none => undef
def addD (D : Nat → Bool) (i : Nat) : Nat → Bool := fun j => Nat.beq j i || D j
theorem addD_comm (D : Nat → Bool) (i j : Nat) : addD (addD D i) j = addD (addD D j) i := by
  funext k; simp only [addD]; cases Nat.beq k i <;> cases Nat.beq k j <;> rfl
def Still (C : Ctx) (full : List Oper) (st : List Nat) (D : Nat → Bool) (a : Act) (w : World) : Prop :=
  ∀ j ∈ st, D j = true → ∀ oj, full[j]? = some oj → wantB full a oj = true → RunsAt C.P a oj w (dstV a oj)
/-- the operation i first, and then K -/
def Front (C : Ctx) (full : List Oper) (i : Nat) (st : List Nat) (D : Nat → Bool) (K : Act → World → Prop) (a : Act) (w : World) : Prop :=
  ∃ o, full[i]? = some o ∧
    (if wantB full a o = true then
      (if isQ C o.op = true then ∃ v, RunsAt C.P a o w v ∧ (isReadOp C o.op = false → ∀ w', RunsAt C.P a o w' v) ∧ K (a.put o.dst v) w
       else OpTo C.P a.eval o w fun v w' => Still C full st D a w' ∧ K (a.put o.dst v) w')
    else K (a.put o.dst undef) w)
def SW (C : Ctx) (full : List Oper) : Od → (Nat → Bool) → (Act → World → Prop) → Act → World → Prop
  | .nil, _, N, a, w => N a w
  | .op i st r, D, N, a, w => Front C full i st D (fun a w => SW C full r (addD D i) N a w) a w
  | .alt i st r o, D, N, a, w => Front C full i st D (fun a w => SW C full r (addD D i) N a w) a w ∧ SW C full o D N a w

def predsOf (o : Oper) : List Nat := (o.after.toList.filter fun e => Region.binds .any e).map (·.on)
def mask (acc : Array Nat) : List Nat → Nat
  | [] => 0
  | p :: r => (2 ^ p ||| acc.getD p 0) ||| mask acc r
def masks : List Oper → Array Nat → Array Nat
  | [], acc => acc
  | o :: r, acc => masks r (acc.push (mask acc (predsOf o)))
def noSel (o : Oper) : Bool :=
  match o.op with
  | .select _ _ => false
  | _ => true
def looksB (full : List Oper) (o : Oper) (d : Nat) : Bool := (o.looksAt full.toArray).contains d
def dstLooks (full : List Oper) (x o : Oper) : Bool :=
  match x.dst with
  | some d => looksB full o d
  | none => false
def sameDst (x o : Oper) : Bool :=
  match x.dst, o.dst with
  | some d, some e => Nat.beq d e
  | _, _ => false
/-- x stands ahead of i in the order -/
def pairB (C : Ctx) (full : List Oper) (M : Array Nat) (x i : Nat × List Nat) : Bool :=
  match full[x.1]?, full[i.1]? with
  | some ox, some oi =>
    !(Nat.beq x.1 i.1) && !((predsOf ox).contains i.1) && !(sameDst ox oi) && !(isReadOp C ox.op && dstLooks full oi ox) &&
    ((M.getD i.1 0).testBit x.1 || (isQ C ox.op && !(dstLooks full ox oi) && !(dstLooks full oi ox) && (isQ C oi.op || !(isReadOp C ox.op) || i.2.contains x.1)))
  | _, _ => false
def occ : Od → List (Nat × List Nat)
  | .nil => []
  | .op i st r => (i, st) :: occ r
  | .alt i st r o => (i, st) :: (occ r ++ occ o)
def heads : Od → List Nat
  | .nil => []
  | .op i _ _ => [i]
  | .alt i _ _ o => i :: heads o
def lessR (R : List Nat) (x : Nat) : List Nat := R.filter fun j => !Nat.beq j x
def predsFree (full : List Oper) (x : Nat) (R : List Nat) : Bool :=
  match full[x]? with
  | some o => (predsOf o).all fun p => !R.contains p
  | none => false
def notRead (C : Ctx) (full : List Oper) (x : Nat) : Bool :=
  match full[x]? with
  | some o => !isReadOp C o.op
  | none => false
/-- R: what is left; among alternatives: one of the effects that may come next -/
def okB (C : Ctx) (full : List Oper) (M : Array Nat) : Bool → Od → List Nat → Bool
  | _, .nil, R => R.isEmpty
  | b, .op x st r, R => R.contains x && (predsFree full x R && ((bif b then notRead C full x else (occ r).all (pairB C full M (x, st))) && okB C full M false r (lessR R x)))
  | b, .alt x _ r o, R => R.contains x && (predsFree full x R && (notRead C full x && (okB C full M false r (lessR R x) && (okB C full M true o R && (b || R.all fun y => Nat.beq y x || (heads o).contains y || (M.getD y 0).testBit x || (heads o).any fun e => (M.getD y 0).testBit e)))))
def planB (C : Ctx) (full : List Oper) (L : Od) : Bool :=
  (full.all noSel) && ((full.zipIdx.all fun p => (predsOf p.1).all fun q => Nat.blt q p.2) && ((full.all fun o => !(isReadOp C o.op && (dstLooks full o o || o.dst.isNone))) &&
  (((occ L).all fun x => Nat.blt x.1 full.length && x.2.all fun j => match full[j]? with | some o => isReadOp C o.op | none => false) && okB C full (masks full #[]) false L (List.range full.length))))

theorem Act.put_none (a : Act) (v : Value) : a.put none v = a := rfl
theorem dstLooks_false {full : List Oper} {x o : Oper} (h : dstLooks full x o = false) : ∀ d, x.dst = some d → d ∉ o.looksAt full.toArray := by
  intro d hd
  unfold dstLooks at h
  rw [hd] at h
  simpa [looksB] using h
theorem sameDst_false {x o : Oper} (h : sameDst x o = false) : ∀ d, x.dst = some d → o.dst ≠ some d := by
  intro d hd he
  unfold sameDst at h
  rw [hd, he] at h
  simp at h
theorem exec_put {full : List Oper} {x o : Oper} (hs : noSel o = true) (a : Act) (v : Value) (h : dstLooks full x o = false) : execOp (a.put x.dst v).eval o = execOp a.eval o :=
  execOp_put (ops := full.toArray) o (fun cs b e => by simp [noSel, e] at hs) a x.dst v (dstLooks_false h)
theorem want_put {full : List Oper} {x o : Oper} (a : Act) (v : Value) (h : dstLooks full x o = false) : wantB full (a.put x.dst v) o = wantB full a o :=
  wanted_put (ops := full.toArray) o a x.dst v (dstLooks_false h)
theorem dstV_put_ne {x o : Oper} (a : Act) (v : Value) (h : sameDst x o = false) : dstV (a.put x.dst v) o = dstV a o := by
  unfold dstV
  cases ho : o.dst with
  | none => rfl
  | some e =>
    cases hx : x.dst with
    | none => rfl
    | some d =>
      have hne : d ≠ e := fun hh => sameDst_false h d hx (by rw [ho, hh])
      simp [Act.put, Array.getElem?_setIfInBounds_ne hne]

/-- what is known between what was done (D) and what is left (L) -/
def Apart (C : Ctx) (full : List Oper) (D : Nat → Bool) (L : List (Nat × List Nat)) : Prop :=
  ∀ j oj, D j = true → full[j]? = some oj → isReadOp C oj.op = true → ∀ x ∈ L, ∀ ox, full[x.1]? = some ox → dstLooks full ox oj = false ∧ sameDst ox oj = false
/-- x may stand on either side of i -/
structure Swap (C : Ctx) (full : List Oper) (x i : Nat × List Nat) : Prop where
  q : ∀ ox, full[x.1]? = some ox → isQ C ox.op = true
  a : ∀ ox oi, full[x.1]? = some ox → full[i.1]? = some oi → dstLooks full ox oi = false ∧ dstLooks full oi ox = false ∧ sameDst ox oi = false
  s : ∀ ox oi, full[x.1]? = some ox → full[i.1]? = some oi → isQ C oi.op = false → isReadOp C ox.op = true → x.1 ∈ i.2

theorem Still.back {C : Ctx} {full : List Oper} (hsel : ∀ o ∈ full, noSel o = true) {st : List Nat} {D : Nat → Bool} {x : Nat × List Nat} {ox : Oper} (hx : full[x.1]? = some ox) {L : List (Nat × List Nat)} (hap : Apart C full D (x :: L))
    (hrd : ∀ j ∈ st, D j = true → ∀ oj, full[j]? = some oj → isReadOp C oj.op = true) {a : Act} {v : Value} {w : World} (h : Still C full st (addD D x.1) (a.put ox.dst v) w) : Still C full st D a w := by
  intro j hj hD oj hoj hw
  have hr := hrd j hj hD oj hoj
  obtain ⟨h1, h2⟩ := hap j oj hD hoj hr x (by simp) ox hx
  have := h j hj (by simp [addD, hD]) oj hoj (by rw [want_put a v h1]; exact hw)
  rw [dstV_put_ne a v h2] at this
  unfold RunsAt at this ⊢
  rwa [exec_put (hsel oj (List.mem_of_getElem? hoj)) a v h1] at this

theorem OpTo.mono {P : Program} {ρ : Operand → Value} {o : Oper} {w : World} {k k' : Value → World → Prop} (h : OpTo P ρ o w k) (hk : ∀ v w', k v w' → k' v w') : OpTo P ρ o w k' := by
  rcases h with ⟨v, w', h1, h2⟩ | ⟨w', h1, h2⟩ | ⟨g, args, h1, h2⟩ | ⟨l, fn, tmps, assign, body, h1, h2⟩
  · exact .inl ⟨v, w', h1, hk _ _ h2⟩
  · exact .inr (.inl ⟨w', h1, hk _ _ h2⟩)
  · exact .inr (.inr (.inl ⟨g, args, h1, h2.mono fun e w'' ⟨v, he, hv⟩ => ⟨v, he, hk _ _ hv⟩⟩))
  · exact .inr (.inr (.inr ⟨l, fn, tmps, assign, body, h1, h2.mono fun e w'' ⟨v, he, hv⟩ => ⟨v, he, hk _ _ hv⟩⟩))
theorem OpTo.congr {P : Program} {ρ ρ' : Operand → Value} {o : Oper} {w : World} {k : Value → World → Prop} (he : execOp ρ o = execOp ρ' o) (h : OpTo P ρ o w k) : OpTo P ρ' o w k := by
  unfold OpTo at h ⊢; rw [he] at h; exact h
theorem dstV_put_self {n : Nat} {o : Oper} {a : Act} (hs : a.tmps.size = n) (hd : dstOk n o = true) (hn : o.dst.isNone = false) (v : Value) : dstV (a.put o.dst v) o = v := by
  unfold dstV dstOk at *
  cases ho : o.dst with
  | none => rw [ho] at hn; cases hn
  | some d =>
    rw [ho] at hd
    have hlt : d < n := Nat.le_of_ble_eq_true hd
    simp [Act.put, hs, hlt]
theorem size_put (a : Act) (d : Option Nat) (v : Value) : (a.put d v).tmps.size = a.tmps.size := by cases d <;> simp [Act.put]
theorem sameDst_comm (x o : Oper) : sameDst x o = sameDst o x := by
  unfold sameDst
  cases x.dst <;> cases o.dst <;> try rfl
  rename_i d e
  simp only
  cases h : Nat.beq d e with
  | true => have := Nat.eq_of_beq_eq_true h; subst this; exact h.symm
  | false =>
    cases h' : Nat.beq e d with
    | false => rfl
    | true => have := Nat.eq_of_beq_eq_true h'; subst this; rw [Nat.beq_refl] at h; cases h
theorem put_comm' {x o : Oper} (a : Act) (v u : Value) (h : sameDst x o = false) : (a.put x.dst v).put o.dst u = (a.put o.dst u).put x.dst v :=
  Act.put_comm a v u (sameDst_false h)
/-- x, standing ahead of y, leaves what y leans on -/
def Behind (C : Ctx) (full : List Oper) (x y : Nat × List Nat) : Prop :=
  ∀ ox oy, full[x.1]? = some ox → full[y.1]? = some oy → isReadOp C ox.op = true → dstLooks full oy ox = false ∧ sameDst oy ox = false

theorem front_swap {C : Ctx} {full : List Oper} {n : Nat} (hdst : ∀ o ∈ full, dstOk n o = true) (hsel : ∀ o ∈ full, noSel o = true) (hself : ∀ o ∈ full, isReadOp C o.op = true → dstLooks full o o = false ∧ o.dst.isNone = false) (i : Nat) (st : List Nat)
    (hst : ∀ j ∈ st, ∀ oj, full[j]? = some oj → isReadOp C oj.op = true) {x : Nat × List Nat} (hX : Swap C full x (i, st)) {D : Nat → Bool} (hap : Apart C full D [x]) {A : Act → World → Prop} {B : (Nat → Bool) → Act → World → Prop} {a : Act} {w : World} (hsz : a.tmps.size = n)
    (IH : ∀ v, (∃ ox, full[x.1]? = some ox ∧ A (a.put ox.dst v) w) → ∃ ox, full[x.1]? = some ox ∧ Front C full i st (addD D x.1) (B (addD (addD D x.1) i)) (a.put ox.dst v) w)
    (h : Front C full x.1 x.2 D A a w) : Front C full i st D (fun a w => Front C full x.1 x.2 (addD D i) (B (addD (addD D i) x.1)) a w) a w := by
    obtain ⟨ox, hox, h⟩ := h
    have IH : ∀ v, A (a.put ox.dst v) w → Front C full i st (addD D x.1) (B (addD (addD D x.1) i)) (a.put ox.dst v) w := fun v hv => by
      obtain ⟨ox', e, r⟩ := IH v ⟨ox, hox, hv⟩
      rw [hox] at e
      have := Option.some.inj e; subst this; exact r
    have hq := hX.q ox hox
    -- what x does, v its value
    have core : ∀ v : Value, (wantB full a ox = true → RunsAt C.P a ox w v ∧ (isReadOp C ox.op = false → ∀ w', RunsAt C.P a ox w' v)) → (wantB full a ox = false → v = undef) →
        A (a.put ox.dst v) w → Front C full i st D (fun a w => Front C full x.1 x.2 (addD D i) (B (addD (addD D i) x.1)) a w) a w := by
      intro v hv1 hv2 hrest
      obtain ⟨oi, hoi, hf⟩ := IH v hrest
      obtain ⟨a1, a2, a3⟩ := hX.a ox oi hox hoi
      have hsi := hsel oi (List.mem_of_getElem? hoi)
      have hsx := hsel ox (List.mem_of_getElem? hox)
      have hwi := want_put (full := full) a v a1
      have hei := exec_put (full := full) hsi a v a1
      refine ⟨oi, hoi, ?_⟩
      -- x behind i, at a world where it runs as it ran
      have xback : ∀ (u : Value) (w' : World), (wantB full a ox = true → RunsAt C.P a ox w' v) → B (addD (addD D x.1) i) ((a.put ox.dst v).put oi.dst u) w' →
          Front C full x.1 x.2 (addD D i) (B (addD (addD D i) x.1)) (a.put oi.dst u) w' := by
        intro u w' hr hs
        rw [put_comm' a v u a3, addD_comm] at hs
        have hwx := want_put (full := full) a u a2
        refine ⟨ox, hox, ?_⟩
        rw [hwx]
        cases hw : wantB full a ox with
        | true =>
          rw [if_pos rfl, if_pos hq]
          refine ⟨v, ?_, fun hnr w2 => ?_, hs⟩
          · unfold RunsAt; rw [exec_put hsx a u a2]; exact hr hw
          · unfold RunsAt; rw [exec_put hsx a u a2]; exact (hv1 hw).2 hnr w2
        | false =>
          rw [if_neg (by simp)]
          have := hv2 hw
          subst this
          exact hs
      rw [hwi] at hf
      cases hwiB : wantB full a oi with
      | false =>
        rw [hwiB, if_neg (by simp)] at hf
        rw [if_neg (by simp)]
        exact xback undef w (fun hw => (hv1 hw).1) hf
      | true =>
        rw [hwiB, if_pos rfl] at hf
        rw [if_pos rfl]
        cases hqi : isQ C oi.op with
        | true =>
          rw [hqi, if_pos rfl] at hf
          rw [if_pos rfl]
          obtain ⟨u, r1, r2, r3⟩ := hf
          refine ⟨u, ?_, fun hnr w2 => ?_, xback u w (fun hw => (hv1 hw).1) r3⟩
          · unfold RunsAt at r1 ⊢; rwa [hei] at r1
          · have := r2 hnr w2; unfold RunsAt at this ⊢; rwa [hei] at this
        | false =>
          rw [hqi, if_neg (by simp)] at hf
          rw [if_neg (by simp)]
          refine (OpTo.congr hei hf).mono fun u w' ⟨hstill, hk⟩ => ?_
          refine ⟨Still.back hsel hox (L := []) (fun j oj hD hoj hr y hy oy hoy => ?_) (fun j hj _ oj hoj => hst j hj oj hoj) hstill, xback u w' (fun hw => ?_) hk⟩
          · have : y = x := by simpa using hy
            subst this
            exact hap j oj hD hoj hr y (by simp) oy hoy
          · cases hr : isReadOp C ox.op with
            | false => exact (hv1 hw).2 hr w'
            | true =>
              have hmem := hX.s ox oi hox hoi hqi hr
              obtain ⟨hsf, hsn⟩ := hself ox (List.mem_of_getElem? hox) hr
              have := hstill x.1 hmem (by simp [addD, Nat.beq_refl]) ox hox (by rw [want_put a v hsf]; exact hw)
              unfold RunsAt at this ⊢
              rw [exec_put hsx a v hsf] at this
              rw [dstV_put_self hsz (hdst ox (List.mem_of_getElem? hox)) hsn] at this
              exact this
    cases hw : wantB full a ox with
    | true =>
      rw [hw, if_pos rfl, if_pos hq] at h
      obtain ⟨v, r1, r2, r3⟩ := h
      exact core v (fun _ => ⟨r1, r2⟩) (fun hf => by rw [hw] at hf; cases hf) r3
    | false =>
      rw [hw, if_neg (by simp)] at h
      exact core undef (fun hf => by rw [hw] at hf; cases hf) (fun _ => rfl) h
end Go.Proofs.Ytnbfaokpaiiojaa.Wx
namespace Go.Proofs.Ytnbfaokpaiiojaa.Wx
open Go

/-! What an operation hangs on. -/
theorem mask_bit (acc : Array Nat) : ∀ (ps : List Nat) (j : Nat), (mask acc ps).testBit j = true → ∃ p ∈ ps, p = j ∨ (acc.getD p 0).testBit j = true
  | [], j, h => by simp [mask] at h
  | p :: r, j, h => by
    simp only [mask, Nat.testBit_or, Bool.or_eq_true] at h
    rcases h with (h | h) | h
    · refine ⟨p, by simp, .inl ?_⟩
      by_cases e : p = j
      · exact e
      · rw [Nat.testBit_two_pow_of_ne e] at h; cases h
    · exact ⟨p, by simp, .inr h⟩
    · obtain ⟨q, hq, hj⟩ := mask_bit acc r j h
      exact ⟨q, by simp [hq], hj⟩
theorem masks_prefix : ∀ (l : List Oper) (acc : Array Nat) (p : Nat), p < acc.size → (masks l acc).getD p 0 = acc.getD p 0
  | [], _, _, _ => rfl
  | o :: r, acc, p, h => by
    rw [masks, masks_prefix r _ p (by simp; omega)]
    simp [Array.getElem?_push, show p ≠ acc.size by omega]
theorem masks_at : ∀ (l : List Oper) (acc : Array Nat) (k : Nat) (o : Oper), l[k]? = some o → ∃ acc' : Array Nat, acc'.size = acc.size + k ∧ (masks l acc).getD (acc.size + k) 0 = mask acc' (predsOf o) ∧
    ∀ p, p < acc'.size → acc'.getD p 0 = (masks l acc).getD p 0
  | [], _, _, _, h => by simp at h
  | o :: r, acc, 0, o', h => by
    have e : o = o' := by simpa using h
    subst e
    refine ⟨acc, rfl, ?_, fun p hp => ?_⟩
    · rw [masks, masks_prefix r _ _ (by simp)]
      simp
    · rw [masks, masks_prefix r _ _ (by simp; omega)]
      simp [Array.getElem?_push, show p ≠ acc.size by omega]
  | o :: r, acc, k + 1, o', h => by
    obtain ⟨acc', h1, h2, h3⟩ := masks_at r (acc.push (mask acc (predsOf o))) k o' (by simpa using h)
    refine ⟨acc', by rw [h1]; simp; omega, ?_, fun p hp => by rw [masks]; exact h3 p hp⟩
    rw [masks]
    have e : (acc.push (mask acc (predsOf o))).size + k = acc.size + (k + 1) := by simp; omega
    rw [e] at h2
    exact h2
theorem reach_listed {full : List Oper} (hback : ∀ i o, full[i]? = some o → ∀ p ∈ predsOf o, p < i) {listed : Nat → Bool}
    (hcl : ∀ i o, full[i]? = some o → listed i = true → ∀ p ∈ predsOf o, listed p = true) :
    ∀ (i : Nat) (o : Oper), full[i]? = some o → (∀ p ∈ predsOf o, listed p = true) → ∀ j, ((masks full #[]).getD i 0).testBit j = true → listed j = true := by
  intro i
  induction i using Nat.strongRecOn with
  | _ i ih =>
    intro o ho hp j hj
    obtain ⟨acc', h1, h2, h3⟩ := masks_at full #[] i o ho
    simp only [List.size_toArray, List.length_nil, Nat.zero_add] at h1 h2
    rw [h2] at hj
    obtain ⟨p, hpm, hpj⟩ := mask_bit acc' _ _ hj
    rcases hpj with rfl | hpj
    · exact hp p hpm
    · have hlt := hback i o ho p hpm
      rw [h3 p (by rw [h1]; exact hlt)] at hpj
      have hlen : p < full.length := by
        have := (List.getElem?_eq_some_iff.1 ho).1
        omega
      have hop : full[p]? = some full[p] := List.getElem?_eq_getElem hlen
      exact ih p hlt _ hop (hcl p _ hop (hp p hpm)) j hpj

theorem pairB_spec {C : Ctx} {full : List Oper} {M : Array Nat} {x i : Nat × List Nat} (h : pairB C full M x i = true) :
    ∃ ox oi, full[x.1]? = some ox ∧ full[i.1]? = some oi ∧ x.1 ≠ i.1 ∧ i.1 ∉ predsOf ox ∧ sameDst ox oi = false ∧ (isReadOp C ox.op = true → dstLooks full oi ox = false) ∧
      ((M.getD i.1 0).testBit x.1 = true ∨ (isQ C ox.op = true ∧ dstLooks full ox oi = false ∧ dstLooks full oi ox = false ∧ (isQ C oi.op = true ∨ isReadOp C ox.op = false ∨ x.1 ∈ i.2))) := by
  unfold pairB at h
  cases hx : full[x.1]? with
  | none => rw [hx] at h; cases h
  | some ox =>
    cases hi : full[i.1]? with
    | none => rw [hx, hi] at h; cases h
    | some oi =>
      rw [hx, hi] at h
      simp only [Bool.and_eq_true, Bool.not_eq_true', Bool.or_eq_true] at h
      obtain ⟨⟨⟨⟨h1, h2⟩, h3⟩, h4⟩, h5⟩ := h
      refine ⟨ox, oi, rfl, rfl, fun e => ?_, fun hm => ?_, h3, fun hr => ?_, ?_⟩
      · rw [e, Nat.beq_refl] at h1; cases h1
      · rw [List.contains_iff_mem.2 hm] at h2; cases h2
      · rw [hr, Bool.true_and] at h4; exact h4
      · rcases h5 with h5 | ⟨⟨⟨h5, h6⟩, h7⟩, h8⟩
        · exact .inl h5
        · refine .inr ⟨h5, h6, h7, ?_⟩
          rcases h8 with (h8 | h8) | h8
          · exact .inl h8
          · exact .inr (.inl h8)
          · exact .inr (.inr (List.contains_iff_mem.1 h8))
theorem pair_behind {C : Ctx} {full : List Oper} {M : Array Nat} {x y : Nat × List Nat} (h : pairB C full M x y = true) : Behind C full x y := by
  obtain ⟨ox, oy, h1, h2, h3, h4, h5, h6, h7⟩ := pairB_spec h
  intro ox' oy' e1 e2 hr
  rw [h1] at e1; rw [h2] at e2
  have := Option.some.inj e1; subst this
  have := Option.some.inj e2; subst this
  exact ⟨h6 hr, by rw [sameDst_comm]; exact h5⟩

/-- the order without the operation i -/
def pull (i : Nat) : Od → Od
  | .nil => .nil
  | .op x st r => if Nat.beq x i then r else .op x st (pull i r)
  | .alt x _ r o => if Nat.beq x i then r else pull i o
def stOf (i : Nat) : Od → List Nat
  | .nil => []
  | .op x st r => if Nat.beq x i then st else stOf i r
  | .alt x st _ o => if Nat.beq x i then st else stOf i o
theorem occ_pull (i : Nat) : ∀ (T : Od), ∀ y ∈ occ (pull i T), y ∈ occ T
  | .nil, y, h => h
  | .op x st r, y, h => by
    unfold pull at h
    split at h
    · exact List.mem_cons_of_mem _ h
    · rcases List.mem_cons.1 h with h | h
      · exact List.mem_cons.2 (.inl h)
      · exact List.mem_cons_of_mem _ (occ_pull i r y h)
  | .alt x st r o, y, h => by
    unfold pull at h
    split at h
    · exact List.mem_cons_of_mem _ (List.mem_append.2 (.inl h))
    · exact List.mem_cons_of_mem _ (List.mem_append.2 (.inr (occ_pull i o y h)))
theorem mem_lessR {R : List Nat} {x j : Nat} : j ∈ lessR R x ↔ j ∈ R ∧ j ≠ x := by
  simp only [lessR, List.mem_filter, Bool.not_eq_true', and_congr_right_iff]
  intro _
  constructor
  · intro h e; subst e; rw [Nat.beq_refl] at h; cases h
  · intro h; cases e : Nat.beq j x with
    | false => rfl
    | true => exact absurd (Nat.eq_of_beq_eq_true e) h
theorem lessR_comm (R : List Nat) (x i : Nat) : lessR (lessR R x) i = lessR (lessR R i) x := by
  simp only [lessR, List.filter_filter]
  congr 1; funext k; exact Bool.and_comm _ _
theorem lessR_length {R : List Nat} {x : Nat} (h : x ∈ R) : (lessR R x).length < R.length := by
  unfold lessR
  have h1 := List.length_filter_le (fun j => !Nat.beq j x) R
  rcases Nat.lt_or_ge (R.filter fun j => !Nat.beq j x).length R.length with h2 | h2
  · exact h2
  · exfalso
    have := List.length_filter_eq_length_iff.1 (Nat.le_antisymm h1 h2) x h
    rw [Nat.beq_refl] at this; cases this
theorem beq_false {x i : Nat} (h : x ≠ i) : Nat.beq x i = false := by
  cases e : Nat.beq x i with
  | false => rfl
  | true => exact absurd (Nat.eq_of_beq_eq_true e) h
theorem pull_op_ne {x i : Nat} (h : x ≠ i) (st : List Nat) (r : Od) : pull i (.op x st r) = .op x st (pull i r) := by rw [pull, beq_false h]; rfl
theorem pull_op_eq (i : Nat) (st : List Nat) (r : Od) : pull i (.op i st r) = r := by rw [pull, Nat.beq_refl]; rfl
theorem pull_alt_ne {x i : Nat} (h : x ≠ i) (st : List Nat) (r o : Od) : pull i (.alt x st r o) = pull i o := by rw [pull, beq_false h]; rfl
theorem pull_alt_eq (i : Nat) (st : List Nat) (r o : Od) : pull i (.alt i st r o) = r := by rw [pull, Nat.beq_refl]; rfl
theorem stOf_op_ne {x i : Nat} (h : x ≠ i) (st : List Nat) (r : Od) : stOf i (.op x st r) = stOf i r := by rw [stOf, beq_false h]; rfl
theorem stOf_op_eq (i : Nat) (st : List Nat) (r : Od) : stOf i (.op i st r) = st := by rw [stOf, Nat.beq_refl]; rfl
theorem stOf_alt_ne {x i : Nat} (h : x ≠ i) (st : List Nat) (r o : Od) : stOf i (.alt x st r o) = stOf i o := by rw [stOf, beq_false h]; rfl
theorem stOf_alt_eq (i : Nat) (st : List Nat) (r o : Od) : stOf i (.alt i st r o) = st := by rw [stOf, Nat.beq_refl]; rfl

structure OkOp (C : Ctx) (full : List Oper) (M : Array Nat) (b : Bool) (x : Nat) (st : List Nat) (r : Od) (R : List Nat) : Prop where
  mem : x ∈ R
  free : predsFree full x R = true
  rest : okB C full M false r (lessR R x) = true
  pair : b = false → ∀ p ∈ occ r, pairB C full M (x, st) p = true
  alt : b = true → notRead C full x = true
theorem okB_op {C : Ctx} {full : List Oper} {M : Array Nat} {b : Bool} {x : Nat} {st : List Nat} {r : Od} {R : List Nat} (h : okB C full M b (.op x st r) R = true) : OkOp C full M b x st r R := by
  simp only [okB, Bool.and_eq_true] at h
  obtain ⟨h1, h2, h3, h4⟩ := h
  refine ⟨List.contains_iff_mem.1 h1, h2, h4, fun e => ?_, fun e => ?_⟩
  · subst e; exact List.all_eq_true.1 h3
  · subst e; exact h3
structure OkAlt (C : Ctx) (full : List Oper) (M : Array Nat) (b : Bool) (x : Nat) (r o : Od) (R : List Nat) : Prop where
  mem : x ∈ R
  free : predsFree full x R = true
  quiet : notRead C full x = true
  rest : okB C full M false r (lessR R x) = true
  other : okB C full M true o R = true
  cover : b = false → ∀ y ∈ R, y ∈ heads (.alt x [] r o) ∨ ∃ e ∈ heads (.alt x [] r o), (M.getD y 0).testBit e = true
theorem okB_alt {C : Ctx} {full : List Oper} {M : Array Nat} {b : Bool} {x : Nat} {st : List Nat} {r o : Od} {R : List Nat} (h : okB C full M b (.alt x st r o) R = true) : OkAlt C full M b x r o R := by
  simp only [okB, Bool.and_eq_true] at h
  obtain ⟨h1, h2, h3, h4, h5, h6⟩ := h
  refine ⟨List.contains_iff_mem.1 h1, h2, h3, h4, h5, fun e y hy => ?_⟩
  subst e
  have := List.all_eq_true.1 (by simpa only [Bool.false_or] using h6) y hy
  simp only [Bool.or_eq_true] at this
  rcases this with ((h | h) | h) | h
  · exact .inl (List.mem_cons.2 (.inl (Nat.eq_of_beq_eq_true h)))
  · exact .inl (List.mem_cons_of_mem _ (List.contains_iff_mem.1 h))
  · exact .inr ⟨x, List.mem_cons_self .., h⟩
  · obtain ⟨e, he, ht⟩ := List.any_eq_true.1 h
    exact .inr ⟨e, List.mem_cons_of_mem _ he, ht⟩
theorem heads_mem {C : Ctx} {full : List Oper} {M : Array Nat} : ∀ (T : Od) (b : Bool) (R : List Nat), okB C full M b T R = true → ∀ e ∈ heads T, e ∈ R
  | .nil, _, _, _, e, he => absurd he (by simp [heads])
  | .op x st r, b, R, h, e, he => by
    have : e = x := by simpa [heads] using he
    rw [this]; exact (okB_op h).mem
  | .alt x st r o, b, R, h, e, he => by
    have := okB_alt h
    rcases List.mem_cons.1 he with he | he
    · rw [he]; exact this.mem
    · exact heads_mem o true R this.other e he
theorem okB_weak {C : Ctx} {full : List Oper} {M : Array Nat} {x : Nat} {st : List Nat} {r o : Od} {R : List Nat} (h : okB C full M false (.alt x st r o) R = true) : okB C full M true (.alt x st r o) R = true := by
  simp only [okB, Bool.and_eq_true] at h ⊢
  obtain ⟨h1, h2, h3, h4, h5, h6⟩ := h
  exact ⟨h1, h2, h3, h4, h5, by simp⟩
/-- what is ready may come first -/
structure Can (full : List Oper) (M : Array Nat) (i : Nat) (b : Bool) (T : Od) (R : List Nat) : Prop where
  mem : i ∈ R
  up : ∀ k, (M.getD i 0).testBit k = true → k ∉ R
  alt : b = true → i ∈ heads T
theorem Can.rest {full : List Oper} {M : Array Nat} {i x : Nat} {st : List Nat} {r : Od} {R : List Nat} (c : Can full M i false (.op x st r) R) (h : x ≠ i) : Can full M i false r (lessR R x) :=
  ⟨mem_lessR.2 ⟨c.mem, fun e => h e.symm⟩, fun k hk hm => c.up k hk (mem_lessR.1 hm).1, fun e => by cases e⟩
theorem Can.other {C : Ctx} {full : List Oper} {M : Array Nat} {i x : Nat} {b : Bool} {st : List Nat} {r o : Od} {R : List Nat} (c : Can full M i b (.alt x st r o) R) (hk : okB C full M b (.alt x st r o) R = true) (h : x ≠ i) : Can full M i true o R := by
  refine ⟨c.mem, c.up, fun _ => ?_⟩
  have hh : i ∈ heads (.alt x st r o) := by
    cases b with
    | true => exact c.alt rfl
    | false =>
      rcases (okB_alt hk).cover rfl i c.mem with h | ⟨e, he, ht⟩
      · exact h
      · exact absurd (heads_mem _ _ _ hk e he) (c.up e ht)
  rcases List.mem_cons.1 hh with hh | hh
  · exact absurd hh.symm h
  · exact hh
theorem Can.eq {full : List Oper} {M : Array Nat} {i x : Nat} {st : List Nat} {r : Od} {R : List Nat} (c : Can full M i true (.op x st r) R) : x = i := by
  have := c.alt rfl
  simp only [heads, List.mem_singleton] at this; exact this.symm
theorem stOf_occ {C : Ctx} {full : List Oper} {M : Array Nat} {i : Nat} : ∀ (T : Od) (b : Bool) (R : List Nat), okB C full M b T R = true → Can full M i b T R → (i, stOf i T) ∈ occ T
  | .nil, b, R, h, c => by
    simp only [okB, List.isEmpty_iff] at h
    have := c.mem; rw [h] at this; exact absurd this (by simp)
  | .op x st r, b, R, h, c => by
    by_cases e : x = i
    · subst e; rw [stOf_op_eq]; exact List.mem_cons_self ..
    · cases b with
      | true => exact absurd c.eq e
      | false => rw [stOf_op_ne e]; exact List.mem_cons_of_mem _ (stOf_occ r false _ (okB_op h).rest (c.rest e))
  | .alt x st r o, b, R, h, c => by
    by_cases e : x = i
    · subst e; rw [stOf_alt_eq]; exact List.mem_cons_self ..
    · rw [stOf_alt_ne e]; exact List.mem_cons_of_mem _ (List.mem_append.2 (.inr (stOf_occ o true R (okB_alt h).other (c.other h e))))
theorem predsFree_less {full : List Oper} {x i : Nat} {R : List Nat} (h : predsFree full x R = true) : predsFree full x (lessR R i) = true := by
  unfold predsFree at h ⊢
  cases ho : full[x]? with
  | none => rw [ho] at h; cases h
  | some o =>
    rw [ho] at h
    refine List.all_eq_true.2 fun p hp => ?_
    have := List.all_eq_true.1 h p hp
    rw [Bool.not_eq_true'] at this ⊢
    cases hc : (lessR R i).contains p with
    | false => rfl
    | true => rw [List.contains_iff_mem.2 (mem_lessR.1 (List.contains_iff_mem.1 hc)).1] at this; cases this
theorem pull_ok {C : Ctx} {full : List Oper} {M : Array Nat} {i : Nat} : ∀ (T : Od) (b : Bool) (R : List Nat), okB C full M b T R = true → Can full M i b T R → okB C full M false (pull i T) (lessR R i) = true
  | .nil, b, R, h, c => by
    simp only [okB, List.isEmpty_iff] at h
    have := c.mem; rw [h] at this; exact absurd this (by simp)
  | .op x st r, b, R, h, c => by
    have k := okB_op h
    by_cases e : x = i
    · subst e; rw [pull_op_eq]; exact k.rest
    · cases b with
      | true => exact absurd c.eq e
      | false =>
        rw [pull_op_ne e]
        simp only [okB, Bool.and_eq_true]
        refine ⟨List.contains_iff_mem.2 (mem_lessR.2 ⟨k.mem, e⟩), predsFree_less k.free, ?_, ?_⟩
        · exact List.all_eq_true.2 fun p hp => k.pair rfl p (occ_pull i r p hp)
        · rw [lessR_comm]; exact pull_ok r false _ k.rest (c.rest e)
  | .alt x st r o, b, R, h, c => by
    by_cases e : x = i
    · subst e; rw [pull_alt_eq]; exact (okB_alt h).rest
    · rw [pull_alt_ne e]; exact pull_ok o true R (okB_alt h).other (c.other h e)
theorem pair_swap {C : Ctx} {full : List Oper} {M : Array Nat} {x i : Nat × List Nat} (h : pairB C full M x i = true) (hno : (M.getD i.1 0).testBit x.1 = false) : Swap C full x i := by
  obtain ⟨ox, oi, g1, g2, g3, g4, g5, g6, g7⟩ := pairB_spec h
  rcases g7 with g7 | ⟨k1, k2, k3, k4⟩
  · rw [hno] at g7; cases g7
  · refine ⟨fun o1 e1 => ?_, fun o1 o2 e1 e2 => ?_, fun o1 o2 e1 e2 hnq hr => ?_⟩
    · rw [g1] at e1; have := Option.some.inj e1; subst this; exact k1
    · rw [g1] at e1; rw [g2] at e2; have := Option.some.inj e1; subst this; have := Option.some.inj e2; subst this; exact ⟨k2, k3, g5⟩
    · rw [g1] at e1; rw [g2] at e2; have := Option.some.inj e1; subst this; have := Option.some.inj e2; subst this
      rcases k4 with k4 | k4 | k4
      · rw [hnq] at k4; cases k4
      · rw [hr] at k4; cases k4
      · exact k4
theorem Can.no {full : List Oper} {M : Array Nat} {i x : Nat} {b : Bool} {T : Od} {R : List Nat} (c : Can full M i b T R) (h : x ∈ R) : (M.getD i 0).testBit x = false := by
  cases e : (M.getD i 0).testBit x with
  | false => rfl
  | true => exact absurd h (c.up x e)
/-- the operation i leaves what the rest leans on -/
theorem pull_behind {C : Ctx} {full : List Oper} {M : Array Nat} {i : Nat} {o : Oper} (ho : full[i]? = some o) (hr : isReadOp C o.op = true) : ∀ (T : Od) (b : Bool) (R : List Nat), okB C full M b T R = true → Can full M i b T R →
    ∀ y ∈ occ (pull i T), ∀ oy, full[y.1]? = some oy → dstLooks full oy o = false ∧ sameDst oy o = false
  | .nil, b, R, h, c, y, hy, oy, hoy => absurd hy (by simp [pull, occ])
  | .op x st r, b, R, h, c, y, hy, oy, hoy => by
    have k := okB_op h
    by_cases e : x = i
    · subst e
      rw [pull_op_eq] at hy
      cases b with
      | true =>
        have := k.alt rfl
        unfold notRead at this
        rw [ho] at this
        simp [hr] at this
      | false => exact pair_behind (k.pair rfl y hy) o oy ho hoy hr
    · cases b with
      | true => exact absurd c.eq e
      | false =>
        rw [pull_op_ne e] at hy
        rcases List.mem_cons.1 hy with hy | hy
        · subst hy
          have hm := stOf_occ r false _ k.rest (c.rest e)
          have sw := pair_swap (k.pair rfl _ hm) (c.no k.mem)
          obtain ⟨k1, _, k3⟩ := sw.a oy o hoy ho
          exact ⟨k1, k3⟩
        · exact pull_behind ho hr r false _ k.rest (c.rest e) y hy oy hoy
  | .alt x st r o', b, R, h, c, y, hy, oy, hoy => by
    by_cases e : x = i
    · subst e
      have := (okB_alt h).quiet
      unfold notRead at this
      rw [ho] at this
      simp [hr] at this
    · rw [pull_alt_ne e] at hy
      exact pull_behind ho hr o' true R (okB_alt h).other (c.other h e) y hy oy hoy
theorem Apart.sub {C : Ctx} {full : List Oper} {D : Nat → Bool} {L L' : List (Nat × List Nat)} (h : Apart C full D L) (hs : ∀ y ∈ L', y ∈ L) : Apart C full D L' :=
  fun j oj hD hoj hr x hx ox hox => h j oj hD hoj hr x (hs x hx) ox hox
theorem front_tree {C : Ctx} {full : List Oper} {n : Nat} {M : Array Nat} (hdst : ∀ o ∈ full, dstOk n o = true) (hsel : ∀ o ∈ full, noSel o = true) (hself : ∀ o ∈ full, isReadOp C o.op = true → dstLooks full o o = false ∧ o.dst.isNone = false) (i : Nat) (N : Act → World → Prop) :
    ∀ (T : Od) (b : Bool) (R : List Nat) (D : Nat → Bool) (a : Act) (w : World), okB C full M b T R = true → Can full M i b T R → (∀ x ∈ occ T, ∀ j ∈ x.2, ∀ oj, full[j]? = some oj → isReadOp C oj.op = true) →
      a.tmps.size = n → Apart C full D (occ T) → SW C full T D N a w → Front C full i (stOf i T) D (fun a w => SW C full (pull i T) (addD D i) N a w) a w
  | .nil, b, R, D, a, w, h, c, _, _, _, _ => by
    simp only [okB, List.isEmpty_iff] at h
    have := c.mem; rw [h] at this; exact absurd this (by simp)
  | .op x st r, b, R, D, a, w, h, c, hst, hsz, hap, hs => by
    have k := okB_op h
    by_cases e : x = i
    · subst e; rw [pull_op_eq, stOf_op_eq]; exact hs
    · cases b with
      | true => exact absurd c.eq e
      | false =>
        rw [pull_op_ne e, stOf_op_ne e]
        have hm := stOf_occ r false _ k.rest (c.rest e)
        have sw := pair_swap (k.pair rfl _ hm) (c.no k.mem)
        refine front_swap hdst hsel hself i (stOf i r) (hst _ (List.mem_cons_of_mem _ hm)) (x := (x, st)) sw (hap.sub fun y hy => by rw [List.mem_singleton.1 hy]; exact List.mem_cons_self ..)
          (A := fun a w => SW C full r (addD D x) N a w) (B := fun D a w => SW C full (pull i r) D N a w) hsz (fun v hv => ?_) hs
        obtain ⟨ox, hox, hv⟩ := hv
        refine ⟨ox, hox, ?_⟩
        refine front_tree hdst hsel hself i N r false _ (addD D x) _ w k.rest (c.rest e) (fun y hy => hst y (List.mem_cons_of_mem _ hy)) (by rw [size_put]; exact hsz) ?_ hv
        intro j oj hD hoj hr y hy oy hoy
        simp only [addD, Bool.or_eq_true] at hD
        rcases hD with hD | hD
        · have e := Nat.eq_of_beq_eq_true hD
          subst e
          exact pair_behind (k.pair rfl y hy) oj oy hoj hoy hr
        · exact hap j oj hD hoj hr y (List.mem_cons_of_mem _ hy) oy hoy
  | .alt x st r o, b, R, D, a, w, h, c, hst, hsz, hap, hs => by
    by_cases e : x = i
    · subst e; rw [pull_alt_eq, stOf_alt_eq]; exact hs.1
    · rw [pull_alt_ne e, stOf_alt_ne e]
      exact front_tree hdst hsel hself i N o true R D a w (okB_alt h).other (c.other h e) (fun y hy => hst y (List.mem_cons_of_mem _ (List.mem_append.2 (.inr hy)))) hsz
        (hap.sub fun y hy => List.mem_cons_of_mem _ (List.mem_append.2 (.inr hy))) hs.2

/-- what the check of an order gives -/
structure Plan (C : Ctx) (full : List Oper) (L : Od) : Prop where
  sel : ∀ o ∈ full, noSel o = true
  back : ∀ i o, full[i]? = some o → ∀ p ∈ predsOf o, p < i
  self : ∀ o ∈ full, isReadOp C o.op = true → dstLooks full o o = false ∧ o.dst.isNone = false
  st : ∀ x ∈ occ L, ∀ j ∈ x.2, ∀ oj, full[j]? = some oj → isReadOp C oj.op = true
  ok : okB C full (masks full #[]) false L (List.range full.length) = true
theorem planB_plan {C : Ctx} {full : List Oper} {L : Od} (h : planB C full L = true) : Plan C full L := by
  simp only [planB, Bool.and_eq_true] at h
  obtain ⟨h1, h2, h3, h5, h6⟩ := h
  refine ⟨List.all_eq_true.1 h1, ?_, ?_, ?_, h6⟩
  · intro i o ho p hp
    have hm : (o, i) ∈ full.zipIdx := by
      rw [List.mem_iff_getElem?]
      exact ⟨i, by simp [List.getElem?_zipIdx, ho]⟩
    have := List.all_eq_true.1 (List.all_eq_true.1 h2 _ hm) p hp
    exact Nat.le_of_ble_eq_true this
  · intro o ho hr
    have := List.all_eq_true.1 h3 o ho
    rw [hr] at this
    simpa using this
  · intro x hx j hj oj hoj
    have := List.all_eq_true.1 h5 x hx
    simp only [Bool.and_eq_true] at this
    have := List.all_eq_true.1 this.2 j hj
    rw [hoj] at this
    exact this
theorem sw_any {C : Ctx} {ro : Option Nat} {full : List Oper} {n : Nat} (hnd : ∀ o ∈ full, isDefer o.op = false) (hdst : ∀ o ∈ full, dstOk n o = true) {L0 : Od} (hp : Plan C full L0) {Q : Exit → Act → World → Prop} {N : Act → World → Prop} (hN : ∀ a w, N a w → Q .normal a w) :
    ∀ (fuel : Nat) (listed : Array Bool) (T : Od) (R : List Nat) (D : Nat → Bool) (a : Act) (w : World), listed.size = full.length → okB C full (masks full #[]) false T R = true → (∀ y ∈ occ T, y ∈ occ L0) →
      (∀ i, i < full.length → (listed.getD i true = false ↔ i ∈ R)) → (∀ i ∈ R, i < full.length) → (∀ i o, full[i]? = some o → listed.getD i false = true → ∀ p ∈ predsOf o, listed.getD p false = true) →
      Apart C full D (occ T) → a.tmps.size = n → R.length ≤ fuel → SW C full T D N a w → wpAnyIn (FW ro) 0 C.P .any full.toArray Q fuel listed a w := by
  have pm : ∀ (o : Oper) (e : Edge), e ∈ o.after → Region.binds .any e = true → e.on ∈ predsOf o := fun o e he hb =>
    List.mem_map.2 ⟨e, List.mem_filter.2 ⟨by simpa using he, hb⟩, rfl⟩
  have mp : ∀ (o : Oper) (p : Nat), p ∈ predsOf o → ∃ e ∈ o.after, Region.binds .any e = true ∧ e.on = p := fun o p h => by
    obtain ⟨e, he, rfl⟩ := List.mem_map.1 h
    obtain ⟨h1, h2⟩ := List.mem_filter.1 he
    exact ⟨e, by simpa using h1, h2, rfl⟩
  have flip : ∀ (listed : Array Bool) (i : Nat), listed.size = full.length → i < full.length → listed.getD i true = listed.getD i false := by
    intro listed i hs hi
    have hlt : i < listed.size := by omega
    rw [Array.getD_eq_getD_getElem?, Array.getD_eq_getD_getElem?, Array.getElem?_eq_getElem hlt]
    rfl
  -- where nothing is ready, nothing is left
  have none_left : ∀ (listed : Array Bool) (T : Od) (R : List Nat), listed.size = full.length → okB C full (masks full #[]) false T R = true → (∀ i, i < full.length → (listed.getD i true = false ↔ i ∈ R)) → (∀ i ∈ R, i < full.length) →
      Region.ready .any full.toArray listed = [] → T = .nil := by
    intro listed T R hs hok hiff hlt0 hr
    have go : ∀ x, x ∈ R → predsFree full x R = true → False := by
      intro x hxm hfree
      have hlt := hlt0 x hxm
      have hox : full[x]? = some full[x] := List.getElem?_eq_getElem hlt
      have hmem : x ∈ Region.ready .any full.toArray listed := by
        refine mem_ready.2 ⟨(hiff x hlt).2 hxm, full[x], by simp, fun e he hb => ?_⟩
        have hpm := pm _ e he hb
        have hplt := hp.back _ _ hox _ hpm
        cases hl : listed.getD e.on false with
        | true => rfl
        | false =>
          exfalso
          rw [← flip listed e.on hs (by omega)] at hl
          have hin := (hiff e.on (by omega)).1 hl
          unfold predsFree at hfree
          rw [hox] at hfree
          have := List.all_eq_true.1 hfree e.on hpm
          rw [List.contains_iff_mem.2 hin] at this; cases this
      rw [hr] at hmem
      exact absurd hmem (by simp)
    cases T with
    | nil => rfl
    | op x st r => exact (go x (okB_op hok).mem (okB_op hok).free).elim
    | alt x st r o => exact (go x (okB_alt hok).mem (okB_alt hok).free).elim
  intro fuel
  induction fuel with
  | zero =>
    intro listed T R D a w hs hok hsub hiff hlt0 hcl hap hsz hlen h
    have hL : R = [] := List.eq_nil_of_length_eq_zero (by omega)
    subst hL
    have hT : T = .nil := by
      cases T with
      | nil => rfl
      | op x st r => exact absurd (okB_op hok).mem (by simp)
      | alt x st r o => exact absurd (okB_alt hok).mem (by simp)
    subst hT
    refine ⟨?_, hN _ _ h⟩
    cases hr : Region.ready .any full.toArray listed with
    | nil => rfl
    | cons j r =>
      exfalso
      have hj : j ∈ Region.ready .any full.toArray listed := by rw [hr]; simp
      obtain ⟨h1, o, h2, _⟩ := mem_ready.1 hj
      have hlt : j < full.length := by
        have := (Array.getElem?_eq_some_iff.1 h2).1
        simpa using this
      exact absurd ((hiff j hlt).1 h1) (by simp)
  | succ fuel ih =>
    intro listed T R D a w hs hok hsub hiff hlt0 hcl hap hsz hlen h
    refine ⟨fun hr => ?_, fun i hi => ?_⟩
    · have := none_left listed T R hs hok hiff hlt0 hr
      subst this
      exact hN _ _ h
    · obtain ⟨h1, o, h2, h3⟩ := mem_ready.1 hi
      have ho : full[i]? = some o := by simpa using h2
      have hlt : i < full.length := (List.getElem?_eq_some_iff.1 ho).1
      have hiR := (hiff i hlt).1 h1
      have hpreds : ∀ p ∈ predsOf o, listed.getD p false = true := fun p hp' => by
        obtain ⟨e, he, hb, rfl⟩ := mp o p hp'
        exact h3 e he hb
      have hreach := reach_listed hp.back (listed := fun k => listed.getD k false) hcl i o ho hpreds
      have can : Can full (masks full #[]) i false T R := by
        refine ⟨hiR, fun k hk hm => ?_, fun e => by cases e⟩
        have h4 := hreach k hk
        have h4 : listed.getD k false = true := h4
        rw [← flip listed k hs (hlt0 k hm), (hiff k (hlt0 k hm)).2 hm] at h4
        cases h4
      obtain ⟨o', ho', hf⟩ := front_tree hdst hp.sel hp.self i N T false R D a w hok can (fun x hx => hp.st x (hsub x hx)) hsz hap h
      rw [ho] at ho'
      have := Option.some.inj ho'
      subst this
      have next : ∀ (v : Value) (w' : World), SW C full (pull i T) (addD D i) N (a.put o.dst v) w' → wpAnyIn (FW ro) 0 C.P .any full.toArray Q fuel (listed.setIfInBounds i true) (a.put o.dst v) w' := by
        intro v w' hsw
        refine ih _ _ (lessR R i) _ _ _ (by simpa using hs) (pull_ok T false R hok can) (fun y hy => hsub y (occ_pull i T y hy)) ?_ (fun j hj => hlt0 j (mem_lessR.1 hj).1) ?_ ?_ (by rw [size_put]; exact hsz) (by have := lessR_length hiR; omega) hsw
        · intro j hj
          by_cases e : i = j
          · subst e
            constructor
            · intro hh
              have : (listed.setIfInBounds i true).getD i true = true := by
                rw [Array.getD_eq_getD_getElem?]
                simp [show i < listed.size by omega]
              rw [this] at hh; cases hh
            · intro hh; exact absurd rfl (mem_lessR.1 hh).2
          · rw [getD_set_ne true e, hiff j hj, mem_lessR]
            exact ⟨fun hh => ⟨hh, fun e' => e e'.symm⟩, fun hh => hh.1⟩
        · intro j oj hoj hl p hp'
          by_cases e : i = j
          · subst e
            rw [ho] at hoj
            have := Option.some.inj hoj
            subst this
            exact getD_set_true (hpreds p hp')
          · rw [getD_set_ne false e] at hl
            exact getD_set_true (hcl j oj hoj hl p hp')
        · intro j oj hD hoj hr x hx' ox hox
          simp only [addD, Bool.or_eq_true] at hD
          rcases hD with hD | hD
          · have e := Nat.eq_of_beq_eq_true hD
            subst e
            exact pull_behind hoj hr T false R hok can x hx' ox hox
          · exact hap j oj hD hoj hr x (occ_pull i T x hx') ox hox
      have hd : ro = none ∨ isDefer o.op = false := .inr (hnd o (List.mem_of_getElem? ho))
      unfold wpOpIn
      simp only [h2]
      split
      · rename_i hw
        have hw' : wantB full a o = true := hw
        rw [hw', if_pos rfl] at hf
        cases hq : isQ C o.op with
        | true =>
          rw [hq, if_pos rfl] at hf
          obtain ⟨v, r1, _, r3⟩ := hf
          exact wpIn_of_OpTo hd (k := fun u w' => u = v ∧ w' = w) (.inl ⟨v, w, r1, rfl, rfl⟩) fun u w' ⟨e1, e2⟩ => by subst e1; subst e2; exact next _ _ r3
        | false =>
          rw [hq, if_neg (by simp)] at hf
          exact wpIn_of_OpTo hd hf fun u w' ⟨_, hk⟩ => next _ _ hk
      · rename_i hw
        have hw' : wantB full a o = false := by simpa [wantB] using hw
        rw [hw', if_neg (by simp)] at hf
        exact ⟨fun _ _ => trivial, next _ _ hf⟩
end Go.Proofs.Ytnbfaokpaiiojaa.Wx
namespace Go.Proofs.Ytnbfaokpaiiojaa.Wx
open Go

theorem stills_elim {C : Ctx} {full : List Oper} {n : Nat} {a : Act} {f : Fr} (hA : Agr n a f) {h : Heap} {K : Prop} : ∀ {js : List Nat}, stills C full f h js K →
    (∀ j ∈ js, ∀ oj, full[j]? = some oj → wantB full a oj = true → stillX C f h oj) ∧ K
  | [], hk => ⟨fun j hj => absurd hj (by simp), hk⟩
  | j :: r, hk => by
    obtain ⟨o, ho, h1⟩ := onSome_elim (show onSome (full[j]?) _ from hk)
    have h2 := wantX_elim hA h1
    cases hw : wantB full a o with
    | true =>
      rw [show Region.wanted o (yielded full.toArray a.tmps) = true from hw] at h2
      obtain ⟨h3, h4⟩ := h2
      obtain ⟨i1, i2⟩ := stills_elim hA h4
      refine ⟨fun k hk oj hoj hwj => ?_, i2⟩
      rcases List.mem_cons.1 hk with rfl | hk
      · rw [ho] at hoj; have := Option.some.inj hoj; subst this; exact h3
      · exact i1 k hk oj hoj hwj
    | false =>
      rw [show Region.wanted o (yielded full.toArray a.tmps) = false from hw] at h2
      obtain ⟨i1, i2⟩ := stills_elim hA (show stills C full f h r K from h2)
      refine ⟨fun k hk oj hoj hwj => ?_, i2⟩
      rcases List.mem_cons.1 hk with rfl | hk
      · rw [ho] at hoj; have := Option.some.inj hoj; subst this; rw [hw] at hwj; cases hwj
      · exact i1 k hk oj hoj hwj
theorem mkStr_toList (s : ByteArray) : mkStr s.toList = s := by
  rw [ByteArray.toList_eq]; rfl
theorem still_run {C : Ctx} (hC : CtxOk C) {n : Nat} {a : Act} {f : Fr} (hA : Agr n a f) {o : Oper} {w : World} (h : stillX C f w.heap o) : RunsAt C.P a o w (dstV a o) := by
  unfold stillX at h
  cases hd : o.dst with
  | none => rw [hd] at h; exact h.elim
  | some d =>
    rw [hd] at h
    obtain ⟨v, hv, h1⟩ := onSome_elim h
    have hdv : dstV a o = v := by unfold dstV; rw [hd]; exact hA.val d v hv
    rw [hdv]
    unfold RunsAt
    cases ho : o.op with
    | load t x =>
      rw [ho] at h1
      obtain ⟨p, hp, h2⟩ := ptr_elim hA.fit h1
      obtain ⟨hx, h3⟩ := hC.okX h2
      obtain ⟨i, ds, z, hi, hu, hdx, hsz, _, _, _⟩ := hx.get
      have hag := run_isAgg_ok hu w
      have he : execOp a.eval o = (do Pure.pure (.value (← Instr.loadAt t (a.eval x)))) := by simp only [execOp, ho]
      rw [he, hp]
      have key : (loadVar t p).run C.P w = .ok v w := by
        unfold loadVar
        cases hq : isAggD (descSum ds) with
        | true =>
          rw [hq] at hag
          have hty : (C.ti t).d.ty = .agg := by rw [← hdx]; revert hq; cases descSum ds <;> simp [isAggD, D.ty]
          rw [hty] at h3
          obtain ⟨cs, rfl, hl, hc⟩ := onAgg_elim h3
          have hlo := run_loadCells_list (P := C.P) w p cs (fun j v hv => hc j v hv)
          simp only [Sem.run_bind, hag, Result.andThen_ok, if_true, run_sizeOf_ok hi, hsz, ← hl, hlo, Sem.run_pure]
        | false =>
          rw [hq] at hag
          have hty : (C.ti t).d.ty ≠ .agg := by rw [← hdx]; revert hq; cases descSum ds <;> simp [isAggD, D.ty]
          have h4 : cellOf w.heap p = some v := by
            cases hq2 : (C.ti t).d.ty <;> rw [hq2] at h3 hty <;> first | exact h3 | exact (hty rfl).elim
          simp [Sem.run_bind, hag, cell_eq, h4]
      simp only [Instr.loadAt, Instr.sureAddr, Sem.run_bind, Sem.run_pure, Result.andThen_ok, key]
    | convert s t x =>
      rw [ho] at h1
      simp only at h1
      have hs : (C.ti s).d ≠ .other := by intro e; rw [e] at h1; exact h1.elim
      have ht : (C.ti t).d ≠ .other := by intro e; rw [e] at h1; split at h1 <;> first | exact h1.elim | simp at *
      obtain ⟨_, dss, _, _, hus, hds, _⟩ := (hC.okD hs).get
      obtain ⟨_, dt, _, _, hut, hdt, _⟩ := (hC.okD ht).get
      rw [← hds, ← hdt] at h1
      cases dss <;> cases dt <;> try exact h1.elim
      rename_i e
      simp only [descSum] at h1
      cases hb : isU8 (C.ti e).d with
      | false => rw [hb] at h1; exact h1.elim
      | true =>
        rw [hb] at h1
        obtain ⟨al, l, c, hx, h2⟩ := onSlice_elim (onV_elim hA.fit (show onV f x _ from h1))
        obtain ⟨b, hvb, hst⟩ := onStr_elim h2
        have he : (C.ti e).d ≠ .other := by intro e'; rw [e'] at hb; simp [isU8] at hb
        obtain ⟨_, de, _, _, hue, hde, _⟩ := (hC.okD he).get
        rw [← hde] at hb
        have hue' : C.P.underlying e = some (.int .u8) := by
          cases de <;> simp [descSum, isU8] at hb
          rename_i kd
          cases kd <;> simp at hb
          exact hue
        have hr : (convert s t (.slice al l c)).run C.P w = .ok v w := by
          rw [run_convert_bytes_string w s t e al l c hus hue' hut, bytesStr_to hst, mkStr_toList, hvb]
        have he2 : execOp a.eval o = (do Pure.pure (.value (← convert s t (a.eval x)))) := by simp only [execOp, ho]
        rw [he2, hx, Sem.run_bind, hr]
        rfl
    | _ => rw [ho] at h1; exact h1.elim

theorem early_one {C : Ctx} (hC : CtxOk C) {full : List Oper} {n : Nat} (hdst : ∀ o ∈ full, dstOk n o = true) {w0 : World} {a0 : Act} {i : Nat} {st : List Nat} {D : Nat → Bool} {K : Fr → Heap → Prop} {A : Act → World → Prop} {f : Fr} {a : Act} {w : World}
    (h : doX C full i st K f w.heap) (hA : Agr n a f) (hR : SameRest w0 w) (hM : Keeps (dstsOf full) a0 a)
    (hK : ∀ f a w, K f w.heap → Agr n a f → SameRest w0 w → Keeps (dstsOf full) a0 a → A a w) : Front C full i st D A a w := by
    obtain ⟨o, ho, h1⟩ := onSome_elim (show onSome (full[i]?) _ from h)
    have hmem := List.mem_of_getElem? ho
    have hd := hdst o hmem
    have hmo : ∀ d, o.dst = some d → d ∈ dstsOf full := fun d hd => mem_dstsOf hmem hd
    have h2 := wantX_elim hA h1
    refine ⟨o, ho, ?_⟩
    cases hw : wantB full a o with
    | false =>
      rw [show Region.wanted o (yielded full.toArray a.tmps) = false from hw] at h2
      rw [if_neg (by simp)]
      exact hK _ _ _ h2 (hA.put hd undef) hR (hM.put hmo undef)
    | true =>
      rw [show Region.wanted o (yielded full.toArray a.tmps) = true from hw] at h2
      rw [if_pos rfl]
      have h2 : stepX C f o.op o.type (fun v h' => stills C full f h' st (splitX (guards full o) v fun v => K (putD f o.dst v) h')) w.heap := h2
      cases hq : isQ C o.op with
      | true =>
        rw [if_pos rfl]
        obtain ⟨v, r1, r2, r3⟩ := stepQ_to hC hA.fit o hq h2
        exact ⟨v, r1, r3, hK _ _ _ (splitX_elim (stills_elim hA r2).2) (hA.put hd v) hR (hM.put hmo v)⟩
      | false =>
        rw [if_neg (by simp)]
        refine (stepX_to hC hA.fit o h2).mono fun v w' ⟨hr, hk⟩ => ?_
        obtain ⟨k1, k2⟩ := stills_elim hA hk
        exact ⟨fun j hj _ oj hoj hwj => still_run hC hA (k1 j hj oj hoj hwj), hK _ _ _ (splitX_elim k2) (hA.put hd v) (hR.trans hr) (hM.put hmo v)⟩
theorem early_sw {C : Ctx} (hC : CtxOk C) {full : List Oper} {n : Nat} (hdst : ∀ o ∈ full, dstOk n o = true) {w0 : World} {a0 : Act} {N : Fr → Heap → Prop} :
    ∀ (L : Od) (D : Nat → Bool) (f : Fr) (a : Act) (w : World), earlyX C full L N f w.heap → Agr n a f → SameRest w0 w → Keeps (dstsOf full) a0 a →
      SW C full L D (fun a w => ∃ f, N f w.heap ∧ Agr n a f ∧ SameRest w0 w ∧ Keeps (dstsOf full) a0 a) a w
  | .nil, D, f, a, w, h, hA, hR, hM => ⟨f, h, hA, hR, hM⟩
  | .op i st r, D, f, a, w, h, hA, hR, hM => early_one hC hdst h hA hR hM fun f a w h hA hR hM => early_sw hC hdst r _ f a w h hA hR hM
  | .alt i st r o, D, f, a, w, h, hA, hR, hM => ⟨early_one hC hdst h.1 hA hR hM fun f a w h hA hR hM => early_sw hC hdst r _ f a w h hA hR hM, early_sw hC hdst o D f a w h.2 hA hR hM⟩

theorem drawnLaw {C : Ctx} (hC : CtxOk C) (n : Nat) : DrawnLaw C n fun id full => planB C full (C.orders id) := by
  intro ro id ops N R f a w0 w hplan hdst hnd h hA hR hN
  have hp := planB_plan hplan
  refine wpIn_region_any hC.mixed ?_
  have hw : SameRest w0 { w with drawn := w.drawn + 1 } := ⟨hR.1, hR.2.1, hR.2.2⟩
  have hsw := early_sw hC (full := ops.toList) hdst (w0 := w0) (a0 := a) (N := N) (C.orders id) (fun _ => false) f a { w with drawn := w.drawn + 1 } h hA hw (.refl _ _)
  have hlen : (Array.replicate ops.size false).size = ops.toList.length := by simp
  have := sw_any (ro := ro) (n := n) hnd hdst hp (Q := R) (fun a w ⟨f, h1, h2, h3, h4⟩ => hN f a w h1 h2 h3 h4) ops.size (Array.replicate ops.size false) (C.orders id) (List.range ops.toList.length) (fun _ => false) a { w with drawn := w.drawn + 1 } hlen hp.ok (fun _ h => h)
    (fun i hi => by
      have hi' : i < ops.size := by simpa using hi
      constructor
      · exact fun _ => List.mem_range.2 hi
      · exact fun _ => by rw [Array.getD_eq_getD_getElem?]; simp [hi'])
    (fun i hi => List.mem_range.1 hi)
    (fun i o ho hl => by
      exfalso
      rw [Array.getD_eq_getD_getElem?] at hl
      by_cases hi : i < ops.size <;> simp [hi] at hl)
    (fun j oj hD => by cases hD) hA.size ?_ hsw
  · simpa using this
  · simp

/-! Functions. -/
theorem argsF_dfs : ∀ (l : List Value) (i : Nat), i + l.length ≤ dKey → dfs (argsF l i) = []
  | [], _, _ => rfl
  | x :: r, i, h => by
    rw [List.length_cons] at h
    rw [argsF, dfs_cons _ _ _ (Nat.ne_of_lt (Nat.lt_of_lt_of_le (by omega) h)), argsF_dfs r (i + 1) (by omega)]
theorem argsF_get : ∀ (l : List Value) (i t : Nat) (v : Value), i + l.length ≤ dKey → Fr.get (argsF l i) t = some v → i ≤ t ∧ l[t - i]? = some v
  | [], _, t, _, _, h => by rw [show argsF [] _ = [] from rfl, Fr.get_nil] at h; cases h
  | x :: r, i, t, v, hlim, h => by
    rw [List.length_cons] at hlim
    rw [argsF, Fr.get_cons _ _ _ _ (Nat.ne_of_lt (Nat.lt_of_lt_of_le (by omega) hlim))] at h
    by_cases e : i = t
    · subst e; rw [if_pos rfl] at h; exact ⟨Nat.le_refl _, by simpa using h⟩
    · rw [if_neg e] at h
      obtain ⟨h1, h2⟩ := argsF_get r (i + 1) t v (by omega) h
      refine ⟨by omega, ?_⟩
      rw [show t - i = (t - (i + 1)) + 1 by omega]
      simpa using h2
def resSem (a : Act) : ResultVar → Sem Value
  | .tmp t => Pure.pure (a.tmps.getD t undef)
  | .cell s t => do loadVar t (← asAddr (a.tmps.getD s undef))
theorem resX_to {C : Ctx} (hC : CtxOk C) {n : Nat} {a : Act} {f : Fr} (hA : Agr n a f) {w : World} : ∀ (rs : List ResultVar) (acc : List Value) (k : List Value → Prop), resX C rs f w.heap acc k →
    ∃ vs, (rs.mapM (resSem a)).run C.P w = .ok vs w ∧ k (acc ++ vs)
  | [], acc, k, h => ⟨[], rfl, by simpa [resX] using h⟩
  | .tmp t :: r, acc, k, h => by
    obtain ⟨v, hv, h1⟩ := onSome_elim (show onSome (Fr.get f t) _ from h)
    obtain ⟨vs, h2, h3⟩ := resX_to hC hA r _ k h1
    refine ⟨v :: vs, ?_, by simpa using h3⟩
    rw [List.mapM_cons]
    simp only [resSem, Sem.run_bind, Sem.run_pure, Result.andThen_ok, hA.val t v hv, h2]
  | .cell s t :: r, acc, k, h => by
    obtain ⟨v, hv, h1⟩ := onSome_elim (show onSome (Fr.get f s) _ from h)
    obtain ⟨q, hq, h2⟩ := onPtr_elim h1
    obtain ⟨p, hp, h3⟩ := onSome_elim h2
    obtain ⟨hx, h4⟩ := hC.okX h3
    obtain ⟨u, hr, h5⟩ := loadVar_to hx h4
    obtain ⟨vs, h6, h7⟩ := resX_to hC hA r _ k h5
    refine ⟨u :: vs, ?_, by simpa using h7⟩
    have hval := hA.val s v hv
    rw [List.mapM_cons]
    simp only [resSem, Sem.run_bind, Sem.run_pure, Result.andThen_ok, hval, hq, hp, asAddr, hr, h6]
def fnOk (C : Ctx) (fn : Func) (c : Code) (nargs : Nat) : Bool :=
  codeOk C fn.ntmps (fun id full => planB C full (C.orders id)) c && Nat.ble nargs fn.ntmps && !(fn.name == "runtime.NumGoroutine") && Nat.ble fn.ntmps dKey
theorem args_agr {m : Nat} {args : List Value} (hle : args.length ≤ m) (hlim : m ≤ dKey) : Agr m { tmps := ⟨args⟩ ++ Array.replicate (m - (⟨args⟩ : Array Value).size) undef, defers := [] } (argsF args 0) := by
  refine ⟨hlim, by simp; omega, by rw [argsF_dfs _ _ (by omega)]; rfl, fun t v hv => ?_⟩
  obtain ⟨_, h5⟩ := argsF_get args 0 t v (by omega) hv
  simp only [Nat.sub_zero] at h5
  have hlt := (List.getElem?_eq_some_iff.1 h5).1
  rw [Array.getD_eq_getD_getElem?, Array.getElem?_append_left (by simpa using hlt)]
  simp [h5]
theorem results_to {C : Ctx} (hC : CtxOk C) {n : Nat} {fn : Func} {a : Act} {f : Fr} (hA : Agr n a f) {w : World} {k : Value → Prop} (h : resX C fn.results.toList f w.heap [] fun vs => k (retV vs)) : ∃ v, (results fn a.tmps).run C.P w = .ok v w ∧ k v := by
  obtain ⟨vs, g1, g2⟩ := resX_to hC hA _ _ _ h
  refine ⟨retV vs, ?_, by simpa using g2⟩
  have hres : results fn a.tmps = (do let vs ← fn.results.mapM (resSem a); Pure.pure (if h : vs.size = 1 then vs[0] else .tuple vs)) := by
    unfold results
    congr 2
  rw [hres, Sem.run_bind, Array.mapM_eq_mapM_toList, Sem.run_map, g1]
  simp only [Result.andThen_ok, Sem.run_pure]
  congr 1
  cases vs with
  | nil => rfl
  | cons v r => cases r <;> rfl
theorem leavesIn_mono {F : Fence} {n : Nat} {P : Program} {fn : Func} {tmps : Array Value} {R R' : Ending → World → Prop} {u : FrameMode} {w : World} (h : LeavesIn F n P fn tmps R [] u w) (hR : ∀ e w, R e w → R' e w) : LeavesIn F n P fn tmps R' [] u w := by
  cases u with
  | run => exact h.elim
  | returning => obtain ⟨v, h1, h2⟩ := h; exact ⟨v, h1, hR _ _ h2⟩
  | panicking c => exact hR _ _ h
theorem leavesInM_mono {F : Fence} {n : Nat} {P : Program} {fn : Func} {tmps : Array Value} {R R' : Ending → World → Prop} : ∀ {ds : List Deferred} {u : FrameMode} {w : World}, LeavesInM F n P fn tmps R ds u w → (∀ e w, R e w → R' e w) → LeavesInM F n P fn tmps R' ds u w
  | [], _, _, h, hR => leavesIn_mono h hR
  | d :: ds, u, w, h, hR => by
    obtain ⟨h1, h2⟩ := h
    refine ⟨h1, h2.imp (fun ⟨r, w', a, b, c⟩ => ⟨r, w', a, b, leavesInM_mono c hR⟩) fun ⟨a, fv, cap, f, args, b, c, d, e⟩ => ⟨a, fv, cap, f, args, b, c, d, e.mono fun x u' w' hx => ?_⟩⟩
    cases x with
    | returned v => exact leavesInM_mono hx hR
    | panicked chain => exact leavesInM_mono hx hR
    | outgrown => exact hR _ _ hx
/-- the deferred calls are made, then the results are read -/
theorem leaveX_to {C : Ctx} (hC : CtxOk C) {n : Nat} {fn : Func} {a : Act} {f : Fr} (hA : Agr n a f) {w0 : World} {k : Value → Heap → Prop} : ∀ (ds : List Value) (w : World), leaveX C fn.results.toList f k ds w.heap → SameRest w0 w →
    LeavesInM Fence.wide 0 C.P fn a.tmps (fun e w' => ∃ u, e = .returned u ∧ SameRest w0 w' ∧ k u w'.heap) (ds.map toD) .returning w
  | [], w, h, hR => by
    obtain ⟨v, h1, h2⟩ := results_to hC hA (k := fun v => k v w.heap) h
    exact ⟨v, h1, v, rfl, hR, h2⟩
  | d :: ds, w, h, hR => by
    unfold leaveX at h
    split at h
    · rename_i e; cases e
    · rename_i a' ds' e
      cases e
      exact ⟨(fun x => by cases x), .inl ⟨_, _, rfl, run_takeDeferred h.1, leaveX_to hC hA ds _ h.2 ⟨hR.1, hR.2.1, hR.2.2⟩⟩⟩
    · rename_i v us ds' e
      cases e
      unfold DCallsV at h
      split at h
      · rename_i g fs cs
        obtain ⟨⟨fn', hf', hn', hb'⟩, hc⟩ := h
        refine ⟨(fun x => by cases x), .inr ⟨(fun x => by cases x), .func g, cs, g, ⟨fs.toList ++ us ++ cs.toList⟩, rfl, ?_, fun _ _ => trivial, ?_⟩⟩
        · show (callFunc g _).run C.P w = _
          simp only [callFunc, Sem.run_bind, run_program, Result.andThen_ok, hf', hn', hb', Bool.false_eq_true, if_false, Sem.run_pure]
          congr 2
          apply Array.ext'
          simp [toD]
        · refine (hc w rfl).mono fun e u w' ⟨hu, ⟨v, he⟩, hsr, hk⟩ => ?_
          subst hu
          subst he
          exact leaveX_to hC hA ds w' hk (hR.trans hsr)
      · exact h.elim
    · exact h.elim
theorem fn_to {C : Ctx} (hC : CtxOk C) {g : Nat} {fn : Func} (hf : C.P.funcs[g]? = some fn) {c : Code} (hb : fn.body = some c) {args : List Value} (hok : fnOk C fn c args.length = true) {k : Value → Heap → Prop} {h : Heap}
    (hx : fnX C fn c args k h) : HCalls C.P g args h k := by
  simp only [fnOk, Bool.and_eq_true, Bool.not_eq_true'] at hok
  obtain ⟨⟨⟨h1, h2⟩, h3⟩, h4⟩ := hok
  have hle := Nat.le_of_ble_eq_true h2
  refine ⟨⟨fn, hf, h3, by rw [hb]; rfl⟩, fun w hw => ?_⟩
  subst hw
  refine (callsIn_wide (n := 0)).1 (callsIn_of_wp_marks hf hb trivial ?_)
  have leave : ∀ (f : Fr) (a : Act) (w' : World), leaveX C fn.results.toList f k (dfs f) w'.heap → Agr fn.ntmps a f → SameRest w w' → LeavesInM Fence.wide 0 C.P fn a.tmps (fun e w' => ∃ u, e = .returned u ∧ SameRest w w' ∧ k u w'.heap) a.defers .returning w' := by
    intro f a w' hr hA hR
    rw [hA.defers]
    exact leaveX_to hC hA (dfs f) w' hr hR
  exact wpx_to hC (drawnLaw hC fn.ntmps) c h1 none (.inl rfl) w _ _ _ _ _ w hx (args_agr hle (Nat.le_of_ble_eq_true h4)) (.refl _) ⟨fun f a w' hr hA hR _ => leave f a w' hr hA hR, fun id f a w' hr => hr.elim, fun f a w' hr hA hR _ => leave f a w' hr hA hR, fun _ _ _ _ hr => hr.elim⟩
/-- a function that may end in a panic -/
theorem leaveX_toP {C : Ctx} (hC : CtxOk C) {n : Nat} {fn : Func} {a : Act} {f : Fr} (hA : Agr n a f) {w0 : World} {k kp : Value → Heap → Prop} {ds : List Value} {w : World} (h : leaveX C fn.results.toList f k ds w.heap) (hR : SameRest w0 w) :
    LeavesInM Fence.wide 0 C.P fn a.tmps (fun e w' => SameRest w0 w' ∧ ((∃ v, e = .returned v ∧ k v w'.heap) ∨ (∃ v, e = .panicked [{ v := v, recovered := false }] ∧ kp v w'.heap))) (ds.map toD) .returning w :=
  leavesInM_mono (leaveX_to hC hA ds w h hR) fun e w' ⟨u, h1, h2, h3⟩ => ⟨h2, .inl ⟨u, h1, h3⟩⟩
theorem leaveP_to {C : Ctx} (hC : CtxOk C) {n : Nat} {fn : Func} {a : Act} {f : Fr} (hA : Agr n a f) {w0 : World} {k kp : Value → Heap → Prop} {v : Value} {ds : List Value} {w : World} (h : leaveP C fn.results.toList f k kp v ds w.heap) (hR : SameRest w0 w) :
    LeavesInM Fence.wide 0 C.P fn a.tmps (fun e w' => SameRest w0 w' ∧ ((∃ v, e = .returned v ∧ k v w'.heap) ∨ (∃ v, e = .panicked [{ v := v, recovered := false }] ∧ kp v w'.heap))) (ds.map toD) (.panicking [{ v := v, recovered := false }]) w := by
  unfold leaveP at h
  split at h
  · exact ⟨hR, .inr ⟨v, rfl, h⟩⟩
  · rename_i c us ds'
    unfold PDCallsV at h
    split at h
    · rename_i g fs cs
      obtain ⟨⟨fn', hf', hn', hb'⟩, hc⟩ := h
      refine ⟨(fun x => by cases x), .inr ⟨(fun x => by cases x), .func g, cs, g, ⟨fs.toList ++ us ++ cs.toList⟩, rfl, ?_, fun _ _ => trivial, ?_⟩⟩
      · show (callFunc g _).run C.P w = _
        simp only [callFunc, Sem.run_bind, run_program, Result.andThen_ok, hf', hn', hb', Bool.false_eq_true, if_false, Sem.run_pure]
        congr 2
        apply Array.ext'
        simp [toD]
      · refine (hc w rfl).mono fun e u w' ⟨hu, ⟨r, he⟩, hsr, hk⟩ => ?_
        subst hu
        subst he
        exact leaveX_toP hC hA hk (hR.trans hsr)
    · exact h.elim
  · exact h.elim
theorem hcalls_of_p {P : Program} {g : Nat} {args : List Value} {h : Heap} {k : Value → Heap → Prop} (H : PCalls P g args h k fun _ _ => False) : HCalls P g args h k :=
  ⟨H.1, fun w hw => (H.2 w hw).mono fun e w' ⟨h1, h2⟩ => by
    rcases h2 with ⟨v, h3, h4⟩ | ⟨v, h3, h4⟩
    · exact ⟨v, h3, h1, h4⟩
    · exact h4.elim⟩
theorem fnP_to {C : Ctx} (hC : CtxOk C) {g : Nat} {fn : Func} (hf : C.P.funcs[g]? = some fn) {c : Code} (hb : fn.body = some c) {args : List Value} (hok : fnOk C fn c args.length = true) {k kp : Value → Heap → Prop} {h : Heap}
    (hx : fnPX C fn c args k kp h) : PCalls C.P g args h k kp := by
  simp only [fnOk, Bool.and_eq_true, Bool.not_eq_true'] at hok
  obtain ⟨⟨⟨h1, h2⟩, h3⟩, h4⟩ := hok
  have hle := Nat.le_of_ble_eq_true h2
  refine ⟨⟨fn, hf, h3, by rw [hb]; rfl⟩, fun w hw => ?_⟩
  subst hw
  refine (callsIn_wide (n := 0)).1 (callsIn_of_wp_marks hf hb trivial ?_)
  exact wpx_to hC (drawnLaw hC fn.ntmps) c h1 none (.inl rfl) w _ _ _ _ _ w hx (args_agr hle (Nat.le_of_ble_eq_true h4)) (.refl _) ⟨fun f a w' hr hA hR _ => by
      show LeavesInM Fence.wide 0 C.P fn a.tmps _ a.defers .returning w'
      rw [hA.defers]; exact leaveX_toP hC hA hr hR, fun id f a w' hr => hr.elim, fun f a w' hr hA hR _ => by
      show LeavesInM Fence.wide 0 C.P fn a.tmps _ a.defers .returning w'
      rw [hA.defers]; exact leaveX_toP hC hA hr hR, fun v f a w' hr hA hR _ => by
      show LeavesInM Fence.wide 0 C.P fn a.tmps _ a.defers _ w'
      rw [hA.defers]; exact leaveP_to hC hA hr hR⟩
/-- a function that defers nothing, called as a deferred one -/
def fnOkD (C : Ctx) (fn : Func) (c : Code) (nargs : Nat) : Bool := fnOk C fn c nargs && (modsC c).all fun m => !(Nat.beq m dKey)
theorem fnD_to {C : Ctx} (hC : CtxOk C) {g : Nat} {fn : Func} (hf : C.P.funcs[g]? = some fn) {c : Code} (hb : fn.body = some c) {args : List Value} (hok : fnOkD C fn c args.length = true) {k : Heap → Prop} {h : Heap}
    (hx : fnX C fn c args (fun _ h' => k h') h) : DCalls C.P g args h k := by
  simp only [fnOkD, fnOk, Bool.and_eq_true, Bool.not_eq_true'] at hok
  obtain ⟨⟨⟨⟨h1, h2⟩, h3⟩, h4⟩, h5⟩ := hok
  have hle := Nat.le_of_ble_eq_true h2
  have hkey : dKey ∉ modsC c := fun hm => by
    have := List.all_eq_true.1 h5 _ hm
    simp [Nat.beq_refl] at this
  refine ⟨⟨fn, hf, h3, by rw [hb]; rfl⟩, fun w hw => ?_⟩
  subst hw
  refine (callsDIn_of_wp (R := fun e w' => (∃ v, e = .returned v) ∧ SameRest w w' ∧ k w'.heap) hf hb trivial ?_).mono fun e u w' ⟨h1, h2⟩ => ⟨h1, h2⟩
  have leave : ∀ (f : Fr) (a : Act) (w' : World), leaveX C fn.results.toList f (fun _ h' => k h') (dfs f) w'.heap → Agr fn.ntmps a f → SameRest w w' → a.defers = [] → a.defers = [] ∧ ∃ v, (results fn a.tmps).run C.P w' = .ok v w' ∧ (∃ u, Ending.returned v = .returned u) ∧ SameRest w w' ∧ k w'.heap := by
    intro f a w' hr hA hR hd
    have hdf : dfs f = [] := by
      have := hA.defers
      rw [hd] at this
      exact List.map_eq_nil_iff.1 this.symm
    rw [hdf] at hr
    obtain ⟨v, g1, g2⟩ := results_to hC hA (k := fun _ => k w'.heap) hr
    exact ⟨hd, v, g1, ⟨v, rfl⟩, hR, g2⟩
  exact wpx_to hC (drawnLaw hC fn.ntmps) c h1 none (.inl rfl) w _ _ _ _ _ w hx (args_agr hle (Nat.le_of_ble_eq_true h4)) (.refl _) ⟨fun f a w' hr hA hR hM => leave f a w' hr hA hR (hM.dfr hkey), fun id f a w' hr => hr.elim, fun f a w' hr hA hR hd => leave f a w' hr hA hR (hd hkey), fun _ _ _ _ hr => hr.elim⟩
end Go.Proofs.Ytnbfaokpaiiojaa.Wx
