import Derived.Test.YtnbfaokpaiiojaaWxG
namespace Go.Proofs.Ytnbfaokpaiiojaa.Wx
open Go

/-- the activation, as far as it is known -/
structure Agr (n : Nat) (a : Act) (f : Fr) : Prop where
  size : a.tmps.size = n
  defers : a.defers = []
  val : ∀ t v, Fr.get f t = some v → a.tmps.getD t undef = v
theorem Fr.get_cons (f : Fr) (d t : Nat) (v : Value) : Fr.get ((d, v) :: f) t = if d = t then some v else Fr.get f t := by
  show (bif Nat.beq d t then some v else Fr.get f t) = _
  cases h : Nat.beq d t with
  | true => rw [if_pos (Nat.eq_of_beq_eq_true h)]; rfl
  | false =>
    have : d ≠ t := fun e => by subst e; rw [Nat.beq_refl] at h; cases h
    rw [if_neg this]; rfl
theorem Agr.fit {n : Nat} {a : Act} {f : Fr} (h : Agr n a f) : Fit f a.eval := by
  intro x v hx
  cases x with
  | tmp t => exact h.val t v hx
  | const u => exact Option.some.inj hx
  | global g => exact Option.some.inj hx
  | func g => exact Option.some.inj hx
def dstOk (n : Nat) (o : Oper) : Bool :=
  match o.dst with
  | some d => Nat.blt d n
  | none => true
theorem Agr.put {n : Nat} {a : Act} {f : Fr} (h : Agr n a f) {o : Oper} (hd : dstOk n o = true) (v : Value) : Agr n (a.put o.dst v) (putD f o.dst v) := by
  unfold dstOk at hd
  cases hdst : o.dst with
  | none => exact h
  | some d =>
    rw [hdst] at hd
    have hlt : d < n := Nat.le_of_ble_eq_true hd
    refine ⟨by simp [Act.put, h.size], h.defers, fun t u hu => ?_⟩
    rw [show putD f (some d) v = (d, v) :: f from rfl, Fr.get_cons] at hu
    by_cases e : d = t
    · subst e
      rw [if_pos rfl] at hu
      have := Option.some.inj hu
      subst this
      simp [Act.put, h.size, hlt]
    · rw [if_neg e] at hu
      have := h.val t u hu
      simpa [Act.put, Array.getElem?_setIfInBounds_ne e] using this
theorem wp_of_OpTo {P : Program} {a : Act} {o : Oper} {w : World} {k : Value → World → Prop} {next : Act → World → Prop} {Q : Exit → Act → World → Prop}
    (h : OpTo P a.eval o w k) (hk : ∀ v w', k v w' → next (a.put o.dst v) w') : o.wp P a w next Q := by
  unfold Oper.wp
  rcases h with ⟨v, w', hr, hv⟩ | ⟨w', hr, hv⟩ | ⟨g, args, hr, hc⟩
  · rw [hr]; exact hk _ _ hv
  · rw [hr]; exact hk _ _ hv
  · rw [hr, Oper.upon_enter]
    exact hc.mono fun e w'' ⟨v, he, hv⟩ => by subst he; exact hk _ _ hv
theorem splitX_elim {b : Bool} {v : Value} {k : Value → Prop} (h : splitX b v k) : k v := by
  unfold splitX at h
  cases b with
  | false => exact h
  | true =>
    cases v with
    | bool t => cases t <;> exact h
    | _ => exact h
theorem wantX_elim {n : Nat} {a : Act} {f : Fr} (hA : Agr n a f) {full : List Oper} {o : Oper} {k : Bool → Prop} (h : wantX full f o.guard k) : k (Region.wanted o (yielded full.toArray a.tmps)) := by
  unfold Region.wanted
  cases hg : o.guard with
  | none => rw [hg] at h; exact h
  | some jw =>
    obtain ⟨j, want⟩ := jw
    rw [hg] at h
    obtain ⟨oj, hoj, h1⟩ := onSome_elim h
    obtain ⟨d, hd, h2⟩ := onSome_elim h1
    obtain ⟨v, hv, h3⟩ := onSome_elim h2
    have hval := hA.val d v hv
    have hy : yielded full.toArray a.tmps j = (match a.tmps[d]? with | some (.bool b) => some b | _ => none) := by
      unfold yielded
      simp only [List.getElem?_toArray, hoj, Option.bind_some, hd]
      rfl
    have hget : a.tmps[d]? = some v ∨ (a.tmps[d]? = none ∧ v = undef) := by
      rw [Array.getD_eq_getD_getElem?] at hval
      cases hh : a.tmps[d]? with
      | none => rw [hh] at hval; exact .inr ⟨rfl, hval.symm⟩
      | some u => rw [hh] at hval; exact .inl (congrArg some hval)
    show k (yielded full.toArray a.tmps j == some want)
    rw [hy]
    rcases hget with hh | ⟨hh, rfl⟩
    · rw [hh]
      cases v with
      | bool b => simpa using h3
      | tuple vs => exact h3
      | _ => exact h3.elim
    · rw [hh]; exact h3

def dstsOf (l : List Oper) : List Nat := l.filterMap (·.dst)
def modsC : Code → List Nat
  | .region _ ops _ => dstsOf ops.toList
  | .seq a b => modsC a ++ modsC b
  | .cond _ a b => modsC a ++ modsC b
  | .block _ a | .loop a | .scope a => modsC a
  | _ => []
/-- the slots that are not in M hold what they held -/
def Keeps (M : List Nat) (a a' : Act) : Prop := ∀ t, t ∉ M → a'.tmps.getD t undef = a.tmps.getD t undef
theorem Keeps.refl (M : List Nat) (a : Act) : Keeps M a a := fun _ _ => rfl
theorem Keeps.trans {M : List Nat} {a b c : Act} (h : Keeps M a b) (k : Keeps M b c) : Keeps M a c := fun t ht => (k t ht).trans (h t ht)
theorem Keeps.mono {M M' : List Nat} {a b : Act} (h : Keeps M a b) (hm : ∀ t ∈ M, t ∈ M') : Keeps M' a b := fun t ht => h t fun h' => ht (hm t h')
theorem Keeps.put {M : List Nat} {a b : Act} (h : Keeps M a b) {o : Oper} (hd : ∀ d, o.dst = some d → d ∈ M) (v : Value) : Keeps M a (b.put o.dst v) := by
  intro t ht
  cases hdst : o.dst with
  | none => exact h t ht
  | some d =>
    have hne : d ≠ t := fun e => ht (e ▸ hd d hdst)
    have := h t ht
    simpa [Act.put, Array.getElem?_setIfInBounds_ne hne] using this
theorem mem_dstsOf {l : List Oper} {o : Oper} (ho : o ∈ l) {d : Nat} (hd : o.dst = some d) : d ∈ dstsOf l := List.mem_filterMap.2 ⟨o, ho, hd⟩

theorem opsX_to {C : Ctx} (hC : CtxOk C) {n : Nat} {w0 : World} {a0 : Act} {M : List Nat} {full : List Oper} {N : Fr → Heap → Prop} {Q : Exit → Act → World → Prop}
    (hN : ∀ f a w, N f w.heap → Agr n a f → SameRest w0 w → Keeps M a0 a → Q .normal a w) :
    ∀ (l : List Oper), (∀ o ∈ l, dstOk n o = true) → (∀ o ∈ l, ∀ d, o.dst = some d → d ∈ M) → ∀ (f : Fr) (a : Act) (w : World), opsX C full l N f w.heap → Agr n a f → SameRest w0 w → Keeps M a0 a → wpList C.P full.toArray Q l a w
  | [], _, _, f, a, w, h, hA, hR, hM => hN f a w h hA hR hM
  | o :: r, hl, hm, f, a, w, h, hA, hR, hM => by
    have hw := wantX_elim hA (show wantX full f o.guard _ from h)
    have hd := hl o (by simp)
    have hmo := hm o (by simp)
    unfold wpList
    split
    · rename_i hwant
      rw [hwant] at hw
      have hw : stepX C f o.op o.type (fun v h' => splitX (guards full o) v fun v => opsX C full r N (putD f o.dst v) h') w.heap := hw
      refine .inl (wp_of_OpTo (stepX_to hC hA.fit o hw) fun v w' ⟨hr, hk⟩ => ?_)
      exact opsX_to hC hN r (fun o' ho' => hl o' (by simp [ho'])) (fun o' ho' => hm o' (by simp [ho'])) _ _ w' (splitX_elim hk) (hA.put hd v) (hR.trans hr) (hM.put hmo v)
    · rename_i hwant
      have hwant' : Region.wanted o (yielded full.toArray a.tmps) = false := by simpa using hwant
      rw [hwant'] at hw
      exact opsX_to hC hN r (fun o' ho' => hl o' (by simp [ho'])) (fun o' ho' => hm o' (by simp [ho'])) _ _ w hw (hA.put hd undef) hR (hM.put hmo undef)

/-! Code. -/
structure Post (n : Nat) (w0 : World) (a0 : Act) (M : List Nat) (Q : Ks) (N : Fr → Heap → Prop) (R : Exit → Act → World → Prop) : Prop where
  normal : ∀ f a w, N f w.heap → Agr n a f → SameRest w0 w → Keeps M a0 a → R .normal a w
  exit : ∀ id f a w, Q.exit id f w.heap → Agr n a f → SameRest w0 w → Keeps M a0 a → R (.exit id) a w
  ret : ∀ f a w, Q.ret f w.heap → Agr n a f → SameRest w0 w → R .ret a w

theorem loop_wp {P : Program} {c : Code} {Q : Exit → Act → World → Prop} (good : Nat → Act → World → Prop)
    (round : ∀ k a w, good k a w → c.wp P (Exit.then (fun a' w' => ∃ k', k' < k ∧ good k' a' w') Q) a w) {k : Nat} {a : Act} {w : World} (h0 : good k a w) : (Code.loop c).wp P Q a w := by
  intro b kk cs
  have key : ∀ (k : Nat) (a : Act) (w : World), good k a w → ∃ e a' w', Q e a' w' ∧ Arrives P (lone (b.at a (.code c :: .inLoop c :: kk)) cs w) b kk cs e a' w' := by
    intro k
    induction k using Nat.strongRecOn with
    | _ k ih =>
      intro a w hg
      obtain ⟨e, a1, w1, hq, harr⟩ := round k a w hg b (.inLoop c :: kk) cs
      cases e with
      | normal =>
        obtain ⟨k', hlt, hg'⟩ := hq
        obtain ⟨e2, a2, w2, hq2, harr2⟩ := ih k' hlt a1 w1 hg'
        exact ⟨e2, a2, w2, hq2, .of_steps (Steps.trans harr (.one step_inLoop)) harr2⟩
      | outgrown => exact ⟨_, a1, w1, hq, .pass (x := .inLoop c) rfl (fun _ _ => .inl (by simp)) harr⟩
      | exit id => exact ⟨_, a1, w1, hq, .pass (x := .inLoop c) rfl (fun _ _ => .inl (by simp)) harr⟩
      | goto l => exact ⟨_, a1, w1, hq, .pass (x := .inLoop c) rfl (fun _ _ => .inl (by simp)) harr⟩
      | ret => exact ⟨_, a1, w1, hq, .pass (x := .inLoop c) rfl (fun _ _ => .inl (by simp)) harr⟩
      | panic ch => exact ⟨_, a1, w1, hq, .pass (x := .inLoop c) rfl (fun _ _ => .inl (by simp)) harr⟩
  obtain ⟨e, a', w', hq, harr⟩ := key k a w h0
  exact ⟨e, a', w', hq, .of_steps (.one step_loop) harr⟩

theorem keepF_get (f : Fr) : ∀ (l : List Nat) (t : Nat) (v : Value), Fr.get (keepF f l) t = some v → t ∈ l ∧ Fr.get f t = some v
  | [], t, v, h => by cases h
  | x :: r, t, v, h => by
    unfold keepF at h
    cases hx : Fr.get f x with
    | none => rw [hx] at h; obtain ⟨h1, h2⟩ := keepF_get f r t v h; exact ⟨by simp [h1], h2⟩
    | some u =>
      rw [hx] at h
      simp only at h
      rw [Fr.get_cons] at h
      by_cases e : x = t
      · subst e; rw [if_pos rfl] at h; exact ⟨by simp, hx.trans h⟩
      · rw [if_neg e] at h; obtain ⟨h1, h2⟩ := keepF_get f r t v h; exact ⟨by simp [h1], h2⟩

theorem enter_loop {n : Nat} {a : Act} {f2 : Fr} (hA : Agr n a f2) {R S : Type} :
    ∀ (l : List (Nat × Ty)) (I : Curry l R) (μ : Curry l S) (fk : Fr) (K : R → S → Prop) (Kall : R → S → Fr → Prop), atT l I μ f2 K → allT l I μ fk Kall → (∀ t v, Fr.get fk t = some v → a.tmps.getD t undef = v) →
    ∃ i m f', K i m ∧ Kall i m f' ∧ ∀ t v, Fr.get f' t = some v → a.tmps.getD t undef = v := by
  have base : ∀ (fk : Fr) (t : Nat) (v : Value), Fr.get f2 t = some v → (∀ t v, Fr.get fk t = some v → a.tmps.getD t undef = v) → ∀ t' v', Fr.get ((t, v) :: fk) t' = some v' → a.tmps.getD t' undef = v' := by
    intro fk t v hg hb t' v' h'
    rw [Fr.get_cons] at h'
    by_cases e : t = t'
    · subst e; rw [if_pos rfl] at h'; have := Option.some.inj h'; subst this; exact hA.val _ _ hg
    · rw [if_neg e] at h'; exact hb _ _ h'
  intro l
  induction l with
  | nil => intro I μ fk K Kall h1 h2 hb; exact ⟨I, μ, fk, h1, h2, hb⟩
  | cons x r ih =>
    obtain ⟨t, ty⟩ := x
    intro I μ fk K Kall h1 h2 hb
    cases ty with
    | int kd =>
      obtain ⟨v, hv, h1⟩ := onSome_elim h1
      obtain ⟨k', m, rfl, h3⟩ := onInt_elim h1
      cases hk : kindEq kd k' with
      | false => rw [hk] at h3; exact h3.elim
      | true => rw [hk] at h3; obtain rfl := kindEq_eq hk; exact ih _ _ _ _ _ h3 (h2 m) (base _ _ _ hv hb)
    | bool =>
      obtain ⟨v, hv, h1⟩ := onSome_elim h1
      obtain ⟨b, rfl, h3⟩ := onBool_elim h1
      exact ih _ _ _ _ _ h3 (h2 b) (base _ _ _ hv hb)
    | str =>
      obtain ⟨v, hv, h1⟩ := onSome_elim h1
      obtain ⟨b, rfl, h3⟩ := onStr_elim h1
      exact ih _ _ _ _ _ h3 (h2 b) (base _ _ _ hv hb)
    | ptr =>
      obtain ⟨v, hv, h1⟩ := onSome_elim h1
      obtain ⟨b, rfl, h3⟩ := onPtr_elim h1
      exact ih _ _ _ _ _ h3 (h2 b) (base _ _ _ hv hb)
    | slice =>
      obtain ⟨v, hv, h1⟩ := onSome_elim h1
      obtain ⟨b, l', c, rfl, h3⟩ := onSlice_elim h1
      exact ih _ _ _ _ _ h3 (h2 b l' c) (base _ _ _ hv hb)
    | agg =>
      obtain ⟨v, hv, h1⟩ := onSome_elim h1
      obtain ⟨b, rfl, h3⟩ := onAgg_elim h1
      exact ih _ _ _ _ _ h3 (h2 b) (base _ _ _ hv hb)
    | any =>
      obtain ⟨v, hv, h1⟩ := onSome_elim h1
      exact ih _ _ _ _ _ h1 (h2 v) (base _ _ _ hv hb)

/-- what is asked of the code, once: the slots are in range, the hints fit; drawn: what is asked of a region whose order is open -/
def codeOk (C : Ctx) (n : Nat) (drawn : Nat → List Oper → Bool) : Code → Bool
  | .region id ops draw => (ops.toList.all (dstOk n)) && (bif draw then drawn id ops.toList else true)
  | .seq a b => codeOk C n drawn a && codeOk C n drawn b
  | .cond _ a b => codeOk C n drawn a && codeOk C n drawn b
  | .block _ a => codeOk C n drawn a
  | .loop a => codeOk C n drawn a && (C.loops (loopNo a)).1.all fun t => (modsC a).all fun m => !(Nat.beq m t)
  | _ => true

/-- the law of drawn regions, proved further on -/
def DrawnLaw (C : Ctx) (n : Nat) (drawn : Nat → List Oper → Bool) : Prop :=
  ∀ (id : Nat) (ops : Array Oper) (N : Fr → Heap → Prop) (R : Exit → Act → World → Prop) (f : Fr) (a : Act) (w0 w : World), drawn id ops.toList = true → (∀ o ∈ ops.toList, dstOk n o = true) →
    earlyX C ops.toList (C.orders id) N f w.heap → Agr n a f → SameRest w0 w → (∀ f a' w, N f w.heap → Agr n a' f → SameRest w0 w → Keeps (dstsOf ops.toList) a a' → R .normal a' w) →
    (Code.region id ops true).wp C.P R a w

theorem wpx_to {C : Ctx} (hC : CtxOk C) {n : Nat} {drawn : Nat → List Oper → Bool} (hD : DrawnLaw C n drawn) {w0 : World} :
    ∀ (c : Code), codeOk C n drawn c = true → ∀ (Q : Ks) (N : Fr → Heap → Prop) (R : Exit → Act → World → Prop) (f : Fr) (a : Act) (w : World),
      wpx C c Q N f w.heap → Agr n a f → SameRest w0 w → Post n w0 a (modsC c) Q N R → c.wp C.P R a w := by
  intro c
  induction c with
  | skip => intro _ Q N R f a w h hA hR hP; exact wp_skip (hP.normal f a w h hA hR (.refl _ _))
  | region id ops draw =>
    intro hok Q N R f a w h hA hR hP
    simp only [codeOk, Bool.and_eq_true, List.all_eq_true] at hok
    cases draw with
    | true => exact hD id ops N R f a w0 w hok.2 hok.1 h hA hR fun f a' w h1 h2 h3 h4 => hP.normal f a' w h1 h2 h3 h4
    | false =>
      refine wp_region_list ?_
      have := opsX_to (Q := R) hC (full := ops.toList) (fun f a' w h1 h2 h3 h4 => hP.normal f a' w h1 h2 h3 h4) ops.toList hok.1 (fun o ho d hd => mem_dstsOf ho hd) f a w h hA hR (.refl _ _)
      simpa using this
  | seq x y ihx ihy =>
    intro hok Q N R f a w h hA hR hP
    simp only [codeOk, Bool.and_eq_true] at hok
    refine wp_seq (ihx hok.1 Q _ _ f a w h hA hR ⟨?_, ?_, ?_⟩)
    · intro f1 a1 w1 h1 hA1 hR1 hM1
      refine ihy hok.2 Q N R f1 a1 w1 h1 hA1 hR1 ⟨?_, ?_, ?_⟩
      · intro f2 a2 w2 h2 hA2 hR2 hM2
        exact hP.normal f2 a2 w2 h2 hA2 hR2 ((hM1.mono fun t ht => by simp [modsC, ht]).trans (hM2.mono fun t ht => by simp [modsC, ht]))
      · intro id f2 a2 w2 h2 hA2 hR2 hM2
        exact hP.exit id f2 a2 w2 h2 hA2 hR2 ((hM1.mono fun t ht => by simp [modsC, ht]).trans (hM2.mono fun t ht => by simp [modsC, ht]))
      · exact fun f2 a2 w2 h2 hA2 hR2 => hP.ret f2 a2 w2 h2 hA2 hR2
    · exact fun id f1 a1 w1 h1 hA1 hR1 hM1 => hP.exit id f1 a1 w1 h1 hA1 hR1 (hM1.mono fun t ht => by simp [modsC, ht])
    · exact fun f1 a1 w1 h1 hA1 hR1 => hP.ret f1 a1 w1 h1 hA1 hR1
  | cond c x y ihx ihy =>
    intro hok Q N R f a w h hA hR hP
    simp only [codeOk, Bool.and_eq_true] at hok
    obtain ⟨t, hc, h1⟩ := onBool_elim (onV_elim hA.fit h)
    refine wp_cond hc ?_
    cases t with
    | true => exact ihx hok.1 Q N R f a w h1 hA hR ⟨fun f a' w h1 h2 h3 h4 => hP.normal f a' w h1 h2 h3 (h4.mono fun t ht => by simp [modsC, ht]), fun id f a' w h1 h2 h3 h4 => hP.exit id f a' w h1 h2 h3 (h4.mono fun t ht => by simp [modsC, ht]), hP.ret⟩
    | false => exact ihy hok.2 Q N R f a w h1 hA hR ⟨fun f a' w h1 h2 h3 h4 => hP.normal f a' w h1 h2 h3 (h4.mono fun t ht => by simp [modsC, ht]), fun id f a' w h1 h2 h3 h4 => hP.exit id f a' w h1 h2 h3 (h4.mono fun t ht => by simp [modsC, ht]), hP.ret⟩
  | block id x ih =>
    intro hok Q N R f a w h hA hR hP
    refine wp_block (ih hok _ _ _ f a w h hA hR ⟨fun f a' w h1 h2 h3 h4 => hP.normal f a' w h1 h2 h3 h4, ?_, fun f a' w h1 h2 h3 => hP.ret f a' w h1 h2 h3⟩)
    intro i f1 a1 w1 h1 hA1 hR1 hM1
    show Exit.inBlock id R (.exit i) a1 w1
    simp only [Exit.inBlock]
    cases hb : Nat.beq i id with
    | true =>
      rw [if_pos (Nat.eq_of_beq_eq_true hb)]
      exact hP.normal f1 a1 w1 (by simpa [hb] using h1) hA1 hR1 hM1
    | false =>
      have : i ≠ id := fun e => by subst e; rw [Nat.beq_refl] at hb; cases hb
      rw [if_neg this]
      exact hP.exit i f1 a1 w1 (by simpa [hb] using h1) hA1 hR1 hM1
  | exit id => intro _ Q N R f a w h hA hR hP; exact wp_exit (hP.exit id f a w h hA hR (.refl _ _))
  | ret => intro _ Q N R f a w h hA hR hP; exact wp_ret (hP.ret f a w h hA hR)
  | loop x ih =>
    intro hok Q N R f a w h hA hR hP
    simp only [codeOk, Bool.and_eq_true] at hok
    obtain ⟨hokx, hkeep⟩ := hok
    obtain ⟨I, μ, hat, hall⟩ := h
    have hdis : ∀ t ∈ (C.loops (loopNo x)).1, t ∉ modsC x := by
      intro t ht hm
      have := List.all_eq_true.1 (List.all_eq_true.1 hkeep t ht) t hm
      simp [Nat.beq_refl] at this
    have hbase : ∀ a' : Act, Keeps (modsC x) a a' → ∀ t v, Fr.get (keepF f (C.loops (loopNo x)).1) t = some v → a'.tmps.getD t undef = v := by
      intro a' hM t v hg
      obtain ⟨h1, h2⟩ := keepF_get f _ t v hg
      rw [hM t (hdis t h1)]
      exact hA.val t v h2
    let Kall : (Heap → Prop) → (Heap → Nat) → Fr → Prop := fun i m f' => ∀ h', i h' → wpx C x Q (fun f2 h2 => atT (C.loops (loopNo x)).2 I μ f2 fun i2 m2 => i2 h2 ∧ m2 h2 < m h') f' h'
    let good : Nat → Act → World → Prop := fun k a' w' => ∃ i m f', m w'.heap = k ∧ i w'.heap ∧ Kall i m f' ∧ Agr n a' f' ∧ SameRest w0 w' ∧ Keeps (modsC x) a a'
    have start : ∃ k, good k a w := by
      obtain ⟨i, m, f', h1, h2, h3⟩ := enter_loop hA _ I μ (keepF f _) _ Kall hat hall (hbase a (.refl _ _))
      exact ⟨m w.heap, i, m, f', rfl, h1, h2, ⟨hA.size, hA.defers, h3⟩, hR, .refl _ _⟩
    obtain ⟨k, hg⟩ := start
    refine loop_wp good ?_ hg
    rintro k1 a1 w1 ⟨i, m, f', rfl, hi, hK, hA1, hR1, hM1⟩
    refine ih hokx Q _ _ f' a1 w1 (hK _ hi) hA1 hR1 ⟨?_, ?_, ?_⟩
    · intro f2 a2 w2 h2 hA2 hR2 hM2
      obtain ⟨i', m', f3, ⟨h1, hlt⟩, h4, h3⟩ := enter_loop hA2 _ I μ (keepF f _) _ Kall h2 hall (hbase a2 (hM1.trans hM2))
      exact ⟨m' w2.heap, hlt, i', m', f3, rfl, h1, h4, ⟨hA2.size, hA2.defers, h3⟩, hR2, hM1.trans hM2⟩
    · exact fun id f2 a2 w2 h2 hA2 hR2 hM2 => hP.exit id f2 a2 w2 h2 hA2 hR2 (hM1.trans hM2)
    · exact fun f2 a2 w2 h2 hA2 hR2 => hP.ret f2 a2 w2 h2 hA2 hR2
  | _ => intro _ Q N R f a w h; exact h.elim
end Go.Proofs.Ytnbfaokpaiiojaa.Wx
