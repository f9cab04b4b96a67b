import Derived.Test.YtnbfaokpaiiojaaWxJ
namespace Go.Proofs.Ytnbfaokpaiiojaa.Wx
open Go

theorem stills_elim {C : Ctx} {full : List Oper} {n : Nat} {a : Act} {f : Fr} (hA : Agr n a f) {h : Heap} {K : Prop} : ∀ {js : List Nat}, stills C full f h js K →
    (∀ j ∈ js, ∀ oj, full[j]? = some oj → wantB full a oj = true → stillX C f h oj) ∧ K
  | [], hk => ⟨fun j hj => absurd hj (by simp), hk⟩
  | j :: r, hk => by
    obtain ⟨o, ho, h1⟩ := onSome_elim (show onSome (full[j]?) _ from hk)
    have h2 := wantX_elim hA h1
    cases hw : wantB full a o with
    | true =>
      rw [show Region.wanted o (yielded full.toArray a.tmps) = true from hw] at h2
      obtain ⟨h3, h4⟩ := h2
      obtain ⟨i1, i2⟩ := stills_elim hA h4
      refine ⟨fun k hk oj hoj hwj => ?_, i2⟩
      rcases List.mem_cons.1 hk with rfl | hk
      · rw [ho] at hoj; have := Option.some.inj hoj; subst this; exact h3
      · exact i1 k hk oj hoj hwj
    | false =>
      rw [show Region.wanted o (yielded full.toArray a.tmps) = false from hw] at h2
      obtain ⟨i1, i2⟩ := stills_elim hA (show stills C full f h r K from h2)
      refine ⟨fun k hk oj hoj hwj => ?_, i2⟩
      rcases List.mem_cons.1 hk with rfl | hk
      · rw [ho] at hoj; have := Option.some.inj hoj; subst this; rw [hw] at hwj; cases hwj
      · exact i1 k hk oj hoj hwj
theorem mkStr_toList (s : ByteArray) : mkStr s.toList = s := by
  rw [ByteArray.toList_eq]; rfl
theorem still_run {C : Ctx} (hC : CtxOk C) {n : Nat} {a : Act} {f : Fr} (hA : Agr n a f) {o : Oper} {w : World} (h : stillX C f w.heap o) : RunsAt C.P a o w (dstV a o) := by
  unfold stillX at h
  cases hd : o.dst with
  | none => rw [hd] at h; exact h.elim
  | some d =>
    rw [hd] at h
    obtain ⟨v, hv, h1⟩ := onSome_elim h
    have hdv : dstV a o = v := by unfold dstV; rw [hd]; exact hA.val d v hv
    rw [hdv]
    unfold RunsAt
    cases ho : o.op with
    | load t x =>
      rw [ho] at h1
      obtain ⟨p, hp, h2⟩ := ptr_elim hA.fit h1
      obtain ⟨hx, h3⟩ := hC.okX h2
      obtain ⟨i, ds, z, hi, hu, hdx, hsz, _, _, _⟩ := hx.get
      have hag := run_isAgg_ok hu w
      have he : execOp a.eval o = (do Pure.pure (.value (← Instr.loadAt t (a.eval x)))) := by simp only [execOp, ho]
      rw [he, hp]
      have key : (loadVar t p).run C.P w = .ok v w := by
        unfold loadVar
        cases hq : isAggD (descSum ds) with
        | true =>
          rw [hq] at hag
          have hty : (C.ti t).d.ty = .agg := by rw [← hdx]; revert hq; cases descSum ds <;> simp [isAggD, D.ty]
          rw [hty] at h3
          obtain ⟨cs, rfl, hl, hc⟩ := onAgg_elim h3
          have hlo := run_loadCells_list (P := C.P) w p cs (fun j v hv => hc j v hv)
          simp only [Sem.run_bind, hag, Result.andThen_ok, if_true, run_sizeOf_ok hi, hsz, ← hl, hlo, Sem.run_pure]
        | false =>
          rw [hq] at hag
          have hty : (C.ti t).d.ty ≠ .agg := by rw [← hdx]; revert hq; cases descSum ds <;> simp [isAggD, D.ty]
          have h4 : cellOf w.heap p = some v := by
            cases hq2 : (C.ti t).d.ty <;> rw [hq2] at h3 hty <;> first | exact h3 | exact (hty rfl).elim
          simp [Sem.run_bind, hag, cell_eq, h4]
      simp only [Instr.loadAt, Instr.sureAddr, Sem.run_bind, Sem.run_pure, Result.andThen_ok, key]
    | convert s t x =>
      rw [ho] at h1
      simp only at h1
      have hs : (C.ti s).d ≠ .other := by intro e; rw [e] at h1; exact h1.elim
      have ht : (C.ti t).d ≠ .other := by intro e; rw [e] at h1; split at h1 <;> first | exact h1.elim | simp at *
      obtain ⟨_, dss, _, _, hus, hds, _⟩ := (hC.okD hs).get
      obtain ⟨_, dt, _, _, hut, hdt, _⟩ := (hC.okD ht).get
      rw [← hds, ← hdt] at h1
      cases dss <;> cases dt <;> try exact h1.elim
      rename_i e
      simp only [descSum] at h1
      cases hb : isU8 (C.ti e).d with
      | false => rw [hb] at h1; exact h1.elim
      | true =>
        rw [hb] at h1
        obtain ⟨al, l, c, hx, h2⟩ := onSlice_elim (onV_elim hA.fit (show onV f x _ from h1))
        obtain ⟨b, hvb, hst⟩ := onStr_elim h2
        have he : (C.ti e).d ≠ .other := by intro e'; rw [e'] at hb; simp [isU8] at hb
        obtain ⟨_, de, _, _, hue, hde, _⟩ := (hC.okD he).get
        rw [← hde] at hb
        have hue' : C.P.underlying e = some (.int .u8) := by
          cases de <;> simp [descSum, isU8] at hb
          rename_i kd
          cases kd <;> simp at hb
          exact hue
        have hr : (convert s t (.slice al l c)).run C.P w = .ok v w := by
          rw [run_convert_bytes_string w s t e al l c hus hue' hut, bytesStr_to hst, mkStr_toList, hvb]
        have he2 : execOp a.eval o = (do Pure.pure (.value (← convert s t (a.eval x)))) := by simp only [execOp, ho]
        rw [he2, hx, Sem.run_bind, hr]
        rfl
    | _ => rw [ho] at h1; exact h1.elim

theorem early_sw {C : Ctx} (hC : CtxOk C) {full : List Oper} {n : Nat} (hdst : ∀ o ∈ full, dstOk n o = true) {w0 : World} {a0 : Act} {N : Fr → Heap → Prop} :
    ∀ (L : List (Nat × List Nat)) (D : Nat → Bool) (f : Fr) (a : Act) (w : World), earlyX C full L N f w.heap → Agr n a f → SameRest w0 w → Keeps (dstsOf full) a0 a →
      SW C full L D (fun a w => ∃ f, N f w.heap ∧ Agr n a f ∧ SameRest w0 w ∧ Keeps (dstsOf full) a0 a) a w
  | [], D, f, a, w, h, hA, hR, hM => ⟨f, h, hA, hR, hM⟩
  | (i, st) :: r, D, f, a, w, h, hA, hR, hM => by
    obtain ⟨o, ho, h1⟩ := onSome_elim (show onSome (full[i]?) _ from h)
    have hmem := List.mem_of_getElem? ho
    have hd := hdst o hmem
    have hmo : ∀ d, o.dst = some d → d ∈ dstsOf full := fun d hd => mem_dstsOf hmem hd
    have h2 := wantX_elim hA h1
    refine ⟨o, ho, ?_⟩
    cases hw : wantB full a o with
    | false =>
      rw [show Region.wanted o (yielded full.toArray a.tmps) = false from hw] at h2
      rw [if_neg (by simp)]
      exact early_sw hC hdst r _ _ _ _ h2 (hA.put hd undef) hR (hM.put hmo undef)
    | true =>
      rw [show Region.wanted o (yielded full.toArray a.tmps) = true from hw] at h2
      rw [if_pos rfl]
      have h2 : stepX C f o.op o.type (fun v h' => stills C full f h' st (splitX (guards full o) v fun v => earlyX C full r N (putD f o.dst v) h')) w.heap := h2
      cases hq : isQ o.op with
      | true =>
        rw [if_pos rfl]
        obtain ⟨v, r1, r2, r3⟩ := stepQ_to hC hA.fit o hq h2
        exact ⟨v, r1, r3, early_sw hC hdst r _ _ _ _ (splitX_elim (stills_elim hA r2).2) (hA.put hd v) hR (hM.put hmo v)⟩
      | false =>
        rw [if_neg (by simp)]
        refine (stepX_to hC hA.fit o h2).mono fun v w' ⟨hr, hk⟩ => ?_
        obtain ⟨k1, k2⟩ := stills_elim hA hk
        exact ⟨fun j hj _ oj hoj hwj => still_run hC hA (k1 j hj oj hoj hwj), early_sw hC hdst r _ _ _ _ (splitX_elim k2) (hA.put hd v) (hR.trans hr) (hM.put hmo v)⟩

theorem drawnLaw {C : Ctx} (hC : CtxOk C) (n : Nat) : DrawnLaw C n fun id full => planB C full (C.orders id) := by
  intro id ops N R f a w0 w hplan hdst h hA hR hN
  have hp := planB_plan hplan
  refine wp_region_any hC.mixed ?_
  have hw : SameRest w0 { w with drawn := w.drawn + 1 } := ⟨hR.1, hR.2.1, hR.2.2⟩
  have hsw := early_sw hC (full := ops.toList) hdst (w0 := w0) (a0 := a) (N := N) (C.orders id) (fun _ => false) f a { w with drawn := w.drawn + 1 } h hA hw (.refl _ _)
  have hlen : (Array.replicate ops.size false).size = ops.toList.length := by simp
  have := sw_any (n := n) hdst hp (Q := R) (fun a w ⟨f, h1, h2, h3, h4⟩ => hN f a w h1 h2 h3 h4) ops.size (Array.replicate ops.size false) (C.orders id) (fun _ => false) a { w with drawn := w.drawn + 1 } hlen (.refl _)
    (fun i hi => by
      have hi' : i < ops.size := by simpa using hi
      constructor
      · exact fun _ => hp.all i hi
      · exact fun _ => by rw [Array.getD_eq_getD_getElem?]; simp [hi'])
    (fun i o ho hl => by
      exfalso
      rw [Array.getD_eq_getD_getElem?] at hl
      by_cases hi : i < ops.size <;> simp [hi] at hl)
    (fun j oj hD => by cases hD) hA.size ?_ hsw
  · simpa using this
  · simpa using hp.len

/-! Functions. -/
theorem argsF_get : ∀ (l : List Value) (i t : Nat) (v : Value), Fr.get (argsF l i) t = some v → i ≤ t ∧ l[t - i]? = some v
  | [], _, _, _, h => by cases h
  | x :: r, i, t, v, h => by
    rw [argsF, Fr.get_cons] at h
    by_cases e : i = t
    · subst e; rw [if_pos rfl] at h; exact ⟨Nat.le_refl _, by simpa using h⟩
    · rw [if_neg e] at h
      obtain ⟨h1, h2⟩ := argsF_get r (i + 1) t v h
      refine ⟨by omega, ?_⟩
      rw [show t - i = (t - (i + 1)) + 1 by omega]
      simpa using h2
def resSem (a : Act) : ResultVar → Sem Value
  | .tmp t => Pure.pure (a.tmps.getD t undef)
  | .cell s t => do loadVar t (← asAddr (a.tmps.getD s undef))
theorem resX_to {C : Ctx} (hC : CtxOk C) {n : Nat} {a : Act} {f : Fr} (hA : Agr n a f) {w : World} : ∀ (rs : List ResultVar) (acc : List Value) (k : List Value → Prop), resX C rs f w.heap acc k →
    ∃ vs, (rs.mapM (resSem a)).run C.P w = .ok vs w ∧ k (acc ++ vs)
  | [], acc, k, h => ⟨[], rfl, by simpa [resX] using h⟩
  | .tmp t :: r, acc, k, h => by
    obtain ⟨v, hv, h1⟩ := onSome_elim (show onSome (Fr.get f t) _ from h)
    obtain ⟨vs, h2, h3⟩ := resX_to hC hA r _ k h1
    refine ⟨v :: vs, ?_, by simpa using h3⟩
    rw [List.mapM_cons]
    simp only [resSem, Sem.run_bind, Sem.run_pure, Result.andThen_ok, hA.val t v hv, h2]
  | .cell s t :: r, acc, k, h => by
    obtain ⟨v, hv, h1⟩ := onSome_elim (show onSome (Fr.get f s) _ from h)
    obtain ⟨q, hq, h2⟩ := onPtr_elim h1
    obtain ⟨p, hp, h3⟩ := onSome_elim h2
    obtain ⟨hx, h4⟩ := hC.okX h3
    obtain ⟨u, hr, h5⟩ := loadVar_to hx h4
    obtain ⟨vs, h6, h7⟩ := resX_to hC hA r _ k h5
    refine ⟨u :: vs, ?_, by simpa using h7⟩
    have hval := hA.val s v hv
    rw [List.mapM_cons]
    simp only [resSem, Sem.run_bind, Sem.run_pure, Result.andThen_ok, hval, hq, hp, asAddr, hr, h6]
def fnOk (C : Ctx) (fn : Func) (c : Code) (nargs : Nat) : Bool :=
  codeOk C fn.ntmps (fun id full => planB C full (C.orders id)) c && Nat.ble nargs fn.ntmps && !(fn.name == "runtime.NumGoroutine")
theorem fn_to {C : Ctx} (hC : CtxOk C) {g : Nat} {fn : Func} (hf : C.P.funcs[g]? = some fn) {c : Code} (hb : fn.body = some c) {args : List Value} (hok : fnOk C fn c args.length = true) {k : Value → Heap → Prop} {h : Heap}
    (hx : fnX C fn c args k h) : HCalls C.P g args h k := by
  simp only [fnOk, Bool.and_eq_true, Bool.not_eq_true'] at hok
  obtain ⟨⟨h1, h2⟩, h3⟩ := hok
  have hle := Nat.le_of_ble_eq_true h2
  refine ⟨⟨fn, hf, h3, by rw [hb]; rfl⟩, fun w hw => ?_⟩
  subst hw
  refine calls_of_wp hf hb ?_
  have hA : Agr fn.ntmps { tmps := ⟨args⟩ ++ Array.replicate (fn.ntmps - (⟨args⟩ : Array Value).size) undef, defers := [] } (argsF args 0) := by
    refine ⟨by simp; omega, rfl, fun t v hv => ?_⟩
    obtain ⟨_, h5⟩ := argsF_get args 0 t v hv
    simp only [Nat.sub_zero] at h5
    have hlt := (List.getElem?_eq_some_iff.1 h5).1
    rw [Array.getD_eq_getD_getElem?, Array.getElem?_append_left (by simpa using hlt)]
    simp [h5]
  have done : ∀ (f : Fr) (a : Act) (w' : World), resX C fn.results.toList f w'.heap [] (fun vs => k (retV vs) w'.heap) → Agr fn.ntmps a f → SameRest w w' →
      a.defers = [] ∧ ∃ v, (results fn a.tmps).run C.P w' = .ok v w' ∧ ∃ u, Ending.returned v = .returned u ∧ SameRest w w' ∧ k u w'.heap := by
    intro f a w' hr hA hR
    obtain ⟨vs, g1, g2⟩ := resX_to hC hA _ _ _ hr
    refine ⟨hA.defers, retV vs, ?_, retV vs, rfl, hR, by simpa using g2⟩
    have hres : results fn a.tmps = (do let vs ← fn.results.mapM (resSem a); Pure.pure (if h : vs.size = 1 then vs[0] else .tuple vs)) := by
      unfold results
      congr 2
    rw [hres, Sem.run_bind, Array.mapM_eq_mapM_toList, Sem.run_map, g1]
    simp only [Result.andThen_ok, Sem.run_pure]
    congr 1
    cases vs with
    | nil => rfl
    | cons v r => cases r <;> rfl
  exact wpx_to hC (drawnLaw hC fn.ntmps) c h1 _ _ _ _ _ w hx hA (.refl _) ⟨fun f a w' hr hA hR _ => done f a w' hr hA hR, fun id f a w' hr => hr.elim, fun f a w' hr hA hR => done f a w' hr hA hR⟩
end Go.Proofs.Ytnbfaokpaiiojaa.Wx
