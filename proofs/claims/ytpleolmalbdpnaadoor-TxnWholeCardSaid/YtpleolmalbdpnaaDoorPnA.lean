/-
  PANICS: what gives up, and what takes it up.
-/
import Derived.Test.YtpleolmalbdpnaaDoorHpE
import Derived.Test.YtpleolmalbdpnaaDoorTab
import Derived.RecoverIn
import Derived.WalkKit
import Derived.WalkLawsBesides
namespace Go.Proofs.YtpleolmalbdpnaaDoor.Pn
open Go Go.Proofs Go.Proofs.YtpleolmalbdpnaaDoor.Wx Go.Proofs.YtpleolmalbdpnaaDoor.Hp Go.Proofs.YtpleolmalbdpnaaDoor.W

/-- the operations of a region that are left, in a frame that was called as a deferred one -/
def WS (P : Program) (ops : Array Oper) (Q : Exit → Act → List Frame → World → Prop) (l : List Nat) (a : Act) (cs : List Frame) (w : World) : Prop :=
  ∀ (b : Frame) (k : List Item), b.kind = .deferred → b.roundOf = none → ∃ e a' cs' w', cs'.length = cs.length ∧ Q e a' cs' w' ∧ ArrivesIn (Machine.fenced P Fence.wide) P (lone (b.atR a (.inRegion ops l :: k)) cs w) b k cs' e a' w'
section
variable {P : Program} {ops : Array Oper} {Q : Exit → Act → List Frame → World → Prop} {l rest : List Nat} {a : Act} {cs cs' : List Frame} {w w' : World} {i : Nat} {o : Oper} {v : Value}
theorem WS.of_wp (h : wpOpsIn Fence.wide 0 P ops (fun e a w => Q e a cs w) l a w) : WS P ops Q l a cs w := fun b k _ hr =>
  let ⟨e, a', w', q, r⟩ := wp_opsIn l a w h b k cs hr trivial (room_wide _)
  ⟨e, a', cs, w', rfl, q, r⟩
theorem WS.value (ho : ops[i]? = some o) (hg : o.guard = none) (hr : (execOp a.eval o).run P w = .ok (.value v) w') (h : WS P ops Q rest (a.put o.dst v) cs w') : WS P ops Q (i :: rest) a cs w := by
  intro b k hb hro
  have hw : Region.wanted o (yielded ops a.tmps) = true := by unfold Region.wanted; rw [hg]
  have h0 : (lone (b.atR a (.inRegion ops (i :: rest) :: k)) cs w).fenced P Fence.wide := fenced_oper (n := 0) trivial (room_wide _) ho fun _ _ => trivial
  have hs := stepGR_op (P := P) (b := b) (k := k) (cs := cs) (w := w) (rest := rest) ho hw
  rw [hro, Oper.semAt_none] at hs
  have hfin : ∀ v, (b.atR a (.inRegion ops (i :: rest) :: k)).finish v = b.atR (a.put o.dst v) (.inRegion ops rest :: k) := by
    intro v; rw [Frame.finish_atR, ho]; rfl
  obtain ⟨e, a', cs'', w'', hl, hq, harr⟩ := h b k hb hro
  refine ⟨e, a', cs'', w'', hl, hq, .of_steps (.one h0 (step_lone_go ?_)) harr⟩
  rw [hs, ← hfin]; simp [stepG.apply, hr]
theorem WS.rec_some (ho : ops[i]? = some o) (hg : o.guard = none) (hr : (execOp a.eval o).run P w = .ok .recover w') (hc : recoverD cs = some (v, cs')) (h : WS P ops Q rest (a.put o.dst v) cs' w') : WS P ops Q (i :: rest) a cs w := by
  intro b k hb hro
  have hw : Region.wanted o (yielded ops a.tmps) = true := by unfold Region.wanted; rw [hg]
  have h0 : (lone (b.atR a (.inRegion ops (i :: rest) :: k)) cs w).fenced P Fence.wide := fenced_oper (n := 0) trivial (room_wide _) ho fun _ _ => trivial
  have hs := stepGR_op (P := P) (b := b) (k := k) (cs := cs) (w := w) (rest := rest) ho hw
  rw [hro, Oper.semAt_none] at hs
  have hfin : ∀ v, (b.atR a (.inRegion ops (i :: rest) :: k)).finish v = b.atR (a.put o.dst v) (.inRegion ops rest :: k) := by
    intro v; rw [Frame.finish_atR, ho]; rfl
  have hk : (b.atR a (.inRegion ops (i :: rest) :: k)).kind = .deferred := hb
  have htr := tryRecover_deferred hk cs
  obtain ⟨e, a', cs'', w'', hl, hq, harr⟩ := h b k hb hro
  refine ⟨e, a', cs'', w'', hl.trans (recoverD_length hc), hq, .of_steps (.one h0 (step_lone_go ?_)) harr⟩
  rw [hs, ← hfin]
  simp only [Frame.atR, hro] at htr ⊢
  simp [stepG.apply, hr, htr, hc]
theorem WS.rec_none (ho : ops[i]? = some o) (hg : o.guard = none) (hr : (execOp a.eval o).run P w = .ok .recover w') (hc : recoverD cs = none) (h : WS P ops Q rest (a.put o.dst .nilIface) cs w') : WS P ops Q (i :: rest) a cs w := by
  intro b k hb hro
  have hw : Region.wanted o (yielded ops a.tmps) = true := by unfold Region.wanted; rw [hg]
  have h0 : (lone (b.atR a (.inRegion ops (i :: rest) :: k)) cs w).fenced P Fence.wide := fenced_oper (n := 0) trivial (room_wide _) ho fun _ _ => trivial
  have hs := stepGR_op (P := P) (b := b) (k := k) (cs := cs) (w := w) (rest := rest) ho hw
  rw [hro, Oper.semAt_none] at hs
  have hfin : ∀ v, (b.atR a (.inRegion ops (i :: rest) :: k)).finish v = b.atR (a.put o.dst v) (.inRegion ops rest :: k) := by
    intro v; rw [Frame.finish_atR, ho]; rfl
  have hk : (b.atR a (.inRegion ops (i :: rest) :: k)).kind = .deferred := hb
  have htr := tryRecover_deferred hk cs
  obtain ⟨e, a', cs'', w'', hl, hq, harr⟩ := h b k hb hro
  refine ⟨e, a', cs'', w'', hl, hq, .of_steps (.one h0 (step_lone_go ?_)) harr⟩
  rw [hs, ← hfin]
  simp only [Frame.atR, hro] at htr ⊢
  simp [stepG.apply, hr, htr, hc]
theorem ws_region {id : Nat} (h : ∀ t, WS P ops Q (Region.schedule (P.follows .mixedOrders) ops t) a cs { w with drawn := w.drawn + 1 }) : (Code.region id ops true).wpSIn Fence.wide 0 P Q a cs w :=
  fun b k hb hr hF hroom => let ⟨e, a', cs', w', l, q, r⟩ := h _ b k hb hr; ⟨e, a', cs', w', l, q, .of_steps (.one (fenced_calm hF hroom rfl) stepR_region_draw) r⟩
end
/-- the orders of four operations, of which the first two may change places -/
theorem two_orders {ops : Array Oper} (hs : ops.size = 4) (h0 : Region.ready .any ops #[false, false, false, false] = [0, 1]) (h1 : Region.ready .any ops #[true, false, false, false] = [1]) (h2 : Region.ready .any ops #[false, true, false, false] = [0])
    (h3 : Region.ready .any ops #[true, true, false, false] = [2]) (h4 : Region.ready .any ops #[true, true, true, false] = [3]) (mixed : Bool) (hm : mixed = true) (t : Nat) :
    Region.schedule mixed ops t = [0, 1, 2, 3] ∨ Region.schedule mixed ops t = [1, 0, 2, 3] := by
  subst hm
  have e : ∀ t, Region.schedule true ops t = Region.linearise .any ops t := fun _ => rfl
  rw [e]
  unfold Region.linearise
  rw [hs]
  have st : ∀ (fuel t : Nat) (listed : Array Bool) (acc : List Nat), Region.linearise.go .any ops (fuel + 1) t listed acc = match (Region.ready .any ops listed)[t % (Region.ready .any ops listed).length]? with
      | some i => Region.linearise.go .any ops fuel (t / (Region.ready .any ops listed).length) (listed.setIfInBounds i true) (i :: acc)
      | none => acc.reverse := fun _ _ _ _ => rfl
  have rep : Array.replicate 4 false = #[false, false, false, false] := rfl
  rw [rep, st, h0]
  have hm : t % 2 = 0 ∨ t % 2 = 1 := by omega
  have one : ∀ t x : Nat, ([x] : List Nat)[t % [x].length]? = some x := fun t x => by
    have : t % [x].length = 0 := Nat.mod_one t
    rw [this]; rfl
  rcases hm with hm | hm
  · left
    have : ([0, 1] : List Nat)[t % ([0, 1] : List Nat).length]? = some 0 := by
      show ([0, 1] : List Nat)[t % 2]? = _
      rw [hm]; rfl
    rw [this]
    show Region.linearise.go .any ops 3 _ #[true, false, false, false] [0] = _
    rw [st, h1, one]
    show Region.linearise.go .any ops 2 _ #[true, true, false, false] [1, 0] = _
    rw [st, h3, one]
    show Region.linearise.go .any ops 1 _ #[true, true, true, false] [2, 1, 0] = _
    rw [st, h4, one]; rfl
  · right
    have : ([0, 1] : List Nat)[t % ([0, 1] : List Nat).length]? = some 1 := by
      show ([0, 1] : List Nat)[t % 2]? = _
      rw [hm]; rfl
    rw [this]
    show Region.linearise.go .any ops 3 _ #[false, true, false, false] [1] = _
    rw [st, h2, one]
    show Region.linearise.go .any ops 2 _ #[true, true, false, false] [0, 1] = _
    rw [st, h3, one]
    show Region.linearise.go .any ops 1 _ #[true, true, true, false] [2, 0, 1] = _
    rw [st, h4, one]; rfl
def guV (e : Int) : Value := .iface 128 (.int .i64 e)
theorem must_true {e : Int} {h : Heap} {K KP : Value → Heap → Prop} (hK : K (.tuple #[]) h) : C.wal_must true e h K KP := by
  refine ⟨⟨_, Tryd.func76, by kernel_rfl, by kernel_rfl⟩, fun w hw => ?_⟩
  have : Calls Tryd.prog 76 #[.bool true, .int .i64 e] w fun x w' => x = .returned (.tuple #[]) ∧ w' = w := by
    go_enter Tryd.func76, Tryd.ntmps76
    go_wp2
    simp [bodyPost, results, Tryd.results76]
  refine Calls.mono this ?_
  rintro x w' ⟨rfl, rfl⟩
  exact ⟨.refl _, .inl ⟨_, rfl, by rw [hw]; exact hK⟩⟩
theorem must_false {e : Int} {h : Heap} {K KP : Value → Heap → Prop} (hK : KP (guV e) h) : C.wal_must false e h K KP := by
  refine ⟨⟨_, Tryd.func76, by kernel_rfl, by kernel_rfl⟩, fun w hw => ?_⟩
  have hc : Tryd.prog.concrete 128 = true := by kernel_rfl
  have : Calls Tryd.prog 76 #[.bool false, .int .i64 e] w fun x w' => x = .panicked [{ v := guV e, recovered := false }] ∧ w' = w := by
    go_enter Tryd.func76, Tryd.ntmps76
    go_wp2
    exact ⟨rfl, rfl, rfl⟩
  refine Calls.mono this ?_
  rintro x w' ⟨rfl, rfl⟩
  exact ⟨.refl _, .inr ⟨_, rfl, by rw [hw]; exact hK⟩⟩
/-- a call of caught -/
def caughtC (x : Value) (e : Int) (h : Heap) (k : Value → Heap → Prop) : Prop := HCalls Tryd.prog 55 [x, .int .i64 e] h k
theorem caught_nil {e : Int} {h : Heap} {K : Value → Heap → Prop} (hK : K (.int .i64 e) h) : caughtC .nilIface e h K := by
  refine ⟨⟨_, Tryd.func55, by kernel_rfl, by kernel_rfl⟩, fun w hw => ?_⟩
  have : Calls Tryd.prog 55 #[.nilIface, .int .i64 e] w fun x w' => x = .returned (.int .i64 e) ∧ w' = w := by
    go_enter Tryd.func55, Tryd.ntmps55
    go_wp2
    go_ret
    exact ⟨rfl, rfl⟩
  refine Calls.mono this ?_
  rintro x w' ⟨rfl, rfl⟩
  exact ⟨_, rfl, .refl _, by rw [hw]; exact hK⟩
theorem caught_gu {n e : Int} {h : Heap} {K : Value → Heap → Prop} (hK : K (.int .i64 n) h) : caughtC (guV n) e h K := by
  refine ⟨⟨_, Tryd.func55, by kernel_rfl, by kernel_rfl⟩, fun w hw => ?_⟩
  have : Calls Tryd.prog 55 #[guV n, .int .i64 e] w fun x w' => x = .returned (.int .i64 n) ∧ w' = w := by
    unfold guV
    have h0 : (binOp .eql 20 (.iface 128 (.int .i64 n)) .nilIface).run Tryd.prog w = .ok (.bool false) w := by kernel_rfl
    have h1 : (Instr.typeAssert (.iface 128 (.int .i64 n)) 20 128 true).run Tryd.prog w = .ok (.tuple #[.int .i64 n, .bool true]) w := by kernel_rfl
    go_enter Tryd.func55, Tryd.ntmps55
    go_wp2
    go_ret
    exact ⟨rfl, rfl⟩
  refine Calls.mono this ?_
  rintro x w' ⟨rfl, rfl⟩
  exact ⟨_, rfl, .refl _, by rw [hw]; exact hK⟩
/-- a closure that asks caught what to answer -/
structure Clo (ops : Array Oper) : Prop where
  size : ops.size = 4
  r0 : Region.ready .any ops #[false, false, false, false] = [0, 1]
  r1 : Region.ready .any ops #[true, false, false, false] = [1]
  r2 : Region.ready .any ops #[false, true, false, false] = [0]
  r3 : Region.ready .any ops #[true, true, false, false] = [2]
  r4 : Region.ready .any ops #[true, true, true, false] = [3]
  o0 : ops[0]?.map (fun o => (o.op, o.dst, o.guard)) = some (.call { callee := .builtin .recover, args := #[], argTypes := #[] }, some 1, none)
  o1 : ops[1]?.map (fun o => (o.op, o.dst, o.guard)) = some (.load 25 (.tmp 0), some 2, none)
  o2 : ops[2]?.map (fun o => (o.op, o.dst, o.guard)) = some (.call { callee := .value (.func 55), args := #[.tmp 1, .tmp 2], argTypes := #[20, 25] }, some 3, none)
  o3 : ops[3]?.map (fun o => (o.op, o.dst, o.guard)) = some (.store 25 (.tmp 0) (.tmp 3), none, none)
theorem pick {ops : Array Oper} {i : Nat} {p : Op × Option Tmp × Option (Nat × Bool)} (h : ops[i]?.map (fun o => (o.op, o.dst, o.guard)) = some p) : ∃ o, ops[i]? = some o ∧ o.op = p.1 ∧ o.dst = p.2.1 ∧ o.guard = p.2.2 := by
  cases e : ops[i]? with
  | none => rw [e] at h; cases h
  | some o =>
    rw [e] at h
    have h : some (o.op, o.dst, o.guard) = some p := h
    cases h
    exact ⟨o, rfl, rfl, rfl, rfl⟩
theorem enter_run {P : Program} {a : Act} {o : Oper} {f : Nat} {args : Array Operand} {ats : Array TypeId} {w : World} (e : o.op = .call { callee := .value (.func f), args := args, argTypes := ats }) (hc : Callable P f) :
    (execOp a.eval o).run P w = .ok (.enter f ⟨[] ++ args.toList.map a.eval⟩) w := by
  obtain ⟨fn, hf, hn, hb⟩ := hc
  obtain ⟨_, op2, _, _, _, _⟩ := o
  have e : op2 = _ := e
  subst e
  show (callFunc f _).run P w = _
  simp only [callFunc, Sem.run_bind, run_program, Result.andThen_ok, hf, hn, hb, Bool.false_eq_true, if_false, Sem.run_pure]
  congr 2
  apply Array.ext'
  simp
theorem clo {g : Nat} {fn : Func} {id : Nat} {ops : Array Oper} {b : Nat} {v r : Int} {x : Value} {u u' : FrameMode} {w : World} (C : Clo ops) (hf : Tryd.prog.funcs[g]? = some fn) (hb : fn.body = some (.region id ops true)) (hn : fn.ntmps = 4) (hres : fn.results = #[])
    (hw : Own w.heap b) (e : rd w.heap b = [.int .i64 v])
    (hrec : ∀ (c : Frame) (cs : List Frame), c.mode = u → (recoverD (c :: cs) = some (x, { c with mode := u' } :: cs)) ∨ (x = .nilIface ∧ u' = u ∧ recoverD (c :: cs) = none))
    (hc : ∀ (h : Heap) (K : Value → Heap → Prop), K (.int .i64 r) h → caughtC x v h K) :
    CallsDIn Fence.wide 0 Tryd.prog g #[.pointer (some ⟨b, 0, none⟩)] u w fun en u2 w' => u2 = u' ∧ (∃ y, en = .returned y) ∧ SameRest w w' ∧ w'.heap = setOf w.heap ⟨b, 0, none⟩ (.int .i64 r) := by
  obtain ⟨o0, g0, e0, d0, q0⟩ := pick C.o0
  obtain ⟨o1, g1, e1, d1, q1⟩ := pick C.o1
  obtain ⟨o2, g2, e2, d2, q2⟩ := pick C.o2
  obtain ⟨o3, g3, e3, d3, q3⟩ := pick C.o3
  have tx := tiok25
  have hcell : cellOf w.heap ⟨b, 0, none⟩ = some (.int .i64 v) := rdc e rfl
  have hwr : Wr w.heap ⟨b, 0, none⟩ := wr_rd hw (by rw [e]; exact Nat.one_pos)
  have want : ∀ (o : Oper) (y : Nat → Option Bool), o.guard = none → Region.wanted o y = true := fun o y h => by unfold Region.wanted; rw [h]
  have load : ∀ (a : Act) (w1 : World), a.eval (.tmp 0) = .pointer (some ⟨b, 0, none⟩) → w1.heap = w.heap → (execOp a.eval o1).run Tryd.prog w1 = .ok (.value (.int .i64 v)) w1 := fun a w1 h0 h1 => by
    obtain ⟨y, hr, hy⟩ := loadVar_to tx (p := ⟨b, 0, none⟩) (w := w1) (k := fun y => y = .int .i64 v) (show loadX ti25 ⟨b, 0, none⟩ w1.heap _ from ⟨v, by rw [h1]; exact hcell, rfl⟩)
    subst hy
    simp only [execOp, e1]
    rw [h0]
    simp only [Instr.loadAt, Instr.sureAddr, Sem.run_bind, Sem.run_pure, Result.andThen_ok, hr]
  have recv : ∀ (a : Act) (w1 : World), (execOp a.eval o0).run Tryd.prog w1 = .ok .recover w1 := fun a w1 => by
    simp only [execOp, e0]; rfl
  have tail : ∀ (c₀ : Frame) (cs : List Frame) (a : Act) (w1 : World), a.defers = [] → a.tmps.size = 4 → a.eval (.tmp 0) = .pointer (some ⟨b, 0, none⟩) → a.eval (.tmp 1) = x → a.eval (.tmp 2) = .int .i64 v → SameRest w w1 → w1.heap = w.heap →
      WS Tryd.prog ops (bodyPostS Tryd.prog fn c₀ cs fun en u2 w' => u2 = u' ∧ (∃ y, en = .returned y) ∧ SameRest w w' ∧ w'.heap = setOf w.heap ⟨b, 0, none⟩ (.int .i64 r)) [2, 3] a ({ c₀ with mode := u' } :: cs) w1 := by
    intro c₀ cs a w1 hd hs t0 t1 t2 sr hh
    refine WS.of_wp ?_
    unfold wpOpsIn
    rw [g2]
    dsimp only
    rw [if_pos (want o2 _ q2)]
    have H := hc w1.heap (fun y h' => y = .int .i64 r ∧ h' = w1.heap) ⟨rfl, rfl⟩
    obtain ⟨hcl, hcall⟩ := H
    have hr2 : (execOp a.eval o2).run Tryd.prog w1 = .ok (.enter 55 ⟨[x, .int .i64 v]⟩) w1 := by
      rw [enter_run e2 hcl]
      show Result.ok (Next.enter _ ⟨[a.eval (.tmp 1), a.eval (.tmp 2)]⟩) w1 = _
      rw [t1, t2]
    refine ⟨fun _ _ => trivial, ?_⟩
    show o2.uponIn Fence.wide 0 Tryd.prog a _ _ ((o2.semAt none a.eval).run Tryd.prog w1)
    rw [Oper.semAt_none, hr2, Oper.uponIn_enter]
    refine ⟨(fun y => by cases y), (callsIn_wide (n := 0 - 1)).2 ((hcall w1 rfl).mono fun en w2 ⟨y, h1, h2, h3⟩ => ?_)⟩
    obtain ⟨rfl, h4⟩ := h3
    subst h1
    show wpOpsIn Fence.wide 0 Tryd.prog ops _ [3] (a.put o2.dst (.int .i64 r)) w2
    rw [d2]
    unfold wpOpsIn
    rw [g3]
    dsimp only
    rw [if_pos (want o3 _ q3)]
    have s0 : (a.put (some 3) (.int .i64 r)).eval (.tmp 0) = .pointer (some ⟨b, 0, none⟩) := by
      rw [← t0]; simp [Act.put, Act.eval]
    have s3 : (a.put (some 3) (.int .i64 r)).eval (.tmp 3) = .int .i64 r := by
      simp [Act.put, Act.eval, hs]
    obtain ⟨w3, hr3, hs3, hk3⟩ := storeVar_to tx (p := ⟨b, 0, none⟩) (v := .int .i64 r) (w := w2) (k := fun h' => h' = setOf w.heap ⟨b, 0, none⟩ (.int .i64 r)) (show storeX ti25 ⟨b, 0, none⟩ (.int .i64 r) w2.heap _ from ⟨by rw [h4, hh]; exact hwr, by rw [h4, hh]⟩)
    have hr3' : (execOp (a.put (some 3) (.int .i64 r)).eval o3).run Tryd.prog w2 = .ok .skip w3 := by
      simp only [execOp, e3, s0, s3, Instr.storeAt, Instr.sureAddr, Sem.run_bind, Sem.run_pure, Result.andThen_ok, hr3]
    refine ⟨fun _ _ => trivial, ?_⟩
    show o3.uponIn Fence.wide 0 Tryd.prog _ _ _ ((o3.semAt none _).run Tryd.prog w2)
    rw [Oper.semAt_none, hr3', Oper.uponIn_skip, d3]
    unfold wpOpsIn
    refine ⟨by simpa [Act.put] using hd, u', rfl, .tuple #[], by simp [results, hres], rfl, ⟨_, rfl⟩, (sr.trans h2).trans hs3, hk3⟩
  refine callsDIn_of_wpSIn hf hb trivial fun c₀ cs hu => ws_region fun t => ?_
  have hsz : (#[Value.pointer (some ⟨b, 0, none⟩)] ++ Array.replicate (fn.ntmps - (#[Value.pointer (some ⟨b, 0, none⟩)] : Array Value).size) undef) = #[.pointer (some ⟨b, 0, none⟩), undef, undef, undef] := by rw [hn]; rfl
  rw [hsz]
  rcases two_orders C.size C.r0 C.r1 C.r2 C.r3 C.r4 (Tryd.prog.follows .mixedOrders) (by kernel_rfl) t with hsch | hsch
  · rw [hsch]
    have next : WS Tryd.prog ops (bodyPostS Tryd.prog fn c₀ cs fun en u2 w' => u2 = u' ∧ (∃ y, en = .returned y) ∧ SameRest w w' ∧ w'.heap = setOf w.heap ⟨b, 0, none⟩ (.int .i64 r)) [1, 2, 3] (({ tmps := #[.pointer (some ⟨b, 0, none⟩), undef, undef, undef], defers := [] } : Act).put o0.dst x) ({ c₀ with mode := u' } :: cs) { w with drawn := w.drawn + 1 } := by
      rw [d0]
      refine WS.value g1 q1 (load _ _ rfl rfl) ?_
      rw [d1]
      exact tail c₀ cs _ _ rfl rfl rfl rfl rfl ⟨rfl, rfl, rfl⟩ rfl
    rcases hrec c₀ cs hu with hq | ⟨hx, hu', hq⟩
    · exact WS.rec_some g0 q0 (recv _ _) hq next
    · rw [hx] at next
      have hcs : ({ c₀ with mode := u' } : Frame) = c₀ := by rw [hu', ← hu]
      rw [hcs] at next
      exact WS.rec_none g0 q0 (recv _ _) hq next
  · rw [hsch]
    refine WS.value g1 q1 (load _ _ rfl rfl) ?_
    rw [d1]
    have next : WS Tryd.prog ops (bodyPostS Tryd.prog fn c₀ cs fun en u2 w' => u2 = u' ∧ (∃ y, en = .returned y) ∧ SameRest w w' ∧ w'.heap = setOf w.heap ⟨b, 0, none⟩ (.int .i64 r)) [2, 3] ((({ tmps := #[.pointer (some ⟨b, 0, none⟩), undef, undef, undef], defers := [] } : Act).put (some 2) (.int .i64 v)).put o0.dst x) ({ c₀ with mode := u' } :: cs) { w with drawn := w.drawn + 1 } := by
      rw [d0]
      exact tail c₀ cs _ _ rfl rfl rfl rfl rfl ⟨rfl, rfl, rfl⟩ rfl
    rcases hrec c₀ cs hu with hq | ⟨hx, hu', hq⟩
    · exact WS.rec_some g0 q0 (recv _ _) hq next
    · rw [hx] at next
      have hcs : ({ c₀ with mode := u' } : Frame) = c₀ := by rw [hu', ← hu]
      rw [hcs] at next
      exact WS.rec_none g0 q0 (recv _ _) hq next
/-! the closures -/
def opsOf (fn : Func) : Array Oper :=
  match fn.body with
  | some (.region _ ops _) => ops
  | _ => #[]
theorem did_of {b : Nat} {h h' : Heap} {x y : Value} (o : Own h b) (e : rd h b = [x]) (he : h' = setOf h ⟨b, 0, none⟩ y) : Did b h h' [y] := by
  subst he
  refine ⟨size_setOf _ _ _, (Fr.refl _ h).setOf (Or.inl rfl), own_setOf o, ?_⟩
  rw [rd_setOf_at, e]; rfl
theorem behind_clo : Clo (opsOf Tryd.f54) := ⟨by kernel_rfl, by kernel_rfl, by kernel_rfl, by kernel_rfl, by kernel_rfl, by kernel_rfl, by kernel_rfl, by kernel_rfl, by kernel_rfl, by kernel_rfl⟩
theorem behind_body : Tryd.f54.body = some (.region 0 (opsOf Tryd.f54) true) := by kernel_rfl
theorem behind_ret {b : Nat} {v : Int} {h : Heap} {K : Heap → Prop} (o : Own h b) (e : rd h b = [.int .i64 v]) (hK : ∀ h', Did b h h' [.int .i64 v] → K h') : D.wal_Behind_c1 (some ⟨b, 0, none⟩) h K := by
  refine ⟨⟨_, Tryd.func54, by kernel_rfl, by kernel_rfl⟩, fun w hw => ?_⟩
  subst hw
  refine CallsDIn.mono (clo (x := .nilIface) (u := .returning) (u' := .returning) (r := v) behind_clo Tryd.func54 behind_body (by kernel_rfl) (by kernel_rfl) o e (fun c cs hu => .inr ⟨rfl, rfl, by simp [recoverD, hu]⟩) fun h K hk => caught_nil hk) ?_
  rintro en u2 w' ⟨h1, h2, h3, h4⟩
  exact ⟨h1, h2, h3, hK _ (did_of o e h4)⟩
theorem behind_pan {b : Nat} {v n : Int} {h : Heap} {K : Heap → Prop} (o : Own h b) (e : rd h b = [.int .i64 v]) (hK : ∀ h', Did b h h' [.int .i64 n] → K h') : PD.wal_Behind_c1 (some ⟨b, 0, none⟩) (guV n) h K := by
  refine ⟨⟨_, Tryd.func54, by kernel_rfl, by kernel_rfl⟩, fun w hw => ?_⟩
  subst hw
  refine CallsDIn.mono (clo (x := guV n) (u := .panicking [{ v := guV n, recovered := false }]) (u' := .panicking [{ v := guV n, recovered := true }]) (r := n) behind_clo Tryd.func54 behind_body (by kernel_rfl) (by kernel_rfl) o e (fun c cs hu => .inl (by simp [recoverD, hu])) fun h K hk => caught_gu hk) ?_
  rintro en u2 w' ⟨h1, h2, h3, h4⟩
  exact ⟨h1, h2, h3, hK _ (did_of o e h4)⟩
theorem recover_clo : Clo (opsOf Tryd.f59) := ⟨by kernel_rfl, by kernel_rfl, by kernel_rfl, by kernel_rfl, by kernel_rfl, by kernel_rfl, by kernel_rfl, by kernel_rfl, by kernel_rfl, by kernel_rfl⟩
theorem recover_body : Tryd.f59.body = some (.region 0 (opsOf Tryd.f59) true) := by kernel_rfl
theorem recover_ret {b : Nat} {v : Int} {h : Heap} {K : Heap → Prop} (o : Own h b) (e : rd h b = [.int .i64 v]) (hK : ∀ h', Did b h h' [.int .i64 v] → K h') : D.wal_Recover_c1 (some ⟨b, 0, none⟩) h K := by
  refine ⟨⟨_, Tryd.func59, by kernel_rfl, by kernel_rfl⟩, fun w hw => ?_⟩
  subst hw
  refine CallsDIn.mono (clo (x := .nilIface) (u := .returning) (u' := .returning) (r := v) recover_clo Tryd.func59 recover_body (by kernel_rfl) (by kernel_rfl) o e (fun c cs hu => .inr ⟨rfl, rfl, by simp [recoverD, hu]⟩) fun h K hk => caught_nil hk) ?_
  rintro en u2 w' ⟨h1, h2, h3, h4⟩
  exact ⟨h1, h2, h3, hK _ (did_of o e h4)⟩
theorem recover_pan {b : Nat} {v n : Int} {h : Heap} {K : Heap → Prop} (o : Own h b) (e : rd h b = [.int .i64 v]) (hK : ∀ h', Did b h h' [.int .i64 n] → K h') : PD.wal_Recover_c1 (some ⟨b, 0, none⟩) (guV n) h K := by
  refine ⟨⟨_, Tryd.func59, by kernel_rfl, by kernel_rfl⟩, fun w hw => ?_⟩
  subst hw
  refine CallsDIn.mono (clo (x := guV n) (u := .panicking [{ v := guV n, recovered := false }]) (u' := .panicking [{ v := guV n, recovered := true }]) (r := n) recover_clo Tryd.func59 recover_body (by kernel_rfl) (by kernel_rfl) o e (fun c cs hu => .inl (by simp [recoverD, hu])) fun h K hk => caught_gu hk) ?_
  rintro en u2 w' ⟨h1, h2, h3, h4⟩
  exact ⟨h1, h2, h3, hK _ (did_of o e h4)⟩
end Go.Proofs.YtpleolmalbdpnaaDoor.Pn
