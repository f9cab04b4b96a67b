/-
  InodePlays: one call on both sides; the law's function answers true.
-/
import Derived.Test.YtcdpakjhjmchhaaDoorIpA
namespace Go.Proofs.YtcdpakjhjmchhaaDoor.Rx
open Go Go.Proofs Go.Proofs.YtcdpakjhjmchhaaDoor.Wx Go.Proofs.YtcdpakjhjmchhaaDoor.Hp Go.Proofs.YtcdpakjhjmchhaaDoor.W Go.Proofs.YtcdpakjhjmchhaaDoor.Ad Go.Proofs.YtcdpakjhjmchhaaDoor.Tm Go.Proofs.YtcdpakjhjmchhaaDoor.Spc Go.Proofs.YtcdpakjhjmchhaaDoor.Re Go.Proofs.YtcdpakjhjmchhaaDoor.Av Go.Proofs.YtcdpakjhjmchhaaDoor.Ino
open Go.Proofs.YtcdpakjhjmchhaaDoor.Hd (ints ints_get)
open Go.Proofs.YtcdpakjhjmchhaaDoor.In (z15 mayR encR decA ints_one ints_length ints_eq pairs15 cell15 Glo getR_length encR_length z15_row)

structure OpI where
  k : Int
  n : Int
  a : Int
  R : List Int
  x : UInt8
def OpI.v (o : OpI) : List Value := [.int .i64 o.k, .int .i64 o.n, .int .i64 o.a] ++ ints o.R ++ [bv o.x]
theorem OpI.len {o : OpI} (h : o.R.length = 15) : o.v.length = 19 := by unfold OpI.v; rw [List.length_append, List.length_append, ints_length, h]; rfl
theorem OpI.cR {o : OpI} {h : Heap} {b : Nat} (e : rd h b = o.v) : Cells h (Addr.add ⟨b, 0, none⟩ 3) (ints o.R) := by
  refine cellsa e ?_
  show (ints o.R ++ [bv o.x]).take _ = _
  exact List.take_left
theorem OpI.cX {o : OpI} {h : Heap} {b : Nat} (hR : o.R.length = 15) (e : rd h b = o.v) : cellOf h (Addr.add ⟨b, 0, none⟩ 18) = some (.int .u8 (o.x.toNat : Int)) := by
  refine rda e ?_
  have l : ([Value.int .i64 o.k, .int .i64 o.n, .int .i64 o.a] ++ ints o.R).length = 18 := by rw [List.length_append, ints_length, hR]; rfl
  unfold OpI.v
  rw [Nat.zero_add, List.getElem?_append_right (by omega), l]; rfl
theorem Pl.f1 {h0 hh h1 : Heap} {t d u q ma : Option Addr} {pb n mc c : Nat} {F H : Nat → Prop} {T : TM} {ms : List Int} (a : Pl h0 t d u q pb n hh F H T ms ma mc c) (f1 : Fr H hh h1) : Fr No h0 h1 :=
  a.f.trans f1 fun b hb y => by have := (a.sH b y).1; omega
theorem Pl.go {h0 hh h1 h2 : Heap} {t d u q ma : Option Addr} {pb n mc c : Nat} {F H F' H' : Nat → Prop} {T T' : TM} {ms : List Int} (a : Pl h0 t d u q pb n hh F H T ms ma mc c) (k : Kp T T') (f1 : Fr H hh h1) (g1 : Gw hh H h1 H') (f2 : Fr F h1 h2) (g2 : Gw h1 F h2 F')
    (x' : Tx h2 F' t d T') (y1 : RxS h1 H' u q T') : Pl h0 t d u q pb n h2 F' H' T' ms ma mc (c + 1) :=
  a.both f1 g1 f2 g2 x' y1 (k.N.trans a.N) (by have := k.un; have := a.un; omega) (Nat.le_succ c) (by rw [k.disk]; exact a.st)
/-- the row of marks is another one -/
theorem Pl.marks {h0 hh h1 h2 : Heap} {t d u q ma ma' : Option Addr} {pb n mc mc' c c' : Nat} {F H : Nat → Prop} {T : TM} {ms ms' : List Int} (a : Pl h0 t d u q pb n hh F H T ms ma mc c)
    (f1 : Fr (fun b => h0.size ≤ b ∧ b ≠ pb ∧ ¬ F b ∧ ¬ H b) hh h1) (s : Sl h1 2 ma' ms'.length mc' (ms'.flatMap mcell) (fun b => (h0.size ≤ b ∧ b ≠ pb ∧ ¬ F b ∧ ¬ H b) ∨ hh.size ≤ b))
    (d2 : Did pb h1 h2 ((geoN n).v ++ [.pointer d, .pointer q, .pointer t, .pointer u, .slice ma' ms'.length mc'])) (hm : ms'.length ≤ c') (hc : c ≤ c') : Pl h0 t d u q pb n h2 F H T ms' ma' mc' c' := by
  have lp := a.po.lt
  have zf := a.f.size
  have nF : ∀ b, F b → ¬ b = pb := fun b y e => (a.sF b y).2.1 e
  have nH : ∀ b, H b → ¬ b = pb := fun b y e => (a.sH b y).2 e
  refine ⟨(a.f.trans f1 fun b hb y => by have := y.1; omega).did d2 fun hl => by have := a.pb0; omega, (a.x.fr f1 fun b y z => z.2.2.1 y).fr d2.fr nF, (a.y.fr f1 fun b y z => z.2.2.2 y).fr d2.fr nH, d2.rd, d2.own, a.pb0, ?_, a.sF, a.sH, a.N, Nat.le_trans a.un hc, hm, a.st⟩
  refine (s.fr d2.fr fun b _ y e => ?_).mono fun b y => ?_
  · have e : b = pb := e
    rcases y with y | y
    · exact y.2.1 e
    · omega
  · rcases y with y | y
    · exact y
    · exact ⟨by omega, by omega, fun z => by have := a.x.lt z; omega, fun z => by have := a.y.lt z; omega⟩
theorem step_k2 {h : Heap} {yb xb : Nat} {R : List Int} {e : Int} {K : Value → Heap → Prop} (hR : R.length = 15) (ry : rd h yb = ints R) (rx : rd h xb = ints R) (hK : K (.bool true) h) : bolelaw11_play_step.k2 (some ⟨yb, 0, none⟩) e (some ⟨xb, 0, none⟩) e h K := by
  unfold bolelaw11_play_step.k2
  refine os ⟨ints R, by rw [ints_length, hR], cellsAll rx, os ⟨ints R, by rw [ints_length, hR], cellsAll ry, pairs15 hR hR, ct ?_ ?_⟩⟩
  · rw [ints_eq]; exact decide_eq_true rfl
  · rw [beq_self_eq_true]; exact hK
theorem step_k1 {h0 h1 h6 : Heap} {t d u q ma : Option Addr} {pb n mc c yb : Nat} {F H : Nat → Prop} {T : TM} {ms : List Int} {o : OpI} {K : Value → Heap → Prop} (gl : Glo h0) (dm : Dim n) (a : Pl h0 t d u q pb n h6 F H T ms ma mc c) (ob : rd h6 h1.size = o.v)
    (ry : rd h6 yb = ints (getM T (geoN n) o.n).1) (hK : ∀ h', Fr No h6 h' → K (.bool true) h') : bolelaw11_play_step.k1 (some ⟨pb, 0, none⟩) h1 (some ⟨yb, 0, none⟩) (getM T (geoN n) o.n).2 h6 K := by
  have l15 := getM_length T (geoN n) o.n
  have ol : h1.size < h6.size := rd_lt (o := 0) (by rw [ob]; rfl)
  have yl : yb < h6.size := rd_lt (o := 0) (v := .int .i64 ((getM T (geoN n) o.n).1.getD 0 0)) (by
    rw [ry, ints, List.getElem?_map, List.getD_eq_getElem?_getD, List.getElem?_eq_getElem (by omega)]; rfl)
  unfold bolelaw11_play_step.k1
  refine os ⟨t, rda a.pr rfl, os ⟨(geoN n).v, rfl, cellsa a.pr rfl, o.n, rda ob rfl, ?_, New.intro fun h11 n11 => ?_⟩⟩
  · refine Ino.Get_spec (gl.no a.f) a.x (cok dm) fun h7 f7 => ⟨_, _, rfl, New.intro fun h8 n8 => ?_⟩
    have F8 := f7.new n8
    have a8 := a.no F8
    have z7 := f7.size
    have z8 := n8.size
    refine ⟨rda a8.pr rfl, ⟨rfl, cellsa a8.pr rfl⟩, rda ((F8.rd ol fun y => y).trans ob) rfl, PutRow.intro n8.own (by rw [ints_length, l15]) (ints_one _) (by rw [n8.rd]; exact Nat.le_refl _) fun h9 d9 => ?_⟩
    refine step_k2 l15 ((d9.at_ (by omega) (by omega)).trans ((F8.rd yl fun y => y).trans ry)) ?_ (hK h9 (F8.did d9 fun hl => by omega))
    rw [d9.rd, n8.rd]; exact put_all _ _ (by rw [ints_length, l15]; rfl)
  · have a11 := a.no n11.fr
    refine ⟨rda a11.pr rfl, ⟨rfl, cellsa a11.pr rfl⟩, rda ((n11.at_ ol).trans ob) rfl, Ino.Get_spec (gl.no a11.f) a11.x (cok dm) fun h12 f12 => ⟨_, _, rfl, ?_⟩⟩
    have z11 := n11.size
    have z12 := f12.size
    have r12 : rd h12 h6.size = _ := (f12.rd (by omega) fun y => y).trans n11.rd
    refine PutRow.intro (f12.own (by omega) (fun y => y) n11.own) (by rw [ints_length, l15]) (ints_one _) (by rw [r12]; exact Nat.le_refl _) fun h13 d13 => ?_
    have F12 := n11.fr.no f12
    refine step_k2 l15 ((d13.at_ (by omega) (by omega)).trans ((F12.rd yl fun y => y).trans ry)) ?_ (hK h13 (F12.did d13 fun hl => by omega))
    rw [d13.rd, r12]; exact put_all _ _ (by rw [ints_length, l15]; rfl)
theorem step_spec {h0 hh : Heap} {t d u q : Option Addr} {pb n c : Nat} {o : OpI} {K : Value → Heap → Prop} (gl : Glo h0) (dm : Dim n) (hR : o.R.length = 15) (s : St h0 t d u q pb n c hh) (hc : c < 1000)
    (hK : ∀ h', St h0 t d u q pb n (c + 1) h' → K (.bool true) h') : C.bolelaw11_play_step (some ⟨pb, 0, none⟩) o.v hh K := by
  obtain ⟨F, H, T, ms, ma, mc, a0⟩ := s
  have lo := dm.lo
  refine bolelaw11_play_step.ok (New.intro fun h2 n2 => ?_)
  have a := a0.no n2.fr
  have z2 := n2.size
  have ob : rd h2 hh.size = o.v := n2.rd
  have un := a.un
  have hN : 98 ≤ T.N := by rw [a.N]; omega
  have stay : ∀ {h'}, St h0 t d u q pb n c h' → St h0 t d u q pb n (c + 1) h' := fun ⟨F, H, T, ms, ma, mc, b⟩ => ⟨F, H, T, ms, ma, mc, b.le (Nat.le_succ c)⟩
  have ob1 : ∀ {h'}, Fr H h2 h' → rd h' hh.size = o.v := fun f => (f.rd (by omega) fun y => by have := a0.y.lt y; omega).trans ob
  have idle : ∀ h', Fr No h2 h' → K (.bool true) h' := fun h' f => hK h' (stay ⟨_, _, _, _, _, _, a.no f⟩)
  refine ⟨o.k, rda ob rfl, ce (fun _ => ?_) fun _ => ce (fun _ => ?_) fun _ => ce (fun _ => ?_) fun _ => ce (fun _ => ?_) fun _ => ce (fun _ => ?_) fun _ => ce (fun _ => ?_) fun _ => ce (fun _ => ?_) fun _ => ce (fun _ => ?_) fun _ => ce (fun _ => ?_) fun _ => idle h2 (Fr.refl _ _)⟩
  · -- Get
    have l15 := getM_length T (geoN n) o.n
    refine os ⟨u, rda a.pr rfl, os ⟨(geoN n).v, rfl, cellsa a.pr rfl, o.n, rda ob rfl, ?_, New.intro fun h14 n14 => ?_⟩⟩
    · refine Rx.Get_spec a.y (cok dm) fun h3 f3 => ⟨_, _, rfl, New.intro fun h4 n4 => ?_⟩
      have F4 := f3.new n4
      have a4 := a.no F4
      have z3 := f3.size
      have z4 := n4.size
      have ob4 : rd h4 hh.size = o.v := (F4.rd (by omega) fun y => y).trans ob
      refine ⟨rda a4.pr rfl, ⟨rfl, cellsa a4.pr rfl⟩, rda ob4 rfl, PutRow.intro n4.own (by rw [ints_length, l15]) (ints_one _) (by rw [n4.rd]; exact Nat.le_refl _) fun h5 d5 => ?_⟩
      have F5 : Fr No h2 h5 := F4.did d5 fun hl => by omega
      refine step_k1 gl dm (a.no F5) ((d5.at_ (by omega) (by omega)).trans ob4) ?_ fun h' f => idle h' (F5.no f)
      rw [d5.rd, n4.rd]; exact put_all _ _ (by rw [ints_length, l15]; rfl)
    · have a14 := a.no n14.fr
      refine ⟨rda a14.pr rfl, ⟨rfl, cellsa a14.pr rfl⟩, rda ((n14.at_ (by omega)).trans ob) rfl, Rx.Get_spec a14.y (cok dm) fun h15 f15 => ⟨_, _, rfl, ?_⟩⟩
      have z14 := n14.size
      have z15 := f15.size
      have r15 : rd h15 h2.size = _ := (f15.rd (by omega) fun y => y).trans n14.rd
      refine PutRow.intro (f15.own (by omega) (fun y => y) n14.own) (by rw [ints_length, l15]) (ints_one _) (by rw [r15]; exact Nat.le_refl _) fun h16 d16 => ?_
      have F15 := n14.fr.no f15
      have F16 : Fr No h2 h16 := F15.did d16 fun hl => by omega
      refine step_k1 gl dm (a.no F16) ((F16.rd (by omega) fun y => y).trans ob) ?_ fun h' f => idle h' (F16.no f)
      rw [d16.rd, r15]; exact put_all _ _ (by rw [ints_length, l15]; rfl)
  · -- Put
    refine os ⟨u, rda a.pr rfl, os ⟨(geoN n).v, rfl, cellsa a.pr rfl, o.n, rda ob rfl, ints o.R, by rw [ints_length, hR], OpI.cR ob, Rx.Put_spec a.y hN (cok dm) hR (by omega) fun h17 H' f17 g17 y17 => ⟨_, rfl, os ⟨t, rda (a.p1 f17) rfl, os ⟨(geoN n).v, rfl, cellsa (a.p1 f17) rfl, o.n, rda (ob1 f17) rfl, ints o.R, by rw [ints_length, hR], OpI.cR (ob1 f17),
      Ino.Put_spec (gl.no (a.f1 f17)) (a.x1 f17) (cok dm) hR (by omega) fun h18 F' f18 g18 x18 => ⟨_, rfl, ?_⟩⟩⟩⟩⟩⟩
    rw [beq_self_eq_true]
    exact hK h18 ⟨_, _, _, _, _, _, a.go (putM_kp _ _ _ _) f17 g17 f18 g18 x18 y17⟩
  · -- Take
    refine os ⟨u, rda a.pr rfl, os ⟨(geoN n).v, rfl, cellsa a.pr rfl, ints o.R, by rw [ints_length, hR], OpI.cR ob, Rx.Take_spec a.y hN (cok dm) hR (by omega) fun h17 H' f17 g17 y17 => ⟨_, _, rfl, os ⟨t, rda (a.p1 f17) rfl, os ⟨(geoN n).v, rfl, cellsa (a.p1 f17) rfl, ints o.R, by rw [ints_length, hR], OpI.cR (ob1 f17),
      Ino.Take_spec (gl.no (a.f1 f17)) (a.x1 f17) (cok dm) hR (by omega) fun h18 F' f18 g18 x18 => ⟨_, _, rfl, ct (beq_self_eq_true _) ?_⟩⟩⟩⟩⟩⟩
    rw [beq_self_eq_true]
    exact hK h18 ⟨_, _, _, _, _, _, a.go (takeI_kp _ _ _) f17 g17 f18 g18 x18 y17⟩
  · -- Free
    refine os ⟨u, rda a.pr rfl, os ⟨(geoN n).v, rfl, cellsa a.pr rfl, Rx.Free_spec a.y (cok dm) fun h17 f17 => ⟨_, _, rfl, os ⟨t, rda (a.no f17).pr rfl, os ⟨(geoN n).v, rfl, cellsa (a.no f17).pr rfl,
      Ino.Free_spec (gl.no (a.no f17).f) (a.no f17).x (cok dm) fun h18 f18 => ⟨_, _, rfl, ct (beq_self_eq_true _) ?_⟩⟩⟩⟩⟩⟩
    rw [beq_self_eq_true]
    exact idle h18 (f17.no f18)
  · -- poke
    exact ⟨o.n, rda ob rfl, o.a, rda ob rfl, _, OpI.cX hR ob, poke_spec a lo hc fun h' s' => ⟨_, rfl, hK h' s'⟩⟩
  · -- Mark
    refine os ⟨u, rda a.pr rfl, Rx.Mark_spec a.y ⟨_, _, rfl, os ⟨t, rda a.pr rfl, Tm.Mark_spec a.x ⟨_, _, rfl, ?_⟩⟩⟩⟩
    rw [beq_self_eq_true]
    refine ce (fun _ => ce (fun _ => ?_) fun _ => idle h2 (Fr.refl _ _)) fun _ => idle h2 (Fr.refl _ _)
    refine os ⟨_, _, _, rda a.pr rfl, rfl, New.intro fun h26 n26 => ⟨mcell T.mark.1, rfl, cellsAll n26.rd, one2 rfl rfl, ?_⟩⟩
    have a26 := a.no n26.fr
    have mn := a.mn
    refine append_own (elem := ti56) a26.ml rfl rfl (by show (_ + 1) * 16 ≤ _; omega) (by omega) fun a' c' h27 f27 s27 => ?_
    have z27 := f27.size
    have np : ¬ (h0.size ≤ pb ∧ pb ≠ pb ∧ ¬ F pb ∧ ¬ H pb) := fun y => y.2.1 rfl
    have p27 : rd h27 pb = _ := (f27.rd a26.po.lt np).trans a26.pr
    refine os (Put.add (f27.own a26.po.lt np a26.po) (by rw [p27]; show 0 + 9 < 10; omega) fun h28 d28 => hK h28 ⟨F, H, T, ms ++ [T.mark.1], a', c', a26.marks f27 ?_ ?_ ?_ (Nat.le_succ c)⟩)
    · rw [List.length_append, List.flatMap_append]; exact s27
    · rw [p27] at d28
      rw [List.length_append]; exact d28
    · rw [List.length_append, List.length_singleton]; omega
  · -- Back
    refine os ⟨_, _, _, rda a.pr rfl, ce (fun _ => idle h2 (Fr.refl _ _)) fun hne => ⟨o.n, rda ob rfl, os ⟨_, _, _, rda a.pr rfl, ?_⟩⟩⟩
    have mn := a.mn
    have m0 := Int.emod_nonneg o.n (show (ms.length : Int) ≠ 0 from hne)
    have m1 := Int.emod_lt_of_pos o.n (show (0 : Int) < (ms.length : Int) by omega)
    refine In.mod_spec (by omega) (by omega) ⟨_, rfl, os ⟨u, rda a.pr rfl, os ⟨_, _, _, rda a.pr rfl, ⟨m0, m1⟩, ?_⟩⟩⟩
    generalize o.n % (ms.length : Int) = k at m0 m1
    have hk : k.toNat < ms.length := by omega
    have cell : ∀ {h' : Heap}, Sl h' 2 ma ms.length mc (ms.flatMap mcell) (fun b => h0.size ≤ b ∧ b ≠ pb ∧ ¬ F b ∧ ¬ H b) → ∃ p, ma = some p ∧ Cells h' (p.add (k.toNat * 2)) (mcell ms[k.toNat]) := fun s => by
      obtain ⟨p, ep, cc⟩ := s.get (by omega)
      refine ⟨p, ep, ?_⟩
      have := Cells.take (Cells.drop cc (k.toNat * 2)) 2
      rw [flat_part mcell 2 ms (fun x _ => rfl) k.toNat hk] at this
      exact this
    obtain ⟨p, ep, cc⟩ := cell a.ml
    refine oe ep ⟨⟨by decide, by decide⟩, _, Cells.cell cc (i := (1 : Int).toNat) rfl, Rx.Back_spec a.y fun h30 H' f30 g30 y30 => ⟨_, rfl, os ⟨t, rda (a.p1 f30) rfl, os ⟨_, _, _, rda (a.p1 f30) rfl, ⟨m0, m1⟩, ?_⟩⟩⟩⟩
    obtain ⟨p2, ep2, cc2⟩ := cell (a.ml.fr f30 fun b _ y z => y.2.2.2 z)
    refine oe ep2 ⟨⟨by decide, by decide⟩, _, Cells.cell cc2 (i := (0 : Int).toNat) rfl, Tm.Back_spec (a.x1 f30) (by omega) fun h31 f31 x31 => ⟨_, rfl, ?_⟩⟩
    have z30 := f30.size
    have a31 := a.go (back_kp T ms[k.toNat]) f30 g30 f31 (Gw.refl f31.size fun b hb => (a.x1 f30).lt hb) x31 y30
    have cap := a31.ml.le
    rw [wrap_i64 (n := k + 1) (by omega) (by omega), beq_self_eq_true]
    refine os ⟨_, _, _, rda a31.pr rfl, ⟨by omega, by omega⟩, os (Put.add a31.po (by rw [a31.pr]; show 0 + 9 < 10; omega) fun h32 d32 => hK h32 ⟨F, H', _, ms.take (k + 1).toNat, ma, mc, a31.marks (Fr.refl _ _) ?_ ?_ ?_ (Nat.le_refl _)⟩)⟩
    · have lt : (ms.take (k + 1).toNat).length = (k + 1).toNat := by rw [List.length_take]; omega
      have sl := sl_takeE (m := (k + 1).toNat) a31.ml (by omega)
      have e1 : (ms.flatMap mcell).take ((k + 1).toNat * 2) = (ms.take (k + 1).toNat).flatMap mcell := by
        have e1 : ms.flatMap mcell = (ms.take (k + 1).toNat).flatMap mcell ++ (ms.drop (k + 1).toNat).flatMap mcell := by rw [← List.flatMap_append, List.take_append_drop]
        have l2 := flat_length mcell 2 (ms.take (k + 1).toNat) fun _ _ => rfl
        rw [e1, show (k + 1).toNat * 2 = ((ms.take (k + 1).toNat).flatMap mcell).length by rw [l2, lt], List.take_left]
      rw [e1] at sl
      rw [lt]
      exact sl.mono fun b hb => .inl hb
    · have lt : (ms.take (k + 1).toNat).length = (k + 1).toNat := by rw [List.length_take]; omega
      rw [a31.pr] at d32
      rw [lt]; exact d32
    · rw [List.length_take]; omega
  · -- Abort
    refine os ⟨u, rda a.pr rfl, Rx.Abort_spec a.y fun h33 f33 y33 => ⟨rfl, os ⟨t, rda (a.p1 f33) rfl, Tm.Abort_spec (a.x1 f33) fun h34 F' f34 g34 x34 => ⟨rfl, hK h34 ⟨_, _, _, _, _, _, a.go (T' := TM.ended T.disk) ⟨rfl, Nat.zero_le _⟩ f33 (Gw.refl f33.size fun b hb => a.y.lt hb) f34 g34 x34 y33⟩⟩⟩⟩⟩
  · -- Crash
    obtain ⟨S, eS⟩ : ∃ S, S = if T.disk.down then T.disk else T.disk.cut [] := ⟨_, rfl⟩
    have hS : S.lasts.length = T.N := by
      rw [eS]
      split
      · rfl
      · exact applyTo_length _ _
    have hd : S.down = true := by
      rw [eS]
      split
      · assumption
      · rfl
    have hw : S.writes = T.disk.writes ∧ S.flushes = T.disk.flushes := by
      rw [eS]
      split
      · exact ⟨rfl, rfl⟩
      · exact ⟨rfl, rfl⟩
    refine os ⟨q, rda a.pr rfl, Rx.Crash_spec a.y hS hd fun h35 f35 y35 => ⟨rfl, os ⟨d, rda (a.p1 f35) rfl, ?_⟩⟩⟩
    obtain ⟨D, dk, hDF, go⟩ := Tx.onDisk (a.x1 f35)
    refine DiskF.crash dk fun h36 D' f36 g36 A36 => ⟨rfl, ?_⟩
    rw [← eS] at A36
    obtain ⟨F', gF, x36⟩ := go h36 D' S f36 g36 A36 hS
    exact hK h36 ⟨_, _, _, _, _, _, a.both f35 (Gw.refl f35.size fun b hb => a.y.lt hb) (f36.mono fun b _ y => hDF b y) gF x36 y35 (hS.trans a.N) (Nat.le_succ_of_le un) (Nat.le_succ c) (by rw [hw.1, hw.2]; exact a.st)⟩
theorem InodePlays_spec {n1 : Int} {fA sA : Option Addr} {fl fc sc : Nat} {front : Txt} {ops : List OpI} {h : Heap} {K : Value → Heap → Prop} (gl : Glo h) (B : StrAt h fA fl front) (hfl : fl ≤ 140737488355328)
    (X : SlCells h sA (ops.flatMap OpI.v)) (hR : ∀ o ∈ ops, o.R.length = 15) (hK : ∀ h', Fr No h h' → K (.bool true) h') : C.bolelaw11_InodePlays n1 fA fl fc sA ops.length sc h K := by
  have m0 := Int.emod_nonneg n1 (show (4096 : Int) ≠ 0 by decide)
  have m1 := Int.emod_lt_of_pos n1 (show (0 : Int) < 4096 by decide)
  obtain ⟨n, hn⟩ : ∃ n, n = 128 + (n1 % 4096).toNat := ⟨_, rfl⟩
  have dm : Dim n := ⟨by omega, by omega⟩
  refine bolelaw11_InodePlays.ok (fixed_spec gl fun h2 f2 => ⟨_, rfl, cf rfl (start_spec hn (StrAt.fr f2 B fun _ _ y => y) hfl fun t d u q pb h3 s3 => ⟨_, _, rfl, cf rfl ?_⟩)⟩)
  refine ⟨fun i hh => ∃ j : Nat, i = j ∧ j ≤ 60 ∧ St h2 t d u q pb n j hh, fun i _ => ((60 : Int) - i).toNat, ⟨0, rfl, Nat.zero_le _, s3⟩, ?_⟩
  rintro i h4 ⟨j, rfl, hj, s4⟩
  have fin : ∀ {h' c'}, St h2 t d u q pb n c' h' → K (.bool true) h' := fun ⟨_, _, _, _, _, _, b⟩ => hK _ (f2.no b.f)
  refine cd (fun hl => cd (fun h60 => ?_) fun _ => fin s4) fun _ => fin s4
  unfold bolelaw11_InodePlays.k1
  have hj' : j < ops.length := by omega
  have hw : ∀ o ∈ ops, o.v.length = 19 := fun o ho => OpI.len (hR o ho)
  have f4 : Fr No h h4 := by obtain ⟨_, _, _, _, _, _, b⟩ := s4; exact f2.no b.f
  have lf := flat_length OpI.v 19 ops hw
  refine ⟨⟨by omega, hl⟩, ?_⟩
  have X4 := SlCells.fr f4 X fun _ _ y => y
  obtain ⟨p, ep, cc⟩ : ∃ p, sA = some p ∧ Cells h4 (p.add (j * 19)) (ops[j]).v := by
    cases sA with
    | none =>
      have c : ops.flatMap OpI.v = [] := X4
      rw [c] at lf
      exact absurd lf (by simp; omega)
    | some p =>
      refine ⟨p, rfl, ?_⟩
      have := Cells.take (Cells.drop X4 (j * 19)) 19
      rw [flat_part OpI.v 19 ops hw j hj'] at this
      exact this
  have ho := hR _ (List.getElem_mem hj')
  rw [Int.toNat_natCast]
  refine oe ep ⟨_, OpI.len ho, cc, step_spec (gl.no f2) dm ho s4 (by omega) fun h5 s5 => ⟨_, rfl, cf rfl (same_spec s5 dm.lo (by omega) fun h6 s6 => ⟨_, rfl, cf rfl ?_⟩)⟩⟩
  rw [wrap_i64 (by omega) (by omega)]
  exact ⟨⟨j + 1, by omega, by omega, s6⟩, by show ((60 : Int) - ((j : Int) + 1)).toNat < ((60 : Int) - (j : Int)).toNat; omega⟩
end Go.Proofs.YtcdpakjhjmchhaaDoor.Rx
