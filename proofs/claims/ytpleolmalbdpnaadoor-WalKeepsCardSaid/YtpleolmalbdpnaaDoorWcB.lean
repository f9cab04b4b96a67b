/-
  A COMMIT: wal.Commit.
-/
import Derived.Test.YtpleolmalbdpnaaDoorWcA
namespace Go.Proofs.YtpleolmalbdpnaaDoor.Wc
open Go Go.Proofs Go.Proofs.YtpleolmalbdpnaaDoor.Wx Go.Proofs.YtpleolmalbdpnaaDoor.Hp Go.Proofs.YtpleolmalbdpnaaDoor.W Go.Proofs.YtpleolmalbdpnaaDoor.Ad

/-- a row that grows, in blocks F of its own behind n0 -/
structure Row (n0 : Nat) (h : Heap) (F : Nat → Prop) (w : Nat) (a : Option Addr) (l c : Nat) (xs : List Value) : Prop where
  s : Sl h w a l c xs F
  ge : ∀ b, F b → n0 ≤ b ∧ b < h.size
theorem Row.nil (n0 : Nat) (h : Heap) (w : Nat) : Row n0 h No w none 0 0 [] := ⟨Sl.nil _ _ _, fun _ x => x.elim⟩
theorem Row.keep {n0 : Nat} {h h' : Heap} {F G : Nat → Prop} {w : Nat} {a : Option Addr} {l c : Nat} {xs : List Value} (r : Row n0 h F w a l c xs) (f : Fr G h h') (hG : ∀ b, F b → ¬ G b) : Row n0 h' F w a l c xs :=
  ⟨r.s.fr f fun b _ x => hG b x, fun b x => ⟨(r.ge b x).1, Nat.lt_of_lt_of_le (r.ge b x).2 f.size⟩⟩
theorem row_app {n0 : Nat} {hh : Heap} {F : Nat → Prop} {w : Nat} {a : Option Addr} {l c e : Nat} {xs vs : List Value} {elem : TI} {K : Option Addr → Nat → Nat → Heap → Prop} (r : Row n0 hh F w a l c xs) (hv : vs.length = w) (one : ∀ v ∈ vs, v.oneCell' = true)
    (hz : elem.zero.length = elem.cells) (hc : elem.cells = w) (hby : elem.bytes ≤ 64) (hl : l < 1000000) (hn : n0 ≤ hh.size)
    (hK : ∀ a' c' h' F', Fr F hh h' → (∀ b, F' b → F b ∨ hh.size ≤ b) → Row n0 h' F' w a' (l + 1) c' (xs ++ vs) → K a' (l + 1) c' h') :
    New vs e hh fun h4 => ∃ new1 : List Value, List.length new1 = 1 * w ∧ SlCells h4 (some ⟨hh.size, 0, none⟩) new1 ∧ (∀ v ∈ new1, v.oneCell' = true) ∧ AppendP elem e a l c 1 new1 h4 K := by
  refine New.intro fun h4 n4 => ?_
  have z4 := n4.size
  refine ⟨vs, by rw [hv, Nat.one_mul], cellsAll n4.rd, one, ?_⟩
  have s4 : Sl h4 elem.cells a l c xs F := by rw [hc]; exact r.s.fr n4.fr fun _ _ _ x => x
  refine append_own s4 (by rw [hc, hv, Nat.one_mul]) hz (Nat.le_trans (Nat.mul_le_mul (show l + 1 ≤ 1000000 by omega) hby) (by decide)) (by omega) fun a' c' h5 f5 s5 => ?_
  rw [hc] at s5
  have z5 := f5.size
  refine hK a' c' h5 (fun b => (F b ∨ h4.size ≤ b) ∧ b < h5.size) ((n4.fr.mono fun _ _ x => x.elim).trans f5 fun b _ x => x) (fun b hb => hb.1.imp id fun q => by omega) ⟨?_, fun b hb => ⟨?_, hb.2⟩⟩
  · obtain ⟨q1, q2⟩ := s5
    refine ⟨q1, ?_⟩
    cases a' with
    | none => exact q2
    | some p => obtain ⟨a1, a2, a3, a4⟩ := q2; exact ⟨a1, ⟨a2, a3.lt⟩, a3, a4⟩
  · rcases hb.1 with q | q
    · exact (r.ge b q).1
    · omega
theorem SV.Ok.weak {h : Heap} {D E : Nat → Prop} {x : SV} (a : x.Ok h D) (hE : ∀ b, E b → D b) : x.Ok h E := by
  cases x with
  | f => trivial
  | w ib bb i s b =>
    obtain ⟨a1, a2, a3, a4, a5, a6⟩ := a
    exact ⟨a1, a2, ⟨a3.1, fun y => a3.2 (hE _ y)⟩, ⟨a4.1, fun y => a4.2 (hE _ y)⟩, a5, fun p e => ⟨(a6 p e).1, fun y => (a6 p e).2 (hE _ y)⟩⟩
def hsc (r : Int × Sc × Tm.Txt) : Hd.Sc := ⟨r.2.1.a, r.2.1.l, r.2.1.c⟩
theorem commit_steps {n0 : Nat} {D : Nat → Prop} {d : Option Addr} {hh : Heap} {sb : Nat} {R : Nat → Prop} {S : RD} {xs : List SV} {K : Value → Heap → Prop} (b : Bd n0 D hh sb R xs) (hD : ∀ b, D b → b < n0) (A : DiskF hh D d S) (hp : S.pend.length + xs.length < 1000000000) (ht : S.tape.length + xs.length < 1000000000)
    (hK : ∀ h' D', Fr D hh h' → Gw hh D h' D' → DiskF h' D' d (runS (xs.map SV.stp) S).1 → K (.int .i64 (runS (xs.map SV.stp) S).2) h') :
    ∃ (sA6 : Option Addr) (sL6 : Nat) (sC6 : Nat), cellOf hh ⟨sb, 0, none⟩ = some (.slice sA6 sL6 sC6) ∧ C.wal_steps_do sA6 sL6 sC6 d hh fun r10 h22 => ∃ (n6 : Int), r10 = .int .i64 n6 ∧ K (.int .i64 n6) h22 := by
  obtain ⟨a, c, e, s⟩ := b.row
  refine ⟨a, _, c, rdc e rfl, do_spec A (fun x hx => (b.ok x hx).weak fun _ y => .inl y) s.cells (fun p e => ?_) hp ht fun h' D' f g A' => ⟨_, rfl, hK h' D' f g A'⟩⟩
  subst e
  obtain ⟨_, _, q, o, _⟩ := s
  exact ⟨o.lt, fun y => by have := hD _ y; have := (b.ge _ q.1).1; omega⟩
theorem logs_take (l : Nb) {n : Nat} (h : n < l.length) : ws ((logL l).take (n + 1)) = ws ((logL l).take n) ++ [.w (2 + (n : Int)) l[n].2] := by
  rw [take_snoc _ _ (by rw [logL_length]; exact h), ws_snoc, logL_get]
theorem nb_get (rs : Rs) {n : Nat} (h : n < rs.length) : (nb rs)[n]'(by unfold nb; rw [List.length_map]; exact h) = (rs[n].1, rs[n].2.2) := List.getElem_map ..
theorem Commit_spec {D : Nat → Prop} {d : Option Addr} {hh : Heap} {S : RD} {a : Option Addr} {c : Nat} {rs : Rs} {K : Value → Heap → Prop} (G : Re.Glo hh) (A : DiskF hh D d S) (B : Bl hh D a rs) (hl : rs.length < 10000) (hp : S.pend.length < 100000000) (ht : S.tape.length < 100000000)
    (hK : ∀ h' D', Fr D hh h' → Gw hh D h' D' → DiskF h' D' d (wal S (nb rs)).1 → K (.int .i64 (wal S (nb rs)).2) h') : C.wal_Commit d a rs.length c hh K := by
  have hDl : ∀ b, D b → b < hh.size := fun b x => A.lt x
  have same : ∀ {h'}, Fr No hh h' → Fr D hh h' ∧ Gw hh D h' D ∧ DiskF h' D d S := fun f => ⟨f.mono fun _ _ x => x.elim, Gw.refl f.size hDl, A.no f⟩
  have el : (nb rs).length = rs.length := List.length_map ..
  unfold wal at hK
  refine wal_Commit.ok (ce (fun h0 => ?_) fun h0 => ?_)
  · have e : nb rs = [] := List.eq_nil_of_length_eq_zero (by rw [el]; omega)
    rw [if_pos e] at hK
    obtain ⟨x, y, z⟩ := same (Fr.refl No hh)
    exact hK hh D x y z
  have hne : nb rs ≠ [] := fun e => by rw [e] at el; have : (0 : Nat) = rs.length := el; omega
  rw [if_neg hne] at hK
  refine DiskF.blocks A ⟨_, rfl, may_spec B (by omega) fun h3 f3 => ⟨_, rfl, cnot (cs (fun hm => ?_) fun hm => ?_)⟩⟩
  rotate_left
  · rw [if_pos hm] at hK
    obtain ⟨x, y, z⟩ := same f3
    exact hK h3 D x y z
  rw [if_neg (by rw [hm]; simp)] at hK
  have z3 := f3.size
  have toNo : ∀ {h'}, Fr (From hh.size) hh h' → Fr No hh h' := fun f => f.mono fun b hb x => by have x : hh.size ≤ b := x; omega
  refine ⟨fun na nl nc da dl dc n h => 0 ≤ n ∧ n ≤ rs.length ∧ nl = n.toNat ∧ dl = n.toNat ∧ Fr No hh h ∧ ∃ F1 F2 : Nat → Prop, Row hh.size h F1 1 na nl nc (Hd.ints ((rs.take n.toNat).map (·.1))) ∧ Row hh.size h F2 1 da dl dc ((rs.take n.toNat).map fun r => (hsc r).v) ∧ ∀ b, F1 b → ¬ F2 b,
    fun _ _ _ _ _ _ n _ => ((rs.length : Int) - n).toNat, ⟨by omega, by omega, rfl, rfl, f3, No, No, Row.nil _ _ _, Row.nil _ _ _, fun b x => x.elim⟩, ?_⟩
  rintro na nl nc da dl dc n h4 ⟨n0, n1, rfl, rfl, f4, F1, F2, r1, r2, dj⟩
  have z4 := f4.size
  refine cd (fun hn => ?_) fun hn => ?_
  · have hn' : n.toNat < rs.length := by omega
    obtain ⟨p, rfl, cc⟩ := (B.no f4).get hn'
    refine ⟨⟨n0, hn⟩, os ⟨_, rfl, cc, NewRow.intro rfl (cellsR_one _) rfl fun h6 n6 => ⟨_, rda n6.rd rfl, ?_⟩⟩⟩
    have z6 := n6.size
    have r1' := r1.keep n6.fr fun _ _ x => x
    have r2' := r2.keep n6.fr fun _ _ x => x
    refine row_app r1' rfl (fun v hv => by rw [List.mem_singleton.mp hv]; rfl) rfl rfl (Nat.le_of_ble_eq_true rfl) (by omega) (by omega) fun na' nc' h8 F1' f8 g8 r1'' => ?_
    have z8 := f8.size
    have r68 : rd h8 h4.size = cellsR rs[n.toNat] := (f8.rd (by omega) fun x => by have := r1.ge _ x; omega).trans n6.rd
    refine ⟨rs[n.toNat].2.1.a, rs[n.toNat].2.1.l, rs[n.toNat].2.1.c, rda r68 rfl, ?_⟩
    have r2'' := r2'.keep f8 fun b x y => dj b y x
    refine row_app r2'' rfl (fun v hv => by rw [List.mem_singleton.mp hv]; rfl) rfl rfl (Nat.le_of_ble_eq_true rfl) (by omega) (by omega) fun da' dc' h10 F2' f10 g10 r2''' => ?_
    rw [wrap_i64 (by omega) (by omega)]
    have en : (n + 1).toNat = n.toNat + 1 := by omega
    refine ⟨⟨by omega, by omega, en.symm, en.symm, ?_, F1', F2', ?_, ?_, ?_⟩, falls hn⟩
    · have q1 : Fr No hh h8 := (f4.new n6).trans f8 fun b hb x => by have := r1.ge b x; omega
      exact q1.trans f10 fun b hb x => by have := r2.ge b x; omega
    · have := r1''.keep f10 fun b x y => by
        rcases g8 b x with q | q
        · exact dj b q y
        · have := (r2.ge b y).2; omega
      rw [en, take_snoc _ _ hn', List.map_append]
      unfold Hd.ints at this ⊢
      rw [List.map_append]; exact this
    · rw [en, take_snoc _ _ hn', List.map_append]; exact r2'''
    · intro b x y
      rcases g10 b y with q | q
      · rcases g8 b x with q' | q'
        · exact dj b q' q
        · have := (r2.ge b q).2; omega
      · have := (r1''.ge b x).2; omega
  have et : rs.take n.toNat = rs := List.take_of_length_le (by omega)
  rw [et] at r1 r2
  have ln : n.toNat = rs.length := by omega
  have elm : (rs.map (·.1)).length = n.toNat := by rw [List.length_map, ln]
  have hmay : Hd.okGo S.lasts.length 97 (rs.map (·.1)) = true ∧ rs.length ≤ 96 := by
    unfold mayW at hm
    rw [Bool.and_eq_true] at hm
    have h1 := hm.1
    have h2 := of_decide_eq_true hm.2
    rw [el] at h2
    unfold nb at h1
    rw [List.map_map] at h1
    exact ⟨h1, by omega⟩
  have hmm : Hd.mayM (rs.map (·.1)) 16384 = true := by
    unfold Hd.mayM
    rw [okGo_mono (by have := A.max.1; omega) _ _ hmay.1, decide_eq_true (by rw [elm]; omega), decide_eq_true (by rw [elm]; omega)]; rfl
  have Dt : Hd.Dat h4 da n.toNat (rs.map hsc) (rs.map (·.2.2)) := by
    refine ⟨?_, by rw [List.length_map, ln], by rw [List.length_map, List.length_map], fun i h1 h2 => ?_⟩
    · rw [List.map_map]; exact r2.s.cells
    · rw [List.getElem_map, List.getElem_map]
      rw [List.length_map] at h1
      exact StrAt.fr f4 (B.ok _ (List.getElem_mem h1)).1 fun _ _ x => x
  have eall : ((nb rs).map (·.2)).all (fun d => d.length == 512) = Hd.blM (rs.map (·.2.2)) ((rs.map (·.1)).length) := by
    unfold Hd.blM nb
    rw [List.map_map, List.length_map, List.length_map, beq_self_eq_true, Bool.and_true]; rfl
  rw [eall] at hK
  refine Hd.Make_spec (G.no f4) r1.s.cells elm (by omega) Dt (by omega) (fun x => absurd (hmm.symm.trans x) (by simp)) (fun _ hb h11 f11 => ⟨_, _, _, _, rfl, ?_⟩) fun _ hb hb0 h11 f11 hbb s11 => ⟨_, _, _, _, rfl, ?_⟩
  · rw [if_pos hb] at hK
    obtain ⟨x, y, z⟩ := same (f4.no f11)
    exact cn (fun _ => hK h11 D x y z) fun x => absurd x (by decide)
  rw [if_neg (by rw [hb]; simp)] at hK
  have F11 := f4.no f11
  have z11 := f11.size
  refine cn (fun x => absurd rfl x) fun _ => DiskF.down (A.no F11) ⟨_, rfl, cs (fun hd => ?_) fun hd => ?_⟩
  · rw [if_pos hd] at hK
    obtain ⟨x, y, z⟩ := same F11
    exact hK h11 D x y z
  rw [if_neg (by rw [hd]; simp)] at hK
  refine New.intro fun h13 n13 => ?_
  have F13 := F11.new n13
  have z13 := n13.size
  have b13 : Bd h11.size D h13 h11.size (fun b => b = h11.size) [] :=
    ⟨rfl, fun b e => ⟨by omega, by omega⟩, n13.own, ⟨none, 0, n13.rd, Sl.nil _ _ _⟩, fun x hx => absurd hx List.not_mem_nil⟩
  have hD : ∀ b, D b → b < h11.size := fun b x => by have := hDl b x; omega
  have ehd : hdrOf (nb rs) = Hd.laidM (rs.map (·.1)) (Hd.sumM (Hd.laidM (rs.map (·.1)) 0) (rs.map (·.2.2))).toNat := by
    unfold hdrOf nb
    rw [List.map_map, List.map_map]; rfl
  rw [← ehd] at s11
  have lhd : (hdrOf (nb rs)).length = 512 := by have := s11.1; rw [List.length_map] at this; omega
  have sh : StrAt h13 (some ⟨hb0, 0, none⟩) 512 (hdrOf (nb rs)) := StrAt.fr n13.fr s11.str fun _ _ x => x
  have bl13 : Bl h13 (fun b => D b ∨ b = h11.size) a rs := B.fr F13 (fun _ _ x => x.elim) fun x hx y => y.elim id fun e => by omega
  have hbl : hb0 < h11.size := by obtain ⟨_, _, _, o, _⟩ := s11; exact o.lt
  refine ⟨fun n h => 0 ≤ n ∧ n ≤ rs.length ∧ ∃ R ys, Fr (fun b => b = h11.size) h13 h ∧ (∀ b, R b → b = h11.size ∨ h13.size ≤ b) ∧ Bd h11.size D h h11.size R ys ∧ ys.map SV.stp = ws ((logL (nb rs)).take n.toNat) ∧ ys.length = n.toNat,
    fun n _ => ((rs.length : Int) - n).toNat, ⟨by omega, by omega, _, [], Fr.refl _ _, fun b x => .inl x, b13, rfl, rfl⟩, ?_⟩
  rintro m h14 ⟨m0, m1, R, ys, f14, g14, b14, e14, l14⟩
  have z14 := f14.size
  have B14 := Bd.grow (n0 := h11.size) bl13 f14 g14
  refine cd (fun hn => ?_) fun hn => ?_
  · have hn' : m.toNat < rs.length := by omega
    obtain ⟨p, rfl, cc⟩ := B14.get hn'
    refine ⟨⟨m0, hn⟩, os ⟨_, rfl, cc, NewRow.intro rfl (cellsR_one _) rfl fun h16 n16 => ⟨rs[m.toNat].2.1.a, rs[m.toNat].2.1.l, rs[m.toNat].2.1.c, rda n16.rd rfl, ?_⟩⟩⟩
    have z16 := n16.size
    have b16 := b14.no n16.fr fun x hx => by have := hD x hx; omega
    obtain ⟨k1, k2⟩ := (B14.no n16.fr).ok rs[m.toNat] (List.getElem_mem hn')
    rw [wrap_i64 (n := 2 + m) (by omega) (by omega)]
    refine steps_write_spec b16 hD k1 k2 (by omega) fun h17 R17 ib bb f17 g17 b17 => ⟨rfl, ?_⟩
    rw [wrap_i64 (by omega) (by omega)]
    refine ⟨⟨by omega, by omega, R17, _, (f14.new n16).trans f17 fun x hx y => (g14 x y).elim id fun q => by omega, fun x hx => ?_, b17, ?_, ?_⟩, falls hn⟩
    · rcases g17 x hx with q | q
      · exact g14 x q
      · exact .inr (by omega)
    · rw [show (m + 1).toNat = m.toNat + 1 by omega, logs_take _ (by rw [el]; exact hn'), List.map_append, e14, nb_get _ hn', show ((m.toNat : Nat) : Int) = m by omega]; rfl
    · rw [List.length_append, l14, List.length_singleton]; omega
  have e14' : ys.map SV.stp = ws (logL (nb rs)) := by rw [e14, List.take_of_length_le (by rw [logL_length, el]; omega)]
  refine steps_flush_spec b14 hD (by omega) fun h18 R18 f18 g18 b18 => ⟨rfl, ?_⟩
  have z18 := f18.size
  have G18 : ∀ x, R18 x → x = h11.size ∨ h13.size ≤ x := fun x hx => (g18 x hx).elim (g14 x) fun q => .inr (by omega)
  have st : ∀ {T : Nat → Prop}, (∀ x, T x → x = h11.size ∨ h13.size ≤ x) → ∀ x, x < h13.size → T x → x = h11.size := fun G x hx y => (G x y).elim id fun q => by omega
  have F18 : Fr (fun b => b = h11.size) h13 h18 := f14.trans f18 (st g14)
  have hr : ∀ {T : Nat → Prop}, (∀ x, T x → x = h11.size ∨ h13.size ≤ x) → ¬ T hb0 := fun G x => by
    rcases G _ x with q | q <;> omega
  refine steps_write_spec (s := ⟨some ⟨hb0, 0, none⟩, 512, 512⟩) (bs := hdrOf (nb rs)) b18 hD (StrAt.fr F18 sh fun p e => by cases e; show ¬ hb0 = h11.size; omega) (fun p e => by
      cases e
      refine ⟨by show hb0 < h18.size; omega, fun y => ?_⟩
      rcases y with y | y
      · have y : D hb0 := y
        have := hDl _ y
        omega
      · exact hr G18 y) (by rw [List.length_append, List.length_singleton]; omega) fun h19 R19 ib bb f19 g19 b19 => ⟨rfl, ?_⟩
  have z19 := f19.size
  have G19 : ∀ x, R19 x → x = h11.size ∨ h13.size ≤ x := fun x hx => (g19 x hx).elim (G18 x) fun q => .inr (by omega)
  have F19 := F18.trans f19 (st G18)
  refine steps_flush_spec b19 hD (by simp only [List.length_append, List.length_singleton]; omega) fun h20 R20 f20 g20 b20 => ⟨rfl, ?_⟩
  have z20 := f20.size
  have G20 : ∀ x, R20 x → x = h11.size ∨ h13.size ≤ x := fun x hx => (g20 x hx).elim (G19 x) fun q => .inr (by omega)
  have F20 := F19.trans f20 (st G19)
  have B20 := Bd.grow (n0 := h11.size) bl13 F20 G20
  refine home_spec b20 hD B20 (by simp only [List.length_append, List.length_singleton]; omega) fun h21 R21 zs f21 g21 b21 ez lz => ⟨rfl, ?_⟩
  have G21 : ∀ x, R21 x → x = h11.size ∨ h13.size ≤ x := fun x hx => (g21 x hx).elim (G20 x) fun q => .inr (by omega)
  have F21 := F20.trans f21 (st G20)
  have F21' : Fr No hh h21 := (F13.mono fun _ _ x => x.elim).trans F21 fun x hx e => by have e : x = h11.size := e; omega
  have est : (ys ++ [SV.f] ++ [SV.w ib bb 1 ⟨some ⟨hb0, 0, none⟩, 512, 512⟩ (hdrOf (nb rs))] ++ [SV.f] ++ zs).map SV.stp = commitS (nb rs) (hdrOf (nb rs)) := by
    rw [List.map_append, ez]
    unfold commitS
    congr 1
    simp only [List.map_append, e14', List.append_assoc]; rfl
  have elen : (ys ++ [SV.f] ++ [SV.w ib bb 1 ⟨some ⟨hb0, 0, none⟩, 512, 512⟩ (hdrOf (nb rs))] ++ [SV.f] ++ zs).length ≤ 20010 := by
    simp only [List.length_append, List.length_singleton, l14, lz]; omega
  refine commit_steps b21 hD (A.no F21') (by omega) (by omega) fun h' D' f g A' => ?_
  rw [est] at A'
  rw [est]
  exact hK h' D' (F21'.mono (fun _ _ x => x.elim) |>.trans f fun _ _ x => x) ⟨fun b hb => (g.old b (by have := F21'.size; omega)), g.lt⟩ A'
end Go.Proofs.YtpleolmalbdpnaaDoor.Wc
