import Derived.Test.YtcdpakjhjmchhaaGreatDoorBmF
/-
  PACKAGE bmap: All.
-/
namespace Go.Proofs.YtcdpakjhjmchhaaGreatDoor.Bm
open Go Go.Proofs Go.Proofs.YtcdpakjhjmchhaaGreatDoor.Wx Go.Proofs.YtcdpakjhjmchhaaGreatDoor.Hp Go.Proofs.YtcdpakjhjmchhaaGreatDoor.W Go.Proofs.YtcdpakjhjmchhaaGreatDoor.Ad Go.Proofs.YtcdpakjhjmchhaaGreatDoor.Tm Go.Proofs.YtcdpakjhjmchhaaGreatDoor.Spc Go.Proofs.YtcdpakjhjmchhaaGreatDoor.Re Go.Proofs.YtcdpakjhjmchhaaGreatDoor.Av
open Go.Proofs.YtcdpakjhjmchhaaGreatDoor.Hd (ints wrap_u64)
open Go.Proofs.YtcdpakjhjmchhaaGreatDoor.In (Glo ints_length ints_one)

structure AllS where
  L : List (Int × Int)
  M : List Int
def AllS.n (S : AllS) : Nat := S.L.length + S.M.length
abbrev DoM := AllS → Nat → Int → AllS × Int
def ownA (g : G) (S : AllS) (k v : Int) : AllS × Int := if v = 0 then (S, 0) else (⟨S.L ++ [(k, v)], S.M⟩, lookM g v)
def eachGo (dO : DoM) : List Int → Nat → AllS → AllS × Int
  | [], _, S => (S, 0)
  | v :: r, i, S => if (dO S i v).2 ≠ 0 then dO S i v else eachGo dO r (i + 1) (dO S i v).1
def eachM (T : TM) (g : G) (dO : DoM) (tab : Int) (S : AllS) : AllS × Int :=
  if tab = 0 then (S, 0) else if lookM g tab ≠ 0 then (⟨S.L, S.M ++ [tab]⟩, lookM g tab) else if (T.read tab).2 ≠ 0 then (⟨S.L, S.M ++ [tab]⟩, (T.read tab).2) else
    eachGo dO (numsL (T.read tab).1) 0 ⟨S.L, S.M ++ [tab]⟩
def dirD (g : G) : DoM := fun S i v => ownA g S i v
def oneD (g : G) : DoM := fun S i v => ownA g S (10 + i) v
def inD (g : G) (i : Nat) : DoM := fun S j v => ownA g S (138 + (i : Int) * 128 + j) v
def twoD (T : TM) (g : G) : DoM := fun S i tab => eachM T g (inD g i) tab S
def allS (T : TM) (g : G) (R : List Int) : AllS × Int :=
  if (eachGo (dirD g) ((R.drop 3).take 10) 0 ⟨[], []⟩).2 ≠ 0 then eachGo (dirD g) ((R.drop 3).take 10) 0 ⟨[], []⟩ else
  if (eachM T g (oneD g) (R.getD 13 0) (eachGo (dirD g) ((R.drop 3).take 10) 0 ⟨[], []⟩).1).2 ≠ 0 then eachM T g (oneD g) (R.getD 13 0) (eachGo (dirD g) ((R.drop 3).take 10) 0 ⟨[], []⟩).1 else
    eachM T g (twoD T g) (R.getD 14 0) (eachM T g (oneD g) (R.getD 13 0) (eachGo (dirD g) ((R.drop 3).take 10) 0 ⟨[], []⟩).1).1
def allM (T : TM) (g : G) (R : List Int) : List (Int × Int) × List Int × Int := if (allS T g R).2 ≠ 0 then ([], [], (allS T g R).2) else ((allS T g R).1.L, (allS T g R).1.M, 0)
theorem ownA_n (g : G) (S : AllS) (k v : Int) : (ownA g S k v).1.n ≤ S.n + 1 := by
  unfold ownA
  split
  · exact Nat.le_add_right _ _
  · unfold AllS.n; rw [List.length_append]; show S.L.length + 1 + S.M.length ≤ _; omega
theorem eachGo_n {dO : DoM} {w : Nat} (hd : ∀ S i v, (dO S i v).1.n ≤ S.n + w) : ∀ (l : List Int) (i : Nat) (S : AllS), (eachGo dO l i S).1.n ≤ S.n + w * l.length
  | [], _, S => Nat.le_add_right _ _
  | v :: r, i, S => by
    rw [List.length_cons, Nat.mul_succ]
    have h1 := hd S i v
    unfold eachGo
    split
    · omega
    · have := eachGo_n hd r (i + 1) (dO S i v).1; omega
theorem eachM_n {T : TM} {g : G} {dO : DoM} {tab : Int} {S : AllS} {w : Nat} (hd : ∀ S i v, (dO S i v).1.n ≤ S.n + w) : (eachM T g dO tab S).1.n ≤ S.n + (w * 128 + 1) := by
  have e : (⟨S.L, S.M ++ [tab]⟩ : AllS).n = S.n + 1 := by unfold AllS.n; rw [List.length_append]; show S.L.length + (S.M.length + 1) = _; omega
  unfold eachM
  split
  · exact Nat.le_add_right _ _
  · split
    · show (⟨S.L, S.M ++ [tab]⟩ : AllS).n ≤ _; omega
    · split
      · show (⟨S.L, S.M ++ [tab]⟩ : AllS).n ≤ _; omega
      · have := eachGo_n hd (numsL (T.read tab).1) 0 ⟨S.L, S.M ++ [tab]⟩
        rw [numsL_len] at this; omega
def pcellA (p : Int × Int) : List Value := [.int .i64 p.1, .int .i64 p.2]
structure AIds where
  fb : Nat
  fp : Nat
  bc : Nat
  tc : Nat
  oc : Nat
  ec : Nat
def ownV (I : AIds) : Value := .func (.func 83) #[] ⟨[.pointer (some ⟨I.bc, 0, none⟩), .pointer (some ⟨I.fp, 0, none⟩)]⟩
def eachV (I : AIds) : Value := .func (.func 85) #[] ⟨[.pointer (some ⟨I.fp, 0, none⟩), .pointer (some ⟨I.tc, 0, none⟩)]⟩
structure AH (F : Nat → Prop) (t d : Option Addr) (T : TM) (g : G) (R : List Int) (I : AIds) (hh : Heap) (Q : Nat → Prop) (S : AllS) : Prop where
  gl : Glo hh
  x : Tx hh F t d T
  rf : rd hh I.fb = fileV t g R
  rp : rd hh I.fp = [.pointer (some ⟨I.fb, 0, none⟩)]
  ro : rd hh I.oc = [ownV I]
  re : rd hh I.ec = [eachV I]
  ob : Own hh I.bc
  ot : Own hh I.tc
  ne : I.bc ≠ I.tc
  rows : ∃ P1 P2 a1 c1 a2 c2, rd hh I.bc = [.slice a1 S.L.length c1] ∧ rd hh I.tc = [.slice a2 S.M.length c2] ∧ Sl hh 2 a1 S.L.length c1 (S.L.flatMap pcellA) P1 ∧ Sl hh 1 a2 S.M.length c2 (S.M.map (.int .i64)) P2 ∧ (∀ b, P1 b → b ≠ I.bc ∧ b ≠ I.tc ∧ ¬ P2 b) ∧ (∀ b, P2 b → b ≠ I.bc ∧ b ≠ I.tc) ∧ ∀ b, Q b ↔ b = I.bc ∨ b = I.tc ∨ P1 b ∨ P2 b
  lt : ∀ b, Q b → b < hh.size
  nQ : ∀ b, Q b → ¬ F b ∧ b ≠ I.fb ∧ b ≠ I.fp ∧ b ≠ I.oc ∧ b ≠ I.ec ∧ 1 ≤ b
theorem AH.no {F : Nat → Prop} {t d : Option Addr} {T : TM} {g : G} {R : List Int} {I : AIds} {hh h' : Heap} {Q : Nat → Prop} {S : AllS} (a : AH F t d T g R I hh Q S) (f : Fr No hh h') : AH F t d T g R I h' Q S := by
  obtain ⟨P1, P2, a1, c1, a2, c2, r1, r2, s1, s2, k1, k2, k3⟩ := a.rows
  have q : ∀ {b xs v}, rd hh b = v :: xs → rd h' b = v :: xs := fun e => (f.rd (rd_lt (o := 0) (by rw [e]; rfl)) fun y => y).trans e
  exact ⟨a.gl.no f, a.x.no f, q a.rf, q a.rp, q a.ro, q a.re, f.own a.ob.lt (fun y => y) a.ob, f.own a.ot.lt (fun y => y) a.ot, a.ne, ⟨P1, P2, a1, c1, a2, c2, q r1, q r2, s1.fr f (fun _ _ _ y => y), s2.fr f (fun _ _ _ y => y), k1, k2, k3⟩, fun b hb => Nat.lt_of_lt_of_le (a.lt b hb) f.size, a.nQ⟩
/-- a closure that does a number, as dO says -/
def DoS (dv : Value) (dO : DoM) (h0 : Heap) (Q0 : Nat → Prop) (F : Nat → Prop) (t d : Option Addr) (T : TM) (g : G) (R : List Int) (I : AIds) (lim : Nat) : Prop :=
  ∀ (hh : Heap) (Q : Nat → Prop) (S : AllS) (i : Nat) (v : Int) (K : Value → Heap → Prop), Fr Q0 h0 hh → Gw h0 Q0 hh Q → AH F t d T g R I hh Q S → S.n < lim → i < 128 → -9223372036854775808 ≤ v → v ≤ 9223372036854775807 →
    (∀ h' Q', Fr Q hh h' → Gw hh Q h' Q' → AH F t d T g R I h' Q' (dO S i v).1 → K (.int .i64 (dO S i v).2) h') → HCallsV Tryz.prog dv [.int .i64 (i : Int), .int .i64 v] hh K
theorem own_spec' {F : Nat → Prop} {t d : Option Addr} {T : TM} {g : G} {R : List Int} {I : AIds} {hh : Heap} {Q : Nat → Prop} {S : AllS} {k v : Int} {K : Value → Heap → Prop} (a : AH F t d T g R I hh Q S) (hn : S.n < 1000000)
    (hK : ∀ h' Q', Fr Q hh h' → Gw hh Q h' Q' → AH F t d T g R I h' Q' (ownA g S k v).1 → K (.int .i64 (ownA g S k v).2) h') : HCallsV Tryz.prog (ownV I) [.int .i64 k, .int .i64 v] hh K := by
  show C.bmap_All_c1 k v (some ⟨I.bc, 0, none⟩) (some ⟨I.fp, 0, none⟩) hh K
  obtain ⟨P1, P2, a1, c1, a2, c2, r1, r2, s1, s2, k1, k2, k3⟩ := a.rows
  refine bmap_All_c1.ok (ce (fun y => ?_) fun y => os ⟨_, _, _, rdc r1 rfl, rfl, New.intro fun h2 n2 => ⟨pcellA (k, v), rfl, cellsAll n2.rd, one2 rfl rfl, ?_⟩⟩)
  · have e0 : ownA g S k v = (S, 0) := by unfold ownA; rw [if_pos y]
    rw [e0] at hK
    exact hK hh Q (Fr.refl _ _) (Gw.refl (Nat.le_refl _) a.lt) a
  have e0 : ownA g S k v = (⟨S.L ++ [(k, v)], S.M⟩, lookM g v) := by unfold ownA; rw [if_neg y]
  rw [e0] at hK
  have z2 := n2.size
  have hSn : S.L.length ≤ S.n := Nat.le_add_right _ _
  refine append_own (elem := ti56) ((sl_rngB s1).fr n2.fr fun _ _ _ y => y) rfl rfl (by show (_ + 1) * 16 ≤ _; omega) (by omega) fun a' c' h3 f3 s3 => ?_
  have z3 := f3.size
  have lb := a.ob.lt
  have ltc := a.ot.lt
  have q3 : ∀ b, b < hh.size → ¬ P1 b → rd h3 b = rd hh b := fun b hb hp => (f3.rd (by omega) fun y => hp y.1).trans (n2.at_ hb)
  have w3 : ∀ b, ¬ P1 b → Own hh b → Own h3 b := fun b hp o => f3.own (by have := o.lt; omega) (fun y => hp y.1) (n2.ow o)
  have nb : ¬ P1 I.bc := fun y => (k1 _ y).1 rfl
  have nt : ¬ P1 I.tc := fun y => (k1 _ y).2.1 rfl
  have r3 : rd h3 I.bc = _ := (q3 _ lb nb).trans r1
  refine os (Put.intro (w3 _ nb a.ob) (by rw [r3]; exact Nat.zero_lt_one) fun h4 d4 => ?_)
  have z4 := d4.size
  have nid : ∀ b, (b = I.fb ∨ b = I.fp ∨ b = I.oc ∨ b = I.ec ∨ b < 1 ∨ F b) → ¬ Q b := fun b hb y => by
    have n := a.nQ b y
    rcases hb with h | h | h | h | h | h
    · exact n.2.1 h
    · exact n.2.2.1 h
    · exact n.2.2.2.1 h
    · exact n.2.2.2.2.1 h
    · omega
    · exact n.1 h
  have F4 : Fr Q hh h4 := (((n2.fr.mono fun _ _ y => y.elim).trans f3 fun b _ y => (k3 b).mpr (.inr (.inr (.inl y.1)))).did d4 fun _ => (k3 _).mpr (.inl rfl))
  have idl : ∀ {b v}, rd hh b = [v] → (b = I.fb ∨ b = I.fp ∨ b = I.oc ∨ b = I.ec ∨ b < 1 ∨ F b) → rd h4 b = [v] := fun e hb => (F4.rd (rd_lt (o := 0) (by rw [e]; rfl)) (nid _ hb)).trans e
  have rf4 : rd h4 I.fb = fileV t g R := (F4.rd (rd_lt (o := 0) (by rw [a.rf]; rfl)) (nid _ (.inl rfl))).trans a.rf
  have rp4 := idl a.rp (.inr (.inl rfl))
  refine os ⟨_, rdc rp4 rfl, look_spec rf4 ⟨_, rfl, ?_⟩⟩
  have s3' := (sl_rngB s3).fr d4.fr fun b hb y e => by
    have e : b = I.bc := e
    have y := y.1
    rcases y with y | y
    · exact nb (e ▸ y.1)
    · rw [e] at y; omega
  have s24 : Sl h4 1 a2 S.M.length c2 (S.M.map (.int .i64)) (fun b => P2 b ∧ b < hh.size) := (((sl_rngB s2).fr n2.fr fun _ _ _ y => y).fr f3 fun b _ y z => (k1 b z.1).2.2 y.1).fr d4.fr fun b _ y e => (k2 b y.1).1 e
  have rt4 : rd h4 I.tc = [.slice a2 S.M.length c2] := (d4.at_ (by omega) a.ne.symm).trans ((q3 _ ltc nt).trans r2)
  refine hK h4 (fun b => b = I.bc ∨ b = I.tc ∨ ((P1 b ∧ b < hh.size ∨ h2.size ≤ b) ∧ b < h3.size) ∨ (P2 b ∧ b < hh.size)) F4 ⟨fun b hb => ?_, fun b hb => ?_⟩ ⟨a.gl.fr F4 (fun b hb => nid b (by omega)), a.x.fr F4 (fun b hb => nid b (by simp [hb])), rf4, rp4, idl a.ro (by simp), idl a.re (by simp), d4.own, d4.ow (w3 _ nt a.ot), a.ne,
    ⟨_, _, a', c', a2, c2, ?_, rt4, ?_, s24, fun b hb => ?_, fun b hb => k2 b hb.1, fun b => Iff.rfl⟩, fun b hb => ?_, fun b hb => ?_⟩
  · show _ ↔ Q b
    rw [k3 b]
    constructor
    · rintro (y | y | y | y)
      · exact .inl y
      · exact .inr (.inl y)
      · rcases y.1 with z | z
        · exact .inr (.inr (.inl z.1))
        · omega
      · exact .inr (.inr (.inr y.1))
    · rintro (y | y | y | y)
      · exact .inl y
      · exact .inr (.inl y)
      · exact .inr (.inr (.inl ⟨.inl ⟨y, hb⟩, by omega⟩))
      · exact .inr (.inr (.inr ⟨y, hb⟩))
  · rcases hb with y | y | y | y <;> omega
  · show rd h4 I.bc = [.slice a' (S.L ++ [(k, v)]).length c']
    rw [d4.rd, r3, List.length_append]; rfl
  · show Sl h4 2 a' (S.L ++ [(k, v)]).length c' ((S.L ++ [(k, v)]).flatMap pcellA) _
    rw [List.length_append, List.flatMap_append]
    exact s3'
  · rcases hb with ⟨y | y, z⟩
    · have := k1 b y.1
      exact ⟨this.1, this.2.1, fun w => this.2.2 w.1⟩
    · exact ⟨by omega, by omega, fun w => by omega⟩
  · rcases hb with y | y | y | y <;> omega
  · have new : h2.size ≤ b → ¬ F b ∧ b ≠ I.fb ∧ b ≠ I.fp ∧ b ≠ I.oc ∧ b ≠ I.ec ∧ 1 ≤ b := fun hl => by
      have l1 : I.fb < hh.size := rd_lt (o := 0) (by rw [a.rf]; rfl)
      have l2 : I.fp < hh.size := rd_lt (o := 0) (by rw [a.rp]; rfl)
      have l3 : I.oc < hh.size := rd_lt (o := 0) (by rw [a.ro]; rfl)
      have l4 : I.ec < hh.size := rd_lt (o := 0) (by rw [a.re]; rfl)
      exact ⟨fun y => by have := a.x.lt y; omega, by omega, by omega, by omega, by omega, by omega⟩
    rcases hb with y | y | y | y
    · exact a.nQ b ((k3 b).mpr (.inl y))
    · exact a.nQ b ((k3 b).mpr (.inr (.inl y)))
    · rcases y.1 with z | z
      · exact a.nQ b ((k3 b).mpr (.inr (.inr (.inl z.1))))
      · exact new z
    · exact a.nQ b ((k3 b).mpr (.inr (.inr (.inr y.1))))
end Go.Proofs.YtcdpakjhjmchhaaGreatDoor.Bm
/-
  PACKAGE bmap: All: each, its closures.
-/
namespace Go.Proofs.YtcdpakjhjmchhaaGreatDoor.Bm
open Go Go.Proofs Go.Proofs.YtcdpakjhjmchhaaGreatDoor.Wx Go.Proofs.YtcdpakjhjmchhaaGreatDoor.Hp Go.Proofs.YtcdpakjhjmchhaaGreatDoor.W Go.Proofs.YtcdpakjhjmchhaaGreatDoor.Ad Go.Proofs.YtcdpakjhjmchhaaGreatDoor.Tm Go.Proofs.YtcdpakjhjmchhaaGreatDoor.Spc Go.Proofs.YtcdpakjhjmchhaaGreatDoor.Re Go.Proofs.YtcdpakjhjmchhaaGreatDoor.Av
open Go.Proofs.YtcdpakjhjmchhaaGreatDoor.Hd (ints wrap_u64)
open Go.Proofs.YtcdpakjhjmchhaaGreatDoor.In (Glo ints_length ints_one)

theorem AH.pushM {F : Nat → Prop} {t d : Option Addr} {T : TM} {g : G} {R : List Int} {I : AIds} {hh : Heap} {Q : Nat → Prop} {S : AllS} {tab : Int} {X : Heap → Prop} (a : AH F t d T g R I hh Q S) (hn : S.n < 1000000)
    (hX : ∀ h' Q', Fr Q hh h' → Gw hh Q h' Q' → AH F t d T g R I h' Q' ⟨S.L, S.M ++ [tab]⟩ → X h') :
    ∃ (sA3 : Option Addr) (sL3 : Nat) (sC3 : Nat), cellOf hh ⟨I.tc, 0, none⟩ = some (.slice sA3 sL3 sC3) ∧ New [.int .i64 tab] 3 hh fun h3 =>
      ∃ new1 : List Value, List.length new1 = 1 * 1 ∧ SlCells h3 (some ⟨hh.size, 0, none⟩) new1 ∧ (∀ v ∈ new1, v.oneCell' = true) ∧ AppendP ti3 3 sA3 sL3 sC3 1 new1 h3 fun sA4 sL4 sC4 h4 => onSome (some (⟨I.tc, 0, none⟩ : Addr)) fun p3 => Put p3 (.slice sA4 sL4 sC4) h4 fun h5 => X h5 := by
  obtain ⟨P1, P2, a1, c1, a2, c2, r1, r2, s1, s2, k1, k2, k3⟩ := a.rows
  refine ⟨_, _, _, rdc r2 rfl, New.intro fun h2 n2 => ⟨[.int .i64 tab], rfl, cellsAll n2.rd, (fun v hv => by rw [List.mem_singleton.mp hv]; rfl), ?_⟩⟩
  have z2 := n2.size
  have hSn : S.M.length ≤ S.n := Nat.le_add_left _ _
  refine append_own (elem := ti3) ((sl_rngB s2).fr n2.fr fun _ _ _ y => y) rfl rfl (by show (_ + 1) * 8 ≤ _; omega) (by omega) fun a' c' h3 f3 s3 => ?_
  have z3 := f3.size
  have lb := a.ob.lt
  have ltc := a.ot.lt
  have q3 : ∀ b, b < hh.size → ¬ P2 b → rd h3 b = rd hh b := fun b hb hp => (f3.rd (by omega) fun y => hp y.1).trans (n2.at_ hb)
  have w3 : ∀ b, ¬ P2 b → Own hh b → Own h3 b := fun b hp o => f3.own (by have := o.lt; omega) (fun y => hp y.1) (n2.ow o)
  have nb : ¬ P2 I.bc := fun y => (k2 _ y).1 rfl
  have nt : ¬ P2 I.tc := fun y => (k2 _ y).2 rfl
  have r3 : rd h3 I.tc = _ := (q3 _ ltc nt).trans r2
  refine os (Put.intro (w3 _ nt a.ot) (by rw [r3]; exact Nat.zero_lt_one) fun h4 d4 => ?_)
  have z4 := d4.size
  have nid : ∀ b, (b = I.fb ∨ b = I.fp ∨ b = I.oc ∨ b = I.ec ∨ b < 1 ∨ F b) → ¬ Q b := fun b hb y => by
    have n := a.nQ b y
    rcases hb with h | h | h | h | h | h
    · exact n.2.1 h
    · exact n.2.2.1 h
    · exact n.2.2.2.1 h
    · exact n.2.2.2.2.1 h
    · omega
    · exact n.1 h
  have F4 : Fr Q hh h4 := (((n2.fr.mono fun _ _ y => y.elim).trans f3 fun b _ y => (k3 b).mpr (.inr (.inr (.inr y.1)))).did d4 fun _ => (k3 _).mpr (.inr (.inl rfl)))
  have idl : ∀ {b v}, rd hh b = [v] → (b = I.fb ∨ b = I.fp ∨ b = I.oc ∨ b = I.ec ∨ b < 1 ∨ F b) → rd h4 b = [v] := fun e hb => (F4.rd (rd_lt (o := 0) (by rw [e]; rfl)) (nid _ hb)).trans e
  have rf4 : rd h4 I.fb = fileV t g R := (F4.rd (rd_lt (o := 0) (by rw [a.rf]; rfl)) (nid _ (.inl rfl))).trans a.rf
  have rp4 := idl a.rp (.inr (.inl rfl))
  have s3' := (sl_rngB s3).fr d4.fr fun b hb y e => by
    have e : b = I.tc := e
    have y := y.1
    rcases y with y | y
    · exact nt (e ▸ y.1)
    · rw [e] at y; omega
  have s14 : Sl h4 2 a1 S.L.length c1 (S.L.flatMap pcellA) (fun b => P1 b ∧ b < hh.size) := (((sl_rngB s1).fr n2.fr fun _ _ _ y => y).fr f3 fun b _ y z => (k1 b y.1).2.2 z.1).fr d4.fr fun b _ y e => (k1 b y.1).2.1 e
  have rb4 : rd h4 I.bc = [.slice a1 S.L.length c1] := (d4.at_ (by omega) a.ne).trans ((q3 _ lb nb).trans r1)
  refine hX h4 (fun b => b = I.bc ∨ b = I.tc ∨ (P1 b ∧ b < hh.size) ∨ ((P2 b ∧ b < hh.size ∨ h2.size ≤ b) ∧ b < h3.size)) F4 ⟨fun b hb => ?_, fun b hb => ?_⟩ ⟨a.gl.fr F4 (fun b hb => nid b (by omega)), a.x.fr F4 (fun b hb => nid b (by simp [hb])), rf4, rp4, idl a.ro (by simp), idl a.re (by simp), d4.ow (w3 _ nb a.ob), d4.own, a.ne,
    ⟨_, _, a1, c1, a', c', rb4, ?_, s14, ?_, fun b hb => ?_, fun b hb => ?_, fun b => Iff.rfl⟩, fun b hb => ?_, fun b hb => ?_⟩
  · show _ ↔ Q b
    rw [k3 b]
    constructor
    · rintro (y | y | y | y)
      · exact .inl y
      · exact .inr (.inl y)
      · exact .inr (.inr (.inl y.1))
      · rcases y.1 with z | z
        · exact .inr (.inr (.inr z.1))
        · omega
    · rintro (y | y | y | y)
      · exact .inl y
      · exact .inr (.inl y)
      · exact .inr (.inr (.inl ⟨y, hb⟩))
      · exact .inr (.inr (.inr ⟨.inl ⟨y, hb⟩, by omega⟩))
  · rcases hb with y | y | y | y <;> omega
  · show rd h4 I.tc = [.slice a' (S.M ++ [tab]).length c']
    rw [d4.rd, r3, List.length_append]; rfl
  · show Sl h4 1 a' (S.M ++ [tab]).length c' ((S.M ++ [tab]).map (.int .i64)) _
    rw [List.length_append, List.map_append]
    exact s3'
  · have := k1 b hb.1
    refine ⟨this.1, this.2.1, fun w => ?_⟩
    rcases w with ⟨y | y, z⟩
    · exact this.2.2 y.1
    · have := hb.2; omega
  · rcases hb with ⟨y | y, z⟩
    · exact k2 b y.1
    · exact ⟨by omega, by omega⟩
  · rcases hb with y | y | y | y <;> omega
  · have new : h2.size ≤ b → ¬ F b ∧ b ≠ I.fb ∧ b ≠ I.fp ∧ b ≠ I.oc ∧ b ≠ I.ec ∧ 1 ≤ b := fun hl => by
      have l1 : I.fb < hh.size := rd_lt (o := 0) (by rw [a.rf]; rfl)
      have l2 : I.fp < hh.size := rd_lt (o := 0) (by rw [a.rp]; rfl)
      have l3 : I.oc < hh.size := rd_lt (o := 0) (by rw [a.ro]; rfl)
      have l4 : I.ec < hh.size := rd_lt (o := 0) (by rw [a.re]; rfl)
      exact ⟨fun y => by have := a.x.lt y; omega, by omega, by omega, by omega, by omega, by omega⟩
    rcases hb with y | y | y | y
    · exact a.nQ b ((k3 b).mpr (.inl y))
    · exact a.nQ b ((k3 b).mpr (.inr (.inl y)))
    · exact a.nQ b ((k3 b).mpr (.inr (.inr (.inl y.1))))
    · rcases y.1 with z | z
      · exact a.nQ b ((k3 b).mpr (.inr (.inr (.inr z.1))))
      · exact new z
theorem eachGo_cons (dO : DoM) (v : Int) (r : List Int) (i : Nat) (S : AllS) : eachGo dO (v :: r) i S = if (dO S i v).2 ≠ 0 then dO S i v else eachGo dO r (i + 1) (dO S i v).1 := rfl
theorem each_spec {F : Nat → Prop} {t d : Option Addr} {T : TM} {g : G} {R : List Int} {I : AIds} {hh : Heap} {Q : Nat → Prop} {S : AllS} {tab : Int} {dv : Value} {dO : DoM} {w lim : Nat} {K : Value → Heap → Prop} (a : AH F t d T g R I hh Q S) (D : DoS dv dO hh Q F t d T g R I lim) (hd : ∀ S i v, (dO S i v).1.n ≤ S.n + w) (hn : S.n + (w * 128 + 2) < lim) (hlim : lim ≤ 1000000)
    (hK : ∀ h' Q', Fr Q hh h' → Gw hh Q h' Q' → AH F t d T g R I h' Q' (eachM T g dO tab S).1 → K (.int .i64 (eachM T g dO tab S).2) h') : HCallsV Tryz.prog (eachV I) [.int .i64 tab, dv] hh K := by
  show C.bmap_All_c2 tab dv (some ⟨I.fp, 0, none⟩) (some ⟨I.tc, 0, none⟩) hh K
  refine bmap_All_c2.ok (ce (fun y => ?_) fun y => os ⟨_, rdc a.rp rfl, numbers_spec a.gl a.x a.rf (fun he h2 f2 => ⟨_, _, _, _, _, _, _, rfl, os ?_⟩) fun y1 y2 hlen sa sc lb h2 f2 hlb s2 r2 o2 => ⟨_, _, _, _, _, _, _, rfl, os ?_⟩⟩)
  · have e0 : eachM T g dO tab S = (S, 0) := by unfold eachM; rw [if_pos y]
    rw [e0] at hK
    exact hK hh Q (Fr.refl _ _) (Gw.refl (Nat.le_refl _) a.lt) a
  · have z2 := f2.size
    refine (a.no f2).pushM (by omega) fun h5 Q5 f5 g5 a5 => ?_
    have F5 : Fr Q hh h5 := (f2.mono fun _ _ y => y.elim).trans f5 fun _ _ y => y
    have G5 : Gw hh Q h5 Q5 := (Gw.refl z2 a.lt).trans g5 z2
    have hK := hK h5 Q5 F5 G5
    have e0 : eachM T g dO tab S = (⟨S.L, S.M ++ [tab]⟩, if lookM g tab ≠ 0 then lookM g tab else (T.read tab).2) := by
      unfold eachM
      rw [if_neg y]
      by_cases h1 : lookM g tab ≠ 0
      · rw [if_pos h1, if_pos h1]
      · rw [if_neg h1, if_neg h1, if_pos (he.resolve_left h1)]
    rw [e0] at hK
    refine ⟨fun e i h6 => e = (if lookM g tab ≠ 0 then lookM g tab else (T.read tab).2) ∧ i = 0 ∧ h6 = h5, fun _ _ _ => 0, ⟨rfl, rfl, rfl⟩, ?_⟩
    rintro e i h6 ⟨rfl, rfl, rfl⟩
    exact cd (fun z => absurd z (by decide)) fun _ => hK a5
  · have z2 := f2.size
    refine (a.no f2).pushM (by omega) fun h5 Q5 f5 g5 a5 => ?_
    have F5 : Fr Q hh h5 := (f2.mono fun _ _ y => y.elim).trans f5 fun _ _ y => y
    have G5 : Gw hh Q h5 Q5 := (Gw.refl z2 a.lt).trans g5 z2
    have z5 := f5.size
    have e0 : eachM T g dO tab S = eachGo dO (numsL (T.read tab).1) 0 ⟨S.L, S.M ++ [tab]⟩ := by unfold eachM; rw [if_neg y, if_neg (fun z => z y1), if_neg (fun z => z y2)]
    rw [e0] at hK
    have nl := numsL_len (T.read tab).1
    have nlt : ∀ j (hj : j < (numsL (T.read tab).1).length), 0 ≤ (numsL (T.read tab).1)[j] ∧ (numsL (T.read tab).1)[j] < 4294967296 := fun j hj => by
      rw [numsL_get hj]
      have := num4_lt (T.read tab).1 j
      omega
    generalize numsL (T.read tab).1 = ns at hK r2 nl nlt
    have lbl : lb < h2.size := o2.lt
    have nlb : ¬ Q lb := fun y => by have := a.lt lb y; omega
    have r5 : rd h5 lb = ints ns := (f5.rd lbl nlb).trans r2
    have n5 : (⟨S.L, S.M ++ [tab]⟩ : AllS).n = S.n + 1 := by unfold AllS.n; rw [List.length_append]; show S.L.length + (S.M.length + 1) = _; omega
    refine ⟨fun e i h6 => ∃ (j : Nat) (Q6 : Nat → Prop) (S6 : AllS), i = j ∧ j ≤ 128 ∧ Fr Q hh h6 ∧ Gw h2 Q h6 Q6 ∧ h2.size ≤ h6.size ∧ AH F t d T g R I h6 Q6 S6 ∧ rd h6 lb = ints ns ∧ S6.n ≤ S.n + 1 + w * j ∧
        ((e = 0 ∧ eachGo dO (ns.drop j) j S6 = eachGo dO ns 0 ⟨S.L, S.M ++ [tab]⟩) ∨ (e ≠ 0 ∧ (S6, e) = eachGo dO ns 0 ⟨S.L, S.M ++ [tab]⟩)), fun _ i _ => ((128 : Int) - i).toNat,
      ⟨0, Q5, _, rfl, by decide, F5, g5, z5, a5, r5, by rw [n5]; exact Nat.le_refl _, .inl ⟨rfl, by rw [List.drop_zero]⟩⟩, ?_⟩
    intro e i h6 hI
    obtain ⟨j, Q6, S6, ei, hj, f6, g6, zz, a6, r6, u6, hE⟩ := hI
    have G6 : Gw hh Q h6 Q6 := (Gw.refl z2 a.lt).trans g6 z2
    have fin : (S6, e) = eachGo dO ns 0 ⟨S.L, S.M ++ [tab]⟩ → K (.int .i64 e) h6 := fun ee => by rw [← ee] at hK; exact hK h6 Q6 f6 G6 a6
    refine cd (fun hl => ce (fun h0 => ?_) fun h0 => fin ?_) fun hl => fin ?_
    · subst ei
      have ew := (hE.resolve_right (fun z => z.1 h0)).2
      have hj' : j < ns.length := by omega
      have hjn : j < 128 := by omega
      rw [drop_cons hj', eachGo_cons] at ew
      have nj := nlt j hj'
      have cv : cellOf h6 (Addr.add ⟨lb, 0, none⟩ j) = some (.int .i64 (ns[j]'hj')) := rda r6 (by rw [Nat.zero_add, ints, List.getElem?_map, List.getElem?_eq_getElem hj']; rfl)
      have wr : IntKind.wrap .i64 ((j : Int) + 1) = ((j + 1 : Nat) : Int) := by rw [wrap_i64 (by omega) (by omega)]; omega
      have hju : w * j ≤ w * 128 := Nat.mul_le_mul_left _ hj
      have hm : w * (j + 1) = w * j + w := Nat.mul_succ w j
      unfold bmap_All_c2.k1
      rw [Int.toNat_natCast, wr]
      refine ⟨⟨by omega, hl⟩, os ⟨_, cv, D h6 Q6 S6 j (ns[j]'hj') _ f6 G6 a6 (by omega) hjn (by omega) (by omega) fun h7 Q7 f7 g7 a7 => ⟨_, rfl, ⟨j + 1, Q7, _, rfl, hjn, f6.trans f7 fun c hc y => (G6.old c hc).mp y, g6.trans g7 zz, by have := f7.size; omega, a7, (f7.rd (by omega) fun y => nlb ((g6.old lb lbl).mp y)).trans r6, ?_, ?_⟩, by show ((128 : Int) - ((j + 1 : Nat) : Int)).toNat < ((128 : Int) - (j : Int)).toNat; omega⟩⟩⟩
      · have := hd S6 j (ns[j]'hj'); omega
      · by_cases he : (dO S6 j (ns[j]'hj')).2 = 0
        · rw [if_neg (fun z => z he)] at ew
          exact .inl ⟨he, ew⟩
        · rw [if_pos he] at ew
          exact .inr ⟨he, ew⟩
    · exact (hE.resolve_left (fun z => h0 z.1)).2
    · rcases hE with ⟨h0, ew⟩ | ⟨_, ew⟩
      · have ej : j = 128 := by omega
        have ed : ns.drop j = [] := List.drop_eq_nil_of_le (by omega)
        rw [ed] at ew
        rw [h0]; exact ew
      · exact ew
/-! the closures -/
def oneV (I : AIds) : Value := .func (.func 87) #[] ⟨[.pointer (some ⟨I.oc, 0, none⟩)]⟩
def twoV (I : AIds) : Value := .func (.func 88) #[] ⟨[.pointer (some ⟨I.ec, 0, none⟩), .pointer (some ⟨I.oc, 0, none⟩)]⟩
def inV (I : AIds) (ib : Nat) : Value := .func (.func 89) #[] ⟨[.pointer (some ⟨I.oc, 0, none⟩), .pointer (some ⟨ib, 0, none⟩)]⟩
theorem one_do {F : Nat → Prop} {t d : Option Addr} {T : TM} {g : G} {R : List Int} {I : AIds} {h0 : Heap} {Q0 : Nat → Prop} : DoS (oneV I) (oneD g) h0 Q0 F t d T g R I 1000000 := by
  intro hh Q S i v K _ _ a hn hi _ _ hK
  show C.bmap_All_c3 (i : Int) v (some ⟨I.oc, 0, none⟩) hh K
  refine bmap_All_c3.ok (os ⟨_, rdc a.ro rfl, ?_⟩)
  rw [wrap_i64 (by omega) (by omega)]
  exact own_spec' a hn fun h' Q' f gw a' => ⟨_, rfl, hK h' Q' f gw a'⟩
theorem in_do {F : Nat → Prop} {t d : Option Addr} {T : TM} {g : G} {R : List Int} {I : AIds} {h0 : Heap} {Q0 : Nat → Prop} {ib i : Nat} (hi : i < 128) (ri : rd h0 ib = [.int .i64 (i : Int)]) (hq : ¬ Q0 ib) : DoS (inV I ib) (inD g i) h0 Q0 F t d T g R I 1000000 := by
  intro hh Q S j v K f _ a hn hj _ _ hK
  show C.bmap_All_c4_c1 (j : Int) v (some ⟨I.oc, 0, none⟩) (some ⟨ib, 0, none⟩) hh K
  refine bmap_All_c4_c1.ok (os ⟨_, rdc a.ro rfl, os ⟨_, rdc ((f.rd (rd_lt (o := 0) (by rw [ri]; rfl)) hq).trans ri) rfl, ?_⟩⟩)
  rw [wrap_i64 (n := (i : Int) * 128) (by omega) (by omega), wrap_i64 (n := 138 + (i : Int) * 128) (by omega) (by omega), wrap_i64 (n := 138 + (i : Int) * 128 + j) (by omega) (by omega)]
  exact own_spec' a hn fun h' Q' f gw a' => ⟨_, rfl, hK h' Q' f gw a'⟩
theorem inD_n (g : G) (i : Nat) (S : AllS) (j : Nat) (v : Int) : (inD g i S j v).1.n ≤ S.n + 1 := ownA_n g S _ v
theorem two_do {F : Nat → Prop} {t d : Option Addr} {T : TM} {g : G} {R : List Int} {I : AIds} {h0 : Heap} {Q0 : Nat → Prop} : DoS (twoV I) (twoD T g) h0 Q0 F t d T g R I 999000 := by
  intro hh Q S i v K _ _ a hn hi _ _ hK
  show C.bmap_All_c4 (i : Int) v (some ⟨I.ec, 0, none⟩) (some ⟨I.oc, 0, none⟩) hh K
  refine bmap_All_c4.ok (New.intro fun h2 n2 => ?_)
  have a2 := a.no n2.fr
  have z2 := n2.size
  have nq : ¬ Q hh.size := fun y => by have := a.lt _ y; omega
  refine os ⟨_, rdc a2.re rfl, each_spec (w := 1) (lim := 1000000) a2 (in_do hi n2.rd nq) (inD_n g i) (by omega) (Nat.le_refl _) fun h3 Q3 f3 g3 a3 => ⟨_, rfl, hK h3 Q3 ((n2.fr.mono fun _ _ y => y.elim).trans f3 fun _ _ y => y) ((Gw.refl n2.fr.size a.lt).trans g3 n2.fr.size) a3⟩⟩
end Go.Proofs.YtcdpakjhjmchhaaGreatDoor.Bm
/-
  PACKAGE bmap: All answers.
-/
namespace Go.Proofs.YtcdpakjhjmchhaaGreatDoor.Bm
open Go Go.Proofs Go.Proofs.YtcdpakjhjmchhaaGreatDoor.Wx Go.Proofs.YtcdpakjhjmchhaaGreatDoor.Hp Go.Proofs.YtcdpakjhjmchhaaGreatDoor.W Go.Proofs.YtcdpakjhjmchhaaGreatDoor.Ad Go.Proofs.YtcdpakjhjmchhaaGreatDoor.Tm Go.Proofs.YtcdpakjhjmchhaaGreatDoor.Spc Go.Proofs.YtcdpakjhjmchhaaGreatDoor.Re Go.Proofs.YtcdpakjhjmchhaaGreatDoor.Av
open Go.Proofs.YtcdpakjhjmchhaaGreatDoor.Hd (ints wrap_u64)
open Go.Proofs.YtcdpakjhjmchhaaGreatDoor.In (Glo ints_length ints_one)

theorem oneD_n (g : G) (S : AllS) (j : Nat) (v : Int) : (oneD g S j v).1.n ≤ S.n + 1 := ownA_n g S _ v
theorem twoD_n (T : TM) (g : G) (S : AllS) (j : Nat) (v : Int) : (twoD T g S j v).1.n ≤ S.n + 129 := eachM_n (inD_n g j)
theorem All_spec {h : Heap} {F : Nat → Prop} {t d : Option Addr} {T : TM} {g : G} {R : List Int} {K : Value → Heap → Prop} (gl : Glo h) (x : Tx h F t d T) (hR : R.length = 15)
    (hK : ∀ P1 P2 a1 c1 a2 c2 h', Fr No h h' → Sl h' 2 a1 (allM T g R).1.length c1 ((allM T g R).1.flatMap pcellA) P1 → Sl h' 1 a2 (allM T g R).2.1.length c2 ((allM T g R).2.1.map (.int .i64)) P2 → (∀ b, P1 b → h.size ≤ b ∧ ¬ P2 b) → (∀ b, P2 b → h.size ≤ b) →
      K (.tuple #[.slice a1 (allM T g R).1.length c1, .slice a2 (allM T g R).2.1.length c2, .int .i64 (allM T g R).2.2]) h') : C.bmap_All t g.v (ints R) h K := by
  have Flt := fun y (hy : F y) => x.lt hy
  have gl1 := gl.lt
  refine bmap_All.ok (New.intro fun h2 n2 => New.intro fun h3 n3 => ⟨g.v, rfl, cellsAll ((n3.at_ n2.own.lt).trans n2.rd), ints R, by rw [ints_length, hR], cellsAll n3.rd, rfl, by rw [ints_length, hR], New.intro fun h4 n4 => New.intro fun h5 n5 => ?_⟩)
  have z2 := n2.size
  have z3 := n3.size
  have z4 := n4.size
  have z5 := n5.size
  refine Put.intro n5.own (by rw [n5.rd]; decide) fun h6 d6 => New.intro fun h7 n7 => New.intro fun h8 n8 => New.intro fun h9 n9 => ?_
  have z6 := d6.size
  have z7 := n7.size
  have z8 := n8.size
  have z9 := n9.size
  refine Put.intro n9.own (by rw [n9.rd]; decide) fun h10 d10 => New.intro fun h11 n11 => ?_
  have z10 := d10.size
  have z11 := n11.size
  refine Put.intro n11.own (by rw [n11.rd]; decide) fun h12 d12 => ?_
  have z12 := d12.size
  have q12 : ∀ b, b < h10.size → rd h12 b = rd h10 b := fun b hb => (d12.at_ (by omega) (by omega)).trans (n11.at_ hb)
  have q10 : ∀ b, b < h8.size → rd h10 b = rd h8 b := fun b hb => (d10.at_ (by omega) (by omega)).trans (n9.at_ hb)
  have q8 : ∀ b, b < h6.size → rd h8 b = rd h6 b := fun b hb => (n8.at_ (by omega)).trans (n7.at_ hb)
  have F6 : Fr No h h6 := ((((n2.fr.new n3).new n4).new n5).did d6 fun hl => by omega)
  have F12 : Fr No h h12 := ((((((F6.new n7).new n8).new n9).did d10 fun hl => by omega).new n11).did d12 fun hl => by omega)
  have rx : rd h12 h2.size = ints R := (q12 _ (by omega)).trans ((q10 _ (by omega)).trans ((q8 _ (by omega)).trans ((d6.at_ (by omega) (by omega)).trans ((n5.at_ (by omega)).trans ((n4.at_ (by omega)).trans n3.rd)))))
  have rf : rd h12 h3.size = fileV t g R := (q12 _ (by omega)).trans ((q10 _ (by omega)).trans ((q8 _ (by omega)).trans ((d6.at_ (by omega) (by omega)).trans ((n5.at_ (by omega)).trans n4.rd))))
  have rp : rd h12 h4.size = [.pointer (some ⟨h3.size, 0, none⟩)] := (q12 _ (by omega)).trans ((q10 _ (by omega)).trans ((q8 _ (by omega)).trans (by rw [d6.rd, n5.rd]; rfl)))
  have rb : rd h12 h6.size = [.slice none 0 0] := (q12 _ (by omega)).trans ((q10 _ (by omega)).trans ((n8.at_ (by omega)).trans n7.rd))
  have rt : rd h12 h7.size = [.slice none 0 0] := (q12 _ (by omega)).trans ((q10 _ (by omega)).trans n8.rd)
  obtain ⟨I, eI⟩ : ∃ I : AIds, I = ⟨h3.size, h4.size, h6.size, h7.size, h8.size, h10.size⟩ := ⟨_, rfl⟩
  have ro : rd h12 h8.size = [ownV I] := (q12 _ (by omega)).trans (by rw [d10.rd, n9.rd, eI]; rfl)
  have re : rd h12 h10.size = [eachV I] := by rw [d12.rd, n11.rd, eI]; rfl
  have ob : Own h12 h6.size := d12.ow (n11.ow (d10.ow (n9.ow (n8.ow n7.own))))
  have ot : Own h12 h7.size := d12.ow (n11.ow (d10.ow (n9.ow n8.own)))
  obtain ⟨Q, eQ⟩ : ∃ Q : Nat → Prop, ∀ b, Q b ↔ b = h6.size ∨ b = h7.size := ⟨_, fun _ => Iff.rfl⟩
  have a12 : AH F t d T g R I h12 Q ⟨[], []⟩ := by
    rw [eI]
    rw [eI] at ro re
    refine ⟨gl.no F12, x.no F12, rf, rp, ro, re, ob, ot, by show h6.size ≠ h7.size; omega, ⟨fun _ => False, fun _ => False, none, 0, none, 0, rb, rt, Sl.nil _ _ _, Sl.nil _ _ _, fun _ y => y.elim, fun _ y => y.elim, fun b => ?_⟩, fun b hb => ?_, fun b hb => ?_⟩
    · rw [eQ b]; simp
    · rcases (eQ b).mp hb with y | y <;> omega
    · have k : h.size ≤ b ∧ b ≠ h3.size ∧ b ≠ h4.size ∧ b ≠ h8.size ∧ b ≠ h10.size := by rcases (eQ b).mp hb with y | y <;> omega
      exact ⟨fun y => by have := Flt b y; omega, k.2.1, k.2.2.1, k.2.2.2.1, k.2.2.2.2, by omega⟩
  have j1 : h8.size = I.oc := by rw [eI]
  have j2 : h10.size = I.ec := by rw [eI]
  have j3 : h6.size = I.bc := by rw [eI]
  have j4 : h7.size = I.tc := by rw [eI]
  have nqx : ¬ Q h2.size := fun y => by rcases (eQ _).mp y with y | y <;> omega
  have base : ∀ b, Q b → h.size ≤ b := fun b y => by rcases (eQ b).mp y with y | y <;> omega
  clear eI eQ
  -- the end
  have k4 : ∀ (hh : Heap) (Q' : Nat → Prop) (S : AllS) (e : Int), Fr Q h12 hh → Gw h12 Q hh Q' → AH F t d T g R I hh Q' S → (S, e) = allS T g R → bmap_All.k4 h6 h7 e hh K := fun hh Q' S e f gw a es => by
    have F' : Fr No h hh := F12.trans f fun b hb y => by have := base b y; omega
    have em : allM T g R = if e ≠ 0 then ([], [], e) else (S.L, S.M, 0) := by unfold allM; rw [← es]
    rw [em] at hK
    unfold bmap_All.k4
    refine cn (fun he => ?_) fun he => ?_
    · rw [if_pos he] at hK
      exact hK No No none 0 none 0 hh F' (Sl.nil _ _ _) (Sl.nil _ _ _) (fun _ y => y.elim) fun _ y => y.elim
    · rw [if_neg (fun z => z he)] at hK
      obtain ⟨P1, P2, a1, c1, a2, c2, r1, r2, s1, s2, k1, k2, k3⟩ := a.rows
      rw [j3, j4]
      have old : ∀ b, Q' b → h.size ≤ b := fun b y => by
        rcases gw.new y with z | z
        · exact base b z
        · have := F12.size; omega
      refine ⟨_, _, _, rdc r1 rfl, _, _, _, rdc r2 rfl, hK P1 P2 a1 c1 a2 c2 hh F' s1 s2 (fun b hb => ⟨old b ((k3 b).mpr (.inr (.inr (.inl hb)))), (k1 b hb).2.2⟩) fun b hb => old b ((k3 b).mpr (.inr (.inr (.inr hb))))⟩
  have k3 : ∀ (hh : Heap) (Q' : Nat → Prop) (S : AllS) (e : Int), Fr Q h12 hh → Gw h12 Q hh Q' → AH F t d T g R I hh Q' S → S.n ≤ 500 → ((e ≠ 0 ∧ (S, e) = allS T g R) ∨ (e = 0 ∧ eachM T g (twoD T g) (R.getD 14 0) S = allS T g R)) → bmap_All.k3 h2 h6 h7 h8 h10 e hh K := fun hh Q' S e f gw a hn es => by
    unfold bmap_All.k3
    refine ce (fun he => ?_) fun he => k4 hh Q' S e f gw a (es.resolve_right fun z => he z.1).2
    have es := (es.resolve_left fun z => z.1 he).2
    have rxh : rd hh h2.size = ints R := (f.rd (by omega) nqx).trans rx
    rw [j1, j2]
    refine ⟨_, rdc a.re rfl, _, rda rxh (by rw [Nat.zero_add, ints, List.getElem?_map, List.getElem?_eq_getElem (by omega)]; rfl), ?_⟩
    have e14 : R[14]'(by omega) = R.getD 14 0 := by rw [List.getD_eq_getElem?_getD, List.getElem?_eq_getElem (by omega)]; rfl
    rw [e14]
    refine each_spec (w := 129) (lim := 999000) a two_do (twoD_n T g) (by omega) (by decide) fun h' Q2 f2 g2 a2 => ⟨_, rfl, k4 h' Q2 _ _ (f.trans f2 fun b hb y => (gw.old b hb).mp y) (gw.trans g2 f.size) a2 es⟩
  have k2 : ∀ (hh : Heap) (Q' : Nat → Prop) (S : AllS) (e : Int), Fr Q h12 hh → Gw h12 Q hh Q' → AH F t d T g R I hh Q' S → S.n ≤ 10 → (S, e) = eachGo (dirD g) ((R.drop 3).take 10) 0 ⟨[], []⟩ → bmap_All.k2 h2 h6 h7 h8 h10 e hh K := fun hh Q' S e f gw a hn es => by
    unfold bmap_All.k2
    refine ce (fun he => ?_) fun he => k3 hh Q' S e f gw a (by omega) (.inl ⟨he, ?_⟩)
    · have rxh : rd hh h2.size = ints R := (f.rd (by omega) nqx).trans rx
      refine ⟨_, rdc (xs := [eachV I]) (by rw [j2]; exact a.re) rfl, _, rda rxh (by rw [Nat.zero_add, ints, List.getElem?_map, List.getElem?_eq_getElem (by omega)]; rfl), ?_⟩
      have e13 : R[13]'(by omega) = R.getD 13 0 := by rw [List.getD_eq_getElem?_getD, List.getElem?_eq_getElem (by omega)]; rfl
      rw [e13]
      have ea : allS T g R = if (eachM T g (oneD g) (R.getD 13 0) S).2 ≠ 0 then eachM T g (oneD g) (R.getD 13 0) S else eachM T g (twoD T g) (R.getD 14 0) (eachM T g (oneD g) (R.getD 13 0) S).1 := by
        unfold allS; rw [← es]; show (if e ≠ 0 then _ else _) = _; rw [if_neg (fun z => z he)]
      have en := eachM_n (T := T) (g := g) (tab := R.getD 13 0) (S := S) (oneD_n g)
      have ev : oneV I = Value.func (.func 87) #[] ⟨[.pointer (some ⟨h8.size, 0, none⟩)]⟩ := by rw [j1]; rfl
      rw [← ev]
      refine each_spec (w := 1) (lim := 1000000) a one_do (oneD_n g) (by omega) (Nat.le_refl _) fun h' Q2 f2 g2 a2 => ⟨_, rfl, k3 h' Q2 _ _ (f.trans f2 fun b hb y => (gw.old b hb).mp y) (gw.trans g2 f.size) a2 (by omega) ?_⟩
      by_cases h2' : (eachM T g (oneD g) (R.getD 13 0) S).2 = 0
      · rw [if_neg (fun z => z h2')] at ea
        exact .inr ⟨h2', ea.symm⟩
      · rw [if_pos h2'] at ea
        exact .inl ⟨h2', ea.symm⟩
    · unfold allS; rw [← es]; show _ = (if e ≠ 0 then _ else _); rw [if_pos he]
  generalize hds : (R.drop 3).take 10 = ds at k2
  have dl : ds.length = 10 := by rw [← hds, List.length_take, List.length_drop, hR]; rfl
  have dg : ∀ j (hj : j < ds.length), R[3 + j]? = some (ds[j]'hj) := fun j hj => by
    subst hds
    rw [List.getElem_take, List.getElem_drop, List.getElem?_eq_getElem]
  refine ⟨fun e i hh => ∃ (j : Nat) (Q' : Nat → Prop) (S' : AllS), i = j ∧ j ≤ 10 ∧ Fr Q h12 hh ∧ Gw h12 Q hh Q' ∧ AH F t d T g R I hh Q' S' ∧ S'.n ≤ j ∧ ((e = 0 ∧ eachGo (dirD g) (ds.drop j) j S' = eachGo (dirD g) ds 0 ⟨[], []⟩) ∨ (e ≠ 0 ∧ (S', e) = eachGo (dirD g) ds 0 ⟨[], []⟩)), fun _ i _ => ((10 : Int) - i).toNat,
    ⟨0, Q, _, rfl, by decide, Fr.refl _ _, Gw.refl (Nat.le_refl _) a12.lt, a12, Nat.le_refl _, .inl ⟨rfl, by rw [List.drop_zero]⟩⟩, ?_⟩
  intro e i hh hI
  obtain ⟨j, Q', S', ei, hj, f, gw, a, hn, hE⟩ := hI
  refine cd (fun hl => ce (fun h0 => ?_) fun h0 => k2 hh Q' S' e f gw a (by omega) (hE.resolve_left (fun z => h0 z.1)).2) fun hl => k2 hh Q' S' e f gw a (by omega) ?_
  · subst ei
    have ew := (hE.resolve_right (fun z => z.1 h0)).2
    have hj' : j < ds.length := by omega
    rw [drop_cons hj', eachGo_cons] at ew
    have rxh : rd hh h2.size = ints R := (f.rd (by omega) nqx).trans rx
    have wr : IntKind.wrap .i64 ((j : Int) + 1) = ((j + 1 : Nat) : Int) := by rw [wrap_i64 (by omega) (by omega)]; omega
    unfold bmap_All.k1
    rw [Int.toNat_natCast, wr]
    refine ⟨_, rdc (xs := [ownV I]) (by rw [j1]; exact a.ro) rfl, ⟨by omega, by omega⟩, (ds[j]'hj'), cell2 rxh (by rw [ints, List.getElem?_map, dg j hj']; rfl), own_spec' a (by omega) fun h' Q2 f2 g2 a2 => ⟨_, rfl, ⟨j + 1, Q2, _, rfl, by omega, f.trans f2 fun b hb y => (gw.old b hb).mp y, gw.trans g2 f.size, a2, ?_, ?_⟩, by show ((10 : Int) - ((j + 1 : Nat) : Int)).toNat < ((10 : Int) - (j : Int)).toNat; omega⟩⟩
    · have := ownA_n g S' (j : Int) (ds[j]'hj'); omega
    · have edr : dirD g S' j (ds[j]'hj') = ownA g S' (j : Int) (ds[j]'hj') := rfl
      rw [edr] at ew
      by_cases he : (ownA g S' (j : Int) (ds[j]'hj')).2 = 0
      · rw [if_neg (fun z => z he)] at ew
        exact .inl ⟨he, ew⟩
      · rw [if_pos he] at ew
        exact .inr ⟨he, ew⟩
  · rcases hE with ⟨h0, ew⟩ | ⟨_, ew⟩
    · have ed : ds.drop j = [] := List.drop_eq_nil_of_le (by omega)
      rw [ed] at ew
      rw [h0]; exact ew
    · exact ew
end Go.Proofs.YtcdpakjhjmchhaaGreatDoor.Bm
