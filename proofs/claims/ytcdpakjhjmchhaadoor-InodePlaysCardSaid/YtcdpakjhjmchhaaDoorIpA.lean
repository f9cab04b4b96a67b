/-
  InodePlays: a case's start; a byte poked; what is put, compared.
-/
import Derived.Test.YtcdpakjhjmchhaaDoorRxI
import Derived.Test.YtcdpakjhjmchhaaDoorInU
import Derived.Test.YtcdpakjhjmchhaaDoorTaA
import Derived.Test.YtcdpakjhjmchhaaDoorAdK
import Derived.Test.YtcdpakjhjmchhaaDoorTxE
namespace Go.Proofs.YtcdpakjhjmchhaaDoor.Rx
open Go Go.Proofs Go.Proofs.YtcdpakjhjmchhaaDoor.Wx Go.Proofs.YtcdpakjhjmchhaaDoor.Hp Go.Proofs.YtcdpakjhjmchhaaDoor.W Go.Proofs.YtcdpakjhjmchhaaDoor.Ad Go.Proofs.YtcdpakjhjmchhaaDoor.Tm Go.Proofs.YtcdpakjhjmchhaaDoor.Spc Go.Proofs.YtcdpakjhjmchhaaDoor.Re Go.Proofs.YtcdpakjhjmchhaaDoor.Av Go.Proofs.YtcdpakjhjmchhaaDoor.Ino
open Go.Proofs.YtcdpakjhjmchhaaDoor.Hd (ints ints_get)
open Go.Proofs.YtcdpakjhjmchhaaDoor.In (z15 mayR encR decA ints_one ints_length ints_eq pairs15 cell15 Glo getR_length encR_length z15_row)

/-! the disk -/
theorem DiskF.crash {h : Heap} {D : Nat → Prop} {d : Option Addr} {S : RD} {K : Value → Heap → Prop} (a : DiskF h D d S)
    (hK : ∀ h' D', Fr D h h' → Gw h D h' D' → DiskF h' D' d (if S.down then S else S.cut []) → K (.tuple #[]) h') : C.adisk_Disk_Crash d none 0 0 h K := by
  obtain ⟨col, a, hz, hD⟩ := a
  refine Ad.Crash_spec (keep := []) a rfl rfl (fun p e => by cases e) fun h' f a' => ?_
  obtain ⟨D', g, A, _⟩ := DiskF.gw hD (Ag.refl _ _) f.size a'
  exact hK h' D' (f.mono fun b _ y => (hD b).mpr ⟨y.1, by have := y.2; omega⟩) g A
theorem DiskF.steps {h : Heap} {D : Nat → Prop} {d : Option Addr} {S : RD} {K : Value → Heap → Prop} (a : DiskF h D d S) (hK : K (.tuple #[.int .i64 S.writes, .int .i64 S.flushes]) h) : C.adisk_Disk_Steps d h K := by
  obtain ⟨col, ⟨b, r, es, rfl, D⟩, hz, hD⟩ := a
  refine adisk_Disk_Steps.ok ⟨_, D.field 5, _, D.field 6, ?_⟩
  rw [D.writes, D.flushes]; exact hK
/-! a transaction that goes on: its disk is the same, at most one more put -/
structure Kp (T T' : TM) : Prop where
  disk : T'.disk = T.disk
  un : T'.undo.length ≤ T.undo.length + 1
theorem Kp.N {T T' : TM} (k : Kp T T') : T'.N = T.N := by unfold TM.N; rw [k.disk]
theorem Kp.refl (T : TM) : Kp T T := ⟨rfl, Nat.le_add_right _ _⟩
theorem write_kp (T : TM) (i : Int) (bs : Txt) : Kp T (T.write i bs).1 := by
  by_cases h : (T.write i bs).2 = 0
  · obtain ⟨_, _, _, _, _, ew⟩ := TM.write_ok h
    rw [ew]
    refine ⟨rfl, ?_⟩
    show (T.undo ++ [_]).length ≤ _
    rw [List.length_append]; exact Nat.le_refl _
  · rw [TM.write_bad h]; exact Kp.refl T
theorem putM_kp (T : TM) (g : G) (n : Int) (R : List Int) : Kp T (putM T g n R).1 := by
  unfold putM
  split
  · exact Kp.refl T
  · split
    · exact Kp.refl T
    · split
      · exact Kp.refl T
      · exact write_kp _ _ _
theorem goI_kp (T : TM) (g : G) (R : List Int) : ∀ k n, Kp T (goI T g R k n).1
  | 0, _ => Kp.refl T
  | k + 1, n => by
    unfold goI
    split
    · exact Kp.refl T
    · split
      · split
        · exact putM_kp _ _ _ _
        · exact putM_kp _ _ _ _
      · exact goI_kp T g R k (n + 1)
theorem takeI_kp (T : TM) (g : G) (R : List Int) : Kp T (takeI T g R).1 := by
  unfold takeI
  split
  · exact Kp.refl T
  · exact goI_kp _ _ _ _ _
theorem back_kp (T : TM) (m : Int) : Kp T (T.back m).1 := by
  unfold TM.back
  split
  · exact Kp.refl T
  · split
    · exact Kp.refl T
    · refine ⟨rfl, ?_⟩
      show (T.undo.take m.toNat).length ≤ _
      rw [List.length_take]; omega
theorem sl_takeE {h : Heap} {ec l c m : Nat} {a : Option Addr} {xs : List Value} {F : Nat → Prop} (s : Sl h ec a l c xs F) (hm : m ≤ l) : Sl h ec a m c (xs.take (m * ec)) F := by
  have hme : m * ec ≤ l * ec := Nat.mul_le_mul_right _ hm
  cases a with
  | none =>
    obtain ⟨h1, h2, h3⟩ := s
    have : m = 0 := by omega
    subst this
    exact ⟨by rw [List.length_take, h1, Nat.min_eq_left hme], rfl, h3⟩
  | some p =>
    obtain ⟨h1, a1, a2, a3, a4, a5, a6⟩ := s
    refine ⟨by rw [List.length_take, h1, Nat.min_eq_left hme], a1, a2, a3, by omega, ?_, a6⟩
    rw [List.length_take, h1, Nat.min_eq_left hme]
    conv => rhs; rw [← a5]
    rw [List.take_take, h1, Nat.min_eq_left hme]
/-! a case -/
def mcell (m : Int) : List Value := [.int .i64 m, .int .i64 m]
structure Pl (h0 : Heap) (t d u q : Option Addr) (pb n : Nat) (hh : Heap) (F H : Nat → Prop) (T : TM) (ms : List Int) (ma : Option Addr) (mc : Nat) (c : Nat) : Prop where
  f : Fr No h0 hh
  x : Tx hh F t d T
  y : RxS hh H u q T
  pr : rd hh pb = (geoN n).v ++ [.pointer d, .pointer q, .pointer t, .pointer u, .slice ma ms.length mc]
  po : Own hh pb
  pb0 : h0.size ≤ pb
  ml : Sl hh 2 ma ms.length mc (ms.flatMap mcell) (fun b => h0.size ≤ b ∧ b ≠ pb ∧ ¬ F b ∧ ¬ H b)
  sF : ∀ b, F b → h0.size ≤ b ∧ b ≠ pb ∧ ¬ H b
  sH : ∀ b, H b → h0.size ≤ b ∧ b ≠ pb
  N : T.N = n
  un : T.undo.length ≤ c
  mn : ms.length ≤ c
  st : T.disk.writes = 0 ∧ T.disk.flushes = 0
def St (h0 : Heap) (t d u q : Option Addr) (pb n c : Nat) (hh : Heap) : Prop := ∃ F H T ms ma mc, Pl h0 t d u q pb n hh F H T ms ma mc c
theorem Pl.no {h0 hh hh' : Heap} {t d u q ma : Option Addr} {pb n mc c : Nat} {F H : Nat → Prop} {T : TM} {ms : List Int} (a : Pl h0 t d u q pb n hh F H T ms ma mc c) (f : Fr No hh hh') : Pl h0 t d u q pb n hh' F H T ms ma mc c :=
  ⟨a.f.no f, a.x.no f, a.y.no f, (f.rd a.po.lt fun y => y).trans a.pr, f.own a.po.lt (fun y => y) a.po, a.pb0, a.ml.fr f fun _ _ _ y => y, a.sF, a.sH, a.N, a.un, a.mn, a.st⟩
theorem Pl.le {h0 hh : Heap} {t d u q ma : Option Addr} {pb n mc c c' : Nat} {F H : Nat → Prop} {T : TM} {ms : List Int} (a : Pl h0 t d u q pb n hh F H T ms ma mc c) (h : c ≤ c') : Pl h0 t d u q pb n hh F H T ms ma mc c' :=
  ⟨a.f, a.x, a.y, a.pr, a.po, a.pb0, a.ml, a.sF, a.sH, a.N, Nat.le_trans a.un h, Nat.le_trans a.mn h, a.st⟩
/-- both have gone on: the document's first -/
theorem Pl.both {h0 hh h1 h2 : Heap} {t d u q ma : Option Addr} {pb n mc c c' : Nat} {F H F' H' : Nat → Prop} {T T' : TM} {ms : List Int} (a : Pl h0 t d u q pb n hh F H T ms ma mc c) (f1 : Fr H hh h1) (g1 : Gw hh H h1 H') (f2 : Fr F h1 h2) (g2 : Gw h1 F h2 F')
    (x' : Tx h2 F' t d T') (y1 : RxS h1 H' u q T') (hN : T'.N = n) (hu : T'.undo.length ≤ c') (hc : c ≤ c') (hs : T'.disk.writes = 0 ∧ T'.disk.flushes = 0) : Pl h0 t d u q pb n h2 F' H' T' ms ma mc c' := by
  have zf := a.f.size
  have z1 := f1.size
  have z2 := f2.size
  have Flt : ∀ b, F b → b < hh.size := fun b => a.x.lt
  have Hlt : ∀ b, H b → b < hh.size := fun b => a.y.lt
  have nP : ¬ H pb := fun y => (a.sH _ y).2 rfl
  have nP2 : ¬ F pb := fun y => (a.sF _ y).2.1 rfl
  have lp := a.po.lt
  have oldF : ∀ b, b < hh.size → (F' b ↔ F b) := fun b hb => g2.old b (by omega)
  have oldH : ∀ b, b < hh.size → (H' b ↔ H b) := g1.old
  refine ⟨?_, x', y1.fr f2 fun b hb y => ?_, (f2.rd (by omega) nP2).trans ((f1.rd lp nP).trans a.pr), f2.own (by omega) nP2 (f1.own lp nP a.po), a.pb0, ?_, fun b hb => ?_, fun b hb => ?_, hN, hu, Nat.le_trans a.mn hc, hs⟩
  · refine (a.f.trans f1 fun b hb y => ?_).trans f2 fun b hb y => ?_
    · have := (a.sH b y).1; omega
    · have := (a.sF b y).1; omega
  · have hl := Flt b y
    exact (a.sF b y).2.2 ((oldH b hl).mp hb)
  · have s := ((sl_rng a.ml).fr f1 fun b _ hb y => hb.1.2.2.2 y).fr f2 fun b _ hb y => hb.1.2.2.1 y
    exact s.mono fun b hb => ⟨hb.1.1, hb.1.2.1, fun y => hb.1.2.2.1 ((oldF b hb.2).mp y), fun y => hb.1.2.2.2 ((oldH b hb.2).mp y)⟩
  · rcases Nat.lt_or_ge b hh.size with hl | hl
    · have := a.sF b ((oldF b hl).mp hb)
      exact ⟨this.1, this.2.1, fun y => this.2.2 ((oldH b hl).mp y)⟩
    · refine ⟨by omega, by omega, fun y => ?_⟩
      have h1' := g1.lt b y
      have := Flt b ((g2.old b h1').mp hb)
      omega
  · rcases Nat.lt_or_ge b hh.size with hl | hl
    · exact a.sH b ((oldH b hl).mp hb)
    · exact ⟨by omega, by omega⟩
theorem Pl.x1 {h0 hh h1 : Heap} {t d u q ma : Option Addr} {pb n mc c : Nat} {F H : Nat → Prop} {T : TM} {ms : List Int} (a : Pl h0 t d u q pb n hh F H T ms ma mc c) (f1 : Fr H hh h1) : Tx h1 F t d T := a.x.fr f1 fun b hb => (a.sF b hb).2.2
theorem Pl.p1 {h0 hh h1 : Heap} {t d u q ma : Option Addr} {pb n mc c : Nat} {F H : Nat → Prop} {T : TM} {ms : List Int} (a : Pl h0 t d u q pb n hh F H T ms ma mc c) (f1 : Fr H hh h1) : rd h1 pb = (geoN n).v ++ [.pointer d, .pointer q, .pointer t, .pointer u, .slice ma ms.length mc] :=
  (f1.rd a.po.lt fun y => (a.sH _ y).2 rfl).trans a.pr
theorem sim_fresh {n : Nat} {L : Txt} (hL : L.length = 512 * n) : Sim ⟨fresh (chunks L), [], [], false⟩ ⟨L, false, [], false⟩ := by
  have hn : (chunks L).length = n := by rw [chunks_length, hL]; omega
  refine ⟨rfl, ?_, rfl, fun _ k hk => ?_, fun y => (by cases y), fun _ => rfl, fun _ k _ => ?_, fun _ k _ i => ?_, fun p hp => (by cases hp)⟩
  · show L.length = 512 * (chunks L).length
    rw [hn, hL]
  · have hk : k < (chunks L).length := hk
    show (chunks L).getD k [] = _
    rw [List.getD_eq_getElem?_getD, List.getElem?_eq_getElem hk, Option.getD_some, chunks_get]
  · show ((undoAll [] (([] : List (Int × Option Txt)).drop k)).map _).Nodup
    rw [List.drop_nil]; exact List.nodup_nil
  · show aget (undoAll [] (([] : List (Int × Option Txt)).drop k)) i = lget (([] : List (Int × Txt)).take k) i
    rw [List.drop_nil, List.take_nil]; rfl
theorem RxS.many {h : Heap} {H : Nat → Prop} {u q : Option Addr} {T : TM} (x : RxS h H u q T) : T.put.length ≤ T.N := by
  obtain ⟨M, s, _⟩ := x
  rw [← s.many, ← s.N]
  unfold RM.written
  split
  · exact Nat.zero_le _
  · unfold keysTo
    rw [List.length_map]
    have : ((List.range' 98 (M.N - 98)).filter fun i => (lget M.row ((i : Nat) : Int)).isSome).length ≤ (List.range' 98 (M.N - 98)).length := List.length_filter_le ..
    rw [List.length_range'] at this
    omega
theorem written_len (T : TM) : T.written.length = T.put.length := by unfold TM.written; rw [sortZ_length, List.length_map]
/-- a case begins -/
theorem start_spec {m : Int} {fa : Option Addr} {fl fc : Nat} {front : Txt} {h : Heap} {K : Value → Heap → Prop} {n : Nat} (hn : n = 128 + (m % 4096).toNat) (B : StrAt h fa fl front) (hfl : fl ≤ 140737488355328)
    (hK : ∀ t d u q pb h', St h t d u q pb n 0 h' → K (.tuple #[.pointer (some ⟨pb, 0, none⟩), .bool true]) h') : C.bolelaw11_start m fa fl fc h K := by
  have m0 := Int.emod_nonneg m (show (4096 : Int) ≠ 0 by decide)
  have m1 := Int.emod_lt_of_pos m (show (0 : Int) < 4096 by decide)
  have d : Dim n := ⟨by omega, by omega⟩
  have hd := d.data
  have hino : (geoN n).inodes = 98 + (n + 4095) / 4096 := rfl
  have hfB := B.1
  refine bolelaw11_start.ok (In.mod_spec (by decide) (by decide) ⟨_, rfl, ?_⟩)
  have ew : IntKind.wrap .i64 (128 + m % 4096) = ((n : Nat) : Int) := by rw [wrap_i64 (by omega) (by omega)]; omega
  rw [ew]
  refine Of7_spec d fun h3 f3 => ⟨_, _, rfl, NewRow.intro rfl (geo_one n) rfl fun h5 n5 => cn (fun y => absurd rfl y) fun _ => ⟨(n : Int), rda n5.rd rfl, ?_⟩⟩
  have z3 := f3.size
  have z5 := n5.size
  have e1 : IntKind.wrap .i64 (512 * (n : Int)) = ((512 * n : Nat) : Int) := by rw [wrap_i64 (by omega) (by omega)]; omega
  rw [e1, Int.toNat_natCast]
  refine ⟨⟨by omega, by omega, by omega, by omega⟩, New.intro fun h6 n6 => ?_⟩
  have z6 := n6.size
  have g6 : rd h6 h3.size = (geoN n).v := (n6.at_ (by omega)).trans n5.rd
  refine ⟨((geoN n).inodes : Int), rda g6 rfl, ((geoN n).data : Int), rda g6 rfl, ?_⟩
  have e2 : IntKind.wrap .i64 (512 * ((geoN n).inodes : Int)) = ((512 * (geoN n).inodes : Nat) : Int) := by rw [wrap_i64 (by omega) (by omega)]; omega
  have e3 : IntKind.wrap .i64 (512 * ((geoN n).data : Int)) = ((512 * (geoN n).data : Nat) : Int) := by rw [wrap_i64 (by omega) (by omega)]; omega
  rw [e2, e3, Int.toNat_natCast, Int.toNat_natCast, if_neg (by omega)]
  refine ⟨⟨by omega, by omega, by omega⟩, ?_⟩
  show CopyP _ (some (Addr.add ⟨h5.size, 0, none⟩ (512 * (geoN n).inodes))) _ _ _ _
  rw [add_mk]
  have r6 : rd h6 h5.size = (List.replicate (512 * n) (0 : UInt8)).map bv := by rw [n6.rd, List.map_replicate]; exact rep_one _ _
  have F6 : Fr No h h6 := (f3.new n5).new n6
  obtain ⟨w, ew⟩ : ∃ w, w = min (512 * (geoN n).data - 512 * (geoN n).inodes) fl := ⟨_, rfl⟩
  have B6 := StrAt.take (StrAt.fr F6 B fun _ _ y => y) (n := w) (by omega)
  have lw : (front.take w).length = w := by rw [List.length_take]; omega
  refine CopyP.intro (new := (front.take w).map bv) (by rw [List.length_map, lw]; show w = min fl _ * 1; rw [Nat.mul_one, Nat.min_comm]; exact ew) B6.2 (bv_one _) n6.own (by rw [r6, List.length_map, List.length_map, List.length_replicate, lw]; omega) fun h7 d7 => ?_
  have z7 := d7.size
  obtain ⟨L, eL⟩ : ∃ L, L = putU (List.replicate (512 * n) (0 : UInt8)) (512 * (geoN n).inodes) (front.take w) := ⟨_, rfl⟩
  have hL : L.length = 512 * n := by rw [eL, putU_length (by rw [lw, List.length_replicate]; omega), List.length_replicate]
  have B7 : StrAt h7 (some ⟨h5.size, 0, none⟩) (512 * n) L := strAll (by rw [d7.rd, r6, Nat.zero_add, eL]; exact putU_put (by rw [lw, List.length_replicate]; omega)) hL
  have F7 : Fr No h h7 := F6.did d7 fun hl => by omega
  refine openF_spec B7 (Nat.le_refl _) (by omega) (fun y => by exfalso; omega) fun _ _ _ dq h8 D f8 hD A => ⟨_, _, rfl, ?_⟩
  refine Of_spec (StrAt.fr f8 B7 fun _ _ y => y) (by omega) (by omega) (by omega) fun rq h9 E f9 R9 hE => ⟨_, _, rfl, cn (fun y => absurd rfl y) fun _ => cn (fun y => absurd rfl y) fun _ => cf rfl ?_⟩
  unfold bolelaw11_start.k1
  have z8 := f8.size
  have z9 := f9.size
  have gz : ∀ {h' : Heap}, Fr No h9 h' → rd h' h3.size = (geoN n).v := fun f => (f.rd (by omega) fun y => y).trans ((f9.rd (by omega) fun y => y).trans ((f8.rd (by omega) fun y => y).trans ((d7.at_ (by omega) (by omega)).trans g6)))
  refine Tm.Begin_spec (A.no f9) fun tb h10 F f10 g10 x10 => ⟨_, rfl, (geoN n).v, rfl, cellsAll (gz f10), ?_⟩
  have z10 := f10.size
  refine Rx.Begin_spec (R9.no f10) fun H h11 f11 x11 eH => ⟨_, rfl, ⟨rfl, cellsAll (gz (f10.no f11))⟩, rfl, New.intro fun h12 n12 => ?_⟩
  have z11 := f11.size
  have z12 := n12.size
  have Elt : ∀ b, E b → b < h9.size := by obtain ⟨_, _, _, _, _, _, _, _, _, _, l⟩ := R9; exact l
  have Dlt : ∀ b, D b → b < h8.size := fun b => A.lt
  have F12 : Fr No h h12 := ((((F7.no f8).no f9).no f10).no f11).new n12
  have sF : ∀ b, F b → h7.size ≤ b ∧ b < h8.size ∨ h9.size ≤ b ∧ b < h10.size := fun b y => by
    rcases g10.new y with w | w
    · exact .inl ⟨hD b w, Dlt b w⟩
    · exact .inr ⟨w, x10.lt y⟩
  have sH : ∀ b, H b → h8.size ≤ b ∧ b < h9.size ∨ b = h10.size := fun b y => by
    rcases (eH b).mp y with w | w
    · exact .inl ⟨hE b w, Elt b w⟩
    · exact .inr w
  have s7 := F7.size
  have z10l : h10.size < h11.size := x11.lt ((eH _).mpr (.inr rfl))
  refine hK (some ⟨tb, 0, none⟩) (some dq) (some ⟨h10.size, 0, none⟩) (some rq) h11.size h12 ⟨F, H, _, [], none, 0, F12, (x10.no f11).no n12.fr, RxS.no ⟨_, sim_fresh hL, x11⟩ n12.fr, n12.rd, n12.own, by omega, Sl.nil _ _ _, fun b y => ?_, fun b y => ?_, ?_, Nat.zero_le _, Nat.zero_le _, rfl, rfl⟩
  · have := sF b y
    refine ⟨by omega, by omega, fun y2 => ?_⟩
    have := sH b y2
    omega
  · have := sH b y
    exact ⟨by omega, by omega⟩
  · show (chunks L).length = n
    rw [chunks_length, hL]; omega
/-- a byte is poked -/
theorem poke_spec {h0 hh : Heap} {t d u q ma : Option Addr} {pb n mc c : Nat} {F H : Nat → Prop} {T : TM} {ms : List Int} {i at_ : Int} {x : UInt8} {K : Value → Heap → Prop} (a : Pl h0 t d u q pb n hh F H T ms ma mc c) (hn : 128 ≤ n) (hc : c < 1000)
    (hK : ∀ h', St h0 t d u q pb n (c + 1) h' → K (.bool true) h') : C.bolelaw11_play_poke (some ⟨pb, 0, none⟩) i at_ (x.toNat : Int) hh K := by
  refine bolelaw11_play_poke.ok (os ⟨t, rda a.pr rfl, Tm.Read_spec a.x fun a1 l1 c1 h2 f2 e1 s1 => ⟨_, _, _, _, rfl, os ⟨u, rda (a.no f2).pr rfl, Rx.Read_spec (a.no f2).y fun a2 l2 c2 h3 f3 e2 s2 => ⟨_, _, _, _, rfl, cn (fun y => absurd rfl y) fun _ => cn (fun _ => hK h3 ⟨_, _, _, _, _, _, ((a.no f2).no f3).le (Nat.le_succ _)⟩) fun he => ?_⟩⟩⟩⟩)
  have a3 := (a.no f2).no f3
  have hlen : (T.read i).1.length = 512 := a.y.readLen he
  have m0 := Int.emod_nonneg at_ (show (512 : Int) ≠ 0 by decide)
  have m1 := Int.emod_lt_of_pos at_ (show (0 : Int) < 512 by decide)
  refine In.mod_spec (by decide) (by decide) ⟨_, rfl, ⟨m0, by omega⟩, ?_⟩
  generalize at_ % 512 = j at m0 m1
  have s1' := s1.fr f3 fun _ _ _ y => y
  obtain ⟨⟨b1, o1, sp1⟩, e3, _⟩ := s1'.get (by omega)
  subst e3
  have es1 : sp1 = none := s1'.2.1
  subst es1
  obtain ⟨⟨b2, o2, sp2⟩, e4, _⟩ := s2.get (by omega)
  subst e4
  have es2 : sp2 = none := s2.2.1
  subst es2
  have k1 : hh.size ≤ b1 := s1'.2.2.1
  have k2 : h2.size ≤ b2 := s2.2.2.1
  have lb : b1 < h2.size := s1.lt
  have z2 := f2.size
  have z3 := f3.size
  obtain ⟨w1, v1⟩ := s1'.wr
  refine os (Put.add w1 (by omega) fun h5 d5 => ⟨⟨m0, by omega⟩, os ?_⟩)
  have z5 := d5.size
  have s1n : Sl h5 1 (some ⟨b1, o1, none⟩) l1 c1 (put ((T.read i).1.map bv) j.toNat [bv x]) (From hh.size) := s1'.putAt (j := j.toNat) (new := [bv x]) (by rw [List.length_singleton]; omega) d5
  have s2' := s2.fr d5.fr fun b _ y y2 => by have y : h2.size ≤ b := y; have y2 : b = b1 := y2; omega
  obtain ⟨w2, v2⟩ := s2'.wr
  refine Put.add w2 (by omega) fun h6 d6 => ?_
  have z6 := d6.size
  have ep : put ((T.read i).1.map bv) j.toNat [bv x] = (putU (T.read i).1 j.toNat [x]).map bv := putU_put (ys := [x]) (by rw [List.length_singleton]; omega)
  have s2n : Sl h6 1 (some ⟨b2, o2, none⟩) l2 c2 (put ((T.read i).1.map bv) j.toNat [bv x]) (From h2.size) := s2'.putAt (j := j.toNat) (new := [bv x]) (by rw [List.length_singleton]; omega) d6
  have B2 : StrAt h6 (some ⟨b2, o2, none⟩) l2 (putU (T.read i).1 j.toNat [x]) := by rw [ep] at s2n; exact s2n.str
  have B1 : StrAt h6 (some ⟨b1, o1, none⟩) l1 (putU (T.read i).1 j.toNat [x]) := by
    rw [ep] at s1n
    exact StrAt.fr d6.fr s1n.str fun p e y => by
      cases e
      have y : b1 = b2 := y
      omega
  have F6 : Fr No hh h6 := ((f2.no f3).did d5 fun y => by omega).did d6 fun y => by omega
  have a6 := a.no F6
  have un := a.un
  refine os ⟨u, rda a6.pr rfl, Rx.Write_spec a6.y (by rw [a.N]; omega) B2 (by omega) fun h7 H' f7 g7 y7 => ⟨_, rfl, os ⟨t, rda (a6.p1 f7) rfl, Tm.Write_spec (a6.x1 f7) (StrAt.fr f7 B1 fun p e y => ?_) (by omega) (fun p e y => ?_) (by omega) fun h8 F' f8 g8 x8 => ⟨_, rfl, ?_⟩⟩⟩⟩
  · cases e
    have := a.y.lt (b := b1) y
    omega
  · cases e
    have := a.x.lt (b := b1) y
    omega
  · rw [beq_self_eq_true]
    have k := write_kp T i (putU (T.read i).1 j.toNat [x])
    have := k.un
    exact hK h8 ⟨_, _, _, _, _, _, a6.both f7 g7 f8 g8 x8 y7 (k.N.trans a.N) (by omega) (Nat.le_succ c) (by rw [k.disk]; exact a.st)⟩
/-- what is put, and the disk's steps -/
theorem same_spec {h0 hh : Heap} {t d u q : Option Addr} {pb n c : Nat} {K : Value → Heap → Prop} (s : St h0 t d u q pb n c hh) (hn : 128 ≤ n) (hn2 : n ≤ 6000)
    (hK : ∀ h', St h0 t d u q pb n c h' → K (.bool true) h') : C.bolelaw11_play_same (some ⟨pb, 0, none⟩) hh K := by
  obtain ⟨F, H, T, ms, ma, mc, a⟩ := s
  have hN := a.N
  have many := a.y.many
  have wl := written_len T
  refine bolelaw11_play_same.ok (os ⟨t, rda a.pr rfl, Tm.Written_spec a.x (by omega) fun wa l wc h2 f2 el sw => ⟨_, _, _, rfl, os ⟨u, rda (a.no f2).pr rfl, Rx.Written_spec (a.no f2).y (by omega) fun va vc h3 f3 sv => ⟨_, _, _, rfl, cn (fun y => by exfalso; omega) fun _ => ?_⟩⟩⟩⟩)
  have F3 := f2.no f3
  have sw3 := sw.fr f3 fun _ _ _ y => y
  refine ⟨fun i h' => ∃ j : Nat, i = j ∧ j ≤ l ∧ Fr No h3 h', fun i _ => ((l : Int) - i).toNat, ⟨0, rfl, Nat.zero_le _, Fr.refl _ _⟩, ?_⟩
  rintro i h4 ⟨j, rfl, hj, f4⟩
  have a4 := (a.no F3).no f4
  refine cd (fun hl => ?_) fun hl => ?_
  · have hj' : j < T.written.length := by omega
    have get : ∀ {h' : Heap}, Fr No h4 h' → (∃ p, wa = some p ∧ cellOf h' (p.add j) = some (.int .i64 T.written[j])) ∧ ∃ p, va = some p ∧ cellOf h' (p.add j) = some (.int .i64 T.written[j]) := fun f => by
      obtain ⟨p, ep, cp⟩ := ((sw3.fr f4 fun _ _ _ y => y).fr f fun _ _ _ y => y).get (by omega)
      obtain ⟨p2, ep2, cp2⟩ := ((sv.fr f4 fun _ _ _ y => y).fr f fun _ _ _ y => y).get (by omega)
      have ec : (T.written.map (Value.int .i64))[j]? = some (.int .i64 T.written[j]) := by rw [List.getElem?_map, List.getElem?_eq_getElem hj']; rfl
      exact ⟨⟨p, ep, Cells.cell cp ec⟩, p2, ep2, Cells.cell cp2 ec⟩
    have jn : ((j : Int)).toNat = j := Int.toNat_natCast j
    have bj : (0 : Int) ≤ j ∧ (j : Int) < (l : Int) := ⟨by omega, hl⟩
    have bj2 : (0 : Int) ≤ j ∧ (j : Int) < (T.written.length : Int) := ⟨by omega, by omega⟩
    rw [jn]
    obtain ⟨⟨p, ep, cp⟩, _⟩ := get (Fr.refl No h4)
    refine os ⟨t, rda a4.pr rfl, bj, oe ep ⟨_, cp, Tm.Read_spec a4.x fun a1 l1 c1 h5 f5 e1 s1 => ⟨_, _, _, _, rfl, os ⟨u, rda (a4.no f5).pr rfl, bj2, ?_⟩⟩⟩⟩
    obtain ⟨_, p2, ep2, cp2⟩ := get f5
    refine oe ep2 ⟨_, cp2, Rx.Read_spec (a4.no f5).y fun a2 l2 c2 h6 f6 e2 s2 => ⟨_, _, _, _, rfl, bj, ?_⟩⟩
    obtain ⟨⟨p3, ep3, cp3⟩, p4, ep4, cp4⟩ := get (f5.no f6)
    refine oe ep3 ⟨_, cp3, bj2, oe ep4 ⟨_, cp4, cn (fun y => absurd rfl y) fun _ => cn (fun y => absurd rfl y) fun _ => ⟨_, StrAt.fr f6 s1.str (fun _ _ y => y), _, s2.str, cnot (ct ?_ ?_)⟩⟩⟩
    · rw [In.str_eq]; exact decide_eq_true rfl
    · rw [wrap_i64 (by omega) (by omega)]
      exact ⟨⟨j + 1, by omega, by omega, (f4.no f5).no f6⟩, by show ((l : Int) - ((j : Int) + 1)).toNat < ((l : Int) - (j : Int)).toNat; omega⟩
  · obtain ⟨D, dk, _⟩ := a4.x.dk
    refine os ⟨d, rda a4.pr rfl, DiskF.steps dk ⟨_, _, rfl, ?_⟩⟩
    rw [a.st.1, a.st.2]
    exact ct rfl (hK h4 ⟨_, _, _, _, _, _, a4⟩)
end Go.Proofs.YtcdpakjhjmchhaaDoor.Rx
