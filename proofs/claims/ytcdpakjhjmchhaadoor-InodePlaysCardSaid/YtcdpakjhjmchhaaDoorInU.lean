/-
  InodeTable: the law's function answers true.
-/
import Derived.Test.YtcdpakjhjmchhaaDoorInP
import Derived.Test.YtcdpakjhjmchhaaDoorWtA
namespace Go.Proofs.YtcdpakjhjmchhaaDoor.Ino
open Go Go.Proofs Go.Proofs.YtcdpakjhjmchhaaDoor.Wx Go.Proofs.YtcdpakjhjmchhaaDoor.Hp Go.Proofs.YtcdpakjhjmchhaaDoor.W Go.Proofs.YtcdpakjhjmchhaaDoor.Ad Go.Proofs.YtcdpakjhjmchhaaDoor.Tm Go.Proofs.YtcdpakjhjmchhaaDoor.Bt Go.Proofs.YtcdpakjhjmchhaaDoor.Spc Go.Proofs.YtcdpakjhjmchhaaDoor.Re Go.Proofs.YtcdpakjhjmchhaaDoor.Av
open Go.Proofs.YtcdpakjhjmchhaaDoor.Hd (ints)
open Go.Proofs.YtcdpakjhjmchhaaDoor.In (z15 mayR encR decA ints_one ints_length ints_eq pairs15 cell15 Glo getR_length encR_length z15_row plainL decA_enc kindOk)

/-- a transaction begun on a disk of an image -/
theorem Av.fresh {n : Nat} {L : Txt} (hL : L.length = 512 * n) : Av n (fun k => (L.drop (k * 512)).take 512) ⟨Ad.fresh (chunks L), [], [], false⟩ := by
  have hn : (chunks L).length = n := by rw [chunks_length, hL]; omega
  refine ⟨rfl, hn, fun k hk => ?_, fun k hk => by rw [List.length_take, List.length_drop, hL]; omega, List.nodup_nil, fun x hx => (by cases hx)⟩
  have hN : TM.N ⟨Ad.fresh (chunks L), [], [], false⟩ = n := hn
  rw [TM.read_live rfl, hN, if_neg (by omega), TM.get_none rfl, if_neg (by intro y; cases y)]
  have : readAt (Ad.fresh (chunks L)) ((k : Nat) : Int).toNat = (L.drop (k * 512)).take 512 := by
    show (chunks L).getD k [] = _
    rw [List.getD_eq_getElem?_getD, List.getElem?_eq_getElem (by omega), Option.getD_some, chunks_get]
  rw [this]
theorem copied_spec {a : Option Addr} {l c : Nat} {bs : List UInt8} {h : Heap} {K : Value → Heap → Prop} (B : StrAt h a l bs) (hl : l ≤ 140737488355328)
    (hK : ∀ a' c' h', Fr No h h' → Sl h' 1 a' l c' (bs.map bv) (From h.size) → K (.slice a' l c') h') : C.boleref03_copied a l c h K := by
  obtain ⟨s1, s2, s3⟩ := StrAt.src B
  refine boleref03_copied.ok ⟨_, s1, s2, s3, append_nil s1 rfl (by show l * 1 ≤ _; omega) hl hK⟩
theorem Of0_spec {a : Option Addr} {l c : Nat} {bs : List UInt8} {h : Heap} {K : Value → Heap → Prop} (B : StrAt h a l bs) (h0 : 0 < l) (hm : l % 512 = 0) (hl : l ≤ 8388608)
    (hK : ∀ q h', Fr No h h' → K (.tuple #[.pointer (some q), .int .i64 0]) h') : C.boleref03_Of a l c h K := by
  have hbl := B.1
  have hd : Int.tdiv (l : Int) 512 = ((l / 512 : Nat) : Int) := by rw [Int.tdiv_eq_ediv_of_nonneg (by omega)]; omega
  have hmd : Int.tmod (l : Int) 512 = ((l % 512 : Nat) : Int) := by rw [Int.tmod_eq_emod_of_nonneg (by omega)]; omega
  have hw : IntKind.wrap .i64 (Int.tdiv (l : Int) 512) = ((l / 512 : Nat) : Int) := by rw [hd]; exact wrap_i64 (by omega) (by omega)
  refine boleref03_Of.ok (ce (fun y => by exfalso; omega) fun _ => cn (fun y => by exfalso; omega) fun _ => ?_)
  rw [hw]
  refine cd (fun z => by exfalso; omega) fun _ => copied_spec B (by omega) fun a' c' h3 f3 s3 => ⟨_, _, _, rfl, New.intro fun h4 n4 => hK _ h4 (f3.new n4)⟩
theorem zeros_chunk (n k : Nat) (hk : k < n) : ((List.replicate (512 * n) (0 : UInt8)).drop (k * 512)).take 512 = zeros := by
  rw [List.drop_replicate, List.take_replicate, Nat.min_eq_left (by omega)]; rfl
theorem start_spec {m : Int} {h : Heap} {K : Value → Heap → Prop} {n : Nat} (hn : n = 128 + (m % 4096).toNat)
    (hK : ∀ pb h' F r t u d, Fr No h h' → rd h' pb = (geoN n).v ++ [.pointer d, .pointer r, .pointer t, .pointer u, .slice none 0 0] → (∀ b, F b → h.size ≤ b ∧ b ≠ pb) → Tx h' F t d ⟨fresh (chunks (List.replicate (512 * n) 0)), [], [], false⟩ →
      K (.tuple #[.pointer (some ⟨pb, 0, none⟩), .bool true]) h') : C.bolelaw11_start m none 0 0 h K := by
  have m0 := Int.emod_nonneg m (show (4096 : Int) ≠ 0 by decide)
  have m1 := Int.emod_lt_of_pos m (show (0 : Int) < 4096 by decide)
  have d : Dim n := ⟨by omega, by omega⟩
  have hd := d.data
  have hino : (geoN n).inodes = 98 + (n + 4095) / 4096 := rfl
  refine bolelaw11_start.ok (In.mod_spec (by decide) (by decide) ⟨_, rfl, ?_⟩)
  have ew : IntKind.wrap .i64 (128 + m % 4096) = ((n : Nat) : Int) := by rw [wrap_i64 (by omega) (by omega)]; omega
  rw [ew]
  refine Of7_spec d fun h3 f3 => ⟨_, _, rfl, NewRow.intro rfl (geo_one n) rfl fun h5 n5 => cn (fun y => absurd rfl y) fun _ => ⟨(n : Int), rda n5.rd rfl, ?_⟩⟩
  have z3 := f3.size
  have z5 := n5.size
  have e1 : IntKind.wrap .i64 (512 * (n : Int)) = ((512 * n : Nat) : Int) := by rw [wrap_i64 (by omega) (by omega)]; omega
  rw [e1, Int.toNat_natCast]
  refine ⟨⟨by omega, by omega, by omega, by omega⟩, New.intro fun h6 n6 => ?_⟩
  have z6 := n6.size
  have g6 : rd h6 h3.size = (geoN n).v := (n6.at_ (by omega)).trans n5.rd
  refine ⟨((geoN n).inodes : Int), rda g6 rfl, ((geoN n).data : Int), rda g6 rfl, ?_⟩
  have e2 : IntKind.wrap .i64 (512 * ((geoN n).inodes : Int)) = ((512 * (geoN n).inodes : Nat) : Int) := by rw [wrap_i64 (by omega) (by omega)]; omega
  have e3 : IntKind.wrap .i64 (512 * ((geoN n).data : Int)) = ((512 * (geoN n).data : Nat) : Int) := by rw [wrap_i64 (by omega) (by omega)]; omega
  rw [e2, e3, Int.toNat_natCast, Int.toNat_natCast, if_neg (by omega)]
  refine ⟨⟨by omega, by omega, by omega⟩, ?_⟩
  show CopyP _ (some (Addr.add ⟨h5.size, 0, none⟩ (512 * (geoN n).inodes))) _ _ _ _
  rw [add_mk]
  have r6 : rd h6 h5.size = (List.replicate (512 * n) (0 : UInt8)).map bv := by rw [n6.rd, List.map_replicate]; exact rep_one _ _
  refine CopyP.intro (new := []) (by rw [Nat.zero_min]; rfl) rfl (fun v hv => (by cases hv)) n6.own (by rw [r6, List.length_map, List.length_replicate, List.length_nil]; omega) fun h7 d7 => ?_
  have z7 := d7.size
  have B7 : StrAt h7 (some ⟨h5.size, 0, none⟩) (512 * n) (List.replicate (512 * n) 0) := strAll (by rw [d7.rd, r6]; rfl) List.length_replicate
  have F5 : Fr No h h5 := f3.new n5
  have F7 : Fr No h h7 := (F5.new n6).did d7 fun hl => by omega
  refine openF_spec B7 (Nat.le_refl _) (by omega) (fun y => by exfalso; omega) fun _ _ _ q h8 D f8 hD A => ⟨_, _, rfl, ?_⟩
  refine Of0_spec (StrAt.fr f8 B7 fun _ _ y => y) (by omega) (by omega) (by omega) fun r h9 f9 => ⟨_, _, rfl, cn (fun y => absurd rfl y) fun _ => cn (fun y => absurd rfl y) fun _ => cf rfl ?_⟩
  unfold bolelaw11_start.k1
  have z8 := f8.size
  have z9 := f9.size
  refine Begin_spec (A.no f9) fun tb h10 F f10 g10 x10 => ⟨_, rfl, (geoN n).v, rfl, ?_, ?_⟩
  · exact cellsAll ((f10.rd (by omega) fun y => y).trans ((f9.rd (by omega) fun y => y).trans ((f8.rd (by omega) fun y => y).trans ((d7.at_ (by omega) (by omega)).trans g6))))
  have z10 := f10.size
  have g10' : rd h10 h3.size = (geoN n).v := (f10.rd (by omega) fun y => y).trans ((f9.rd (by omega) fun y => y).trans ((f8.rd (by omega) fun y => y).trans ((d7.at_ (by omega) (by omega)).trans g6)))
  refine boleref06_Begin.ok (New.intro fun h11 n11 => ⟨_, rfl, ⟨rfl, cellsAll ((n11.at_ (by omega)).trans g10')⟩, rfl, New.intro fun h12 n12 => ?_⟩)
  have z11 := n11.size
  have z12 := n12.size
  have F12 : Fr No h h12 := ((((F7.no f8).no f9).no f10).new n11).new n12
  refine hK h11.size h12 F (some r) (some ⟨tb, 0, none⟩) _ (some q) F12 n12.rd (fun b y => ?_) ((x10.no n11.fr).no n12.fr)
  have := x10.lt y
  rcases g10.new y with w | w
  · have := hD b w
    omega
  · omega
theorem ib_start {n : Nat} (d : Dim n) : Ib n (List.replicate (geoN n).count z15) (fun k => ((List.replicate (512 * n) (0 : UInt8)).drop (k * 512)).take 512) ⟨fresh (chunks (List.replicate (512 * n) 0)), [], [], false⟩ := by
  refine ⟨Av.fresh List.length_replicate, List.length_replicate, fun R hR => by rw [List.eq_of_mem_replicate hR]; exact ⟨rfl, rfl⟩, fun k h1 h2 => ?_, fun x hx => (by cases hx)⟩
  have r := blkZ_rng d h2
  unfold recZ
  simp only
  rw [zeros_chunk n _ r.2.2.1, List.getD_eq_getElem?_getD, List.getElem?_replicate, if_pos h2]
  have : (zeros.drop (64 * (k % 8))).take 64 = List.replicate 64 0 := by
    unfold zeros
    rw [List.drop_replicate, List.take_replicate, Nat.min_eq_left (by omega)]
  rw [this]
  show _ = (z15, (0 : Int))
  decide +kernel
/-! rows of records -/
theorem ints15 {hv : List (List Int)} (h : ∀ R ∈ hv, R.length = 15) : ∀ R ∈ hv, (ints R).length = 15 := fun R hR => by rw [ints_length, h R hR]
theorem flat_take {α : Type} (f : α → List Value) (w : Nat) : ∀ (xs : List α), (∀ x ∈ xs, (f x).length = w) → ∀ k, (xs.flatMap f).take (k * w) = (xs.take k).flatMap f
  | [], _, k => by rw [List.take_nil]; simp
  | x :: r, h, 0 => by rw [Nat.zero_mul, List.take_zero, List.take_zero]; rfl
  | x :: r, h, k + 1 => by
    have hx := h x (List.mem_cons_self ..)
    rw [List.flatMap_cons, List.take_succ_cons, List.flatMap_cons, show (k + 1) * w = (f x).length + k * w by rw [hx, Nat.succ_mul]; omega, List.take_length_add_append, flat_take f w r (fun y hy => h y (List.mem_cons_of_mem _ hy)) k]
theorem flat_drop {α : Type} (f : α → List Value) (w : Nat) : ∀ (xs : List α), (∀ x ∈ xs, (f x).length = w) → ∀ k, (xs.flatMap f).drop (k * w) = (xs.drop k).flatMap f
  | [], _, k => by rw [List.drop_nil]; simp
  | x :: r, h, 0 => by rw [Nat.zero_mul, List.drop_zero, List.drop_zero]
  | x :: r, h, k + 1 => by
    have hx := h x (List.mem_cons_self ..)
    rw [List.flatMap_cons, List.drop_succ_cons, show (k + 1) * w = (f x).length + k * w by rw [hx, Nat.succ_mul]; omega, List.drop_length_add_append, flat_drop f w r (fun y hy => h y (List.mem_cons_of_mem _ hy)) k]
theorem put_flat {hv : List (List Int)} {k : Nat} {R : List Int} (h : ∀ S ∈ hv, S.length = 15) (hk : k < hv.length) (hR : R.length = 15) : put (hv.flatMap ints) (k * 15) (ints R) = (hv.set k R).flatMap ints := by
  have h15 := ints15 h
  have hl := flat_length ints 15 hv h15
  have lR : (ints R).length = 15 := by rw [ints_length, hR]
  rw [put_eq _ _ _ (by rw [lR, hl]; omega), lR, flat_take ints 15 hv h15, show k * 15 + 15 = (k + 1) * 15 by omega, flat_drop ints 15 hv h15, List.set_eq_take_append_cons_drop, if_pos hk, List.flatMap_append, List.flatMap_cons, List.append_assoc]
theorem getD_eq {hv : List (List Int)} {k : Nat} (hk : k < hv.length) : hv.getD k z15 = hv[k] := by rw [List.getD_eq_getElem?_getD, List.getElem?_eq_getElem hk]; rfl
theorem write_undo {T : TM} {i : Int} {bs : Txt} : (T.write i bs).1.undo.length ≤ T.undo.length + 1 := by
  by_cases h : (T.write i bs).2 = 0
  · obtain ⟨_, _, _, _, _, ew⟩ := TM.write_ok h
    rw [ew]
    show (T.undo ++ [_]).length ≤ _
    rw [List.length_append, List.length_singleton]; exact Nat.le_refl _
  · rw [TM.write_bad h]; omega
theorem putM_undo {T : TM} {g : G} {n : Int} {R : List Int} : (putM T g n R).1.undo.length ≤ T.undo.length + 1 := by
  unfold putM
  split
  · exact Nat.le_add_right _ _
  · split
    · exact Nat.le_add_right _ _
    · split
      · exact Nat.le_add_right _ _
      · exact write_undo
/-- what the law keeps: the transaction, the row of what was put -/
structure It (h0 hh : Heap) (F : Nat → Prop) (t d r u : Option Addr) (T : TM) (n : Nat) (hv : List (List Int)) (hb pb : Nat) : Prop where
  f : Fr No h0 hh
  x : Tx hh F t d T
  nf : ∀ b, F b → h0.size ≤ b ∧ b ≠ hb ∧ b ≠ pb
  pr : rd hh pb = (geoN n).v ++ [.pointer d, .pointer r, .pointer t, .pointer u, .slice none 0 0]
  pl : pb < hh.size
  ho : Own hh hb
  hr : rd hh hb = hv.flatMap ints
  h0 : h0.size ≤ hb ∧ hb ≠ pb
  ib : ∃ Z, Ib n hv Z T
theorem It.no {h0 hh hh' : Heap} {F : Nat → Prop} {t d r u : Option Addr} {T : TM} {n : Nat} {hv : List (List Int)} {hb pb : Nat} (a : It h0 hh F t d r u T n hv hb pb) (f : Fr No hh hh') : It h0 hh' F t d r u T n hv hb pb :=
  ⟨a.f.no f, a.x.no f, a.nf, (f.rd a.pl fun y => y).trans a.pr, Nat.lt_of_lt_of_le a.pl f.size, f.own a.ho.lt (fun y => y) a.ho, (f.rd a.ho.lt fun y => y).trans a.hr, a.h0, a.ib⟩
/-- a call that puts: the row says what was there before -/
theorem It.call {h0 hh hh' : Heap} {F F' : Nat → Prop} {t d r u : Option Addr} {T T' : TM} {n : Nat} {hv : List (List Int)} {hb pb : Nat} (a : It h0 hh F t d r u T n hv hb pb) (f : Fr F hh hh') (g : Gw hh F hh' F') (x : Tx hh' F' t d T') :
    Fr No h0 hh' ∧ Tx hh' F' t d T' ∧ (∀ b, F' b → h0.size ≤ b ∧ b ≠ hb ∧ b ≠ pb) ∧ rd hh' pb = (geoN n).v ++ [.pointer d, .pointer r, .pointer t, .pointer u, .slice none 0 0] ∧ pb < hh'.size ∧ Own hh' hb ∧ rd hh' hb = hv.flatMap ints := by
  have n1 : ¬ F hb := fun y => (a.nf _ y).2.1 rfl
  have n2 : ¬ F pb := fun y => (a.nf _ y).2.2 rfl
  have l1 := a.ho.lt
  have l2 := a.pl
  have z := a.f.size
  refine ⟨a.f.trans f fun b hb y => by have := (a.nf b y).1; omega, x, fun b y => ?_, (f.rd a.pl n2).trans a.pr, Nat.lt_of_lt_of_le a.pl f.size, f.own l1 n1 a.ho, (f.rd l1 n1).trans a.hr⟩
  rcases g.new y with w | w
  · exact a.nf b w
  · omega
end Go.Proofs.YtcdpakjhjmchhaaDoor.Ino
