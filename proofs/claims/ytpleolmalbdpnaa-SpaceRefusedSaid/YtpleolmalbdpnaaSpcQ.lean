/-
  SPACE: the law SpaceRefused, walked.
-/
import Derived.Test.YtpleolmalbdpnaaSpcR
namespace Go.Proofs.Ytpleolmalbdpnaa.Spc
open Go Go.Proofs Go.Proofs.Ytpleolmalbdpnaa.Wx Go.Proofs.Ytpleolmalbdpnaa.Hp Go.Proofs.Ytpleolmalbdpnaa.W Go.Proofs.Ytpleolmalbdpnaa.Ad Go.Proofs.Ytpleolmalbdpnaa.Tm Go.Proofs.Ytpleolmalbdpnaa.Bt Go.Proofs.Ytpleolmalbdpnaa.Rg

/-- Written, its length alone -/
theorem WrittenL {h : Heap} {F : Nat → Prop} {t d : Option Addr} {T : TM} {K : Value → Heap → Prop} (x : Tx h F t d T) (hp : T.put.length ≤ 1000000)
    (hK : ∀ a c h', Fr No h h' → K (.slice a T.put.length c) h') : C.txn_Txn_Written t h K :=
  Written_spec x hp fun a l c h' f hl _ => by subst hl; exact hK a c h' f
theorem take298 {h : Heap} {F : Nat → Prop} {t d : Option Addr} {T0 T : TM} {K : Value → Heap → Prop} (a : T170 T0) (hr : T.read ((98 : Nat) : Int) = T0.read ((98 : Nat) : Int)) (x : Tx h F t d T) (hu : T.undo.length < 1000)
    (hK : ∀ h' F', Fr F h h' → Gw h F h' F' → Tx h' F' t d (takeAt T g298 103).1 → K (.tuple #[.int .i64 (takeAt T g298 103).2.1, .int .i64 (takeAt T g298 103).2.2]) h') : C.space_Take t g298.v h K := by
  have e1 := g298_f.2.1
  have e2 := g298_f.2.2.1
  have e3 := g298_f.2.2.2
  have hok : (T.read ((98 : Nat) : Int)).2 = 0 := by rw [hr]; exact a.r98.1
  refine Take_spec x (geoN_ok (by decide)) (by omega) (by omega) (by omega) (fun k h1 h2 _ he => ?_) (fun hno _ _ => ?_) fun m hm hf hmin _ h' F' f g x' => ?_
  · have : k = 98 := by omega
    subst this
    exact absurd hok he
  · exact absurd ((a.free hr (by omega)).mpr ⟨Nat.le_refl _, by omega⟩) (hno 103 (by omega))
  · have hm : m < 4096 := by omega
    have h1 := (a.free hr hm).mp hf
    have em : m = 103 := by
      rcases Nat.lt_or_ge 103 m with h2 | h2
      · exact absurd ((a.free hr (by omega)).mpr ⟨Nat.le_refl _, by omega⟩) (hmin 103 h2)
      · omega
    subst em
    exact hK h' F' f g x'
theorem free298 {h : Heap} {F : Nat → Prop} {t d : Option Addr} {T0 T : TM} {K : Value → Heap → Prop} (a : T170 T0) (hr : T.read ((98 : Nat) : Int) = T0.read ((98 : Nat) : Int)) (x : Tx h F t d T)
    (hK : ∀ h', Fr No h h' → K (.tuple #[.int .i64 195, .int .i64 0]) h') : C.space_Free t g298.v h K := by
  have e1 := g298_f.2.1
  have e2 := g298_f.2.2.1
  refine Free_spec x (geoN_ok (by decide)) (by omega) (fun k h1 h2 he => ?_) fun h' f => ?_
  · have : k = 98 := by omega
    subst this
    exact absurd (by rw [hr]; exact a.r98.1) he
  · have := hK h' f
    have ec := a.cnt hr
    rw [show 4096 * (g298.inodes - g298.bitmap) = 4096 by rw [e1, e2], ec]
    exact this
def K1 (m k : Int) (n0 a1 : Nat) (t d : Option Addr) (T0 : TM) (h hh : Heap) : Prop :=
  ∃ (kN : Nat) (F : Nat → Prop), k = kN ∧ kN ≤ 96 ∧ m = (if kN ≤ 94 then 0 else 94 : Int) ∧ Gv n0 a1 g298 F t d (wr T0 kN) h hh
theorem ref_k6 {F : Nat → Prop} {t d : Option Addr} {T0 : TM} {h h4 hh : Heap} {most : Nat} {K : Value → Heap → Prop} (a : T170 T0) (hm : most = 95 ∨ most = 96) (w : Gv h.size h4.size g298 F t d (wr T0 most) h hh) (hK : ∀ h', Fr No h h' → K (.bool true) h') : bolelaw09_SpaceRefused.k6 h4 t 94 hh K := by
  have he := wr_ext a.live a.N 94 (most - 94) (by omega)
  rw [show 94 + (most - 94) = most by omega] at he
  have hb := he.back a.live
  have e94 : (((wr T0 94).undo.length : Nat) : Int) = 94 := by rw [(wr_len T0 94).2]; rfl
  rw [e94] at hb
  refine Back_spec (mark := 94) w.x (by have := (wr_len T0 most).2; omega) fun h30 f30 x30 => ⟨_, rfl, ?_⟩
  rw [hb] at x30 ⊢
  have w30 := w.back f30 x30
  have hr : (wr T0 94).read ((98 : Nat) : Int) = T0.read ((98 : Nat) : Int) := wr_read a.live a.put (by omega)
  refine cf rfl ⟨g298.v, rfl, cellsAll w30.r1, take298 a hr w30.x (by have := (wr_len T0 94).2; omega) fun h31 F31 f31 g31 x31 => ⟨_, _, rfl, ?_⟩⟩
  obtain ⟨t1, t2⟩ := take_room a hr a.live a.N (wr_none (.inl (by omega))) (wr_none (.inl (by omega))) (by have := (wr_len T0 94).1; omega)
  rw [t1]
  have w31 := w30.call f31 g31 x31
  have hl : (takeAt (wr T0 94) g298 103).1.put.length = 96 := by rw [t2, (wr_len T0 94).1]
  refine ct rfl ⟨_, rda w31.r1 rfl, ct (by rw [show ((g298.data : Nat) : Int) = ((103 : Nat) : Int) by rw [g298_f.2.2.2]]; exact beq_self_eq_true _) (WrittenL w31.x (by omega) fun a' c h32 f32 => ⟨_, _, _, rfl, ?_⟩)⟩
  rw [hl]
  have fr : Fr No h h32 := (w31.f.no f32).mono fun b hb y => by have y : h.size ≤ b := y; omega
  exact hK h32 fr
theorem ref_k5 {F : Nat → Prop} {give1 : Int} {t d : Option Addr} {T0 : TM} {h h4 hh : Heap} {most : Nat} {K : Value → Heap → Prop} (a : T170 T0) (hm : most = 95 ∨ most = 96) (w : Gv h.size h4.size g298 F t d (wr T0 most) h hh) (hK : ∀ h', Fr No h h' → K (.bool true) h') : bolelaw09_SpaceRefused.k5 give1 h4 t 94 hh K := by
  have hr : (wr T0 most).read ((98 : Nat) : Int) = T0.read ((98 : Nat) : Int) := wr_read a.live a.put (by omega)
  have hu := (wr_len T0 most).2
  have ok : g298.ok := geoN_ok (by decide)
  have e4 : ((g298.data : Nat) : Int) = 103 := by rw [g298_f.2.2.2]; rfl
  have e5 : ((g298.blocks : Nat) : Int) = 298 := by rw [g298_f.1]; rfl
  refine ⟨g298.v, rfl, cellsAll w.r1, _, rda w.r1 rfl, ?_⟩
  rw [e4]
  refine Give_spec w.x ok (by omega) fun h25 F25 f25 g25 x25 => ⟨_, rfl, ?_⟩
  rw [give_free a hr (.inr (.inr rfl))] at x25 ⊢
  have w25 : Gv h.size h4.size g298 F25 t d (wr T0 most) h h25 := w.call f25 g25 x25
  refine cf rfl ⟨g298.v, rfl, cellsAll w25.r1, _, rda w25.r1 rfl, ?_⟩
  rw [e4]
  refine Give_spec w25.x ok (by omega) fun h26 F26 f26 g26 x26 => ⟨_, rfl, ?_⟩
  rw [wrap_i64 (n := 103 - 1) (by omega) (by omega), give_free a hr (.inl (by omega))] at x26
  rw [wrap_i64 (n := 103 - 1) (by omega) (by omega), give_free a hr (.inl (by omega))]
  have w26 : Gv h.size h4.size g298 F26 t d (wr T0 most) h h26 := w25.call f26 g26 x26
  have hmd := modI_range (v := give1) (n := 1000) (by decide)
  refine cf rfl ⟨g298.v, rfl, cellsAll w26.r1, _, rda w26.r1 rfl, mod_spec (by decide) (by decide) ⟨_, rfl, ⟨rfl, cellsAll w26.r1⟩, rda w26.r1 rfl, ?_⟩⟩
  rw [e5, wrap_i64 (n := 298 + modI give1 1000) (by omega) (by omega)]
  refine Give_spec w26.x ok (by omega) fun h28 F28 f28 g28 x28 => ⟨_, rfl, ?_⟩
  rw [give_free a hr (.inr (.inl (by omega)))] at x28 ⊢
  exact cf rfl (ref_k6 a hm (w26.call f28 g28 x28) hK)
theorem ref_k3 {F : Nat → Prop} {give1 : Int} {t d : Option Addr} {T0 : TM} {h h4 hh : Heap} {most : Nat} {K : Value → Heap → Prop} (a : T170 T0) (hm : most = 95 ∨ most = 96) (w : Gv h.size h4.size g298 F t d T0 h hh) (hK : ∀ h', Fr No h h' → K (.bool true) h') : bolelaw09_SpaceRefused.k3 give1 h4 t hh (most : Int) K := by
  have e4 : ((g298.data : Nat) : Int) = 103 := by rw [g298_f.2.2.2]; rfl
  have e5 : ((g298.blocks : Nat) : Int) = 298 := by rw [g298_f.1]; rfl
  have e6 : ((g298.bitmap : Nat) : Int) = ((98 : Nat) : Int) := by rw [g298_f.2.1]
  refine ⟨fun m k hh => K1 m k h.size h4.size t d T0 h hh ∧ k ≤ most, fun _ k _ => ((most : Int) - k).toNat, ⟨⟨0, F, rfl, by omega, rfl, by rw [wr_zero a.put a.undo]; exact w⟩, by omega⟩, ?_⟩
  rintro m k h13 ⟨⟨kN, F, ek, k96, em, w⟩, hle⟩
  have hr : (wr T0 kN).read ((98 : Nat) : Int) = T0.read ((98 : Nat) : Int) := wr_read a.live a.put (by omega)
  have hl := (wr_len T0 kN).1
  have hu := (wr_len T0 kN).2
  refine cd (fun hk => ?_) fun hk => ?_
  · have hk : kN < 96 := by omega
    have go : ∀ m2 : Int, m2 = (if kN + 1 ≤ 94 then 0 else 94 : Int) → bolelaw09_SpaceRefused.k4 h4 t m k h13 (fun m k hh => K1 m k h.size h4.size t d T0 h hh ∧ k ≤ most) (fun _ k _ => ((most : Int) - k).toNat) m2 h13 K := by
      intro m2 hm2
      refine ⟨_, rda w.r1 rfl, ?_⟩
      have ew : IntKind.wrap .u8 k = (((UInt8.ofNat kN).toNat : Nat) : Int) := by
        rw [wrap_u8 (by omega) (by omega), UInt8.toNat_ofNat_of_lt' (show kN < 256 by omega)]; exact ek
      rw [ew]
      refine bl_spec fun b h16 f16 hb sb => ⟨_, _, _, rfl, ?_⟩
      have w16 := w.no f16
      refine ⟨rda w16.r1 rfl, ?_⟩
      rw [e4, wrap_i64 (n := (103 : Int) + 1) (by omega) (by omega), wrap_i64 (n := (103 : Int) + 1 + k) (by omega) (by omega), show (103 : Int) + 1 + k = ((104 + kN : Nat) : Int) by omega]
      refine Write_spec w16.x sb.str (by decide) (fun p ep y => ?_) (by omega) fun h17 F17 f17 g17 x17 => ⟨_, rfl, ?_⟩
      · cases ep
        have := w.x.lt y
        have y : F b := y
        have := w.x.lt y
        omega
      rw [wr_step a.live a.N hk] at x17 ⊢
      rw [wrap_i64 (n := k + 1) (by omega) (by omega)]
      exact cf rfl ⟨⟨⟨kN + 1, F17, by omega, by omega, hm2, w16.call f17 g17 x17⟩, by omega⟩, by show ((most : Int) - (k + 1)).toNat < ((most : Int) - k).toNat; omega⟩
    refine ce (fun h94 => Mark_spec w.x ⟨_, _, rfl, ?_⟩) fun h94 => ?_
    · have e94 : (wr T0 kN).mark = (94, 0) := by
        unfold TM.mark
        rw [if_neg (by show ¬ T0.over = true; rw [a.live]; simp), hu]
        have : kN = 94 := by omega
        rw [this]; rfl
      rw [e94]
      refine go 94 ?_
      rw [if_neg (by omega)]
    · refine go m ?_
      rw [em]
      by_cases h1 : kN ≤ 94
      · rw [if_pos h1, if_pos (by omega)]
      · rw [if_neg h1, if_neg (by omega)]
  · have hk : kN = most := by omega
    subst hk
    have em : m = 94 := by rw [em, if_neg (by omega)]
    subst em
    refine ⟨_, rda w.r1 rfl, ?_⟩
    rw [e6]
    refine Read_spec w.x fun a1 l1 c1 h18 f18 hl1 s1 => ⟨_, _, _, _, rfl, ?_⟩
    have w18 := w.no f18
    refine ⟨g298.v, rfl, cellsAll w18.r1, free298 a hr w18.x fun h19 f19 => ⟨_, _, rfl, ?_⟩⟩
    have w19 := w18.no f19
    refine ⟨g298.v, rfl, cellsAll w19.r1, take298 a hr w19.x (by omega) fun h20 F20 f20 g20 x20 => ⟨_, _, rfl, ?_⟩⟩
    rw [take_full a hr a.live a.N (wr_none (.inl (by omega))) (wr_none (.inl (by omega))) (by omega)] at x20 ⊢
    have w20 : Gv h.size h4.size g298 F20 t d (wr T0 kN) h h20 := w19.call f20 g20 x20
    refine ⟨_, rda w20.r1 rfl, ?_⟩
    rw [e6]
    refine Read_spec w20.x fun a2 l2 c2 h21 f21 hl2 s2 => ⟨_, _, _, _, rfl, ?_⟩
    have w21 := w20.no f21
    refine ⟨g298.v, rfl, cellsAll w21.r1, free298 a hr w21.x fun h22 f22 => ⟨_, _, rfl, ?_⟩⟩
    have w22 := w21.no f22
    refine cf rfl (WrittenL w22.x (by omega) fun a3 c3 h23 f23 => ⟨_, _, _, rfl, ?_⟩)
    have w23 := w22.no f23
    rw [hl]
    refine cf (by simp) ⟨_, (StrAt.fr (f22.no f23) s2.str fun _ _ x => x), ((wr T0 kN).read ((98 : Nat) : Int)).1, ?_, cf ?_ (cf rfl (cf rfl ⟨_, rda w23.r1 rfl, _, rda w23.r1 rfl, ?_⟩))⟩
    · refine StrAt.fr (((f20.no f21).no f22).no f23) (StrAt.fr f19 s1.str fun _ _ x => x) fun p ep y => ?_
      subst ep
      have h1 : h13.size ≤ p.block := s1.2.2.1
      have h2 := w.x.lt y
      omega
    · rw [beq_self_eq_true]; rfl
    · rw [e4, e5]
      exact cf rfl (ref_k5 a hm w23 hK)
theorem SpaceRefused_spec {less : Bool} {give1 : Int} {h : Heap} {K : Value → Heap → Prop} (hK : ∀ h', Fr No h h' → K (.bool true) h') : C.bolelaw09_SpaceRefused less give1 h K := by
  refine bolelaw09_SpaceRefused.ok (NewRow.intro (cs := caseV 170 none 0 0 0 none 0 0) rfl (fun w hw => ?_) rfl fun h3 n3 => ?_)
  · simp only [caseV, List.mem_cons, List.not_mem_nil, or_false] at hw
    rcases hw with rfl | rfl | rfl | rfl <;> rfl
  have z3 := n3.size
  refine ⟨caseV 170 none 0 0 0 none 0 0, rfl, cellsAll n3.rd, opened_spec (StrAt.nil _ _) (fun p e => by cases e) (by decide) (by rw [blkN170, on170]; rfl) fun F tb d T h4 f4 hF x4 O => ⟨_, _, rfl, ?_⟩⟩
  rw [blkN170] at O ⊢
  have e1 := g298_f.2.1
  have e2 := g298_f.2.2.1
  have e3 := g298_f.2.2.2
  have ei : (geoN 298).inodes = 99 := e2
  have a : T170 T := by
    refine ⟨O.put, O.undo, O.live, O.N, ⟨O.ok 98 (by omega), Tx.readLen x4 (O.ok 98 (by omega))⟩, fun j hj => ?_⟩
    have hb := O.bits j (by rw [ei]; omega)
    have ea : (geoN 298).at_ j = ((98 : Nat) : Int) := at298 hj
    rw [ea, on170, Nat.mod_eq_of_lt hj] at hb
    exact hb
  have z4 := f4.size
  refine NewRow.intro rfl (G.one _) rfl fun h6 n6 => cf rfl ?_
  have z6 := n6.size
  have w : Gv h.size h4.size g298 F (some ⟨tb, 0, none⟩) d T h h6 := by
    refine ⟨x4.no n6.fr, fun b hb => ?_, n6.rd, ((n3.fr.no f4).new n6).mono fun _ _ y => y.elim, by omega⟩
    have h1 := hF b hb
    have h2 := x4.lt hb
    omega
  refine ⟨g298.v, rfl, cellsAll w.r1, take298 a rfl w.x (by rw [a.undo]; decide) fun h7 F7 f7 g7 x7 => ⟨_, _, rfl, ?_⟩⟩
  obtain ⟨t1, t2⟩ := take_room a rfl a.live a.N (by rw [a.put]; rfl) (by rw [a.put]; rfl) (by rw [a.put]; decide)
  rw [t1]
  have w7 := w.call f7 g7 x7
  have hl : (takeAt T g298 103).1.put.length = 2 := by rw [t2, a.put]; rfl
  have e4 : ((g298.data : Nat) : Int) = ((103 : Nat) : Int) := by rw [g298_f.2.2.2]
  refine cf rfl ⟨_, rda w7.r1 rfl, ?_⟩
  rw [e4]
  refine cn (fun hne => absurd rfl hne) fun _ => WrittenL w7.x (by omega) fun a1 c1 h8 f8 => ⟨_, _, _, rfl, ?_⟩
  rw [hl]
  refine cf rfl ?_
  have w8 := w7.no f8
  have hx := takeAt_ext (Ext.refl T) g298 103
  have hb := hx.back a.live
  rw [a.undo] at hb
  have hb : (takeAt T g298 103).1.back 0 = (T, 0) := hb
  have hu : (takeAt T g298 103).1.undo.length < 1000000000 := by
    have h1 := takeAt_undo T g298 103
    have h2 : T.undo.length = 0 := by rw [a.undo]; rfl
    omega
  refine Back_spec (mark := 0) w8.x hu fun h10 f10 x10 => ⟨_, rfl, ?_⟩
  rw [hb] at x10 ⊢
  have w10 := w8.back f10 x10
  refine cf rfl (WrittenL w10.x (by rw [a.put]; decide) fun a2 c2 h11 f11 => ⟨_, _, _, rfl, ?_⟩)
  rw [a.put]
  refine cf rfl ?_
  have w11 := w10.no f11
  unfold bolelaw09_SpaceRefused.k2
  cases less with
  | true => exact ct rfl (ref_k3 (most := 95) a (.inl rfl) w11 hK)
  | false => exact cf rfl (ref_k3 (most := 96) a (.inr rfl) w11 hK)
end Go.Proofs.Ytpleolmalbdpnaa.Spc
