/-
  TxnReads: the law's function answers true.
-/
import Derived.Test.YtpleolmalbdpnaaDoorTxD
namespace Go.Proofs.YtpleolmalbdpnaaDoor.Txl
open Go Go.Proofs Go.Proofs.YtpleolmalbdpnaaDoor.Wx Go.Proofs.YtpleolmalbdpnaaDoor.Hp Go.Proofs.YtpleolmalbdpnaaDoor.W Go.Proofs.YtpleolmalbdpnaaDoor.Ad Go.Proofs.YtpleolmalbdpnaaDoor.Tm Go.Proofs.YtpleolmalbdpnaaDoor.Spc

theorem lay_two {h8 : Heap} {cs1 cs2 : List Value} {K : Heap → Heap → Prop} (l1 : cs1.length = 118) (l2 : cs2.length = 118) (o1 : ∀ v ∈ cs1, v.oneCell' = true) (o2 : ∀ v ∈ cs2, v.oneCell' = true)
    (hK : ∀ h9 h12 : Heap, h9.size = h8.size + 1 → Fr No h8 h12 → h8.size + 2 ≤ h12.size → rd h12 h8.size = cs1 → rd h12 h9.size = cs2 → K h9 h12) :
    Wx.New z67 67 h8 fun h9 => Wx.New z68 68 h9 fun h10 => PutRow ⟨h8.size, 0, none⟩ cs1 118 h10 fun h11 => PutRow ⟨h9.size, 0, none⟩ cs2 118 h11 fun h12 => K h9 h12 := by
  refine New.intro fun h9 n9 => New.intro fun h10 n10 => ?_
  have z9 := n9.size
  have z10 := n10.size
  have r9 : rd h10 h8.size = z67 := (n10.fr.rd (by omega) fun y => y).trans n9.rd
  have lz1 : (z67 : List Value).length = 118 := by kernel_rfl
  have lz2 : (z68 : List Value).length = 118 := by kernel_rfl
  refine PutRow.intro (n10.fr.own (by omega) (fun y => y) n9.own) l1 o1 (by rw [r9, lz1]; exact Nat.le_refl _) fun h11 d11 => ?_
  have z11 := d11.size
  rw [put_all _ _ (by rw [r9, l1, lz1])] at d11
  have r10 : rd h11 h9.size = z68 := (d11.at_ (by omega) (by omega)).trans n10.rd
  refine PutRow.intro (d11.ow n10.own) l2 o2 (by rw [r10, lz2]; exact Nat.le_refl _) fun h12 d12 => ?_
  have z12 := d12.size
  rw [put_all _ _ (by rw [r10, l2, lz2])] at d12
  have f : Fr No h8 h12 := ((n9.fr.new n10).did d11 fun hb => by omega).did d12 fun hb => by omega
  exact hK h9 h12 z9 f (by omega) ((d12.at_ (by omega) (by omega)).trans d11.rd) d12.rd
theorem fillN_len (ps : List Pt) : (fillN (now0 118) ps).length = 118 := by unfold fillN; rw [foldN_len]; unfold now0; rw [List.length_map, List.length_range]
theorem fillI_len (ps : List Pt) : (fillI (List.replicate 118 false) ps).length = 118 := by unfold fillI; rw [foldI_len, List.length_replicate]
theorem row_getU {h : Heap} {b k : Nat} {l : List UInt8} (r : rd h b = l.map bv) (hk : k < l.length) : cellOf h (Addr.add ⟨b, 0, none⟩ k) = some (.int .u8 ((l.getD k 0).toNat : Int)) := by
  refine rda r ?_
  rw [Nat.zero_add, List.getElem?_map, List.getElem?_eq_getElem hk, List.getD_eq_getElem?_getD, List.getElem?_eq_getElem hk]; rfl
theorem row_getB {h : Heap} {b k : Nat} {l : List Bool} (r : rd h b = l.map .bool) (hk : k < l.length) : cellOf h (Addr.add ⟨b, 0, none⟩ k) = some (.bool (l.getD k false)) := by
  refine rda r ?_
  rw [Nat.zero_add, List.getElem?_map, List.getElem?_eq_getElem hk, List.getD_eq_getElem?_getD, List.getElem?_eq_getElem hk]; rfl
/-- a transaction begins on the fresh disk of n blocks -/
theorem begin_spec {h0 h : Heap} {D : Nat → Prop} {q : Addr} {n : Nat} {K : Value → Heap → Prop} (f : Fr No h0 h) (hD : ∀ b, D b → h0.size ≤ b) (A : DiskF h D (some q) (fresh (freshL n))) (hK : ∀ tb h' F, Tz h0 h' F (some ⟨tb, 0, none⟩) (some q) (begun n) → K (.pointer (some ⟨tb, 0, none⟩)) h') : C.txn_Begin (some q) h K :=
  Begin_spec A fun tb h3 F f3 g3 x3 => hK tb h3 F ⟨f.no f3, x3, fun b y => by
    have z2 := f.size
    rcases g3.new y with w | w
    · exact hD b w
    · omega⟩
theorem TxnReads_spec {h : Heap} {a : Option Addr} {c : Nat} {ps : List Pt} {K : Value → Heap → Prop} (G : Re.Glo h) (P : SlCells h a (ps.flatMap ptV)) (hK : ∀ h', Fr No h h' → K (.bool true) h') : C.bolelaw06_TxnReads a ps.length c h K := by
  refine bolelaw06_TxnReads.ok (fresh_spec (N := 118) (by decide) (by decide) fun q h2 D f2 hD A => ⟨_, rfl, cf rfl ?_⟩)
  refine known_spec (G.no f2) fun h3 f3 => ⟨_, rfl, cf rfl ?_⟩
  unfold bolelaw06_TxnReads.k1
  refine begin_spec (f2.no f3) hD (A.no f3) fun tb h5 F Z5 => ⟨_, rfl, cf rfl ?_⟩
  refine Over_spec Z5.x ⟨_, rfl, cf rfl ?_⟩
  unfold bolelaw06_TxnReads.k2
  refine Fill_spec Z5.x Kx.start (Z5.cells P) (by decide) fun h8 F8 f8 g8 x8 => ⟨_, _, _, rfl, ?_⟩
  have Z8 := Z5.call f8 g8 x8
  have KF := Kx.start.fill ps
  generalize hnw : fillN (now0 118) ps = nw at KF ⊢
  generalize hiz : fillI (List.replicate 118 false) ps = iz at KF ⊢
  have ln : nw.length = 118 := KF.nl
  have li : iz.length = 118 := KF.il
  have edk : (fillT (begun 118) ps).disk = (begun 118).disk := fill_disk _ _
  generalize fillT (begun 118) ps = T at KF Z8 edk x8
  refine lay_two (K := fun h9 h12 => _) (by rw [List.length_map, ln]) (by rw [List.length_map, li]) (bv_one _) (bool_one _) fun h9 h12 z9 f12 z12 r1 r2 => cf rfl ?_
  have Z12 := Z8.no f12
  refine ⟨fun la ll lc i hh => ∃ k : Nat, i = k ∧ 98 ≤ k ∧ k ≤ 118 ∧ Fr No h12 hh ∧ ll = (lsI iz k).length ∧ Sl hh 1 la ll lc (Hd.ints (lsI iz k)) (From h12.size), fun _ _ _ i _ => (118 - i).toNat,
    ⟨98, rfl, Nat.le_refl _, by decide, Fr.refl _ _, by rw [lsI_98]; rfl, by rw [lsI_98]; exact Sl.nil _ _ _⟩, ?_⟩
  rintro la ll lc i h13 ⟨k, ei, k0, k1, f13, el, s13⟩
  have Z13 := Z12.no f13
  have hN : T.N = 118 := KF.N
  refine cd (fun hlt => ?_) fun hlt => ?_
  · have hk : k < 118 := by omega
    subst ei
    refine tread Z13.x (KF.ok k hk) fun a14 l14 c14 h14 f14 s14 => ⟨_, _, _, _, rfl, ?_⟩
    have Z14 := Z13.no f14
    have er : readAt T.disk (k : Int).toNat = blk1 (UInt8.ofNat k) := by
      rw [edk]
      have := begun_read (n := 118) hk
      rw [TM.read_live rfl, begun_N, if_neg (by omega), TM.get_none rfl, if_neg (by intro y; cases y)] at this
      have := congrArg Prod.fst this
      have e : readAt (begun 118).disk (k : Int).toNat = blk1 (byteI k) := this
      rw [e]
      unfold byteI
      rw [if_neg (by omega)]
    refine dread Z14.x (by rw [edk]; rfl) (by omega) (by rw [hN]; omega) er fun a15 l15 c15 h15 f15 s15 => ⟨_, _, _, _, rfl, ?_⟩
    have Z15 := Z14.no f15
    refine cn (fun y => absurd rfl y) fun _ => cn (fun y => absurd rfl y) fun _ => ?_
    have s14' := StrAt.fr f15 s14 fun _ _ y => y
    have f1215 : Fr No h12 h15 := (f13.no f14).no f15
    have r1' : rd h15 h8.size = nw.map bv := (f1215.rd (by omega) fun y => y).trans r1
    have et : Int.toNat (k : Int) = k := rfl
    rw [et]
    refine ⟨_, s14', ⟨by omega, by omega⟩, _, row_getU r1' (by omega), ?_⟩
    refine bl_spec fun b16 h16 f16 hb16 s16 => ⟨_, _, _, rfl, blk_eq (StrAt.fr f16 s14' fun _ _ y => y) s16.str (KF.data k k0 hk) ?_⟩
    have s15' := StrAt.fr f16 s15 fun _ _ y => y
    refine ⟨_, s15', ?_⟩
    rw [u8_of (by omega)]
    refine bl_spec fun b17 h17 f17 hb17 s17 => ⟨_, _, _, rfl, blk_eq (StrAt.fr f17 s15' fun _ _ y => y) s17.str rfl ?_⟩
    unfold bolelaw06_TxnReads.k3
    have f1217 : Fr No h12 h17 := (f1215.no f16).no f17
    have r2' : rd h17 h9.size = iz.map .bool := (f1217.rd (by omega) fun y => y).trans r2
    have s17' : Sl h17 1 la ll lc (Hd.ints (lsI iz k)) (From h12.size) := s13.fr (((f14.no f15).no f16).no f17) fun _ _ _ y => y
    have lk : (lsI iz k).length < 1000000 := by
      have : (lsI iz k).length ≤ k := by
        unfold lsI
        rw [List.length_map]
        exact Nat.le_trans (List.length_filter_le _ _) (by rw [List.length_range]; exact Nat.le_refl _)
      omega
    rw [et]
    refine ⟨⟨by omega, by omega⟩, _, row_getB r2' (by omega), ?_⟩
    have es := lsI_succ iz k
    have z1217 := f1217.size
    refine cs (fun hb => ?_) fun hb => ?_
    · rw [if_pos ⟨k0, hb⟩] at es
      refine New.intro fun h19 n19 => ?_
      have z19 := n19.size
      refine ⟨[.int .i64 (k : Int)], rfl, cellsAll n19.rd, fun v hv => by rw [List.mem_singleton.mp hv]; rfl, ?_⟩
      have s19 : Sl h19 1 la ll lc (Hd.ints (lsI iz k)) (From h12.size) := s17'.fr n19.fr fun _ _ _ y => y
      refine append_own (elem := ti3) s19 rfl rfl (by show (ll + 1) * 8 ≤ _; omega) (by omega) fun a' c' h20 f20 s20 => ?_
      rw [wrap_i64 (by omega) (by omega)]
      refine ⟨⟨k + 1, by omega, by omega, by omega, (f1217.new n19).trans f20 fun b hb y => by have y : h12.size ≤ b := y; omega, by rw [es, List.length_append, el]; rfl, ?_⟩, by show ((118 : Int) - ((k : Int) + 1)).toNat < ((118 : Int) - k).toNat; omega⟩
      rw [es]
      unfold Hd.ints at s20 ⊢
      rw [List.map_append]
      exact s20.mono fun b y => y.elim id fun w => by show h12.size ≤ b; omega
    · rw [if_neg (by rw [hb]; simp), List.append_nil] at es
      rw [wrap_i64 (by omega) (by omega)]
      exact ⟨⟨k + 1, by omega, by omega, by omega, f1217, by rw [es]; exact el, by rw [es]; exact s17'⟩, by show ((118 : Int) - ((k : Int) + 1)).toNat < ((118 : Int) - k).toNat; omega⟩
  have ek : k = 118 := by omega
  subst ek
  subst el
  refine Written_spec Z13.x (by have := KF.room; omega) fun wa wl wc h21 f21 ewl sw => ⟨_, _, _, rfl, ?_⟩
  rw [KF.written] at sw
  have ewl2 : wl = (lsI iz 118).length := by have := sw.1; rw [List.length_map] at this; omega
  subst ewl2
  have Z21 := Z13.no f21
  refine sameInts_spec sw.cells (s13.fr f21 fun _ _ _ y => y).cells (by have := KF.putLen; have := KF.room; omega) ⟨_, rfl, cf rfl ?_⟩
  refine Abort_spec Z21.x fun h23 F23 f23 g23 x23 => ⟨rfl, ?_⟩
  have Z23 := Z21.call f23 g23 x23
  have er : (TM.ended T.disk).read 98 = ([], 61) := rfl
  refine Tm.Read_spec Z23.x fun a24 l24 c24 h24 f24 _ _ => ⟨_, _, _, _, rfl, ?_⟩
  have Z24 := Z23.no f24
  refine dsteps Z24.x ⟨_, _, rfl, Over_spec Z24.x ⟨_, rfl, ct rfl ?_⟩⟩
  rw [er]
  refine ct rfl (Written_spec Z24.x (by show 0 ≤ 1000000; omega) fun a27 l27 c27 h27 f27 e27 _ => ⟨_, _, _, rfl, ?_⟩)
  have e27 : l27 = 0 := e27
  subst e27
  have ew : (TM.ended T.disk).disk.writes = 0 := by show T.disk.writes = 0; rw [edk]; rfl
  have ef : (TM.ended T.disk).disk.flushes = 0 := by show T.disk.flushes = 0; rw [edk]; rfl
  rw [ew, ef]
  exact hK h27 (Z24.f.no f27)
end Go.Proofs.YtpleolmalbdpnaaDoor.Txl
