/-
  LAW HeadBursts, the whole.
-/
import Derived.Test.YtnlmieklakolkaaDoorHbA
namespace Go.Proofs.YtnlmieklakolkaaDoor.Cr
open Go Go.Proofs Go.Proofs.YtnlmieklakolkaaDoor.Wx Go.Proofs.YtnlmieklakolkaaDoor.Hp Go.Proofs.YtnlmieklakolkaaDoor.W Go.Proofs.YtnlmieklakolkaaDoor.Su Go.Proofs.YtnlmieklakolkaaDoor.Re Go.Proofs.YtnlmieklakolkaaDoor.Hd

def strI (b : Int) : Int := if b < 96 then 0 else if b < 128 then 1 else 2
theorem stretch_spec {b : Int} {h : Heap} {K : Value → Heap → Prop} (hK : K (.int .i64 (strI b)) h) : C.bolelaw04_stretch b h K := by
  refine bolelaw04_stretch.ok ?_
  unfold strI at hK
  refine cd (fun x => by rw [if_pos x] at hK; exact hK) fun x => ?_
  rw [if_neg x] at hK
  exact cd (fun y => by rw [if_pos y] at hK; exact hK) fun y => by rw [if_neg y] at hK; exact hK
theorem strI_nat (n : Nat) : strI (n : Int) = (str n : Nat) := by
  unfold strI str
  by_cases h1 : n < 96
  · rw [if_pos (by omega), if_pos h1]; rfl
  · rw [if_neg (by omega), if_neg h1]
    by_cases h2 : n < 128
    · rw [if_pos (by omega), if_pos h2]; rfl
    · rw [if_neg (by omega), if_neg h2]; rfl
def maskB (mask : Int) (m : Nat) : Bool := !(bitsI .and .u32 (Int.fdiv mask (2 ^ min m 32)) 1 == 0)
def cB (at_ mask i : Int) (m : Nat) : Bool := decide (m < 32) && (decide (0 ≤ at_) && (decide (at_ < 4096) && (decide (at_ + m < 4096) && (maskB mask m && (!(i == 0) || strI (at_ + m) == strI at_)))))
theorem cB_true {at_ mask i : Int} {m : Nat} (h : cB at_ mask i m = true) : m < 32 ∧ 0 ≤ at_ ∧ at_ < 4096 ∧ at_ + m < 4096 ∧ maskB mask m = true ∧ (i = 0 → strI (at_ + m) = strI at_) := by
  simp only [cB, Bool.and_eq_true] at h
  obtain ⟨h1, h2, h3, h4, h5, h6⟩ := h
  refine ⟨of_decide_eq_true h1, of_decide_eq_true h2, of_decide_eq_true h3, of_decide_eq_true h4, h5, fun e => ?_⟩
  rw [e] at h6
  exact beq_iff_eq.mp h6
theorem xor_byte (b : UInt8) (r : Nat) (hr : r < 8) : Value.int .u8 (bitsI .xor .u8 (b.toNat : Int) (IntKind.wrap .u8 (1 * 2 ^ min r 8))) = bv (b ^^^ UInt8.ofNat (2 ^ r)) := by
  have hp : 2 ^ r < 256 := by
    have : 2 ^ r ≤ 2 ^ 7 := Nat.pow_le_pow_right (by decide) (by omega)
    omega
  have hb : b.toNat < 256 := b.toNat_lt
  have e1 : IntKind.wrap .u8 (1 * 2 ^ min r 8) = ((2 ^ r : Nat) : Int) := by
    rw [Nat.min_eq_left (by omega), Int.one_mul, show ((2 : Int) ^ r) = ((2 ^ r : Nat) : Int) by simp]
    exact wrap_u8 (Int.natCast_nonneg _) (by have : ((2 ^ r : Nat) : Int) < 256 := Int.ofNat_lt.mpr hp; omega)
  rw [e1, bv, UInt8.toNat_xor, UInt8.toNat_ofNat', Nat.mod_eq_of_lt (by exact hp)]
  congr 1
  show IntKind.wrap .u8 (((BitVec.ofInt 8 (b.toNat : Int) ^^^ BitVec.ofInt 8 ((2 ^ r : Nat) : Int)).toNat : Nat) : Int) = _
  rw [BitVec.toNat_xor, BitVec.ofInt_natCast, BitVec.ofInt_natCast, BitVec.toNat_ofNat, BitVec.toNat_ofNat, Nat.mod_eq_of_lt (by exact hb), Nat.mod_eq_of_lt (by exact hp)]
  have hx : b.toNat ^^^ 2 ^ r < 2 ^ 8 := Nat.xor_lt_two_pow (by exact hb) (by exact hp)
  exact wrap_u8 (Int.natCast_nonneg _) (by have : ((b.toNat ^^^ 2 ^ r : Nat) : Int) < 256 := Int.ofNat_lt.mpr hx; omega)
theorem any_succ (c : Nat → Bool) (n : Nat) : (List.range (n + 1)).any c = ((List.range n).any c || c n) := by rw [List.range_succ, List.any_append]; simp
/-- a row of blocks, one of which is another one -/
theorem Dat.set {h' : Heap} {a' : Option Addr} {l : Nat} {ss : List Sc} {ds : List (List UInt8)} (h1 : ss.length = l) (h2 : ss.length = ds.length) {i : Nat} {s : Sc} {b : List UInt8} (hc : SlCells h' a' ((ss.set i s).map Sc.v)) (S : StrAt h' s.a s.l b)
    (hS : ∀ j (g1 : j < ss.length) (g2 : j < ds.length), StrAt h' ss[j].a ss[j].l ds[j]) : Dat h' a' l (ss.set i s) (ds.set i b) := by
  refine ⟨hc, by rw [List.length_set]; exact h1, by rw [List.length_set, List.length_set]; exact h2, fun j g1 g2 => ?_⟩
  by_cases e : i = j
  · subst e; rw [List.getElem_set_self, List.getElem_set_self]; exact S
  · rw [List.getElem_set_ne e, List.getElem_set_ne e]
    exact hS j (by rw [List.length_set] at g1; exact g1) (by rw [List.length_set] at g2; exact g2)
/-- what the turned rows are worth -/
theorem bursts_worth {at_ mask i : Int} {ns : List Int} {ds : List (List UInt8)} {s : Nat} {d0 : List UInt8} (hi0 : 0 ≤ i) (hm : mayM ns 16384 = true) (hbl : blM ds ns.length = true) (hw : ∀ d ∈ ds, d.length = 512) (hs : (s : Int) = sumM (laidM ns 0) ds) (hi : i.toNat < (laidM ns s :: ds).length) (hd0 : (laidM ns s :: ds)[i.toNat] = d0)
    {x : List UInt8} {r : List (List UInt8)} (e : (laidM ns s :: ds).set i.toNat (fl at_.toNat (cB at_ mask i) d0 32) = x :: r) : (goodM x 16384 r == !((List.range 32).any (cB at_ mask i))) = true := by
  obtain ⟨hmem, hl1, hl2⟩ := mayM_mem hm
  have us := sum_range (laidM ns 0) ds
  cases ht : (List.range 32).any (cB at_ mask i) with
  | false =>
    have hall : ∀ m, m < 32 → cB at_ mask i m = false := fun m hm => by
      cases hc : cB at_ mask i m with
      | false => rfl
      | true =>
        have : (List.range 32).any (cB at_ mask i) = true := List.any_eq_true.mpr ⟨m, List.mem_range.mpr hm, hc⟩
        rw [ht] at this; cases this
    rw [fl_none 32 hall, ← hd0, List.set_getElem_self] at e
    obtain ⟨rfl, rfl⟩ := List.cons.inj e
    rw [laid_good hm (fun x hx => by have := hmem x hx; omega) (by have := us.2; omega), hbl, hs, beq_self_eq_true]; rfl
  | true =>
    obtain ⟨m, hm1, hm2⟩ := List.any_eq_true.mp ht
    have hm1 := List.mem_range.mp hm1
    have hex : ∃ m, m < 32 ∧ cB at_ mask i m = true := ⟨m, hm1, hm2⟩
    have hc : ∀ m, cB at_ mask i m = true → at_.toNat + m < 4096 := fun m h => by have := cB_true h; omega
    have : goodM x 16384 r = false := by
      cases hn : i.toNat with
      | zero =>
        have hi00 : i = 0 := by omega
        have hd0 : laidM ns s = d0 := by simpa [hn] using hd0
        rw [hn, List.set_cons_zero] at e
        obtain ⟨rfl, rfl⟩ := List.cons.inj e
        rw [← hd0]
        refine burst_head hm hs hc (fun m h => ?_) hex
        have h6 := cB_true h
        have h7 := h6.2.2.2.2.2 hi00
        have e1 : at_ + (m : Int) = ((at_.toNat + m : Nat) : Int) := by omega
        have e2 : at_ = ((at_.toNat : Nat) : Int) := by omega
        rw [e1, strI_nat] at h7
        rw [e2, strI_nat] at h7
        have e3 : ((at_.toNat : Nat) : Int).toNat = at_.toNat := Int.toNat_natCast _
        rw [e3] at h7
        exact Int.ofNat.inj h7
      | succ i' =>
        have hi' : i' < ds.length := by rw [hn, List.length_cons] at hi; omega
        have hd0 : ds[i'] = d0 := by simpa [hn] using hd0
        rw [hn, List.set_cons_succ] at e
        obtain ⟨rfl, rfl⟩ := List.cons.inj e
        rw [← hd0]
        exact burst_block hm hs hi' (hw _ (List.getElem_mem hi')) hc hex
    rw [this]; rfl

section
variable {at_ mask i : Int} {ba hb : Option Addr} {nl : Nat} {ns : List Int} {ss : List Sc} {ds : List (List UInt8)} {h : Heap} {K : Value → Heap → Prop} {s : Nat}

theorem bursts2 (g : Glo h) (ha : -9223372036854775808 ≤ at_) (ha2 : at_ ≤ 9223372036854775807) (hi0 : 0 ≤ i) (hi1 : i ≤ nl) (hm : mayM ns 16384 = true) (hns : ns.length = nl) (D : Dat h ba nl ss ds) (hw : ∀ d ∈ ds, d.length = 512) (hs : (s : Int) = sumM (laidM ns 0) ds)
    (H : StrAt h hb 512 (laidM ns s)) (hK : ∀ h', Fr No h h' → K (.bool true) h') : bolelaw04_HeadBursts.k2 at_ mask ba nl hb 512 h i K := by
  obtain ⟨hmem, hl1, hl2⟩ := mayM_mem hm
  have hd1 := D.num
  have hd2 := D.len
  have hll := laid_length ns s (by omega)
  have us := sum_range (laidM ns 0) ds
  have hbl : blM ds ns.length = true := by
    have := blM_true hw
    rw [← hd2, hd1, ← hns] at this; exact this
  refine New.intro fun h8 n8 => ?_
  have hs8 := n8.size
  obtain ⟨q1, q2, q3⟩ := StrAt.src (StrAt.fr n8.fr H fun _ _ x => x)
  refine ⟨_, q1, q2, q3, append_own (xs := []) (F := From h.size) (Sl.made n8 rfl (Nat.le_refl _) rfl (Nat.le_refl _) rfl) q1 rfl (by show (0 + 512) * 1 ≤ _; omega) (by omega) fun a4 c4 h9 f9 s9 => New.intro fun h10 n10 => ?_⟩
  rw [Nat.zero_add, List.nil_append] at s9
  have hs9 := f9.size
  have hs10 := n10.size
  have F9 : Fr No h h9 := n8.fr.trans f9 fun x hx e => by have e : h.size ≤ x := e; omega
  have F10 := F9.new n10
  have D10 := D.fr F10
  refine ⟨ss.map Sc.v, by rw [List.length_map, hd1, Nat.mul_one], D10.cells, sc_one ss, ?_⟩
  refine append_own (xs := [.slice a4 512 c4]) (F := From h9.size) (Sl.made n10 rfl (Nat.le_refl _) rfl (Nat.le_refl _) rfl) (by rw [List.length_map, hd1]; exact (Nat.mul_one _).symm) rfl (by show (1 + nl) * 24 ≤ _; omega) (by omega) fun a5 c5 h11 f11 s11 => New.intro fun h12 n12 => ?_
  have hs11 := f11.size
  have hs12 := n12.size
  have F11 : Fr No h h11 := F10.trans f11 fun x hx e => by have e : h9.size ≤ x := e; omega
  have s11 : Sl h11 1 a5 (1 + nl) c5 (({ a := a4, l := 512, c := c4 } :: ss).map Sc.v) (From h9.size) := s11.mono fun b hb => by rcases hb with hb | hb; exact hb; show h9.size ≤ b; omega
  have F12 := F11.new n12
  have s9' : StrAt h9 a4 512 (laidM ns s) := s9.str
  have a4lt : ∀ p, a4 = some p → p.block < h9.size := fun p hp => by subst hp; exact s9.lt
  have G11 : Fr (From h9.size) h9 h11 := (n10.fr.mono fun _ _ x => x.elim).trans f11 fun _ _ x => x
  have ents : ∀ {h' : Heap}, Fr (From h9.size) h9 h' → ∀ j (g1 : j < ({ a := a4, l := 512, c := c4 } :: ss : List Sc).length) (g2 : j < (laidM ns s :: ds).length), StrAt h' ({ a := a4, l := 512, c := c4 } :: ss : List Sc)[j].a ({ a := a4, l := 512, c := c4 } :: ss : List Sc)[j].l (laidM ns s :: ds)[j] := by
    intro h' G j g1 g2
    cases j with
    | zero => exact StrAt.fr G s9' fun p hp e => by have e : h9.size ≤ p.block := e; have := a4lt p hp; omega
    | succ j => exact StrAt.fr (F9.trans G fun x hx e => by have e : h9.size ≤ x := e; omega) (D.at_ j (by simpa using g1) (by simpa using g2)) fun _ _ x => x
  have rl1 : ({ a := a4, l := 512, c := c4 } :: ss : List Sc).length = 1 + nl := by rw [List.length_cons, hd1]; omega
  have rl2 : ({ a := a4, l := 512, c := c4 } :: ss : List Sc).length = (laidM ns s :: ds).length := by rw [List.length_cons, List.length_cons, hd2]
  have D12 : Dat h12 a5 (1 + nl) ({ a := a4, l := 512, c := c4 } :: ss) (laidM ns s :: ds) :=
    ⟨(s11.fr n12.fr fun _ _ _ x => x).cells, rl1, rl2, ents (G11.no n12.fr)⟩
  have hw' : ∀ d ∈ laidM ns s :: ds, d.length = 512 := fun d hd => by
    rcases List.mem_cons.mp hd with rfl | hd
    · exact hll
    · exact hw d hd
  obtain ⟨p5, sc, d0, rfl, c5', hd0, S0⟩ := D12.get (i := i.toNat) (by omega)
  have hi' : i.toNat < (laidM ns s :: ds).length := by rw [List.length_cons]; omega
  rw [List.getElem?_eq_getElem hi'] at hd0
  have hd0 := Option.some.inj hd0
  have hd0l : d0.length = 512 := by rw [← hd0]; exact hw' _ (List.getElem_mem hi')
  have scl : sc.l = 512 := by have := S0.1; omega
  obtain ⟨t1, t2, t3⟩ := StrAt.src S0
  refine ⟨⟨hi0, by omega⟩, os ⟨_, _, _, c5', _, t1, t2, t3, append_own (xs := []) (F := From h11.size) (Sl.made n12 rfl (Nat.le_refl _) rfl (Nat.le_refl _) rfl) t1 rfl (by show (0 + sc.l) * 1 ≤ _; omega) (by omega) fun a7 c7 h13 f13 s13 => ?_⟩⟩
  rw [Nat.zero_add, List.nil_append] at s13
  rw [Nat.zero_add, scl]
  have hs13 := f13.size
  have F13 : Fr No h h13 := F12.trans f13 fun x hx e => by have e : h11.size ≤ x := e; omega
  have F12_13 : Fr No h11 h13 := n12.fr.trans f13 fun x hx e => by have e : h11.size ≤ x := e; omega
  have s13 : Sl h13 1 a7 512 c7 (d0.map bv) (From h11.size) := by
    rw [scl] at s13
    exact s13.mono fun b hb => by rcases hb with hb | hb; exact hb; show h11.size ≤ b; omega
  obtain ⟨p7, rfl, _⟩ := s13.get (by omega)
  have hp7 := s13.mk
  obtain ⟨qb, qo, qs⟩ := p7
  have hp7 : qs = none := by simpa using hp7
  subst hp7
  have hqb : h11.size ≤ qb := s13.2.2.1
  have s13 : Sl h13 1 (some ⟨qb, qo, none⟩) 512 c7 (d0.map bv) (fun x => x = qb) := ⟨s13.1, s13.2.1, rfl, s13.2.2.2⟩
  refine ⟨fun t k hh => 0 ≤ k ∧ k ≤ 32 ∧ Fr (fun x => x = qb) h13 hh ∧ Sl hh 1 (some ⟨qb, qo, none⟩) 512 c7 ((fl at_.toNat (cB at_ mask i) d0 k.toNat).map bv) (fun x => x = qb) ∧ t = (List.range k.toNat).any (cB at_ mask i), fun _ k _ => ((32 : Nat) - k).toNat,
    ⟨by omega, by omega, Fr.refl _ _, s13, rfl⟩, ?_⟩
  rintro t k h14 ⟨k0, k1, f14, s14, rfl⟩
  have hs14 := f14.size
  refine cd (fun hk => ?_) fun hk => ?_
  · have hk : k < 32 := hk
    have ek : (k + 1).toNat = k.toNat + 1 := by omega
    have off : cB at_ mask i k.toNat = false → ((0 ≤ k + 1 ∧ k + 1 ≤ 32 ∧ Fr (fun x => x = qb) h13 h14 ∧ Sl h14 1 (some ⟨qb, qo, none⟩) 512 c7 ((fl at_.toNat (cB at_ mask i) d0 (k + 1).toNat).map bv) (fun x => x = qb) ∧ (List.range k.toNat).any (cB at_ mask i) = (List.range (k + 1).toNat).any (cB at_ mask i)) ∧ ((32 : Nat) - (k + 1) : Int).toNat < ((32 : Nat) - k : Int).toNat) := fun hc =>
      ⟨⟨by omega, by omega, f14, by rw [ek, fl, hc, cond_false]; exact s14, by rw [ek, any_succ, hc, Bool.or_false]⟩, falls (m := 32) hk⟩
    rw [wrap_i64 (n := k + 1) (by omega) (by omega)]
    have nat0 : ((k.toNat : Nat) : Int) = k := by omega
    have cf0 : ∀ {P : Prop}, (¬ P) → (cB at_ mask i k.toNat = true → P) → cB at_ mask i k.toNat = false := fun hp hq => by
      cases hc : cB at_ mask i k.toNat with
      | false => rfl
      | true => exact absurd (hq hc) hp
    refine cd (fun hneg => off (cf0 (P := 0 ≤ at_) (by omega) fun h => (cB_true h).2.1)) fun hneg => cd (fun hbig => off (cf0 (P := at_ < 4096) (by omega) fun h => (cB_true h).2.2.1)) fun hbig => ?_
    rw [wrap_i64 (n := at_ + k) (by omega) (by omega)]
    refine cd (fun hb2 => off (cf0 (P := at_ + (k.toNat : Nat) < 4096) (by omega) fun h => (cB_true h).2.2.2.1)) fun hb2 => ?_
    rw [if_neg (by omega)]
    cases hmb : (bitsI .and .u32 (Int.fdiv mask (2 ^ min (Int.toNat k) 32)) 1 == 0) with
    | true => exact ct rfl (off (cf0 (P := maskB mask k.toNat = true) (by rw [maskB, hmb]; exact fun x => by cases x) fun h => (cB_true h).2.2.2.2.1))
    | false =>
      have hmB : maskB mask k.toNat = true := by rw [maskB, hmb]; rfl
      refine cf rfl ?_
      have turn : cB at_ mask i k.toNat = true → ∀ h16, h16 = h14 → bolelaw04_HeadBursts.k3 at_ (some ⟨qb, qo, none⟩) 512 ((List.range k.toNat).any (cB at_ mask i)) k h14
          (fun t k hh => 0 ≤ k ∧ k ≤ 32 ∧ Fr (fun x => x = qb) h13 hh ∧ Sl hh 1 (some ⟨qb, qo, none⟩) 512 c7 ((fl at_.toNat (cB at_ mask i) d0 k.toNat).map bv) (fun x => x = qb) ∧ t = (List.range k.toNat).any (cB at_ mask i)) (fun _ k _ => ((32 : Nat) - k).toNat) h16 K := by
        rintro hc h16 rfl
        unfold bolelaw04_HeadBursts.k3
        have hpos : 0 ≤ at_ + k := by omega
        rw [wrap_i64 (n := at_ + k) (by omega) (by omega), Int.tdiv_eq_ediv_of_nonneg hpos, wrap_i64 (n := (at_ + k) / 8) (by omega) (by omega), Int.tmod_eq_emod_of_nonneg hpos, wrap_i64 (n := k + 1) (by omega) (by omega)]
        have hfl := fl_length at_.toNat (cB at_ mask i) d0 k.toNat
        have hj : ((at_ + k) / 8).toNat = (at_.toNat + k.toNat) / 8 := by omega
        have hr : ((at_ + k) % 8).toNat = (at_.toNat + k.toNat) % 8 := by omega
        have hlt : (at_.toNat + k.toNat) / 8 < (fl at_.toNat (cB at_ mask i) d0 k.toNat).length := by omega
        obtain ⟨_, e14, c14⟩ := s14.get (by omega)
        have e14 := Option.some.inj e14
        subst e14
        obtain ⟨w1, w2⟩ := s14.wr
        refine ⟨⟨by omega, by omega⟩, os ⟨((fl at_.toNat (cB at_ mask i) d0 k.toNat)[(at_.toNat + k.toNat) / 8].toNat : Int), ?_, ?_⟩⟩
        · rw [hj]; exact Cells.cell c14 (by rw [List.getElem?_map, List.getElem?_eq_getElem hlt]; rfl)
        rw [if_neg (by omega), hr]
        refine ⟨⟨by omega, by omega⟩, os ?_⟩
        rw [xor_byte _ _ (Nat.mod_lt _ (by decide)), hj]
        refine Put.add w1 (by omega) fun h18 d18 => ?_
        have s18 := s14.putAt (j := (at_.toNat + k.toNat) / 8) (new := [_]) (by rw [List.length_singleton]; omega) d18
        have e18 : put ((fl at_.toNat (cB at_ mask i) d0 k.toNat).map bv) ((at_.toNat + k.toNat) / 8) [bv ((fl at_.toNat (cB at_ mask i) d0 k.toNat)[(at_.toNat + k.toNat) / 8] ^^^ UInt8.ofNat (2 ^ ((at_.toNat + k.toNat) % 8)))] = (fl at_.toNat (cB at_ mask i) d0 (k + 1).toNat).map bv := by
          rw [ek, fl, hc, cond_true, flip, List.getD_eq_getElem?_getD, List.getElem?_eq_getElem hlt, List.map_set]; rfl
        rw [e18] at s18
        exact ⟨⟨by omega, by omega, f14.did d18 (fun _ => rfl), s18, by rw [ek, any_succ, hc, Bool.or_true]⟩, falls (m := 32) hk⟩
      have base : (i = 0 → strI (at_ + (k.toNat : Nat)) = strI at_) → cB at_ mask i k.toNat = true := fun hst => by
        simp only [cB, Bool.and_eq_true]
        refine ⟨decide_eq_true (by omega), decide_eq_true (by omega), decide_eq_true (by omega), decide_eq_true (by omega), hmB, ?_⟩
        by_cases e : i = 0
        · rw [e, show (strI (at_ + (k.toNat : Nat)) == strI at_) = true from beq_iff_eq.mpr (hst e)]; rfl
        · rw [show (i == 0) = false from beq_eq_false_iff_ne.mpr e]; rfl
      refine ce (fun e => ?_) fun e => turn (base fun x => absurd x e) h14 rfl
      refine stretch_spec ⟨_, rfl, stretch_spec ⟨_, rfl, cn (fun hne => ?_) fun heq => turn (base fun _ => by rw [nat0]; exact heq) h14 rfl⟩⟩
      exact off (cf0 (P := strI (at_ + (k.toNat : Nat)) = strI at_) (by rw [nat0]; exact hne) fun h => (cB_true h).2.2.2.2.2 e)
  · have hk : ¬ k < 32 := hk
    have ek : k.toNat = 32 := by omega
    rw [ek] at s14 ⊢
    generalize hc : cB at_ mask i = c at s14 ⊢
    subst hc
    have s11' : Sl h11 1 (some p5) (1 + nl) c5 (({ a := a4, l := 512, c := c4 } :: ss : List Sc).map Sc.v) (fun b => h9.size ≤ b ∧ b < h11.size) := ⟨s11.1, s11.2.1, ⟨s11.2.2.1, s11.2.2.2.1.lt⟩, s11.2.2.2⟩
    have s14r := ((s11'.fr n12.fr fun _ _ _ x => x).fr f13 fun b _ h1 h2 => by have h2 : h11.size ≤ b := h2; omega).fr f14 fun b _ h1 h2 => by have h2 : b = qb := h2; omega
    have hp5 := s14r.mk
    obtain ⟨pb, po, ps⟩ := p5
    have hp5 : ps = none := by simpa using hp5
    subst hp5
    have hpb : h9.size ≤ pb ∧ pb < h11.size := s14r.2.2.1
    obtain ⟨w1, w2⟩ := s14r.wr
    refine ⟨⟨hi0, by omega⟩, os (Put.add w1 (by omega) fun h19 d19 => ?_)⟩
    have hs19 := d19.fr.size
    have s19 := s14r.putAt (j := i.toNat) (new := [_]) (by rw [List.length_singleton]; omega) d19
    have G19 : Fr (From h9.size) h9 h19 := ((((G11.no n12.fr).trans f13 fun x _ e => by have e : h11.size ≤ x := e; show h9.size ≤ x; omega).trans f14 fun x _ e => by have e : x = qb := e; show h9.size ≤ x; omega)).did d19 fun _ => hpb.1
    have F19 : Fr No h h19 := F9.trans G19 fun x hx e => by have e : h9.size ≤ x := e; omega
    have S19 : StrAt h19 (some ⟨qb, qo, none⟩) 512 (fl at_.toNat (cB at_ mask i) d0 32) := (s14.fr d19.fr fun x _ e1 e2 => by have e1 : x = qb := e1; have e2 : x = pb := e2; omega).str
    have e19 : put (({ a := a4, l := 512, c := c4 } :: ss : List Sc).map Sc.v) i.toNat [Value.slice (some ⟨qb, qo, none⟩) 512 c7] = (({ a := a4, l := 512, c := c4 } :: ss : List Sc).set i.toNat { a := some ⟨qb, qo, none⟩, l := 512, c := c7 }).map Sc.v := by rw [List.map_set]; rfl
    have s19 : Sl h19 1 (some ⟨pb, po, none⟩) (1 + nl) c5 ((({ a := a4, l := 512, c := c4 } :: ss : List Sc).set i.toNat { a := some ⟨qb, qo, none⟩, l := 512, c := c7 }).map Sc.v) (fun b => h9.size ≤ b ∧ b < h11.size) := by rw [← e19]; exact s19
    have D19 := Dat.set (i := i.toNat) (b := fl at_.toNat (cB at_ mask i) d0 32) rl1 rl2 s19.cells S19 (ents G19)
    -- the first of the rows
    obtain ⟨p6, sc0, x0, e6, c6, hx0, S6⟩ := D19.get (i := 0) (by omega)
    have e6 := Option.some.inj e6
    subst e6
    have hc0 : 512 ≤ sc0.c ∧ sc0.l = 512 := by
      have hcc := s19.cells
      have hcc : Cells h19 ⟨pb, po, none⟩ _ := hcc
      have h0 : (({ a := a4, l := 512, c := c4 } :: ss : List Sc).set i.toNat { a := some ⟨qb, qo, none⟩, l := 512, c := c7 })[0]? = some (if i.toNat = 0 then { a := some ⟨qb, qo, none⟩, l := 512, c := c7 } else { a := a4, l := 512, c := c4 }) := by
        by_cases e : i.toNat = 0
        · rw [e, if_pos rfl]; rfl
        · rw [if_neg e, List.getElem?_set_ne e]; rfl
      have := Cells.cell hcc (i := 0) (v := Sc.v (if i.toNat = 0 then { a := some ⟨qb, qo, none⟩, l := 512, c := c7 } else { a := a4, l := 512, c := c4 })) (by rw [List.getElem?_map, h0]; rfl)
      rw [c6] at this
      have := Option.some.inj this
      have l4 := s9.le
      have l7 := s13.le
      by_cases e : i.toNat = 0
      · rw [if_pos e] at this
        simp only [Sc.v, Value.slice.injEq] at this
        omega
      · rw [if_neg e] at this
        simp only [Sc.v, Value.slice.injEq] at this
        omega
    have hlc5 := s19.le
    refine ⟨⟨by omega, by omega⟩, os ⟨_, _, _, c6, ⟨by omega, by omega⟩, ?_⟩⟩
    have hL := D19.tail (c := c5) (by omega) hlc5
    refine Good_spec (n := 16384) (g.no F19) S6 (by omega) (by omega) hL (by show 1 + nl - Int.toNat 1 ≤ _; omega) fun h20 f20 => ⟨_, rfl, ?_⟩
    have hcons : (laidM ns s :: ds).set i.toNat (fl at_.toNat (cB at_ mask i) d0 32) = x0 :: ((laidM ns s :: ds).set i.toNat (fl at_.toNat (cB at_ mask i) d0 32)).drop 1 := by
      cases hq : (laidM ns s :: ds).set i.toNat (fl at_.toNat (cB at_ mask i) d0 32) with
      | nil => have := congrArg List.length hq; rw [List.length_set, List.length_cons] at this; simp at this
      | cons y r =>
        rw [hq] at hx0
        have : y = x0 := by simpa using hx0
        rw [this]; rfl
    rw [bursts_worth hi0 hm hbl hw hs hi' hd0 hcons]
    exact hK h20 (F19.no f20)
end
theorem HeadBursts_spec {which at_ mask : Int} {sa da : Option Addr} {sl sc dl dc : Nat} {steps : List Int} {seed : List UInt8} {h : Heap} {K : Value → Heap → Prop} (g : Glo h) (hwh : -9223372036854775808 ≤ which) (hwh2 : which ≤ 9223372036854775807) (ha : -9223372036854775808 ≤ at_) (ha2 : at_ ≤ 9223372036854775807)
    (S : SlCells h sa (ints steps)) (hsl : steps.length = sl) (D : StrAt h da dl seed)
    (hK : ∀ h', Fr No h h' → K (.bool true) h') : C.bolelaw04_HeadBursts [.slice sa sl sc, .slice da dl dc] which at_ mask h K := by
  refine bolelaw04_HeadBursts.ok (New.intro fun h2 n2 => ?_)
  refine known_spec (g.no n2.fr) fun h3 f3 => ⟨_, rfl, cnot (ct rfl ⟨_, rfl, cellsAll ((f3.rd n2.own.lt fun x => x).trans n2.rd), ?_⟩)⟩
  have F3 := n2.fr.no f3
  refine made_spec (SlCells.fr F3 S fun _ _ x => x) hsl (StrAt.fr F3 D fun _ _ x => x) fun na nl nc ba bc h4 col ns ss ds f4 base N hns hm B => ⟨_, _, _, _, _, _, rfl, ?_⟩
  have F4 := F3.no f4
  obtain ⟨hmem, hl1, hl2⟩ := mayM_mem hm
  have D4 := B.dat
  have hd1 := D4.num
  have hd2 := D4.len
  have hbl : blM ds ns.length = true := by
    have := blM_true B.w
    rw [← hd2, hd1, ← hns] at this; exact this
  refine Make_spec (g.no F4) N.cells hns (by omega) D4 (by omega) (fun x => by rw [hm] at x; cases x) (fun _ x => by rw [hbl] at x; cases x) fun _ _ b h5 f5 hb5 s5 => ⟨_, _, _, _, rfl, num_spec ⟨_, rfl, cn (fun x => absurd rfl x) fun _ => cn (fun x => absurd rfl x) fun _ => ?_⟩⟩
  have F5 := F4.no f5
  have us := sum_range (laidM ns 0) ds
  obtain ⟨u0, u1⟩ := us
  have hs : (((sumM (laidM ns 0) ds).toNat : Nat) : Int) = sumM (laidM ns 0) ds := by omega
  have go : ∀ i : Int, 0 ≤ i → i ≤ nl → bolelaw04_HeadBursts.k2 at_ mask ba nl (some ⟨b, 0, none⟩) 512 h5 i K := fun i h0 h1 =>
    bursts2 (g.no F5) ha ha2 h0 h1 hm hns (D4.fr f5) B.w hs s5.str fun h' f' => hK h' (F5.no f')
  unfold bolelaw04_HeadBursts.k1
  rw [wrap_i64 (n := (nl : Int) + 1) (by omega) (by omega), if_neg (by omega)]
  have hmod := Int.tmod_eq_emod (a := which) (b := (nl : Int) + 1)
  have p0 := Int.emod_nonneg which (show ((nl : Int) + 1) ≠ 0 by omega)
  have p1 := Int.emod_lt_of_pos which (show (0 : Int) < (nl : Int) + 1 by omega)
  have hr : -(nl : Int) ≤ Int.tmod which ((nl : Int) + 1) ∧ Int.tmod which ((nl : Int) + 1) ≤ nl := by
    rw [hmod]; split <;> omega
  refine cd (fun hneg => ?_) fun hneg => go _ (by omega) (by omega)
  rw [wrap_i64 (by omega) (by omega)]
  exact go _ (by omega) (by omega)
end Go.Proofs.YtnlmieklakolkaaDoor.Cr
