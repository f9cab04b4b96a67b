/-
  SPACE: the walk over the bitmap: Runs, rows, each.
-/
import Derived.Test.YtcdpakjhjmchhaaGreatDoorSpcA
namespace Go.Proofs.YtcdpakjhjmchhaaGreatDoor.Spc
open Go Go.Proofs Go.Proofs.YtcdpakjhjmchhaaGreatDoor.Wx Go.Proofs.YtcdpakjhjmchhaaGreatDoor.Hp Go.Proofs.YtcdpakjhjmchhaaGreatDoor.W Go.Proofs.YtcdpakjhjmchhaaGreatDoor.Ad Go.Proofs.YtcdpakjhjmchhaaGreatDoor.Tm Go.Proofs.YtcdpakjhjmchhaaGreatDoor.Bt Go.Proofs.YtcdpakjhjmchhaaGreatDoor.Rg

theorem Runs_spec {A : Option Addr} {l c : Nat} {bs : Txt} {h : Heap} {K : Value → Heap → Prop} (B : StrAt h A l bs) (h0 : 0 < l) (hl : l ≤ 140737488355328)
    (hK : ∀ cb A' c' h', Fr No h h' → h.size ≤ cb → cb < h'.size → rd h' cb = [.slice A' l c'] → Sl h' 1 A' l c' (bs.map bv) (fun b => h.size ≤ b ∧ b < h'.size) → K (.func (.func 150) #[] ⟨[.pointer (some ⟨cb, 0, none⟩)]⟩) h') : C.bits_Runs A l c h K := by
  refine bits_Runs.ok (New.intro fun h2 n2 => ?_)
  have z2 := n2.size
  obtain ⟨s1, s2, s3⟩ := StrAt.src (StrAt.fr n2.fr B (fun _ _ x => x))
  have S0 : Sl h2 1 (some ⟨h.size, 0, none⟩) 0 0 [] (fun b => b = h.size) := ⟨rfl, rfl, rfl, n2.own, Nat.le_refl _, rfl, Nat.zero_le _⟩
  refine ⟨_, s1, s2, s3, append_own S0 s1 rfl (by show (0 + l) * 1 ≤ _; omega) (by omega) fun a' c' h3 f3 s => New.intro fun h4 n4 => ?_⟩
  have z3 := f3.size
  have z4 := n4.size
  rw [Nat.zero_add] at s ⊢
  rw [List.nil_append] at s
  have s := sl_rng s
  refine Put.intro n4.own (by rw [n4.rd]; exact Nat.one_pos) fun h5 d5 => ?_
  have z5 := d5.size
  have f : Fr No h h5 := ((n2.fr.trans f3 fun b hb e => by have e : b = h.size := e; omega).new n4).did d5 fun hh => by omega
  refine hK h3.size a' c' h5 f (by omega) (by omega) (by rw [d5.rd, n4.rd]; rfl) (((s.fr n4.fr fun _ _ _ x => x).fr d5.fr fun b hb hF e => ?_).mono fun b hb => ?_)
  · have e : b = h3.size := e
    have := hF.2
    omega
  · obtain ⟨hb, hb2⟩ := hb
    refine ⟨?_, by omega⟩
    rcases hb with hb | hb
    · omega
    · omega
/-- what a loop over the rows of a bitmap block leaves alone -/
structure Rw (n cb e : Nat) (g : G) (first : Nat) (do1 : Value) (A : Option Addr) (l c : Nat) (bs : Txt) (hh : Heap) : Prop where
  size : e + 1 < hh.size
  n1 : n + 3 ≤ cb
  n2 : cb < e
  r1 : rd hh n = g.v
  r2 : rd hh (n + 1) = [.int .i64 first]
  r3 : rd hh (n + 2) = [do1]
  r4 : rd hh cb = [.slice A l c]
  s : StrAt hh A l bs
  sb : ∀ p, A = some p → n + 3 ≤ p.block ∧ p.block < e
  d : hh[e]? = some (.deferred (some []))
theorem Rw.step {n cb e first l c : Nat} {g : G} {do1 : Value} {A : Option Addr} {bs : Txt} {hh hh' : Heap} {F : Nat → Prop} (b : Rw n cb e g first do1 A l c bs hh) (f : Fr F hh hh') (hF : ∀ x, F x → x < n ∨ x = e + 1) : Rw n cb e g first do1 A l c bs hh' := by
  have z := f.size
  have s := b.size
  have n1 := b.n1
  have n2 := b.n2
  have k : ∀ x, n ≤ x → x ≤ e → ¬ F x := fun x h1 h2 y => by have := hF x y; omega
  exact ⟨by omega, n1, n2, (f.rd (by omega) (k _ (by omega) (by omega))).trans b.r1, (f.rd (by omega) (k _ (by omega) (by omega))).trans b.r2, (f.rd (by omega) (k _ (by omega) (by omega))).trans b.r3, (f.rd (by omega) (k _ (by omega) (by omega))).trans b.r4,
    StrAt.fr f b.s fun p ep => k _ (by have := b.sb p ep; omega) (by have := b.sb p ep; omega), b.sb, (f.same _ (by omega) (k _ (by omega) (by omega))).trans b.d⟩
/-- a block of the data, and free -/
def isF (g : G) (first : Nat) (bs : Txt) (t : Nat) : Prop := bitAt bs t = false ∧ g.data ≤ first + t ∧ first + t < g.blocks
theorem rows_spec {g : G} {first : Nat} {A : Option Addr} {l c : Nat} {bs : Txt} {do1 : Value} {h : Heap} {K : Value → Heap → Prop} (B : StrAt h A l bs) (hl0 : 0 < l) (hl : l ≤ 1099511627776) (ok : g.ok) (hf : first ≤ 9007199254740992) (hdo : cellsL do1 = [do1])
    (J : Nat → Heap → Prop) (E : Heap → Prop) (hJ : ∀ i hh hh', J i hh → Fr (From h.size) hh hh' → J i hh') (hE : ∀ hh hh', E hh → Fr (From h.size) hh hh' → E hh')
    (hskip : ∀ i j hh, J i hh → i ≤ j → j ≤ 8 * l → (∀ t, i ≤ t → t < j → ¬ isF g first bs t) → J j hh)
    (hD : ∀ (i j a b : Nat) hh, J i hh → i ≤ j → j ≤ 8 * l → first + i ≤ a → a < b → b ≤ first + j → (∀ t, i ≤ t → t < j → (isF g first bs t ↔ a ≤ first + t ∧ first + t < b)) →
      HCallsV Tryz.prog do1 [.int .i64 a, .int .i64 b] hh fun v h' => ∃ r, v = .bool r ∧ Fr (fun x => x < h.size) hh h' ∧ (r = true → J j h') ∧ (r = false → E h'))
    (h0 : J 0 h) (hK : ∀ hh, (J (8 * l) hh ∨ E hh) → K (.tuple #[]) hh) : C.space_rows g.v first A l c do1 h K := by
  refine space_rows.ok (New.intro fun h2 n2 => New.intro fun h3 n3 => New.intro fun h4 n4 => ?_)
  have z2 := n2.size
  have z3 := n3.size
  have z4 := n4.size
  have e2 : h2.size = h.size + 1 := z2
  have e3 : h3.size = h.size + 2 := by omega
  have F4 : Fr No h h4 := (n2.fr.new n3).new n4
  have B4 := StrAt.fr F4 B fun _ _ x => x
  refine Runs_spec B4 hl0 (by omega) fun cb A' c' h5 f5 cb1 cb2 r5 s5 => ⟨_, rfl, fun R rounds => ?_⟩
  have z5 := f5.size
  have F5 : Fr No h h5 := F4.no f5
  rw [e2, e3] at rounds
  have Fb := beginL_fr h5 R
  have on0 := beginL_on h5 R
  have d0 := beginL_d h5 R
  have zb := beginL_size h5 R
  have fb : ∀ b, b < h5.size → rd (beginL h5 R) b = rd h5 b := fun b hb => Fb.rd hb fun x => x
  have g1 : rd h5 h.size = g.v := (f5.rd (by omega) fun x => x).trans ((n4.at_ (by omega)).trans ((n3.at_ (by omega)).trans n2.rd))
  have g2 : rd h5 (h.size + 1) = [.int .i64 first] := by have := n3.rd; rw [e2] at this; exact (f5.rd (by omega) fun x => x).trans ((n4.at_ (by omega)).trans this)
  have g3 : rd h5 (h.size + 2) = [do1] := by have := n4.rd; rw [e3, hdo] at this; exact (f5.rd (by omega) fun x => x).trans this
  have W0 : Rw h.size cb h5.size g first do1 A' l c' bs (beginL h5 R) := by
    refine ⟨by omega, by omega, cb2, (fb _ (by omega)).trans g1, (fb _ (by omega)).trans g2, (fb _ (by omega)).trans g3, (fb _ (by omega)).trans r5, StrAt.fr Fb s5.str fun _ _ x => x, fun p ep => ?_, d0⟩
    subst ep
    have := s5.2.2.1
    have h1 : h4.size ≤ p.block := this.1
    have h2 : p.block < h5.size := this.2
    exact ⟨by omega, h2⟩
  have J0 : J 0 (beginL h5 R) := hJ _ _ _ h0 ((F5.no Fb).mono fun _ _ x => x.elim)
  show C.bits_Runs_c1 (.func (.yield (h5.size + 1)) #[] #[]) (some ⟨cb, 0, none⟩) (beginL h5 R) _
  have fin : ∀ (st : LoopState) (pend : Option Code) (h9 : Heap), (st = .ready ∧ pend = none ∨ st = .done ∧ pend = some .ret) → LoopOn h9 (h5.size + 1) R st pend → Rw h.size cb h5.size g first do1 A' l c' bs h9 → (J (8 * l) h9 ∨ E h9) →
      ∃ (st1 : LoopState) (pend1 : Option Code), LoopOn h9 (h5.size + 1) R st1 pend1 ∧ st1 ≠ .busy ∧ pendX pend1 (SetL h9 (h5.size + 1) R .exhausted pend1 fun h10 => EndD h5.size h10 fun h11 => K (.tuple #[]) h11) (SetL h9 (h5.size + 1) R .exhausted pend1 fun h12 => EndD h5.size h12 fun h13 => K (.tuple #[]) h13) (fun _ => False) := by
    intro st pend h9 hs on9 W9 je
    have size9 := W9.size
    have out : SetL h9 (h5.size + 1) R .exhausted pend fun h10 => EndD h5.size h10 fun h11 => K (.tuple #[]) h11 := by
      refine setL_intro size9 fun h10 t10 => ?_
      have W10 := W9.step t10.fr fun b e => .inr e
      refine endD_intro W10.d fun h11 z11 f11 => hK h11 ?_
      have f : Fr (From h.size) h9 h11 := (t10.fr.mono fun b _ e => by show h.size ≤ b; omega).trans f11 fun b _ e => by show h.size ≤ b; omega
      rcases je with j | j
      · exact .inl (hJ _ _ _ j f)
      · exact .inr (hE _ _ j f)
    rcases hs with ⟨rfl, rfl⟩ | ⟨rfl, rfl⟩
    · exact ⟨.ready, none, on9, (by intro x; cases x), pend_none out⟩
    · exact ⟨.done, some .ret, on9, (by intro x; cases x), pend_ret out⟩
  refine runs_iter (l := h5.size + 1) (A := A') (sl := l) (c := c') (bs := bs) hl (fun i hh => J i hh ∧ Rw h.size cb h5.size g first do1 A' l c' bs hh ∧ LoopOn hh (h5.size + 1) R .ready none) (fun i hh q => ⟨q.2.1.r4, q.2.1.s⟩) (fun i f n hh q hif hn hfl hon hoff => ?_) ⟨J0, W0, on0⟩ fun i hh q hi hon => ?_
  · obtain ⟨j, W, o⟩ := q
    have b1 := ok.b
    have b2 := ok.d
    refine rounds (f : Int) (n : Int) hh _ o ⟨o, setL_intro W.size fun h7 t7 => ?_⟩
    have W7 := W.step t7.fr fun b e => .inr e
    have j7 : J i h7 := hJ _ _ _ j (t7.fr.mono fun b _ e => by show h.size ≤ b; omega)
    have s7 := W7.size
    refine ⟨_, rdc W7.r2 rfl, _, rda W7.r1 rfl, _, rdc W7.r2 rfl, _, rda W7.r1 rfl, ?_⟩
    rw [wrap_i64 (n := (first : Int) + f) (by omega) (by omega), wrap_i64 (n := (first : Int) + f + n) (by omega) (by omega)]
    obtain ⟨a, ea, la, la2, la3⟩ : ∃ a : Nat, (if (g.data : Int) > (first : Int) + f then (g.data : Int) else (first : Int) + f) = (a : Int) ∧ g.data ≤ a ∧ first + f ≤ a ∧ (a = g.data ∨ a = first + f) := by
      split
      · exact ⟨g.data, rfl, Nat.le_refl _, by omega, .inl rfl⟩
      · exact ⟨first + f, by omega, by omega, Nat.le_refl _, .inr rfl⟩
    obtain ⟨b, eb, lb, lb2, lb3⟩ : ∃ b : Nat, (if (g.blocks : Int) < (first : Int) + f + n then (g.blocks : Int) else (first : Int) + f + n) = (b : Int) ∧ b ≤ g.blocks ∧ b ≤ first + f + n ∧ (b = g.blocks ∨ b = first + f + n) := by
      split
      · exact ⟨g.blocks, rfl, Nat.le_refl _, by omega, .inl rfl⟩
      · exact ⟨first + f + n, by omega, by omega, Nat.le_refl _, .inr rfl⟩
    rw [ea, eb]
    have iff : ∀ t, i ≤ t → t < f + n → (isF g first bs t ↔ a ≤ first + t ∧ first + t < b) := by
      intro t h1 h2
      unfold isF
      rcases Nat.lt_or_ge t f with h3 | h3
      · rw [hon t h1 h3]
        exact ⟨fun x => absurd x.1 (by simp), fun x => by omega⟩
      · rw [hoff t h3 h2]
        exact ⟨fun x => by omega, fun x => ⟨rfl, by omega, by omega⟩⟩
    refine cd (fun hab => ?_) fun hab => ?_
    · refine ⟨_, rdc W7.r3 rfl, ?_⟩
      refine hv_mono (hD i (f + n) a b h7 j7 (by omega) (by omega) (by omega) (by omega) (by omega) iff) fun v h8 q => ?_
      obtain ⟨r, rfl, f8, q1, q2⟩ := q
      have W8 := W7.step f8 fun b e => .inl e
      have s8 := W8.size
      have on8 : LoopOn h8 (h5.size + 1) R .busy none := loopOn_fr t7.on f8 (by omega)
      have t9 : ∀ st p, Turned (h5.size + 1) R st p h8 (setLoop h8 (h5.size + 1) R st p) := fun st p => turned s8 R st p
      refine ⟨r, rfl, cnot ?_⟩
      cases r with
      | true =>
        have t9 := t9 .ready none
        refine ct rfl ⟨on8, .inl ⟨rfl, hJ _ _ _ (q1 rfl) (t9.fr.mono fun b _ e => by show h.size ≤ b; omega), W8.step t9.fr fun b e => .inr e, t9.on⟩⟩
      | false =>
        have t9 := t9 .done (some .ret)
        exact cf rfl ⟨on8, .inr ⟨rfl, fin .done (some .ret) _ (.inr ⟨rfl, rfl⟩) t9.on (W8.step t9.fr fun b e => .inr e) (.inr (hE _ _ (q2 rfl) (t9.fr.mono fun b _ e => by show h.size ≤ b; omega)))⟩⟩
    · have t9 := turned s7 R .ready none
      have j' : J (f + n) h7 := hskip i (f + n) h7 j7 (by omega) (by omega) fun t h1 h2 y => by have := (iff t h1 h2).mp y; omega
      exact ⟨t7.on, .inl ⟨rfl, hJ _ _ _ j' (t9.fr.mono fun b _ e => by show h.size ≤ b; omega), W7.step t9.fr fun b e => .inr e, t9.on⟩⟩
  · obtain ⟨j, W, o⟩ := q
    exact fin .ready none hh (.inl ⟨rfl, rfl⟩) o W (.inl (hskip i (8 * l) hh j hi (Nat.le_refl _) fun t h1 h2 y => by have := y.1; rw [hon t h1 h2] at this; cases this))
theorem each_spec {do1 : Value} {g : G} {h : Heap} {F : Nat → Prop} {t d : Option Addr} {T : TM} {K : Value → Heap → Prop} (ok : g.ok) (hbi : g.bitmap ≤ g.inodes)
    (J : Nat → Heap → Prop) (E : Heap → Prop) (hx : ∀ k hh, J k hh → Tx hh F t d T) (hJ : ∀ k hh hh', J k hh → Fr (From h.size) hh hh' → J k hh')
    (hD : ∀ k hh A l c, J k hh → g.bitmap ≤ k → k < g.inodes → (T.read k).2 = 0 → StrAt hh A l (T.read k).1 →
      HCallsV Tryz.prog do1 [.int .i64 (4096 * (k - g.bitmap) : Nat), .slice A l c] hh fun v h' => ∃ r, v = .bool r ∧ Fr (fun x => x < h.size) hh h' ∧ (r = true → J (k + 1) h') ∧ (r = false → E h'))
    (h0 : J g.bitmap h) (hend : ∀ hh, J g.inodes hh → K (.int .i64 0) hh) (hE : ∀ hh, E hh → K (.int .i64 0) hh)
    (hbad : ∀ k hh, J k hh → g.bitmap ≤ k → k < g.inodes → (T.read k).2 ≠ 0 → K (.int .i64 (T.read k).2) hh) : C.space_each t g.v do1 h K := by
  have b2 := ok.m
  have b3 := ok.i
  refine space_each.ok (New.intro fun h2 n2 => ⟨_, rda n2.rd rfl, ?_⟩)
  have z2 := n2.size
  refine ⟨fun k hh => ∃ n : Nat, k = n ∧ g.bitmap ≤ n ∧ n ≤ g.inodes ∧ J n hh ∧ rd hh h.size = g.v ∧ h.size < hh.size, fun k _ => (g.inodes - k).toNat,
    ⟨g.bitmap, rfl, Nat.le_refl _, hbi, hJ _ _ _ h0 (n2.fr.mono fun _ _ x => x.elim), n2.rd, by omega⟩, ?_⟩
  rintro _ h3 ⟨k, rfl, k0, k1, j, r, s3⟩
  refine ⟨_, rda r rfl, cd (fun hk => ?_) fun hk => ?_⟩
  · refine Read_spec (hx _ _ j) fun a l c h4 f4 hl s => ⟨_, _, _, _, rfl, ?_⟩
    have j4 : J k h4 := hJ _ _ _ j (f4.mono fun _ _ x => x.elim)
    have z4 := f4.size
    have r4 : rd h4 h.size = g.v := (f4.rd s3 fun x => x).trans r
    refine cn (fun he => hbad k h4 j4 k0 (by omega) he) fun he => ⟨_, rda r4 rfl, ?_⟩
    rw [wrap_i64 (n := (k : Int) - g.bitmap) (by omega) (by omega), wrap_i64 (n := 4096 * ((k : Int) - g.bitmap)) (by omega) (by omega)]
    rw [show 4096 * ((k : Int) - g.bitmap) = ((4096 * (k - g.bitmap) : Nat) : Int) by omega]
    refine hv_mono (hD k h4 a l c j4 k0 (by omega) he s.str) fun v h5 q => ?_
    obtain ⟨b, rfl, f5, q1, q2⟩ := q
    refine ⟨b, rfl, cnot ?_⟩
    cases b with
    | true =>
      refine ct rfl ?_
      rw [wrap_i64 (n := (k : Int) + 1) (by omega) (by omega)]
      have z5 := f5.size
      refine ⟨⟨k + 1, rfl, by omega, by omega, q1 rfl, (f5.rd (by omega) (by omega)).trans r4, by omega⟩, by show ((g.inodes : Int) - ((k : Int) + 1)).toNat < ((g.inodes : Int) - (k : Int)).toNat; omega⟩
    | false => exact cf rfl (hE h5 (q2 rfl))
  · have : k = g.inodes := by omega
    subst this
    exact hend h3 j
end Go.Proofs.YtcdpakjhjmchhaaGreatDoor.Spc
