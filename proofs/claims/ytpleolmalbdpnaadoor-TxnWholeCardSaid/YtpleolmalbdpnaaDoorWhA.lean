/-
  THE LAWS OF bolelaw05: helpers.
-/
import Derived.Test.YtpleolmalbdpnaaDoorWhP
import Derived.Test.YtpleolmalbdpnaaDoorAdT
import Derived.Test.YtpleolmalbdpnaaDoorTmD
namespace Go.Proofs.YtpleolmalbdpnaaDoor.Wc
open Go Go.Proofs Go.Proofs.YtpleolmalbdpnaaDoor.Wx Go.Proofs.YtpleolmalbdpnaaDoor.Hp Go.Proofs.YtpleolmalbdpnaaDoor.W Go.Proofs.YtpleolmalbdpnaaDoor.Ad Go.Proofs.YtpleolmalbdpnaaDoor.Pn

theorem newF_spec {n : Int} {h : Heap} {K : Value → Heap → Prop} (h1 : 1 ≤ n) (h2 : n ≤ 16384)
    (hK : ∀ q h' D, Fr No h h' → (∀ b, D b → h.size ≤ b) → DiskF h' D (some q) (fresh (List.replicate n.toNat zeroBlk)) → K (.tuple #[.pointer (some q), .int .i64 0]) h') : C.adisk_New n h K := by
  refine New_spec (fun _ => 0) 1 (fun y => by omega) fun _ _ q h' col' f g a => ?_
  refine hK q h' _ f (fun b hb => ?_) (DiskF.mk a)
  rcases Nat.lt_or_ge b h.size with h1 | h1
  · have e : col' b = 0 := g b h1
    omega
  · exact h1
theorem diskImage {h : Heap} {D : Nat → Prop} {d : Option Addr} {S : RD} {K : Value → Heap → Prop} (A : DiskF h D d S) (hK : ∀ a c h', Fr No h h' → Sl h' 1 a (S.lasts.length * 512) c (S.lasts.flatten.map bv) (From h.size) → K (.slice a (S.lasts.length * 512) c) h') : C.adisk_Disk_Image d h K := by
  obtain ⟨col, A, _⟩ := A
  exact Image_spec A hK
theorem diskSteps {h : Heap} {D : Nat → Prop} {d : Option Addr} {S : RD} {K : Value → Heap → Prop} (A : DiskF h D d S) (hK : K (.tuple #[.int .i64 S.writes, .int .i64 S.flushes]) h) : C.adisk_Disk_Steps d h K := by
  obtain ⟨col, A, _⟩ := A
  exact Steps_spec A hK
theorem diskTape {h : Heap} {D : Nat → Prop} {d : Option Addr} {n : Int} {S : RD} {K : Value → Heap → Prop} (A : DiskF h D d S) (ht : S.tape.length < 1000000000) (hw : ∀ x ∈ S.tape, x.2.2.length ≤ 140737488355328)
    (hK : ∀ a l c h' (xs : List Ent), Fr No h h' → SlCells h' a (xs.flatMap Ent.cells) → xs.length = l → (S.tape.drop n.toNat).length = l → (∀ i (h1 : i < xs.length) (h2 : i < (S.tape.drop n.toNat).length), xs[i].kind = (S.tape.drop n.toNat)[i].1 ∧ xs[i].at_ = (S.tape.drop n.toNat)[i].2.1) → K (.slice a l c) h') : C.adisk_Disk_Tape d n h K := by
  obtain ⟨col, A, _⟩ := A
  refine Tape_spec A ht hw fun a l c h' col' xs f t => hK a l c h' xs f t.sl.cells (by rw [Ents.length t.es]; exact t.num) t.num fun i h1 h2 => ?_
  obtain ⟨x, y, _⟩ := Ents.at_ t.es i h1 h2
  exact ⟨x, y⟩
theorem diskPending {h : Heap} {D : Nat → Prop} {d : Option Addr} {S : RD} {K : Value → Heap → Prop} (A : DiskF h D d S) (hp : S.pend.length < 1000000000) (hK : ∀ a c h', Fr No h h' → K (.slice a S.pend.length c) h') : C.adisk_Disk_Pending d h K := by
  obtain ⟨col, A, _⟩ := A
  exact Pending_spec A hp fun a c h' f _ => hK a c h' f
/-- a disk in memory that was not there at h0 -/
structure Dz (h0 hh : Heap) (D : Nat → Prop) (d : Option Addr) (S : RD) : Prop where
  f : Fr No h0 hh
  A : DiskF hh D d S
  nf : ∀ b, D b → h0.size ≤ b
theorem Dz.no {h0 hh hh' : Heap} {D : Nat → Prop} {d : Option Addr} {S : RD} (a : Dz h0 hh D d S) (f : Fr No hh hh') : Dz h0 hh' D d S := ⟨a.f.no f, a.A.no f, a.nf⟩
theorem Dz.call {h0 hh hh' : Heap} {D D' : Nat → Prop} {d : Option Addr} {S S' : RD} (a : Dz h0 hh D d S) (f : Fr D hh hh') (g : Gw hh D hh' D') (A : DiskF hh' D' d S') : Dz h0 hh' D' d S' := by
  have z := a.f.size
  exact ⟨a.f.trans f fun b hb y => by have := a.nf b y; omega, A, fun b y => (g.new y).elim (a.nf b) fun q => by omega⟩
theorem Dz.readLen {h0 hh : Heap} {D : Nat → Prop} {d : Option Addr} {S : RD} (a : Dz h0 hh D d S) : ∀ i < S.lasts.length, (readAt S i).length = 512 := fun i hi => Spc.DiskF.readLen a.A hi
theorem Dz.lasts {h0 hh : Heap} {D : Nat → Prop} {d : Option Addr} {S : RD} (a : Dz h0 hh D d S) : ∀ x ∈ S.lasts, x.length = 512 := a.A.max.2
def fill (x : UInt8) : List UInt8 := List.replicate 512 x
theorem block_spec {x : UInt8} {h : Heap} {K : Value → Heap → Prop} (hK : ∀ a c h', Fr No h h' → Sl h' 1 a 512 c ((fill x).map bv) (From h.size) → K (.slice a 512 c) h') : C.bolelaw05_block none 0 0 (x.toNat : Int) h K := by
  refine bolelaw05_block.ok ⟨fun a l c i hh => ∃ k : Nat, i = k ∧ k ≤ 512 ∧ l = k ∧ Fr No h hh ∧ Sl hh 1 a l c ((List.replicate k x).map bv) (From h.size), fun _ _ _ i _ => (512 - i).toNat, ⟨0, rfl, Nat.zero_le _, rfl, Fr.refl _ _, Sl.nil _ _ _⟩, ?_⟩
  rintro a l c i h2 ⟨k, ei, hk, rfl, f2, s2⟩
  have z2 := f2.size
  refine cd (fun hlt => cd (fun y => absurd y (by omega)) fun _ => ?_) fun hlt => ?_
  · refine New.intro fun h5 n5 => ?_
    have z5 := n5.size
    refine ⟨[bv x], rfl, cellsAll n5.rd, fun v hv => by rw [List.mem_singleton.mp hv]; rfl, ?_⟩
    have s5 : Sl h5 1 a l c ((List.replicate l x).map bv) (From h.size) := s2.fr n5.fr fun _ _ _ y => y
    refine append_own (elem := ti5) s5 rfl rfl (by show (l + 1) * 1 ≤ _; omega) (by omega) fun a' c' h6 f6 s6 => ?_
    rw [wrap_i64 (by omega) (by omega)]
    refine ⟨⟨l + 1, by omega, by omega, rfl, (f2.new n5).trans f6 fun b hb y => by have y : h.size ≤ b := y; omega, ?_⟩, by show ((512 : Int) - (i + 1)).toNat < ((512 : Int) - i).toNat; omega⟩
    rw [List.replicate_succ', List.map_append]
    exact s6.mono fun b y => y.elim id fun q => by show h.size ≤ b; omega
  · have : l = 512 := by omega
    subst this
    exact hK a c h2 f2 s2
theorem flat_get : ∀ {ls : List (List UInt8)} (_ : ∀ x ∈ ls, x.length = 512) (i : Nat) {j : Nat} (_ : j < 512), ls.flatten[i * 512 + j]? = (ls[i]?).bind fun b => b[j]?
  | [], _, _, _, _ => by simp
  | a :: r, h, i, j, hj => by
    have ha := h a (List.mem_cons_self ..)
    rw [List.flatten_cons]
    cases i with
    | zero => rw [Nat.zero_mul, Nat.zero_add, List.getElem?_append_left (by omega)]; rfl
    | succ i =>
      rw [List.getElem?_append_right (by omega), show (i + 1) * 512 + j - a.length = i * 512 + j by omega, flat_get (fun x hx => h x (List.mem_cons_of_mem _ hx)) i hj]; rfl
/-- a commit on a disk that is clean -/
theorem wal_clean {S : RD} {l : Nb} (c : Clean S) (hw : 0 ≤ S.writes ∧ S.writes ≤ 10000000) (hf : 0 ≤ S.flushes ∧ S.flushes ≤ 10000000) (hne : l ≠ []) (hmay : mayW l S.lasts.length = true) (h5 : ∀ p ∈ l, p.2.length = 512) :
    ∃ S', wal S l = (S', 0) ∧ Done S S' l (hdrOf l) ∧ Clean S' ∧ S'.tape = S.tape ++ (commitS l (hdrOf l)).map Stp.ent := by
  have hm := hmay
  unfold mayW at hm
  rw [Bool.and_eq_true] at hm
  have hl : l.length ≤ 96 := by have := of_decide_eq_true hm.2; omega
  have hr := Hd.okGo_mem _ _ hm.1
  have hin : InDisk S l := fun p hp => by
    have := hr p.1 (List.mem_map.mpr ⟨p, hp, rfl⟩)
    exact ⟨by omega, this.2, h5 p hp⟩
  have hall : (l.map (·.2)).all (fun d => d.length == 512) = true := List.all_eq_true.mpr fun d hd => by
    obtain ⟨p, h1, rfl⟩ := List.mem_map.mp hd
    exact beq_iff_eq.mpr (h5 p h1)
  have hh : (hdrOf l).length = 512 := Hd.laid_length _ _ (by rw [List.length_map]; omega)
  obtain ⟨S', d, e⟩ := run_commit l (hdrOf l) S c.q hin hh c.n hl hw.1 (by omega) hf.1 (by omega)
  refine ⟨S', ?_, d, ⟨d.q, d.pend, by rw [d.n]; exact c.n, ?_⟩, run_tape _ _ _ c.q e⟩
  · unfold wal
    rw [if_neg hne, hmay, if_neg (by simp), hall, if_neg (by simp), c.q.down, if_neg (by simp), e]
  · rw [d.lasts]
    show ((applyTo _ l).set ((1 : Int)).toNat (Hd.zeros 512))[1]? = _
    refine List.getElem?_set_self ?_
    rw [applyTo_length, applyTo_length, applyTo_length]
    have := c.n
    omega
/-! fixed -/
def twoL : Nb := [(98, fill 65), (99, fill 66)]
theorem fresh_clean {n : Nat} (h : 98 ≤ n) : Clean (fresh (List.replicate n zeroBlk)) := by
  refine ⟨⟨rfl, rfl⟩, rfl, by show 98 ≤ (List.replicate n zeroBlk).length; rw [List.length_replicate]; exact h, ?_⟩
  show (List.replicate n zeroBlk)[1]? = _
  rw [List.getElem?_replicate, if_pos (by omega)]; rfl
theorem fixed_plain : ∃ S', wal (fresh (List.replicate 100 zeroBlk)) twoL = (S', 0) ∧ Clean S' ∧ S'.lasts.length = 100 ∧ readAt S' 98 = fill 65 ∧ readAt S' 3 = fill 66 ∧ S'.writes = 6 ∧ S'.flushes = 4 ∧ S'.lasts[98]? = some (fill 65) ∧ S'.tape.length ≤ 100 := by
  have c := fresh_clean (n := 100) (by decide)
  have l0 : (fresh (List.replicate 100 zeroBlk)).lasts.length = 100 := List.length_replicate
  have f5 : ∀ x, (fill x).length = 512 := fun x => List.length_replicate
  obtain ⟨S', e, d, c', et⟩ := wal_clean (l := twoL) c ⟨Int.le_refl 0, by show (0 : Int) ≤ 10000000; decide⟩ ⟨Int.le_refl 0, by show (0 : Int) ≤ 10000000; decide⟩ (by intro y; cases y) (by rw [l0]; rfl) (fun p hp => by
    rcases List.mem_cons.mp hp with rfl | hp
    · exact f5 _
    · rw [List.mem_singleton.mp hp]; exact f5 _)
  have n1 : S'.lasts.length = 100 := by rw [d.n, l0]
  have hge : ∀ x ∈ twoL, 98 ≤ x.1 := fun x hx => by
    rcases List.mem_cons.mp hx with rfl | hx
    · exact Int.le_refl _
    · rw [List.mem_singleton.mp hx]; show (98 : Int) ≤ 99; omega
  have g98 : S'.lasts[98]? = some (fill 65) := d.put hge (i := 98) (by omega) (by rw [l0]; omega) (List.mem_cons_self ..) fun c hc => by
    rcases List.mem_cons.mp hc with hc | hc
    · exact congrArg Prod.snd hc
    · have hc := congrArg Prod.fst (List.mem_singleton.mp hc)
      have hc : (98 : Int) = 99 := hc
      omega
  have g3 : S'.lasts[3]? = some (fill 66) := by
    rw [d.lasts, applyTo_get (fun p hp => by rw [List.mem_singleton.mp hp]; show (1 : Int) ≠ (3 : Nat) ∧ (0 : Int) ≤ 1; omega), applyTo_get (fun p hp => by have := hge p hp; omega), applyTo_get (fun p hp => by rw [List.mem_singleton.mp hp]; show (1 : Int) ≠ (3 : Nat) ∧ (0 : Int) ≤ 1; omega)]
    have el : (fresh (List.replicate 100 zeroBlk)).pend ++ logL twoL = [(2, fill 65), (3, fill 66)] := rfl
    rw [el]
    refine applyTo_of (by rw [l0]; omega) (List.mem_cons_of_mem _ (List.mem_singleton.mpr rfl)) (fun c hc => ?_) fun p hp => ?_
    · rcases List.mem_cons.mp hc with hc | hc
      · have hc := congrArg Prod.fst hc
        have hc : ((3 : Nat) : Int) = 2 := hc
        omega
      · exact congrArg Prod.snd (List.mem_singleton.mp hc)
    · rcases List.mem_cons.mp hp with rfl | hp
      · show (0 : Int) ≤ 2; omega
      · rw [List.mem_singleton.mp hp]; show (0 : Int) ≤ 3; omega
  refine ⟨S', e, c', n1, ?_, ?_, by rw [d.writes]; rfl, by rw [d.flushes]; rfl, g98, ?_⟩
  · rw [read_quiet c'.pend, List.getD_eq_getElem?_getD, g98]; rfl
  · rw [read_quiet c'.pend, List.getD_eq_getElem?_getD, g3]; rfl
  · rw [d.tape]; show (0 : Nat) + 2 * 2 + 6 ≤ 100; omega
theorem byte_at {hh : Heap} {a : Option Addr} {l : Nat} {bs : List UInt8} {k : Nat} {y : UInt8} {Q : Addr → Prop} (B : StrAt hh a l bs) (hk : bs[k]? = some y) (hQ : ∀ p, cellOf hh (Addr.add p k) = some (bv y) → Q p) : onSome a Q := by
  obtain ⟨h1, h2⟩ := B
  cases a with
  | none =>
    have h2 : bs.map bv = [] := h2
    rw [List.map_eq_nil_iff.mp h2] at hk; cases hk
  | some p => exact os (hQ p (h2 k (bv y) (by rw [List.getElem?_map, hk]; rfl)))
theorem fixed_spec {h : Heap} {K : Value → Heap → Prop} (G : Re.Glo h) (hK : ∀ h', Fr No h h' → K (.bool true) h') : C.bolelaw05_fixed h K := by
  refine bolelaw05_fixed.ok (newF_spec (n := 100) (by omega) (by omega) fun q h2 D f2 hD A => ⟨_, _, rfl, cn (fun y => absurd rfl y) fun _ => cf rfl ?_⟩)
  unfold bolelaw05_fixed.k1
  have z2 := f2.size
  refine block_spec (x := 65) fun a1 c1 h3 f3 s3 => ⟨_, _, _, rfl, block_spec (x := 66) fun a2 c2 h4 f4 s4 => ⟨_, _, _, rfl, rfl, rfl, New.intro fun h5 n5 => ?_⟩⟩
  have z3 := f3.size
  have z4 := f4.size
  have z5 := n5.size
  have f25 : Fr No h2 h5 := (f3.no f4).new n5
  have Z5 : Dz h h5 D (some q) (fresh (List.replicate (100 : Int).toNat zeroBlk)) := ⟨f2.no f25, A.no f25, hD⟩
  have hDl : ∀ b, D b → b < h2.size := fun b y => A.lt y
  have s3' : Sl h5 1 a1 512 c1 ((fill 65).map bv) (From h2.size) := (s3.fr f4 fun _ _ _ y => y).fr n5.fr fun _ _ _ y => y
  have s4' : Sl h5 1 a2 512 c2 ((fill 66).map bv) (From h3.size) := s4.fr n5.fr fun _ _ _ y => y
  have away : ∀ {a : Option Addr} {c : Nat} {x : UInt8} {n : Nat}, h2.size ≤ n → Sl h5 1 a 512 c ((fill x).map bv) (From n) → ∀ p, a = some p → p.block < h5.size ∧ ¬ D p.block := fun {a c x n} hn s p e => by
    subst e
    obtain ⟨_, _, g, o, _⟩ := s
    have g : n ≤ p.block := g
    exact ⟨o.lt, fun y => by have := hDl _ y; omega⟩
  have B : Bl h5 D (some ⟨h4.size, 0, none⟩) [(98, ⟨a1, 512, c1⟩, fill 65), (99, ⟨a2, 512, c2⟩, fill 66)] := by
    refine ⟨cellsAll n5.rd, fun p e => ?_, fun r hr => ?_⟩
    · cases e
      exact ⟨by show h4.size < h5.size; omega, fun y => by have y : D h4.size := y; have := hDl _ y; omega⟩
    · rcases List.mem_cons.mp hr with rfl | hr
      · exact ⟨s3'.str, away (Nat.le_refl _) s3'⟩
      · rw [List.mem_singleton.mp hr]
        exact ⟨s4'.str, away z3 s4'⟩
  obtain ⟨S', ew, cl, hn, r98, r3, hw, hf, g98, ht⟩ := fixed_plain
  refine Commit_spec (rs := [(98, ⟨a1, 512, c1⟩, fill 65), (99, ⟨a2, 512, c2⟩, fill 66)]) (G.no Z5.f) Z5.A B (by show 2 < 10000; omega) (by show 0 < 100000000; omega) (by show 0 < 100000000; omega) fun h6 D6 f6 g6 A6 => ?_
  have en : nb [(98, (⟨a1, 512, c1⟩ : Sc), fill 65), (99, ⟨a2, 512, c2⟩, fill 66)] = twoL := rfl
  have e100 : (100 : Int).toNat = 100 := rfl
  rw [en, e100, ew] at A6 ⊢
  have Z6 := Z5.call f6 g6 A6
  refine ⟨_, rfl, diskSteps Z6.A ⟨_, _, rfl, ?_⟩⟩
  refine DiskF.read Z6.A (fun y => absurd (cl.q.down.symm.trans y) (by simp)) (fun _ y => absurd ⟨by omega, by show (98 : Int) < S'.lasts.length; rw [hn]; omega⟩ y) fun _ _ _ b8 h8 f8 s8 _ => ⟨_, _, _, _, rfl, ?_⟩
  have Z8 := Z6.no f8
  refine DiskF.read Z8.A (fun y => absurd (cl.q.down.symm.trans y) (by simp)) (fun _ y => absurd ⟨by omega, by show (3 : Int) < S'.lasts.length; rw [hn]; omega⟩ y) fun _ _ _ b9 h9 f9 s9 _ => ⟨_, _, _, _, rfl, ?_⟩
  have Z9 := Z8.no f9
  have t98 : (98 : Int).toNat = 98 := rfl
  have t3 : (3 : Int).toNat = 3 := rfl
  rw [t98, r98] at s8
  rw [t3, r3] at s9
  refine Recover_spec (G.no Z9.f) Z9.A (by rw [cl.pend]; show 0 < 100000000; omega) (by show S'.tape.length < 100000000; omega) fun h10 D10 f10 g10 A10 => ⟨_, _, rfl, ?_⟩
  rw [cl.recM] at A10 ⊢
  have Z10 := Z9.call f10 g10 A10
  refine Behind_spec (G.no Z10.f) Z10.A Z10.readLen fun a11 l11 c11 h11 f11 s11 => ⟨_, _, _, _, rfl, ?_⟩
  rw [cl.beh] at s11 ⊢
  have Z11 := Z10.no f11
  rw [hw, hf]
  refine ce (fun _ => ce (fun _ => ce (fun _ => ce (fun _ => ?_) fun y => absurd rfl y) fun y => absurd rfl y) fun y => absurd rfl y) fun y => absurd rfl y
  have d6 : ∀ b, D6 b → h.size ≤ b := Z6.nf
  have ow3 : Fr No h5 h6 ∨ True := .inr trivial
  have nd : ∀ {a : Option Addr} {c : Nat} {x : UInt8} {n : Nat}, h2.size ≤ n → Sl h5 1 a 512 c ((fill x).map bv) (From n) → StrAt h11 a 512 (fill x) := fun {a c x n} hn' s => by
    have k6 : StrAt h6 a 512 (fill x) := StrAt.fr f6 s.str fun p e => (away hn' s p e).2
    have k9 : StrAt h9 a 512 (fill x) := StrAt.fr (f8.no f9) k6 fun _ _ y => y
    have z6 := f6.size
    have k10 : StrAt h10 a 512 (fill x) := StrAt.fr f10 k9 fun p e y => (away hn' s p e).2 ((g6.old _ (away hn' s p e).1).mp y)
    exact StrAt.fr f11 k10 fun _ _ y => y
  have b8' : StrAt h11 (some ⟨b8, 0, none⟩) 512 (fill 65) := by
    have z6 := f6.size
    have g8 : h6.size ≤ b8 := s8.2.2.1
    have k9 : StrAt h9 (some ⟨b8, 0, none⟩) 512 (fill 65) := StrAt.fr f9 s8.str fun _ _ y => y
    have k10 : StrAt h10 (some ⟨b8, 0, none⟩) 512 (fill 65) := StrAt.fr f10 k9 fun p e y => by cases e; have y : D6 b8 := y; have := Z6.A.lt y; omega
    exact StrAt.fr f11 k10 fun _ _ y => y
  have b9' : StrAt h11 (some ⟨b9, 0, none⟩) 512 (fill 66) := by
    have z8 := f8.size
    have g9 : h8.size ≤ b9 := s9.2.2.1
    have k10 : StrAt h10 (some ⟨b9, 0, none⟩) 512 (fill 66) := StrAt.fr f10 s9.str fun p e y => by cases e; have y : D6 b9 := y; have := Z6.A.lt y; omega
    exact StrAt.fr f11 k10 fun _ _ y => y
  have same : ∀ {a b : Option Addr} {x : UInt8} {c1 c2 : Nat} {K : Value → Heap → Prop}, StrAt h11 a 512 (fill x) → StrAt h11 b 512 (fill x) → K (.bool true) h11 → C.bolelaw05_sameBytes a 512 c1 b 512 c2 h11 K := fun A B hk => by
    refine bolelaw05_sameBytes.ok ⟨_, A, _, B, ?_⟩
    rw [beq_self_eq_true]; exact hk
  refine same b8' (nd (Nat.le_refl _) s3') ⟨_, rfl, ct rfl (ce (fun _ => ?_) fun y => absurd rfl y)⟩
  refine same b9' (nd z3 s4') ⟨_, rfl, ct rfl (ce (fun _ => ce (fun _ => ce (fun _ => ?_) fun y => absurd rfl y) fun y => absurd rfl y) fun y => absurd rfl y)⟩
  have hls := Z11.lasts
  have fl := flat_len S'.lasts hls
  rw [hn] at fl
  have el : l11 = 51200 := by have := s11.1; rw [List.length_map, fl] at this; omega
  subst el
  have g0 : S'.lasts.flatten[50176]? = some 65 := by
    rw [show 50176 = 98 * 512 + 0 from rfl, flat_get hls 98 (by omega), g98]; rfl
  have g1 : S'.lasts.flatten[512]? = some 0 := by
    rw [show 512 = 1 * 512 + 0 from rfl, flat_get hls 1 (by omega), cl.log]; rfl
  refine ce (fun _ => ⟨⟨by omega, by omega⟩, byte_at s11.str g0 fun p1 hp1 => ⟨_, hp1, ?_⟩⟩) fun y => absurd rfl y
  refine ce (fun _ => ⟨⟨by omega, by omega⟩, byte_at s11.str g1 fun p2 hp2 => ⟨_, hp2, ?_⟩⟩) fun y => absurd rfl y
  exact hK h11 Z11.f
end Go.Proofs.YtpleolmalbdpnaaDoor.Wc
