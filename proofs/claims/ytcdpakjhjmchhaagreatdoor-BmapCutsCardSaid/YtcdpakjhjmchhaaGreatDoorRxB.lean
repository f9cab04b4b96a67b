/-
  THE DOCUMENT'S OWN TRANSACTION: what stands in the heap, and what its functions answer.
-/
import Derived.Test.YtcdpakjhjmchhaaGreatDoorRxA
namespace Go.Proofs.YtcdpakjhjmchhaaGreatDoor.Rx
open Go Go.Proofs Go.Proofs.YtcdpakjhjmchhaaGreatDoor.Wx Go.Proofs.YtcdpakjhjmchhaaGreatDoor.Hp Go.Proofs.YtcdpakjhjmchhaaGreatDoor.W Go.Proofs.YtcdpakjhjmchhaaGreatDoor.Ad Go.Proofs.YtcdpakjhjmchhaaGreatDoor.Tm Go.Proofs.YtcdpakjhjmchhaaGreatDoor.Spc Go.Proofs.YtcdpakjhjmchhaaGreatDoor.Re

theorem newS_intro {bs : Txt} {t : Nat} {h : Heap} {k : Nat → Heap → Prop} (H : ∀ cap h', Fr No h h' → Sl h' 1 (some ⟨h.size, 0, none⟩) bs.length cap (bs.map bv) (fun b => b = h.size) → k cap h') : NewS (mkStr bs) t h k := by
  intro cap hcap
  have hcap : bs.length ≤ cap := hcap
  show k cap (newS h ((mkStr bs).toList.map bv ++ List.replicate (cap - bs.length) (bv 0)) t)
  rw [toList_mkStr]
  generalize hcs : bs.map bv ++ List.replicate (cap - bs.length) (bv 0) = cs
  have hg : (newS h cs t)[h.size]? = some (.cells ⟨cs⟩ t (cs.length, cs.length + 1)) := by simp [newS]
  have hr : rd (newS h cs t) h.size = cs := by simp only [rd, hg]
  refine H cap _ ⟨by simp [newS], fun x hx _ => by simp [newS, Array.getElem?_push, show x ≠ h.size by omega]⟩ ⟨by rw [List.length_map, Nat.mul_one], rfl, rfl, ⟨_, _, _, hg, .inr (Nat.le_refl _)⟩, hcap, ?_, ?_⟩
  · show ((rd (newS h cs t) h.size).drop 0).take _ = _
    rw [hr, ← hcs, List.drop_zero]; exact List.take_left
  · show 0 + cap * 1 ≤ (rd (newS h cs t) h.size).length
    rw [hr, ← hcs, List.length_append, List.length_map, List.length_replicate]; omega
def dcell (p : Int × Txt) : List Value := [.int .i64 p.1, .string (mkStr p.2)]
theorem dcell_one (p : Int × Txt) : ∀ v ∈ dcell p, v.oneCell' = true := one2 rfl rfl
structure RR where
  rb : Nat
  eb : Nat
  fa : Option Addr
  fn : Nat
  fc : Nat
  ra : Option Addr
  rc : Nat
  ka : Option Addr
  kn : Nat
  kc : Nat
structure RxC (h : Heap) (col : Nat → Nat) (R : RR) (M : RM) : Prop where
  nrm : ∀ b, h.size ≤ b → col b = 0
  rc : col R.rb = 1
  ro : Own h R.rb
  rr : rd h R.rb = [.pointer (some ⟨R.eb, 0, none⟩), .slice R.ra M.row.length R.rc, .bool M.ends]
  ec : col R.eb = 2
  eo : Own h R.eb
  er : rd h R.eb = [.slice R.fa R.fn R.fc, .slice none 0 0, .slice R.ka R.kn R.kc, .int .i64 0, .bool M.out, .int .i64 0, .int .i64 0]
  f : Sl h 1 R.fa R.fn R.fc (M.first.map bv) (On col 3)
  fm : R.fn ≤ 8388608
  row : Sl h 2 R.ra M.row.length R.rc (M.row.flatMap dcell) (On col 4)
  rm : M.row.length ≤ 1000000000
def Rx (h : Heap) (F : Nat → Prop) (r e : Option Addr) (M : RM) : Prop := ∃ col R, r = some ⟨R.rb, 0, none⟩ ∧ e = some ⟨R.eb, 0, none⟩ ∧ RxC h col R M ∧ ∀ b, F b ↔ 1 ≤ col b ∧ col b ≤ 4
theorem RxC.fn {h : Heap} {col : Nat → Nat} {R : RR} {M : RM} (X : RxC h col R M) : R.fn = M.first.length := by have := X.f.1; rw [List.length_map] at this; omega
theorem RxC.keep {h h' : Heap} {col : Nat → Nat} {R : RR} {M : RM} {G : Nat → Prop} (X : RxC h col R M) (f : Fr G h h') (hG : ∀ b, b < h.size → 1 ≤ col b → col b ≤ 4 → ¬ G b) : RxC h' col R M := by
  have c1 := X.rc
  have c2 := X.ec
  have l1 := X.ro.lt
  have l2 := X.eo.lt
  have g1 := hG _ l1 (by omega) (by omega)
  have g2 := hG _ l2 (by omega) (by omega)
  exact ⟨fun b hb => X.nrm b (Nat.le_trans f.size hb), c1, f.own l1 g1 X.ro, (f.rd l1 g1).trans X.rr, c2, f.own l2 g2 X.eo, (f.rd l2 g2).trans X.er,
    X.f.fr f (fun b hb e => hG b hb (by have e : col b = 3 := e; omega) (by have e : col b = 3 := e; omega)), X.fm, X.row.fr f (fun b hb e => hG b hb (by have e : col b = 4 := e; omega) (by have e : col b = 4 := e; omega)), X.rm⟩
theorem Rx.fr {h h' : Heap} {F G : Nat → Prop} {r e : Option Addr} {M : RM} (x : Rx h F r e M) (f : Fr G h h') (hG : ∀ b, F b → ¬ G b) : Rx h' F r e M := by
  obtain ⟨col, R, e1, e2, X, hF⟩ := x
  exact ⟨col, R, e1, e2, X.keep f fun b _ h1 h2 => hG b ((hF b).mpr ⟨h1, h2⟩), hF⟩
theorem Rx.no {h h' : Heap} {F : Nat → Prop} {r e : Option Addr} {M : RM} (x : Rx h F r e M) (f : Fr No h h') : Rx h' F r e M := x.fr f fun _ _ y => y
theorem Rx.lt {h : Heap} {F : Nat → Prop} {r e : Option Addr} {M : RM} (x : Rx h F r e M) {b : Nat} (hb : F b) : b < h.size := by
  obtain ⟨col, R, e1, e2, X, hF⟩ := x
  rcases Nat.lt_or_ge b h.size with y | y
  · exact y
  · have := X.nrm b y; have := (hF b).mp hb; omega
/-! the disk alone -/
def Rd (h : Heap) (D : Nat → Prop) (q : Option Addr) (bs : Txt) : Prop := ∃ eb fa fn fc, q = some ⟨eb, 0, none⟩ ∧ D eb ∧ Own h eb ∧ rd h eb = [.slice fa fn fc, .slice none 0 0, .slice none 0 0, .int .i64 0, .bool false, .int .i64 0, .int .i64 0] ∧
  Sl h 1 fa fn fc (bs.map bv) (fun b => D b ∧ b ≠ eb) ∧ fn ≤ 8388608 ∧ ∀ b, D b → b < h.size
theorem Rd.no {h h' : Heap} {D : Nat → Prop} {q : Option Addr} {bs : Txt} (x : Rd h D q bs) (f : Fr No h h') : Rd h' D q bs := by
  obtain ⟨eb, fa, fn, fc, e, d, o, r, s, m, l⟩ := x
  exact ⟨eb, fa, fn, fc, e, d, f.own o.lt (fun y => y) o, (f.rd o.lt fun y => y).trans r, s.fr f (fun _ _ _ y => y), m, fun b hb => Nat.lt_of_lt_of_le (l b hb) f.size⟩
theorem copied_spec {a : Option Addr} {l c : Nat} {bs : List UInt8} {h : Heap} {K : Value → Heap → Prop} (B : StrAt h a l bs) (hl : l ≤ 140737488355328)
    (hK : ∀ a' c' h', Fr No h h' → Sl h' 1 a' l c' (bs.map bv) (From h.size) → K (.slice a' l c') h') : C.boleref03_copied a l c h K := by
  obtain ⟨s1, s2, s3⟩ := StrAt.src B
  refine boleref03_copied.ok ⟨_, s1, s2, s3, append_nil s1 rfl (by show l * 1 ≤ _; omega) hl hK⟩
theorem sl_rng {h : Heap} {ec l c : Nat} {a : Option Addr} {xs : List Value} {F : Nat → Prop} (s : Sl h ec a l c xs F) : Sl h ec a l c xs (fun b => F b ∧ b < h.size) := by
  obtain ⟨h1, h2⟩ := s
  refine ⟨h1, ?_⟩
  cases a with
  | none => exact h2
  | some p => exact ⟨h2.1, ⟨h2.2.1, h2.2.2.1.lt⟩, h2.2.2.1, h2.2.2.2.1, h2.2.2.2.2⟩
theorem Of_spec {a : Option Addr} {l c : Nat} {bs : List UInt8} {h : Heap} {K : Value → Heap → Prop} (B : StrAt h a l bs) (h0 : 0 < l) (hm : l % 512 = 0) (hl : l ≤ 8388608)
    (hK : ∀ q h' D, Fr No h h' → Rd h' D (some q) bs → (∀ b, D b → h.size ≤ b) → K (.tuple #[.pointer (some q), .int .i64 0]) h') : C.boleref03_Of a l c h K := by
  have hbl := B.1
  have hd : Int.tdiv (l : Int) 512 = ((l / 512 : Nat) : Int) := by rw [Int.tdiv_eq_ediv_of_nonneg (by omega)]; omega
  have hmd : Int.tmod (l : Int) 512 = ((l % 512 : Nat) : Int) := by rw [Int.tmod_eq_emod_of_nonneg (by omega)]; omega
  have hw : IntKind.wrap .i64 (Int.tdiv (l : Int) 512) = ((l / 512 : Nat) : Int) := by rw [hd]; exact wrap_i64 (by omega) (by omega)
  refine boleref03_Of.ok (ce (fun y => by exfalso; omega) fun _ => cn (fun y => by exfalso; omega) fun _ => ?_)
  rw [hw]
  refine cd (fun z => by exfalso; omega) fun _ => copied_spec B (by omega) fun a' c' h3 f3 s3 => ⟨_, _, _, rfl, New.intro fun h4 n4 => ?_⟩
  have z3 := f3.size
  have z4 := n4.size
  refine hK _ h4 (fun b => h.size ≤ b ∧ b < h4.size) (f3.new n4) ⟨_, a', l, c', rfl, ⟨z3, by omega⟩, n4.own, n4.rd, ?_, hl, fun b hb => hb.2⟩ fun b hb => hb.1
  exact ((sl_rng s3).fr n4.fr fun _ _ _ y => y).mono fun b hb => ⟨⟨hb.1, by have := hb.2; omega⟩, by have := hb.2; omega⟩
theorem Begin_spec {h : Heap} {D : Nat → Prop} {q : Option Addr} {bs : Txt} {K : Value → Heap → Prop} (x : Rd h D q bs)
    (hK : ∀ F h', Fr No h h' → Rx h' F (some ⟨h.size, 0, none⟩) q ⟨bs, false, [], false⟩ → (∀ b, F b ↔ D b ∨ b = h.size) → K (.pointer (some ⟨h.size, 0, none⟩)) h') : C.boleref06_Begin q h K := by
  obtain ⟨eb, fa, fn, fc, rfl, d, o, r, s, m, l⟩ := x
  refine boleref06_Begin.ok (New.intro fun h2 n2 => ?_)
  have z := n2.size
  have el := o.lt
  obtain ⟨col, c1, c2, c3, c4⟩ : ∃ col : Nat → Nat, col h.size = 1 ∧ col eb = 2 ∧ (∀ b, D b → b ≠ eb → col b = 3) ∧ ∀ b, ¬ D b → b ≠ h.size → col b = 0 :=
    ⟨fun b => if b = h.size then 1 else if b = eb then 2 else @ite _ (D b) (Classical.propDecidable _) 3 0, if_pos rfl, (by show (if eb = h.size then 1 else if eb = eb then 2 else @ite _ (D eb) (Classical.propDecidable _) 3 0) = 2; rw [if_neg (by omega), if_pos rfl]),
      (fun b hb hne => by have := l b hb; show (if b = h.size then 1 else if b = eb then 2 else @ite _ (D b) (Classical.propDecidable _) 3 0) = 3; rw [if_neg (by omega), if_neg hne, if_pos hb]), (fun b hb hne => by show (if b = h.size then 1 else if b = eb then 2 else @ite _ (D b) (Classical.propDecidable _) 3 0) = 0; rw [if_neg hne, if_neg (fun e => hb (by rw [e]; exact d)), if_neg hb])⟩
  refine hK (fun b => 1 ≤ col b ∧ col b ≤ 4) h2 n2.fr ⟨col, ⟨h.size, eb, fa, fn, fc, none, 0, none, 0, 0⟩, rfl, rfl, ⟨fun b hb => c4 b (fun y => by have := l b y; omega) (by omega), c1, n2.own, n2.rd, c2, n2.ow o, (n2.at_ el).trans r,
    (s.fr n2.fr fun _ _ _ y => y).mono fun b hb => c3 b hb.1 hb.2, m, Sl.nil _ _ _, Nat.zero_le _⟩, fun b => Iff.rfl⟩ fun b => ⟨fun hb => ?_, fun hb => ?_⟩
  · by_cases y : D b
    · exact .inl y
    · refine .inr (Classical.byContradiction fun ne => ?_)
      have := c4 b y ne; omega
  · rcases hb with y | rfl
    · by_cases e : b = eb
      · subst e; omega
      · have := c3 b y e; omega
    · omega
/-! its functions -/
theorem RxC.dcell {h : Heap} {col : Nat → Nat} {R : RR} {M : RM} (X : RxC h col R M) {j : Nat} (hj : j < M.row.length) : ∃ p, R.ra = some p ∧ Cells h (p.add (j * 2)) (dcell M.row[j]) := by
  obtain ⟨p, ep, cc⟩ := X.row.get (by omega)
  refine ⟨p, ep, ?_⟩
  have := Cells.take (Cells.drop cc (j * 2)) 2
  rw [flat_part Rx.dcell 2 M.row (fun x _ => rfl) j hj] at this
  exact this
theorem Blocks_spec {h : Heap} {col : Nat → Nat} {R : RR} {M : RM} {K : Value → Heap → Prop} (X : RxC h col R M) (hK : K (.int .i64 M.N) h) : C.boleref03_Disk_Blocks (some ⟨R.eb, 0, none⟩) h K := by
  refine boleref03_Disk_Blocks.ok (os ⟨_, _, _, rda X.er rfl, ?_⟩)
  have hm := X.fm
  have e := X.fn
  have hd : Int.tdiv (R.fn : Int) 512 = ((M.N : Nat) : Int) := by unfold RM.N; rw [← e, Int.tdiv_eq_ediv_of_nonneg (by omega)]; omega
  have hN : M.N ≤ R.fn := by unfold RM.N; omega
  rw [hd, wrap_i64 (by omega) (by omega)]; exact hK
def AtR (row : List (Int × Txt)) (i : Int) (a : Int) : Prop := (a = -1 ∧ lget row i = none) ∨ ∃ k : Nat, ∃ hk : k < row.length, a = k ∧ lget row i = some row[k].2
theorem put_spec {h : Heap} {col : Nat → Nat} {R : RR} {M : RM} {i : Int} {K : Value → Heap → Prop} (X : RxC h col R M) (hK : ∀ a, AtR M.row i a → K (.int .i64 a) h) : C.boleref06_Txn_put (some ⟨R.rb, 0, none⟩) i h K := by
  have rm := X.rm
  refine boleref06_Txn_put.ok ⟨fun a k hh => ∃ j : Nat, k = j ∧ j ≤ M.row.length ∧ h = hh ∧ ((a = -1 ∧ lget (M.row.take j) i = none) ∨ ∃ k : Nat, ∃ hk : k < M.row.length, a = k ∧ lget (M.row.take j) i = some M.row[k].2), fun _ k _ => ((M.row.length : Int) - k).toNat,
    ⟨0, rfl, Nat.zero_le _, rfl, .inl ⟨rfl, rfl⟩⟩, ?_⟩
  rintro a k _ ⟨j, rfl, hj, rfl, ha⟩
  refine os ⟨_, _, _, rda X.rr rfl, cd (fun hl => ?_) fun hl => ?_⟩
  · have hl' : j < M.row.length := by omega
    obtain ⟨p, ep, cc⟩ := X.dcell hl'
    refine os ⟨_, _, _, rda X.rr rfl, ⟨by omega, hl⟩, oe ep ⟨_, Cells.cell cc rfl, ?_⟩⟩
    have es : lget (M.row.take (j + 1)) i = if M.row[j].1 = i then some M.row[j].2 else lget (M.row.take j) i := by rw [take_snoc _ _ hl', lget_snoc]
    have ew : IntKind.wrap .i64 ((j : Int) + 1) = ((j + 1 : Nat) : Int) := by rw [wrap_i64 (by omega) (by omega)]; omega
    rw [ew]
    refine ce (fun e => ⟨⟨j + 1, rfl, hl', rfl, .inr ⟨j, hl', rfl, by rw [es, if_pos e]⟩⟩, (by show ((M.row.length : Int) - ((j + 1 : Nat) : Int)).toNat < ((M.row.length : Int) - (j : Int)).toNat; omega)⟩) fun e => ⟨⟨j + 1, rfl, hl', rfl, ?_⟩, (by show ((M.row.length : Int) - ((j + 1 : Nat) : Int)).toNat < ((M.row.length : Int) - (j : Int)).toNat; omega)⟩
    rw [es, if_neg e]; exact ha
  · have e : j = M.row.length := by omega
    subst e
    rw [List.take_length] at ha
    exact hK a ha
theorem AtR.neg {row : List (Int × Txt)} {i a : Int} (x : AtR row i a) : a < 0 ↔ lget row i = none := by
  rcases x with ⟨rfl, e⟩ | ⟨k, hk, rfl, e⟩
  · exact ⟨fun _ => e, fun _ => by decide⟩
  · exact ⟨fun y => by omega, fun y => by rw [y] at e; cases e⟩
theorem dRead_spec {h : Heap} {col : Nat → Nat} {R : RR} {M : RM} {i : Int} {K : Value → Heap → Prop} (X : RxC h col R M) (h0 : 0 ≤ i) (h1 : i < M.N)
    (hK : ∀ a l c h', Fr No h h' → l = (if M.out = true then ([] : Txt) else (M.first.drop (i.toNat * 512)).take 512).length → Sl h' 1 a l c ((if M.out = true then ([] : Txt) else (M.first.drop (i.toNat * 512)).take 512).map bv) (From h.size) → K (.tuple #[.slice a l c, .int .i64 (if M.out = true then 30 else 0)]) h') :
    C.boleref03_Disk_Read (some ⟨R.eb, 0, none⟩) i h K := by
  have hm := X.fm
  have e := X.fn
  have hN : M.N * 512 ≤ R.fn := by unfold RM.N; rw [← e]; omega
  refine boleref03_Disk_Read.ok (os ⟨_, rda X.er rfl, ?_⟩)
  cases ho : M.out with
  | true =>
    rw [ho] at hK
    exact ct rfl (hK none 0 0 h (Fr.refl _ _) rfl (Sl.nil _ _ _))
  | false =>
    rw [ho, if_neg (by simp), if_neg (by simp)] at hK
    refine cf rfl (cd (fun y => by exfalso; omega) fun _ => Blocks_spec X ⟨_, rfl, cd (fun y => by exfalso; omega) fun _ => ?_⟩)
    unfold boleref03_Disk_Read.k1
    refine os ⟨_, _, _, rda X.er rfl, fun j hh => j = -1 ∧ h = hh, fun _ _ => 0, ⟨by decide, rfl⟩, ?_⟩
    rintro _ _ ⟨rfl, rfl⟩
    refine cd (fun y => absurd y (by decide)) fun _ => os ⟨_, _, _, rda X.er rfl, ?_⟩
    rw [wrap_i64 (n := i * 512) (by omega) (by omega), wrap_i64 (n := i * 512 + 512) (by omega) (by omega)]
    have hc := X.f.le
    refine ⟨⟨by omega, by omega, by omega⟩, ?_⟩
    have B := StrAt.cut X.f.str hc (i := (i * 512).toNat) (j := (i * 512 + 512).toNat) (by omega) (by omega)
    rw [show (i * 512 + 512).toNat - (i * 512).toNat = 512 by omega] at B ⊢
    refine copied_spec B (by omega) fun a' c' h6 f6 s6 => ⟨_, _, _, rfl, ?_⟩
    rw [show (i * 512).toNat = i.toNat * 512 by omega] at s6
    refine hK a' 512 c' h6 f6 ?_ s6
    rw [List.length_take, List.length_drop]; omega
theorem Read_rspec {h : Heap} {F : Nat → Prop} {r e : Option Addr} {M : RM} {i : Int} {K : Value → Heap → Prop} (x : Rx h F r e M)
    (hK : ∀ a l c h', Fr No h h' → l = (M.read i).1.length → Sl h' 1 a l c ((M.read i).1.map bv) (From h.size) → K (.tuple #[.slice a l c, .int .i64 (M.read i).2]) h') : C.boleref06_Txn_Read r i h K := by
  obtain ⟨col, R, rfl, rfl, X, hF⟩ := x
  have bad : ∀ e, M.read i = ([], e) → K (.tuple #[.slice none 0 0, .int .i64 e]) h := fun e h2 => by
    rw [h2] at hK
    exact hK none 0 0 h (Fr.refl _ _) rfl (Sl.nil _ _ _)
  refine boleref06_Txn_Read.ok (os ⟨_, rda X.rr rfl, ?_⟩)
  cases he : M.ends with
  | true => exact ct rfl (bad _ (by unfold RM.read; rw [if_pos he]))
  | false =>
    have e0 : M.read i = if i < 0 ∨ i ≥ M.N then (([], 31) : Txt × Int) else match lget M.row i with
      | some b => (b, 0)
      | none => if M.out = true then ([], 30) else ((M.first.drop (i.toNat * 512)).take 512, 0) := by unfold RM.read; rw [if_neg (by rw [he]; simp)]; rfl
    refine cf rfl (cd (fun y => bad _ (by rw [e0, if_pos (.inl y)])) fun y0 => os ⟨_, rda X.rr rfl, Blocks_spec X ⟨_, rfl, cd (fun y => bad _ (by rw [e0, if_pos (.inr y)])) fun y1 => ?_⟩⟩)
    rw [if_neg (by omega)] at e0
    unfold boleref06_Txn_Read.k1
    refine put_spec X fun a ha => ⟨_, rfl, cd (fun y => ?_) fun y => ?_⟩
    · rcases ha with ⟨rfl, _⟩ | ⟨k, hk, rfl, eg⟩
      · exact absurd y (by decide)
      · rw [eg] at e0
        simp only at e0
        rw [e0] at hK
        obtain ⟨p, ep, cc⟩ := X.dcell hk
        refine os ⟨_, _, _, rda X.rr rfl, ⟨by omega, by omega⟩, oe ep ⟨_, Cells.cell cc rfl, newS_intro fun cap h5 f5 s5 => ?_⟩⟩
        exact hK _ _ cap h5 f5 rfl (s5.mono fun b hb => by have hb : b = h.size := hb; show h.size ≤ b; omega)
    · have eg : lget M.row i = none := ha.neg.mp (by omega)
      rw [eg] at e0
      simp only at e0
      refine os ⟨_, rda X.rr rfl, dRead_spec X (by omega) (by omega) fun a l c h6 f6 hl s6 => ⟨_, _, _, _, rfl, ?_⟩⟩
      rw [e0] at hK
      cases ho : M.out with
      | true => rw [ho] at hK hl s6; exact hK a l c h6 f6 hl s6
      | false => rw [ho] at hK hl s6; exact hK a l c h6 f6 hl s6
theorem Mark_rspec {h : Heap} {F : Nat → Prop} {r e : Option Addr} {M : RM} {K : Value → Heap → Prop} (x : Rx h F r e M)
    (hK : K (.tuple #[.int .i64 (if M.ends = true then ((0 : Int), (61 : Int)) else ((M.row.length : Int), 0)).1, .int .i64 (if M.ends = true then ((0 : Int), (61 : Int)) else ((M.row.length : Int), 0)).2]) h) : C.boleref06_Txn_Mark r h K := by
  obtain ⟨col, R, rfl, rfl, X, hF⟩ := x
  refine boleref06_Txn_Mark.ok (os ⟨_, rda X.rr rfl, ?_⟩)
  cases he : M.ends with
  | true => rw [he] at hK; exact ct rfl hK
  | false => rw [he] at hK; exact cf rfl (os ⟨_, _, _, rda X.rr rfl, hK⟩)
end Go.Proofs.YtcdpakjhjmchhaaGreatDoor.Rx
