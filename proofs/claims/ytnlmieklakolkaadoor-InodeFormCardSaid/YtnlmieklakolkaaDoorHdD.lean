/-
  PACKAGE bolelaw04: plans; law HeadBack.
-/
import Derived.Test.YtnlmieklakolkaaDoorHdC
namespace Go.Proofs.YtnlmieklakolkaaDoor.Hd
open Go Go.Proofs Go.Proofs.YtnlmieklakolkaaDoor.Wx Go.Proofs.YtnlmieklakolkaaDoor.Hp Go.Proofs.YtnlmieklakolkaaDoor.W Go.Proofs.YtnlmieklakolkaaDoor.Su Go.Proofs.YtnlmieklakolkaaDoor.Re

theorem same_spec {a b : Option Addr} {l m c c2 : Nat} {ns : List Int} {h : Heap} {K : Value → Heap → Prop} (A : SlCells h a (ints ns)) (B : SlCells h b (ints ns)) (h1 : ns.length = l) (h2 : ns.length = m) (hl : l ≤ 140737488355328) (hK : K (.bool true) h) : C.bolelaw04_same a l c b m c2 h K := by
  refine bolelaw04_same.ok (cn (fun x => absurd (show (l : Int) = m by omega) x) fun _ => ?_)
  refine ⟨fun n hh => 0 ≤ n ∧ n ≤ l ∧ h = hh, fun n _ => ((l : Int) - n).toNat, ⟨by omega, by omega, rfl⟩, ?_⟩
  rintro n _ ⟨n0, n1, rfl⟩
  refine cd (fun hn => ?_) fun _ => hK
  obtain ⟨p, rfl, cp⟩ := ints_get A (i := n.toNat) (by omega)
  obtain ⟨q, rfl, cq⟩ := ints_get B (i := n.toNat) (by omega)
  refine ⟨⟨n0, hn⟩, os ⟨_, cp, ⟨n0, by omega⟩, os ⟨_, cq, cn (fun x => absurd rfl x) fun _ => ?_⟩⟩⟩
  rw [wrap_i64 (by omega) (by omega)]
  exact ⟨⟨by omega, by omega, rfl⟩, falls hn⟩
theorem bv_wrap (n : Int) : (Value.int .u8 (IntKind.wrap .u8 n)) = bv (UInt8.ofNat (n % 256).toNat) := by
  show Value.int .u8 (n % 256) = Value.int .u8 ((UInt8.ofNat (n % 256).toNat).toNat : Int)
  rw [UInt8.toNat_ofNat']
  congr 1
  have := Int.emod_nonneg n (show (256 : Int) ≠ 0 by decide)
  have := Int.emod_lt_of_pos n (show (0 : Int) < 256 by decide)
  omega
theorem okGo_snoc {n : Int} : ∀ (ns : List Int) (last x : Int), okGo n last ns = true → (ns.getLastD last) < x → x < n → okGo n last (ns ++ [x]) = true := by
  intro ns
  induction ns with
  | nil =>
    intro last x _ h1 h2
    have h1 : last < x := h1
    simp only [List.nil_append, okGo, Bool.and_true, Bool.not_eq_true', Bool.or_eq_false_iff]
    exact ⟨decide_eq_false (by omega), decide_eq_false (by omega)⟩
  | cons i r ih =>
    intro last x h h1 h2
    rw [okGo, Bool.and_eq_true] at h
    rw [List.cons_append, okGo, h.1, Bool.true_and]
    refine ih i x h.2 ?_ h2
    rw [List.getLastD_cons] at h1; exact h1
/-- blocks, each of 512 bytes, and the row that leads to them -/
structure Blks (h : Heap) (col : Nat → Nat) (a : Option Addr) (l c : Nat) (ss : List Sc) (ds : List (List UInt8)) : Prop where
  row : Sl h 1 a l c (ss.map Sc.v) (On col 2)
  num : ss.length = l
  len : ss.length = ds.length
  w : ∀ d ∈ ds, d.length = 512
  at_ : ∀ i (h1 : i < ss.length) (h2 : i < ds.length), StrAt h ss[i].a ss[i].l ds[i] ∧ ∀ p, ss[i].a = some p → p.block < h.size ∧ col p.block = 3
theorem Blks.keep {h h' : Heap} {col col' : Nat → Nat} {a : Option Addr} {l c : Nat} {ss : List Sc} {ds : List (List UInt8)} {F : Nat → Prop} (b : Blks h col a l c ss ds) (f : Fr F h h') (g : Ag h.size col col') (hF : ∀ x, col x = 2 ∨ col x = 3 → ¬ F x) : Blks h' col' a l c ss ds :=
  ⟨b.row.keep f g fun x hx => hF x (Or.inl hx), b.num, b.len, b.w, fun i h1 h2 => ⟨StrAt.fr f (b.at_ i h1 h2).1 fun p hp => hF _ (Or.inr ((b.at_ i h1 h2).2 p hp).2), fun p hp => ⟨Nat.lt_of_lt_of_le ((b.at_ i h1 h2).2 p hp).1 f.size, (g _ ((b.at_ i h1 h2).2 p hp).1).trans ((b.at_ i h1 h2).2 p hp).2⟩⟩⟩
theorem Blks.dat {h : Heap} {col : Nat → Nat} {a : Option Addr} {l c : Nat} {ss : List Sc} {ds : List (List UInt8)} (b : Blks h col a l c ss ds) : Dat h a l ss ds := ⟨b.row.cells, b.num, b.len, fun i h1 h2 => (b.at_ i h1 h2).1⟩
theorem sc_one (ss : List Sc) : ∀ v ∈ ss.map Sc.v, v.oneCell' = true := by
  intro v hv; obtain ⟨s, _, rfl⟩ := List.mem_map.mp hv; rfl
theorem blM_true {ds : List (List UInt8)} (h : ∀ d ∈ ds, d.length = 512) : blM ds ds.length = true := by
  rw [blM, Bool.and_eq_true]
  exact ⟨List.all_eq_true.mpr fun d hd => by rw [beq_iff_eq]; exact h d hd, beq_self_eq_true _⟩
/-- a plan's numbers and blocks -/
theorem made_spec {sa da : Option Addr} {sl sc dl dc : Nat} {steps : List Int} {seed : List UInt8} {h : Heap} {K : Value → Heap → Prop} (S : SlCells h sa (ints steps)) (hsl : steps.length = sl) (D : StrAt h da dl seed)
    (hK : ∀ na nl nc ba bc h' col ns ss ds, Fr No h h' → (∀ b, b < h.size → col b = 0) → Sl h' 1 na nl nc (ints ns) (On col 1) → ns.length = nl → mayM ns 16384 = true → Blks h' col ba nl bc ss ds → K (.tuple #[.slice na nl nc, .slice ba nl bc]) h') :
    C.bolelaw04_Plan_made [.slice sa sl sc, .slice da dl dc] h K := by
  refine bolelaw04_Plan_made.ok (New.intro fun h2 n2 => ?_)
  have hs2 := n2.size
  have hdn := D.1
  refine ⟨fun at_ na nl nc ba bl bc i hh => 0 ≤ i ∧ i ≤ 96 ∧ nl = i.toNat ∧ bl = i.toNat ∧ 97 ≤ at_ ∧ at_ ≤ 97 + 160 * i ∧ rd hh h.size = [.slice sa sl sc, .slice da dl dc] ∧ Fr No h hh ∧ ∃ col ns ss ds, (∀ b, b ≤ h.size → col b = 0) ∧ Sl hh 1 na nl nc (ints ns) (On col 1) ∧ ns.length = i.toNat ∧ okGo 16384 97 ns = true ∧ ns.getLastD 97 = at_ ∧ Blks hh col ba bl bc ss ds,
    fun _ _ _ _ _ _ _ i _ => ((sl : Int) - i).toNat, ⟨by omega, by omega, rfl, rfl, by omega, by omega, n2.rd, n2.fr, fun _ => 0, [], [], [], fun _ _ => rfl, Sl.nil _ _ _, rfl, rfl, rfl, ⟨Sl.nil _ _ _, rfl, rfl, fun _ h => absurd h List.not_mem_nil, fun i h1 => absurd h1 (Nat.not_lt_zero _)⟩⟩, ?_⟩
  rintro at_ na nl nc ba bl bc i h3 ⟨i0, i1, rfl, rfl, t0, t1, r3, f3, col, ns, ss, ds, base, N, hns, ok, last, B⟩
  have hs3 := f3.size
  have hlt3 : h.size < h3.size := rd_lt (show (rd h3 h.size)[0]? = some _ by rw [r3]; rfl)
  have fin : bolelaw04_Plan_made.k3 na i.toNat nc ba i.toNat bc h3 K := by
    refine ce (fun e => ?_) fun e => ?_
    · refine New.intro fun h14 n14 => block_spec (x := 7) fun h15 f15 o15 r15 => ⟨_, _, _, rfl, New.intro fun h16 n16 => ?_⟩
      have hs14 := n14.size
      have hs15 := f15.size
      have hs16 := n16.size
      have F16 : Fr No h h16 := ((f3.new n14).no f15).new n16
      let col' : Nat → Nat := fun b => if b < h3.size then 0 else if b = h3.size then 1 else if b = h15.size then 2 else 3
      refine hK (some ⟨h3.size, 0, none⟩) 1 1 (some ⟨h15.size, 0, none⟩) 1 h16 (fun b => if b < h3.size then 0 else if b = h3.size then 1 else if b = h15.size then 2 else 3) [98] [⟨some ⟨h14.size, 0, none⟩, 512, 512⟩] [rep 7] F16 (fun b hb => if_pos (by omega)) ?_ rfl rfl ⟨?_, rfl, rfl, fun d hd => by rw [List.mem_singleton.mp hd]; exact rep_length 7, fun i h1 h2 => ?_⟩
      · have r16 : rd h16 h3.size = ints [98] := (n16.at_ (by omega)).trans ((f15.rd n14.own.lt fun x => x).trans n14.rd)
        exact ⟨rfl, rfl, by show (if h3.size < h3.size then 0 else if h3.size = h3.size then 1 else _) = 1; rw [if_neg (by omega), if_pos rfl], n16.ow (f15.own n14.own.lt (fun x => x) n14.own), Nat.le_refl _, by rw [r16]; rfl, by rw [r16]; exact Nat.le_refl _⟩
      · exact ⟨rfl, rfl, by show (if h15.size < h3.size then 0 else if h15.size = h3.size then 1 else if h15.size = h15.size then 2 else 3) = 2; rw [if_neg (by omega), if_neg (by omega), if_pos rfl], n16.own, Nat.le_refl _, by rw [n16.rd]; rfl, by rw [n16.rd]; exact Nat.le_refl _⟩
      · have : i = 0 := by have : i < 1 := h1; omega
        subst this
        have hl14 := o15.lt
        refine ⟨strAll ((n16.at_ hl14).trans r15) (rep_length 7), fun p hp => ?_⟩
        have hp : p = ⟨h14.size, 0, none⟩ := (Option.some.inj hp).symm
        subst hp
        refine ⟨by show h14.size < h16.size; omega, ?_⟩
        show (if h14.size < h3.size then 0 else if h14.size = h3.size then 1 else if h14.size = h15.size then 2 else 3) = 3
        rw [if_neg (by omega), if_neg (by omega), if_neg (by omega)]
    · refine hK na _ nc ba bc h3 col ns ss ds f3 (fun b hb => base b (by omega)) N hns ?_ B
      rw [mayM, ok, decide_eq_true (by omega), decide_eq_true (by omega)]; rfl
  refine ⟨_, _, _, rda r3 rfl, cd (fun hi => cd (fun hi2 => ?_) fun _ => fin) fun _ => fin⟩
  have hi' : i.toNat < steps.length := by omega
  obtain ⟨p, rfl, cp⟩ := ints_get (SlCells.fr f3 S fun _ _ x => x) hi'
  refine ⟨_, _, _, rda r3 rfl, ⟨i0, hi⟩, os ⟨_, cp, ?_⟩⟩
  generalize hw : IntKind.wrap .u64 steps[i.toNat] = w
  have hw0 : 0 ≤ w := by
    subst hw
    show 0 ≤ steps[i.toNat] % 18446744073709551616
    exact Int.emod_nonneg _ (by decide)
  have hm : Int.tmod w 160 = w % 160 := Int.tmod_eq_emod_of_nonneg hw0
  have m0 := Int.emod_nonneg w (show (160 : Int) ≠ 0 by decide)
  have m1 := Int.emod_lt_of_pos w (show (0 : Int) < 160 by decide)
  rw [hm, wrap_i64 (n := w % 160) (by omega) (by omega), wrap_i64 (n := at_ + 1) (by omega) (by omega), wrap_i64 (n := at_ + 1 + w % 160) (by omega) (by omega), wrap_i64 (n := i + 1) (by omega) (by omega)]
  generalize hx : at_ + 1 + w % 160 = x
  have z1 : 0 ≤ i + 1 := by omega
  have z2 : i + 1 ≤ 96 := by omega
  have z3 : i.toNat + 1 = (i + 1).toNat := by omega
  have z4 : 97 ≤ x := by omega
  have z5 : x ≤ 97 + 160 * (i + 1) := by omega
  have z6 : x < 16384 := by omega
  have z7 : at_ < x := by omega
  have z8 : (i.toNat + 1) * 24 ≤ 140737488355328 := by omega
  have z9 : i.toNat + 1 ≤ 140737488355328 := by omega
  refine New.intro fun h4 n4 => ⟨[.int .i64 x], rfl, cellsAll n4.rd, by intro v hv; rw [List.mem_singleton.mp hv]; rfl, ?_⟩
  have hs4 := n4.size
  have g4 : Ag h3.size col (upd col h3.size 7) := ag_upd _ _ _
  have N4 := N.keep n4.fr g4 fun _ _ y => y
  have B4 := B.keep n4.fr g4 fun _ _ y => y
  refine append_col N4 rfl rfl (by show (i.toNat + 1) * 8 ≤ _; omega) (by omega) fun na5 nc5 h5 f5 s5 => ?_
  have hs5 := f5.size
  have g5 : Ag h4.size (upd col h3.size 7) (upd (upd col h3.size 7) h4.size 1) := ag_upd _ _ _
  have B5 := B4.keep f5 g5 fun y hy e => by have e : upd col h3.size 7 y = 1 := e; omega
  have F5 : Fr No h h5 := (f3.new n4).trans f5 fun b hb e => by have e : upd col h3.size 7 b = 1 := e; rw [upd_lt (by omega)] at e; have := base b (by omega); omega
  have r5 : rd h5 h.size = [.slice (some p) sl sc, .slice da dl dc] := by
    rw [f5.rd (by omega) (fun e => by have e : upd col h3.size 7 h.size = 1 := e; rw [upd_lt (by omega)] at e; have := base h.size (Nat.le_refl _); omega), n4.at_ hlt3]; exact r3
  refine ⟨⟨by decide, by decide, by decide, by decide⟩, New.intro fun h6 n6 => ?_⟩
  have hs6 := n6.size
  have r6 : rd h6 h5.size = (zeros 512).map bv := by rw [n6.rd, zeros, List.map_replicate]; rfl
  have g6 : Ag h5.size (upd (upd col h3.size 7) h4.size 1) (upd (upd (upd col h3.size 7) h4.size 1) h5.size 3) := ag_upd _ _ _
  generalize hc6 : upd (upd (upd col h3.size 7) h4.size 1) h5.size 3 = col6 at g6
  have lo6 : ∀ b, b ≤ h.size → col6 b = 0 := fun b hb => by rw [← hc6, upd_lt (by omega), upd_lt (by omega), upd_lt (by omega)]; exact base b hb
  have hi6 : ∀ b, h5.size ≤ b → col6 b = 3 := fun b hb => by rw [← hc6]; exact upd_ge hb
  have B6 := B5.keep n6.fr g6 fun _ _ y => y
  have N6 := s5.keep n6.fr g6 fun _ _ y => y
  refine ⟨fun k hh => 0 ≤ k ∧ k ≤ 512 ∧ Fr No h6 hh ∨ (0 ≤ k ∧ k ≤ 512 ∧ Fr (fun b => b = h5.size) h6 hh ∧ Own hh h5.size ∧ ∃ ys : List UInt8, ys.length = 512 ∧ rd hh h5.size = ys.map bv), fun k _ => ((512 : Nat) - k).toNat,
    Or.inr ⟨by omega, by omega, Fr.refl _ _, n6.own, _, zeros_length 512, r6⟩, ?_⟩
  intro k h7 inv
  have inv : 0 ≤ k ∧ k ≤ 512 ∧ Fr (fun b => b = h5.size) h6 h7 ∧ Own h7 h5.size ∧ ∃ ys : List UInt8, ys.length = 512 ∧ rd h7 h5.size = ys.map bv := by
    rcases inv with ⟨k0, k1, f⟩ | h
    · exact ⟨k0, k1, f.mono fun _ _ x => x.elim, f.own n6.own.lt (fun x => x) n6.own, _, zeros_length 512, (f.rd n6.own.lt fun x => x).trans r6⟩
    · exact h
  obtain ⟨k0, k1, f7, o7, ys, hys, r7⟩ := inv
  have hs7 := f7.size
  have F7 : Fr No h h7 := (F5.new n6).trans f7 fun b hb e => by have e : b = h5.size := e; omega
  have rp7 : rd h7 h.size = [.slice (some p) sl sc, .slice da dl dc] := by
    rw [f7.rd (by omega) (by omega), n6.at_ (by omega)]; exact r5
  -- behind the block
  have next : ∀ h8, Fr No h7 h8 → New [.slice (some ⟨h5.size, 0, none⟩) (Int.toNat 512) (Int.toNat 512)] 26 h7 fun h9 =>
      ∃ new2 : List Value, List.length new2 = 1 * 1 ∧ SlCells h9 (some ⟨h7.size, 0, none⟩) new2 ∧ (∀ v ∈ new2, v.oneCell' = true) ∧
      AppendP ti26 26 ba i.toNat bc 1 new2 h9 fun sA7 sL7 sC7 h10 =>
      (0 ≤ i + 1 ∧ i + 1 ≤ 96 ∧ i.toNat + 1 = (i + 1).toNat ∧ sL7 = (i + 1).toNat ∧ 97 ≤ x ∧ x ≤ 97 + 160 * (i + 1) ∧ rd h10 h.size = [.slice (some p) sl sc, .slice da dl dc] ∧ Fr No h h10 ∧ ∃ col ns ss ds, (∀ b, b ≤ h.size → col b = 0) ∧ Sl h10 1 na5 (i.toNat + 1) nc5 (ints ns) (On col 1) ∧ ns.length = (i + 1).toNat ∧ okGo 16384 97 ns = true ∧ ns.getLastD 97 = x ∧ Blks h10 col sA7 sL7 sC7 ss ds) ∧
      ((sl : Int) - (i + 1)).toNat < ((sl : Int) - i).toNat := by
    intro _ _
    refine New.intro fun h9 n9 => ⟨[.slice (some ⟨h5.size, 0, none⟩) 512 512], rfl, cellsAll n9.rd, by intro v hv; rw [List.mem_singleton.mp hv]; rfl, ?_⟩
    have hs9 := n9.size
    have g9 : Ag h7.size col6 (upd col6 h7.size 7) := ag_upd _ _ _
    have av : ∀ y, col6 y = 1 ∨ col6 y = 2 → ¬ (fun b => b = h5.size) y := fun y hy e => by have e : y = h5.size := e; rw [e, hi6 _ (Nat.le_refl _)] at hy; omega
    have N9 := (N6.keep f7 (Ag.refl _ _) fun y hy => av y (Or.inl hy)).keep n9.fr g9 fun _ _ y => y
    have row9 := (B6.row.keep f7 (Ag.refl _ _) fun y hy => av y (Or.inr hy)).keep n9.fr g9 fun _ _ y => y
    refine append_col row9 rfl rfl z8 z9 fun ba10 bc10 h10 f10 s10 => ?_
    have hs10 := f10.size
    have g10 : Ag h9.size (upd col6 h7.size 7) (upd (upd col6 h7.size 7) h9.size 2) := ag_upd _ _ _
    have gAll : ∀ b, b < h7.size → upd (upd col6 h7.size 7) h9.size 2 b = col6 b := fun b hb => by rw [upd_lt (by omega), upd_lt hb]
    have nF : ∀ b, b < h7.size → col6 b ≠ 2 → ¬ On (upd col6 h7.size 7) 2 b := fun b hb h2 e => by have e : upd col6 h7.size 7 b = 2 := e; rw [upd_lt hb] at e; exact h2 e
    have c5 : col6 h5.size = 3 := hi6 _ (Nat.le_refl _)
    refine ⟨⟨z1, z2, z3, z3, z4, z5, ?_, ?_, upd (upd col6 h7.size 7) h9.size 2, ns ++ [x], ss ++ [⟨some ⟨h5.size, 0, none⟩, 512, 512⟩], ds ++ [ys], ?_, ?_, ?_, ?_, ?_, ⟨?_, ?_, ?_, ?_, ?_⟩⟩, falls hi⟩
    · rw [f10.rd (by omega) (nF _ (by omega) (by rw [lo6 _ (Nat.le_refl _)]; decide)), n9.at_ (by omega)]; exact rp7
    · exact (F7.new n9).trans f10 fun b hb e => by have e : upd col6 h7.size 7 b = 2 := e; rw [upd_lt (by omega)] at e; have := lo6 b (by omega); omega
    · intro b hb; rw [gAll b (by omega)]; exact lo6 b hb
    · rw [ints, List.map_append]
      exact N9.keep f10 g10 fun b hb e => by have e : upd col6 h7.size 7 b = 2 := e; have hb : upd col6 h7.size 7 b = 1 := hb; omega
    · rw [List.length_append, hns]; exact z3
    · exact okGo_snoc ns 97 x ok (by rw [last]; exact z7) z6
    · rw [List.getLastD_concat]
    · rw [List.map_append]; exact s10
    · rw [List.length_append, B.num]; rfl
    · rw [List.length_append, List.length_append, B.len]; rfl
    · intro d hd
      rcases List.mem_append.mp hd with hd | hd
      · exact B.w d hd
      · rw [List.mem_singleton.mp hd]; exact hys
    · intro j h1 h2
      by_cases hj : j < ss.length
      · rw [List.getElem_append_left hj, List.getElem_append_left (by rw [← B.len]; exact hj)]
        obtain ⟨st, sp⟩ := B6.at_ j hj (by rw [← B.len]; exact hj)
        have q6 : ∀ q, ss[j].a = some q → q.block ≠ h5.size := fun q hq e => by
          have := (B5.at_ j hj (by rw [← B.len]; exact hj)).2 q hq
          omega
        have st9 := StrAt.fr n9.fr (StrAt.fr f7 st fun q hq e => q6 q hq e) fun _ _ y => y
        refine ⟨StrAt.fr f10 st9 fun q hq => nF _ (by have := (sp q hq).1; omega) (by rw [(sp q hq).2]; decide), fun q hq => ⟨by have := (sp q hq).1; omega, by rw [gAll _ (by have := (sp q hq).1; omega)]; exact (sp q hq).2⟩⟩
      · have hj2 : j = ss.length := by rw [List.length_append, List.length_singleton] at h1; omega
        subst hj2
        have hlen := B.len
        rw [List.getElem_append_right (Nat.le_refl _), List.getElem_append_right (by rw [hlen]; exact Nat.le_refl _)]
        simp only [Nat.sub_self, List.getElem_cons_zero, hlen]
        have rr : rd h10 h5.size = ys.map bv := by rw [f10.rd (by omega) (nF _ (by omega) (by rw [c5]; decide)), n9.at_ (by omega)]; exact r7
        refine ⟨strAll rr hys, fun q hq => ?_⟩
        have hq : q = ⟨h5.size, 0, none⟩ := (Option.some.inj hq).symm
        subst hq
        exact ⟨by show h5.size < h10.size; omega, by rw [gAll _ (by show h5.size < h7.size; omega)]; exact c5⟩
  have nx := next h7 (Fr.refl _ _)
  refine cd (fun hk => ?_) fun hk => nx
  have hk : k < 512 := hk
  refine ⟨_, _, _, rda rp7 rfl, cd (fun hpos => ?_) fun _ => nx⟩
  refine ⟨_, _, _, rda rp7 rfl, _, _, _, rda rp7 rfl, ?_⟩
  rw [if_neg (by omega), wrap_i64 (n := k + i) (by omega) (by omega)]
  have hmod : Int.tmod (k + i) (dl : Int) = (k + i) % (dl : Int) := Int.tmod_eq_emod_of_nonneg (by omega)
  have q0 := Int.emod_nonneg (k + i) (show (dl : Int) ≠ 0 by omega)
  have q1 := Int.emod_lt_of_pos (k + i) (show (0 : Int) < dl by omega)
  rw [hmod]
  have D7 := (StrAt.fr F7 D fun _ _ x => x).2
  cases da with
  | none => have D7 : seed.map bv = [] := D7; have := List.map_eq_nil_iff.mp D7; rw [this] at hdn; simp at hdn; omega
  | some dp =>
    have hj : ((k + i) % (dl : Int)).toNat < seed.length := by omega
    refine ⟨⟨q0, q1⟩, os ⟨_, D7 _ (bv seed[((k + i) % (dl : Int)).toNat]) (by rw [List.getElem?_map, List.getElem?_eq_getElem hj]; rfl), ⟨k0, by show k < 512; exact hk⟩, Put.add o7 (by rw [r7, List.length_map, hys]; omega) fun h8 d8 => ?_⟩⟩
    obtain ⟨y, hy⟩ : ∃ y : UInt8, Value.int .u8 (IntKind.wrap .u8 (((seed[((k + i) % (dl : Int)).toNat].toNat : Nat) : Int) + IntKind.wrap .u8 i)) = bv y := ⟨_, bv_wrap _⟩
    rw [hy] at d8
    rw [wrap_i64 (n := k + 1) (by omega) (by omega)]
    refine ⟨Or.inr ⟨by omega, by omega, f7.did d8 (fun _ => rfl), d8.own, ys.set k.toNat y, by rw [List.length_set]; exact hys, ?_⟩, falls (m := 512) hk⟩
    rw [d8.rd, r7, Nat.zero_add, List.map_set]
end Go.Proofs.YtnlmieklakolkaaDoor.Hd
