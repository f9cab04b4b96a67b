/-
  LAW HeadBack, the whole.
-/
import Derived.Test.YtnlmieklakolkaaDoorHdD
namespace Go.Proofs.YtnlmieklakolkaaDoor.Hd
open Go Go.Proofs Go.Proofs.YtnlmieklakolkaaDoor.Wx Go.Proofs.YtnlmieklakolkaaDoor.Hp Go.Proofs.YtnlmieklakolkaaDoor.W Go.Proofs.YtnlmieklakolkaaDoor.Su Go.Proofs.YtnlmieklakolkaaDoor.Re

theorem laid_nums2 {ns : List Int} {s : Nat} (n : Int) (hb : ∀ x ∈ ns, 0 ≤ x ∧ x < 4294967296) (h2 : ns.length ≤ 96) : numsM (laidM ns s) n = if mayM ns n then (ns, 0) else ([], 41) := by
  obtain ⟨d8, d10, d12, d16⟩ := laid_drops ns s
  have hl := laid_length ns s (by omega)
  have hk : getAt (laidM ns s) 8 2 = ns.length := by
    rw [getAt, d8, take_app (leB_length _ _)]; exact leN_leB 2 _ (by show ns.length < 65536; omega)
  have hN : numsL (laidM ns s) ns.length = ns := by
    apply List.ext_getElem
    · rw [numsL_length]
    · intro i g1 g2
      simp only [numsL, List.getElem_map, List.getElem_range]
      have := hb _ (List.getElem_mem g2)
      rw [getAt, ← List.drop_drop, d16, flat4_part ns i g2, leN_leB 4 _ (by show ns[i].toNat < 4294967296; omega)]
      omega
  unfold numsM
  rw [if_neg (fun x => x hl), if_neg (by rw [laid_split]; exact fun x => by rw [allZero, magicL, List.cons_append, List.all_cons] at x; cases x), if_neg (fun x => x (by rw [laid_split]; exact take_app rfl)), hk, if_neg (by omega),
    if_neg (by rw [d10, take_app (zeros_length _), zeros_allZero]; exact fun x => by cases x),
    if_neg (by rw [← List.drop_drop, d16, drop_app (flat4_length ns), List.take_of_length_le (by rw [zeros_length]; omega), zeros_allZero]; exact fun x => by cases x), hN]
  cases mayM ns n <;> rfl
theorem Dat.tail {h : Heap} {a : Option Addr} {l c : Nat} {ss : List Sc} {ds : List (List UInt8)} (D : Dat h a l ss ds) (hl : 1 ≤ l) (hlc : l ≤ c) : Dat h (if c = 1 then a else Option.map (Addr.add · 1) a) (l - 1) (ss.drop 1) (ds.drop 1) := by
  have h1 := D.num
  have h2 := D.len
  refine ⟨?_, by rw [List.length_drop]; omega, by rw [List.length_drop, List.length_drop]; omega, fun i g1 g2 => ?_⟩
  · by_cases e : c = 1
    · rw [if_pos e]
      have : ss.drop 1 = [] := List.drop_of_length_le (by omega)
      rw [this]
      cases a with
      | none => rfl
      | some p => exact Cells.nil h p
    · rw [if_neg e]
      have cc := D.cells
      cases a with
      | none => have cc : ss.map Sc.v = [] := cc; have := List.map_eq_nil_iff.mp cc; rw [this] at h1; simp at h1; omega
      | some p =>
        have := Cells.drop (show Cells h p (ss.map Sc.v) from cc) 1
        rw [← List.map_drop] at this
        exact this
  · rw [List.getElem_drop, List.getElem_drop]
    exact D.at_ (1 + i) (by rw [List.length_drop] at g1; omega) (by rw [List.length_drop] at g2; omega)
theorem okGo_below {m n : Int} : ∀ (ns : List Int) (last : Int), okGo m last ns = true → (∀ x ∈ ns, x < n) → okGo n last ns = true := by
  intro ns
  induction ns with
  | nil => intro _ _ _; rfl
  | cons i r ih =>
    intro last h hx
    rw [okGo, Bool.and_eq_true, Bool.not_eq_true', Bool.or_eq_false_iff] at h
    have := hx i (List.mem_cons_self ..)
    rw [okGo, h.1.1, decide_eq_false (show ¬ i ≥ n by omega), ih i h.2 fun x hx' => hx x (List.mem_cons_of_mem _ hx')]; rfl
/-- the first and the last in each other's places -/
def turn {α : Type} (xs : List α) (h : 0 < xs.length) : List α := (xs.set 0 xs[xs.length - 1]).set (xs.length - 1) xs[0]
theorem turn_length {α : Type} (xs : List α) (h : 0 < xs.length) : (turn xs h).length = xs.length := by rw [turn, List.length_set, List.length_set]
theorem turn_get {α : Type} (xs : List α) (h : 0 < xs.length) (i : Nat) (hi : i < (turn xs h).length) : ∃ j, ∃ hj : j < xs.length, (turn xs h)[i] = xs[j] ∧ j = if xs.length - 1 = i then 0 else if 0 = i then xs.length - 1 else i := by
  have hi' : i < xs.length := by rw [turn_length] at hi; exact hi
  by_cases e1 : xs.length - 1 = i
  · refine ⟨0, h, ?_, by rw [if_pos e1]⟩
    subst e1
    simp only [turn, List.getElem_set_self]
  · by_cases e2 : 0 = i
    · refine ⟨xs.length - 1, by omega, ?_, by rw [if_neg e1, if_pos e2]⟩
      subst e2
      simp only [turn]
      rw [List.getElem_set_ne e1, List.getElem_set_self]
    · refine ⟨i, hi', ?_, by rw [if_neg e1, if_neg e2]⟩
      simp only [turn]
      rw [List.getElem_set_ne e1, List.getElem_set_ne e2]
theorem turn_map {α β : Type} (f : α → β) (xs : List α) (h : 0 < xs.length) : ((xs.map f).set 0 (f xs[xs.length - 1])).set (xs.length - 1) (f xs[0]) = (turn xs h).map f := by
  rw [turn, ← List.map_set, ← List.map_set]

section
variable {n : Int} {na ba hb : Option Addr} {nl nc bl bc : Nat} {ns : List Int} {ss : List Sc} {ds : List (List UInt8)} {h : Heap} {K : Value → Heap → Prop} {b : Nat}

theorem back3 (g : Glo h) (N : SlCells h na (ints ns)) (hns : ns.length = nl) (hm : mayM ns 16384 = true) (hmn : mayM ns n = true) (D : Dat h ba nl ss ds) (hw : ∀ d ∈ ds, d.length = 512) {s : Nat} (hs : (s : Int) = sumM (laidM ns 0) ds)
    (H : Sl h 1 (some ⟨b, 0, none⟩) 512 512 ((laidM ns s).map bv) (fun x => x = b)) (hK : ∀ h', Fr No h h' → K (.bool true) h') : bolelaw04_HeadBack.k3 n na nl nc ba nl (some ⟨b, 0, none⟩) 512 512 h K := by
  obtain ⟨hmem, hl1, hl2⟩ := mayM_mem hm
  have hd1 := D.num
  have hd2 := D.len
  refine New.intro fun h23 n23 => ?_
  have hs23 := n23.size
  have D23 := D.fr n23.fr
  refine ⟨ss.map Sc.v, by rw [List.length_map, hd1, Nat.mul_one], D23.cells, sc_one ss, ?_⟩
  refine append_own (xs := []) (F := From h.size) (Sl.made n23 rfl (Nat.le_refl _) rfl (Nat.le_refl _) rfl) (by rw [List.length_map, hd1]; exact (Nat.mul_one _).symm) rfl (by show (0 + nl) * 24 ≤ _; omega) (by omega) fun a8 c8 h24 f24 s24 => ?_
  rw [Nat.zero_add, List.nil_append] at s24
  rw [Nat.zero_add]
  have hs24 := f24.size
  have s24 : Sl h24 1 a8 nl c8 (ss.map Sc.v) (From h.size) := s24.mono fun b hb => by rcases hb with hb | hb; exact hb; show h.size ≤ b; omega
  have F24 : Fr No h h24 := n23.fr.trans f24 fun x hx e => by have e : h.size ≤ x := e; omega
  have hsl : 0 < ss.length := by omega
  obtain ⟨p, rfl, c24⟩ := s24.get (by omega)
  have hp := s24.mk
  obtain ⟨pb, po, sp⟩ := p
  have hp : sp = none := by simpa using hp
  subst hp
  have hpb : h.size ≤ pb := s24.2.2.1
  obtain ⟨w1, w2⟩ := s24.wr
  rw [wrap_i64 (n := (nl : Int) - 1) (by omega) (by omega)]
  have el : ((nl : Int) - 1).toNat = ss.length - 1 := by omega
  refine ⟨⟨by omega, by omega⟩, os ⟨ss[ss.length - 1].a, ss[ss.length - 1].l, ss[ss.length - 1].c, ?_, ⟨by omega, by omega⟩, os ⟨ss[0].a, ss[0].l, ss[0].c, ?_, ⟨by omega, by omega⟩, os (Put.add w1 (by omega) fun h25 d25 => ⟨⟨by omega, by omega⟩, os ?_⟩)⟩⟩⟩
  · rw [el]; exact Cells.cell c24 (i := ss.length - 1) (by rw [List.getElem?_map, List.getElem?_eq_getElem (by omega)]; rfl)
  · exact Cells.cell c24 (i := 0) (by rw [List.getElem?_map, List.getElem?_eq_getElem hsl]; rfl)
  have s25 := s24.putAt (j := 0) (new := [_]) (by rw [List.length_singleton]; omega) d25
  obtain ⟨w1', w2'⟩ := s25.wr
  refine Put.add w1' (by rw [el]; omega) fun h26 d26 => ?_
  rw [el] at d26
  have s26 := s25.putAt (j := ss.length - 1) (new := [_]) (by rw [List.length_singleton]; omega) d26
  have es : put (put (ss.map Sc.v) 0 [Value.slice ss[ss.length - 1].a ss[ss.length - 1].l ss[ss.length - 1].c]) (ss.length - 1) [Value.slice ss[0].a ss[0].l ss[0].c] = (turn ss hsl).map Sc.v := turn_map Sc.v ss hsl
  have es' : put (put (ss.map Sc.v) (Int.toNat 0) [Value.slice ss[ss.length - 1].a ss[ss.length - 1].l ss[ss.length - 1].c]) (ss.length - 1) [Value.slice ss[0].a ss[0].l ss[0].c] = (turn ss hsl).map Sc.v := es
  have s26 : Sl h26 1 (some ⟨pb, po, none⟩) nl c8 ((turn ss hsl).map Sc.v) (From h.size) := by rw [← es']; exact s26
  have F26 : Fr No h h26 := (F24.did d25 fun x => by omega).did d26 fun x => by omega
  have hdl : 0 < ds.length := by omega
  have D26 : Dat h26 (some ⟨pb, po, none⟩) nl (turn ss hsl) (turn ds hdl) := by
    refine ⟨s26.cells, by rw [turn_length]; exact hd1, by rw [turn_length, turn_length]; exact hd2, fun i g1 g2 => ?_⟩
    obtain ⟨j, hj, e1, q1⟩ := turn_get ss hsl i g1
    obtain ⟨k, hk, e2, q2⟩ := turn_get ds hdl i g2
    have : k = j := by rw [q1, q2, hd2]
    subst this
    rw [e1, e2]
    exact StrAt.fr F26 (D.at_ k hj hk) fun _ _ x => x
  have hwt : ∀ d ∈ turn ds hdl, d.length = 512 := by
    intro d hd
    obtain ⟨i, hi, rfl⟩ := List.mem_iff_getElem.mp hd
    obtain ⟨j, hj, e, _⟩ := turn_get ds hdl i hi
    rw [e]; exact hw _ (List.getElem_mem hj)
  have hbt : blM (turn ds hdl) ns.length = true := by
    have := blM_true hwt
    rw [turn_length, ← hd2, hd1, ← hns] at this; exact this
  have g26 := g.no F26
  refine Make_spec g26 (SlCells.fr F26 N fun _ _ x => x) hns (by omega) D26 (by omega) (fun x => by rw [hm] at x; cases x) (fun _ x => by rw [hbt] at x; cases x) fun _ _ b2 h27 f27 hb2 s27 => ⟨_, _, _, _, rfl, num_spec ⟨_, rfl, ct rfl ?_⟩⟩
  have F27 := F26.no f27
  have us := sum_range (laidM ns 0) (turn ds hdl)
  obtain ⟨u0, u1⟩ := us
  have D27 := D26.fr f27
  have lt32 : ∀ x ∈ ns, x < 4294967296 := fun x hx => by have := hmem x hx; omega
  refine Good_spec (n := n) (g.no F27) s27.str (Nat.le_refl _) (by omega) D27 (by omega) fun h29 f29 => ⟨_, rfl, ?_⟩
  rw [laid_good hmn lt32 (by omega), hbt, show (((sumM (laidM ns 0) (turn ds hdl)).toNat : Nat) : Int) = sumM (laidM ns 0) (turn ds hdl) by omega, beq_self_eq_true]
  have F29 := F27.no f29
  have H29 := H.fr F29 fun _ _ _ x => x
  have s29 := s27.fr f29 fun _ _ _ x => x
  refine ct rfl ⟨_, s29.str, _, H29.str, ?_⟩
  refine Good_spec (n := n) (g.no F29) H29.str (Nat.le_refl _) (by omega) (D27.fr f29) (by omega) fun h30 f30 => ⟨_, rfl, by rw [toList_mkStr]; exact (s29.fr f30 fun _ _ _ x => x).str, by rw [toList_mkStr]; exact (H29.fr f30 fun _ _ _ x => x).str, ?_⟩
  have us2 := sum_range (laidM ns 0) ds
  rw [laid_good hmn lt32 (by have := us2.2; omega), hbt, toList_mkStr, toList_mkStr, Bool.true_and]
  have fin : (((s : Int) == sumM (laidM ns 0) (turn ds hdl)) == (laidM ns (sumM (laidM ns 0) (turn ds hdl)).toNat == laidM ns s)) = true := by
    by_cases e : (s : Int) = sumM (laidM ns 0) (turn ds hdl)
    · have e2 : (sumM (laidM ns 0) (turn ds hdl)).toNat = s := by omega
      rw [e2, beq_self_eq_true, show ((s : Int) == sumM (laidM ns 0) (turn ds hdl)) = true from beq_iff_eq.mpr e]; rfl
    · have e2 : laidM ns (sumM (laidM ns 0) (turn ds hdl)).toNat ≠ laidM ns s := fun q => by
        have q1 := laid_get ns (s := (sumM (laidM ns 0) (turn ds hdl)).toNat) (by omega)
        have q2 := laid_get ns (s := s) (by have := us2.2; omega)
        rw [q, q2] at q1
        omega
      rw [show ((s : Int) == sumM (laidM ns 0) (turn ds hdl)) = false from beq_eq_false_iff_ne.mpr e, show (laidM ns (sumM (laidM ns 0) (turn ds hdl)).toNat == laidM ns s) = false from beq_eq_false_iff_ne.mpr e2]; rfl
  rw [fin]
  exact hK h30 (F29.no f30)
theorem back2 (g : Glo h) (N : SlCells h na (ints ns)) (hns : ns.length = nl) (hm : mayM ns 16384 = true) (hmn : mayM ns n = true) (D : Dat h ba nl ss ds) (hbc : nl ≤ bc) (hw : ∀ d ∈ ds, d.length = 512) {s : Nat} (hs : (s : Int) = sumM (laidM ns 0) ds)
    (H : Sl h 1 (some ⟨b, 0, none⟩) 512 512 ((laidM ns s).map bv) (fun x => x = b)) (hK : ∀ h', Fr No h h' → K (.bool true) h') : bolelaw04_HeadBack.k2 n na nl nc ba nl bc (some ⟨b, 0, none⟩) 512 512 h K := by
  obtain ⟨hmem, hl1, hl2⟩ := mayM_mem hm
  have hd1 := D.num
  have hd2 := D.len
  have us := sum_range (laidM ns 0) ds
  have lt32 : ∀ x ∈ ns, x < 4294967296 := fun x hx => by have := hmem x hx; omega
  have hsl : s < 4294967296 := by have := us.2; omega
  refine ⟨⟨by omega, by omega⟩, ?_⟩
  have bad : ∀ ds' : List (List UInt8), ds'.length ≠ ns.length → goodM (laidM ns s) n ds' = false := fun ds' h => by
    rw [laid_good hmn lt32 hsl, blM, show ((ds'.length : Int) == (ns.length : Nat)) = false from beq_eq_false_iff_ne.mpr (by omega), Bool.and_false, Bool.false_and]
  refine Good_spec (n := n) g H.str (Nat.le_refl _) (by omega) (D.tail (by omega) hbc) (by show nl - Int.toNat 1 ≤ _; omega) fun h15 f15 => ⟨_, rfl, ?_⟩
  rw [bad (ds.drop 1) (by rw [List.length_drop]; omega)]
  refine cf rfl (New.intro fun h16 n16 => ?_)
  have hs15 := f15.size
  have hs16 := n16.size
  have F16 := f15.new n16
  have D16 := D.fr F16
  refine ⟨ss.map Sc.v, by rw [List.length_map, hd1, Nat.mul_one], D16.cells, sc_one ss, ?_⟩
  refine append_own (xs := []) (F := From h15.size) (Sl.made n16 rfl (Nat.le_refl _) rfl (Nat.le_refl _) rfl) (by rw [List.length_map, hd1]; exact (Nat.mul_one _).symm) rfl (by show (0 + nl) * 24 ≤ _; omega) (by omega) fun a5 c5 h17 f17 s17 => ?_
  rw [Nat.zero_add, List.nil_append] at s17
  rw [Nat.zero_add]
  have hs17 := f17.size
  have s17 : Sl h17 1 a5 nl c5 (ss.map Sc.v) (From h15.size) := s17.mono fun b hb => by rcases hb with hb | hb; exact hb; show h15.size ≤ b; omega
  have F17 : Fr No h h17 := F16.trans f17 fun x hx e => by have e : h15.size ≤ x := e; omega
  refine block_spec (x := 0) fun h18 f18 o18 r18 => ⟨_, _, _, rfl, New.intro fun h19 n19 => ⟨[.slice (some ⟨h17.size, 0, none⟩) 512 512], rfl, cellsAll n19.rd, by intro v hv; rw [List.mem_singleton.mp hv]; rfl, ?_⟩⟩
  have hs18 := f18.size
  have hs19 := n19.size
  have F19 := (F17.no f18).new n19
  generalize hcol : (fun b => if b < h15.size then 0 else if b < h17.size then 1 else 2) = col
  have c0 : ∀ b, b < h15.size → col b = 0 := fun b hb => by subst hcol; exact if_pos hb
  have c1 : ∀ b, h15.size ≤ b → b < h17.size → col b = 1 := fun b h1 h2 => by subst hcol; show (if _ then _ else if _ then _ else _) = 1; rw [if_neg (by omega), if_pos h2]
  have c2 : ∀ b, h17.size ≤ b → col b = 2 := fun b h1 => by subst hcol; show (if _ then _ else if _ then _ else _) = 2; rw [if_neg (by omega), if_neg (by omega)]
  have s17 : Sl h17 1 a5 nl c5 (ss.map Sc.v) (On col 1) := by
    obtain ⟨q1, q2⟩ := s17
    refine ⟨q1, ?_⟩
    cases a5 with
    | none => exact q2
    | some p => exact ⟨q2.1, c1 _ q2.2.1 q2.2.2.1.lt, q2.2.2⟩
  have s19 := (s17.keep f18 (Ag.refl _ _) fun _ _ x => x).keep n19.fr (Ag.refl _ _) fun _ _ x => x
  refine append_col s19 rfl rfl (by show (nl + 1) * 24 ≤ _; omega) (by omega) fun a7 c7 h20 f20 s20 => ?_
  have hs20 := f20.size
  have lt17 : h17.size < h19.size := by have := o18.lt; omega
  have F20 : Fr No h h20 := F19.trans f20 fun x hx e => by have e : col x = 1 := e; have := c0 x (by omega); omega
  have rb : StrAt h20 (some ⟨h17.size, 0, none⟩) 512 (rep 0) := strAll ((f20.rd lt17 fun e => by have e : col h17.size = 1 := e; have := c2 h17.size (Nat.le_refl _); omega).trans ((n19.at_ o18.lt).trans r18)) (rep_length 0)
  have D20 : Dat h20 a7 (nl + 1) (ss ++ [({ a := some ⟨h17.size, 0, none⟩, l := 512, c := 512 } : Sc)]) (ds ++ [rep 0]) := by
    refine ⟨by rw [List.map_append]; exact s20.cells, by rw [List.length_append, hd1]; rfl, by rw [List.length_append, List.length_append, hd2]; rfl, fun i g1 g2 => ?_⟩
    by_cases hi : i < ss.length
    · rw [List.getElem_append_left hi, List.getElem_append_left (by omega)]
      exact StrAt.fr F20 (D.at_ i hi (by omega)) fun _ _ x => x
    · have : i = ss.length := by rw [List.length_append, List.length_singleton] at g1; omega
      subst this
      rw [List.getElem_append_right (Nat.le_refl _), List.getElem_append_right (by omega)]
      simp only [Nat.sub_self, List.getElem_cons_zero, hd2]
      exact rb
  have H20 := H.fr F20 fun _ _ _ x => x
  refine Good_spec (n := n) (g.no F20) H20.str (Nat.le_refl _) (by omega) D20 (by omega) fun h21 f21 => ⟨_, rfl, ?_⟩
  rw [bad (ds ++ [rep 0]) (by rw [List.length_append, List.length_singleton]; omega)]
  have F21 := F20.no f21
  exact cf rfl (back3 (g.no F21) (SlCells.fr F21 N fun _ _ x => x) hns hm hmn (D.fr F21) hw hs (H.fr F21 fun _ _ _ x => x) fun h' f' => hK h' (F21.no f'))
end
theorem HeadBack_spec {n : Int} {sa da : Option Addr} {sl sc dl dc : Nat} {steps : List Int} {seed : List UInt8} {h : Heap} {K : Value → Heap → Prop} (g : Glo h) (S : SlCells h sa (ints steps)) (hsl : steps.length = sl) (D : StrAt h da dl seed)
    (hK : ∀ h', Fr No h h' → K (.bool true) h') : C.bolelaw04_HeadBack [.slice sa sl sc, .slice da dl dc] n h K := by
  refine bolelaw04_HeadBack.ok (New.intro fun h2 n2 => ?_)
  refine known_spec (g.no n2.fr) fun h3 f3 => ⟨_, rfl, cnot (ct rfl ⟨_, rfl, cellsAll ((f3.rd n2.own.lt fun x => x).trans n2.rd), ?_⟩)⟩
  have F3 := n2.fr.no f3
  refine made_spec (SlCells.fr F3 S fun _ _ x => x) hsl (StrAt.fr F3 D fun _ _ x => x) fun na nl nc ba bc h4 col ns ss ds f4 base N hns hm B => ⟨_, _, _, _, _, _, rfl, ?_⟩
  have F4 := F3.no f4
  obtain ⟨hmem, hl1, hl2⟩ := mayM_mem hm
  have D4 := B.dat
  have hd1 := D4.num
  have hd2 := D4.len
  have hbl : blM ds ns.length = true := by
    have := blM_true B.w
    rw [← hd2, hd1, ← hns] at this; exact this
  refine Make_spec (g.no F4) N.cells hns (by omega) D4 (by omega) (fun x => by rw [hm] at x; cases x) (fun _ x => by rw [hbl] at x; cases x) fun _ _ b h5 f5 hb5 s5 => ⟨_, _, _, _, rfl, num_spec ⟨_, rfl, cn (fun x => absurd rfl x) fun _ => cn (fun x => absurd rfl x) fun _ => ?_⟩⟩
  have F5 := F4.no f5
  have us := sum_range (laidM ns 0) ds
  obtain ⟨u0, u1⟩ := us
  have hs : (((sumM (laidM ns 0) ds).toNat : Nat) : Int) = sumM (laidM ns 0) ds := by omega
  generalize (sumM (laidM ns 0) ds).toNat = s at s5 hs
  have N5 := N.fr f5 fun _ _ _ x => x
  have D5 := D4.fr f5
  unfold bolelaw04_HeadBack.k1
  rw [wrap_i64 (n := (nl : Int) - 1) (by omega) (by omega)]
  obtain ⟨p, rfl, cp⟩ := ints_get N5.cells (i := nl - 1) (by omega)
  refine ⟨⟨by omega, by omega⟩, os ⟨_, by rw [show ((nl : Int) - 1).toNat = nl - 1 by omega]; exact cp, ?_⟩⟩
  have ok : okGo 16384 97 ns = true := by rw [mayM, Bool.and_eq_true] at hm; exact hm.1
  have hlast : ∀ x ∈ ns, x ≤ ns[nl - 1]'(by omega) := fun x hx => by
    have := okGo_last ns 97 ok x hx (by omega)
    have e : ns[nl - 1]'(by omega) = ns[ns.length - 1]'(by omega) := by congr 1; omega
    rw [e]; exact this
  have b32 : ∀ x ∈ ns, 0 ≤ x ∧ x < 4294967296 := fun x hx => by have := hmem x hx; omega
  have eN := laid_nums2 (ns := ns) (s := s) n b32 hl2
  refine Nums_spec (n := n) (g.no F5) s5.str (Nat.le_refl _) (by omega) fun a8 l8 c8 h8 f8 el8 s8 => ⟨_, _, _, _, rfl, ?_⟩
  have F8 := F5.no f8
  have g8 := g.no F8
  have H8 := s5.fr f8 fun _ _ _ x => x
  have D8 := D5.fr f8
  have N8 := N5.fr f8 fun _ _ _ x => x
  rw [eN] at el8 s8 ⊢
  refine cd (fun hle => ?_) fun hgt => ?_
  · have hf : mayM ns n = false := by
      cases hq : mayM ns n with
      | false => rfl
      | true => have := (mayM_mem hq).1 _ (List.getElem_mem (show nl - 1 < ns.length by omega)); omega
    rw [hf] at el8 s8 eN ⊢
    have el8 : l8 = 0 := el8
    subst el8
    refine num_spec ⟨_, rfl, ct rfl (ct rfl (Good_spec (n := n) g8 H8.str (Nat.le_refl _) (by omega) D8 (by omega) fun h10 f10 => ⟨_, rfl, ?_⟩))⟩
    have : goodM (laidM ns s) n ds = false := by rw [goodM, eN]; rfl
    rw [this]; exact hK h10 (F8.no f10)
  · have hmn : mayM ns n = true := by
      have o2 := okGo_below ns 97 ok (n := n) fun x hx => by have := hlast x hx; omega
      rw [mayM, Bool.and_eq_true] at hm ⊢
      exact ⟨o2, hm.2⟩
    rw [hmn] at el8 s8 eN ⊢
    have el8 : l8 = ns.length := el8
    have s8 : Sl h8 1 a8 l8 c8 (ints ns) (From h5.size) := s8
    refine num_spec ⟨_, rfl, cn (fun x => absurd rfl x) fun _ => same_spec s8.cells N8.cells (by omega) hns (by omega) ⟨_, rfl, cnot (ct rfl ?_)⟩⟩
    refine Good_spec (n := n) g8 H8.str (Nat.le_refl _) (by omega) D8 (by omega) fun h13 f13 => ⟨_, rfl, ?_⟩
    rw [laid_good hmn (fun x hx => (b32 x hx).2) (by omega), hbl, hs, beq_self_eq_true]
    have F13 := F8.no f13
    exact cnot (ct rfl (back2 (g.no F13) (SlCells.fr f13 N8.cells fun _ _ x => x) hns hm hmn (D8.fr f13) (B.row.le) B.w hs (H8.fr f13 fun _ _ _ x => x) fun h' f' => hK h' (F13.no f')))
end Go.Proofs.YtnlmieklakolkaaDoor.Hd
