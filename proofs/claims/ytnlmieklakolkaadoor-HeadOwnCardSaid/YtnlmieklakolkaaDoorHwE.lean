/-
  HeadOwn.
-/
import Derived.Test.YtnlmieklakolkaaDoorHwD
namespace Go.Proofs.YtnlmieklakolkaaDoor.Hd
open Go Go.Proofs Go.Proofs.YtnlmieklakolkaaDoor.Wx Go.Proofs.YtnlmieklakolkaaDoor.Hp Go.Proofs.YtnlmieklakolkaaDoor.W Go.Proofs.YtnlmieklakolkaaDoor.Su Go.Proofs.YtnlmieklakolkaaDoor.Re

theorem own_k1 {h0 hh : Heap} {col : Nat → Nat} {d : HD} {wA na ba : Option Addr} {wC bl nl nc bc : Nat} {wl : List Value} {ns : List Int} {ss : List Sc} {ds : List (List UInt8)} {K : Value → Heap → Prop} (g : Glo h0) (s : Hs h0 hh col d wA wC wl na ns ba bl ss ds)
    (g1 : d.gA = none) (g2 : d.gC = 0) (g3 : d.gs = []) (g4 : d.gv = []) (o1 : d.oA = none) (o2 : d.oC = 0) (o3 : d.os = []) (o4 : d.ov = []) (hl : ∀ i (hi : i < d.hs.length), d.hs[i].l ≤ 512) (ll : ∀ i (hi : i < d.ls.length), d.ls[i].l ≤ 96)
    (hm : mayM ns 16384 = true) (hb : blM ds ns.length = true) (hnl : ns.length = nl) (hbl : bl ≤ 140737488355328) (w0 : wl[0]? = some (.string (mkStr (hdM ns ds)))) (w1 : wl[1]? = some (.string (mkStr (zeros 512)))) (hK : ∀ h', Fr No h0 h' → K (.bool true) h') :
    bolelaw04_HeadOwn.k1 d.hA d.hs.length d.lA d.ls.length wA wl.length na nl nc ba bl bc hh K := by
  unfold bolelaw04_HeadOwn.k1
  refine own_markH s g3 hl fun h27 vs t27 hv => ?_
  refine own_markL (d := { d with vs := vs }) t27 o3 ll fun h30 ws t30 hw => ?_
  refine own_longH (d := { d with vs := vs, ws := ws }) t30 g1 g2 g3 g4 hl hv fun h35 col35 gA gC gs gv t35 gn gl gx => ?_
  refine own_longL (d := { d with vs := vs, ws := ws, gA := gA, gC := gC, gs := gs, gv := gv }) t35 o1 o2 o3 o4 ll hw fun h40 col40 oA oC os ov t40 on ol ox => ?_
  refine own_seeH (d := { d with vs := vs, ws := ws, gA := gA, gC := gC, gs := gs, gv := gv, oA := oA, oC := oC, os := os, ov := ov }) t40 gn hl gl hv gx ?_
  refine own_seeL (NEXT' := K) (d := { d with vs := vs, ws := ws, gA := gA, gC := gC, gs := gs, gv := gv, oA := oA, oC := oC, os := os, ov := ov }) t40 on ll ol hw ox ?_
  exact own_end g t40 hm hb hnl hbl w0 w1 hK
/-- a plan, as an argument -/
structure PlanR where
  sa : Option Addr
  sl : Nat
  sc : Nat
  da : Option Addr
  dl : Nat
  dc : Nat
  steps : List Int
  seed : List UInt8
def PlanR.v (x : PlanR) : List Value := [.slice x.sa x.sl x.sc, .slice x.da x.dl x.dc]
structure PlanAt (h : Heap) (x : PlanR) : Prop where
  S : SlCells h x.sa (ints x.steps)
  n : x.steps.length = x.sl
  D : StrAt h x.da x.dl x.seed
theorem PlanAt.fr {h h' : Heap} {x : PlanR} (p : PlanAt h x) (f : Fr No h h') : PlanAt h' x := ⟨SlCells.fr f p.S fun _ _ x => x, p.n, StrAt.fr f p.D fun _ _ x => x⟩
def hdP (x : PlanR) : List UInt8 := hdM (madeN x.steps) (madeD x.steps x.seed)
def headsL (xs : List PlanR) : List (List UInt8) := xs.flatMap fun x => [hdP x, zeros 512]
def listsL (xs : List PlanR) : List (List Value) := xs.map fun x => ints (madeN x.steps)
theorem headsL_snoc (xs : List PlanR) (x : PlanR) : headsL (xs ++ [x]) = headsL xs ++ [hdP x, zeros 512] := by simp [headsL]
theorem listsL_snoc (xs : List PlanR) (x : PlanR) : listsL (xs ++ [x]) = listsL xs ++ [ints (madeN x.steps)] := by simp [listsL]
theorem hdP_length {x : PlanR} (hm : mayM (madeN x.steps) 16384 = true) : (hdP x).length = 512 := laid_length _ _ (by have := (mayM_mem hm).2.2; omega)
set_option maxRecDepth 4000 in
theorem HeadOwn_spec {p q : PlanR} {h : Heap} {K : Value → Heap → Prop} (g : Glo h) (P : PlanAt h p) (Q : PlanAt h q) (hK : ∀ h', Fr No h h' → K (.bool true) h') : C.bolelaw04_HeadOwn p.v q.v h K := by
  refine bolelaw04_HeadOwn.ok (New.intro fun h2 n2 => New.intro fun h3 n3 => known_spec ((g.no n2.fr).no n3.fr) fun h4 f4 => ⟨_, rfl, cf rfl ?_⟩)
  have hs2 := n2.size
  have hs3 := n3.size
  have hs4 := f4.size
  have r4 : rd h4 h.size = p.v := (f4.rd (by omega) fun x => x).trans ((n3.at_ (by omega)).trans n2.rd)
  have r4q : rd h4 h2.size = q.v := (f4.rd (by omega) fun x => x).trans n3.rd
  have F4 : Fr No h h4 := (n2.fr.new n3).no f4
  refine ⟨p.v, rfl, cellsAll r4, q.v, rfl, cellsAll r4q, p.v, rfl, cellsAll r4, rfl, rfl, rfl, New.intro fun h5 n5 => ?_⟩
  have hs5 := n5.size
  have F5 := F4.new n5
  have xs3 : [p, q, p].length = 3 := rfl
  have PA : ∀ x ∈ [p, q, p], PlanAt h x := by
    intro x hx
    simp only [List.mem_cons, List.not_mem_nil, or_false] at hx
    rcases hx with rfl | rfl | rfl
    · exact P
    · exact Q
    · exact P
  have r5 : rd h5 h4.size = [p, q, p].flatMap PlanR.v := n5.rd
  have r5p : rd h5 h.size = p.v := (n5.at_ (by omega)).trans r4
  have x0 : [p, q, p][0]? = some p := rfl
  have x2 : [p, q, p][2]? = some p := rfl
  have hd3 : headsL [p, q, p] = [hdP p, zeros 512, hdP q, zeros 512, hdP p, zeros 512] := rfl
  have ls3 : listsL [p, q, p] = [ints (madeN p.steps), ints (madeN q.steps), ints (madeN p.steps)] := rfl
  generalize [p, q, p] = xs at xs3 PA r5 x0 x2 hd3 ls3
  refine ⟨fun hA hl hC lA ll lC n hh => 0 ≤ n ∧ n ≤ 3 ∧ ∃ col hs ls, Fr No h hh ∧ h4.size < hh.size ∧ (∀ b, b ≤ h4.size → col b = 0) ∧ rd hh h.size = p.v ∧ rd hh h4.size = xs.flatMap PlanR.v ∧ Rw hh col 1 10 hA hl hC hs ((headsL (xs.take n.toNat)).map (List.map bv)) ∧ Rw hh col 2 20 lA ll lC ls (listsL (xs.take n.toNat)) ∧ hs.length = 2 * n.toNat ∧ ls.length = n.toNat ∧ (∀ i (hi : i < hs.length), hs[i].l ≤ 512) ∧ (∀ i (hi : i < ls.length), ls[i].l ≤ 96),
    fun _ _ _ _ _ _ n _ => ((3 : Nat) - n).toNat, ⟨by omega, by omega, fun _ => 0, [], [], F5, by omega, fun _ _ => rfl, r5p, r5, Rw.nil _ _ _ _, Rw.nil _ _ _ _, rfl, rfl, fun i hi => absurd hi (Nat.not_lt_zero _), fun i hi => absurd hi (Nat.not_lt_zero _)⟩, ?_⟩
  rintro hA hl hC lA ll lC n h6 ⟨z0, z1, col, hs, ls, F6, hs6, low, rp6, rx6, H6, L6, nh, nl, hsl, lsl⟩
  have hnum := H6.num
  have lnum := L6.num
  refine cd (fun hn => ?_) fun hn => ?_
  · -- one plan more
    have hn : n < 3 := hn
    have hi : n.toNat < xs.length := by omega
    have px := (PA _ (List.getElem_mem hi)).fr F6
    have cx : Cells h6 (Addr.add ⟨h4.size, 0, none⟩ (n.toNat * 2)) (PlanR.v xs[n.toNat]) := by
      have := Cells.part (cellsAll rx6) (n.toNat * 2) 2
      rw [flat_part PlanR.v 2 _ (fun x _ => rfl) n.toNat hi] at this
      exact this
    have et : xs.take (n + 1).toNat = xs.take n.toNat ++ [xs[n.toNat]] := by rw [show (n + 1).toNat = n.toNat + 1 by omega, List.take_succ_eq_append_getElem hi]
    generalize xs[n.toNat] = x at px cx et
    rw [wrap_i64 (n := n + 1) (by omega) (by omega)]
    refine ⟨⟨z0, hn⟩, _, rfl, cx, NewRow.intro rfl (fun v hv => by rcases List.mem_cons.mp hv with rfl | hv; rfl; rw [List.mem_singleton.mp hv]; rfl) rfl fun h8 n8 => ⟨_, rfl, cellsAll n8.rd, ?_⟩⟩
    have hs8 := n8.size
    have px8 := px.fr n8.fr
    refine made2_spec px8.S px8.n px8.D fun na nl' nc ba bc h9 col' ss f9 low' N hN hm Bk => ⟨_, _, _, _, _, _, rfl, ?_⟩
    have hs9 := f9.size
    have hb : blM (madeD x.steps x.seed) (madeN x.steps).length = true := by rw [made_len x.steps x.seed]; exact blM_true Bk.w
    have hms := mayM_mem hm
    have G9 : Glo h9 := ((g.no F6).no n8.fr).no f9
    refine Make_spec G9 N.cells hN (by omega) Bk.dat (by omega) (fun e => by rw [hm] at e; cases e) (fun _ e => by rw [hb] at e; cases e) fun _ _ b h10 f10 hb10 m10 => ⟨_, _, _, _, rfl, ?_⟩
    have hs10 := f10.size
    have hb10' : b < h10.size := m10.lt
    have en : numsM (hdP x) 16384 = (madeN x.steps, 0) := laid_nums hm fun y hy => by have := (hms.1 y hy).2; omega
    refine Nums_spec (hd := hdP x) (G9.no f10) m10.str (Nat.le_refl _) (by omega) fun a' l' c' h11 f11 el s11 => ⟨_, _, _, _, rfl, ?_⟩
    rw [en] at el s11
    have el : l' = (madeN x.steps).length := el
    have s11 : Sl h11 1 a' l' c' (ints (madeN x.steps)) (From h10.size) := s11
    have hs11 := f11.size
    refine Empty_spec fun h12 n12 => ⟨_, _, _, rfl, New.intro fun h13 n13 => ⟨_, rfl, cellsAll n13.rd, one2 rfl rfl, ?_⟩⟩
    have hs12 := n12.size
    have hs13 := n13.size
    have F613 : Fr No h6 h13 := ((((n8.fr.no f9).no f10).no f11).new n12).new n13
    -- the colours
    obtain ⟨col13, cag, cb, ce, cnn⟩ : ∃ c13 : Nat → Nat, Ag h6.size col c13 ∧ c13 b = 10 + 2 * n.toNat ∧ c13 h11.size = 10 + 2 * n.toNat + 1 ∧ (∀ y, h10.size ≤ y → y < h11.size → c13 y = 20 + n.toNat) :=
      ⟨fun y => if y < h6.size then col y else if y = b then 10 + 2 * n.toNat else if y = h11.size then 10 + 2 * n.toNat + 1 else if h10.size ≤ y ∧ y < h11.size then 20 + n.toNat else 0,
        fun y hy => by show (if y < h6.size then _ else _) = _; rw [if_pos hy],
        by show (if b < h6.size then _ else if b = b then _ else _) = _; rw [if_neg (by omega), if_pos rfl],
        by show (if h11.size < h6.size then _ else if h11.size = b then _ else if h11.size = h11.size then _ else _) = _; rw [if_neg (by omega), if_neg (by omega), if_pos rfl],
        fun y a1 a2 => by show (if y < h6.size then _ else if y = b then _ else if y = h11.size then _ else if h10.size ≤ y ∧ y < h11.size then _ else _) = _; rw [if_neg (by omega), if_neg (by omega), if_neg (by omega), if_pos ⟨a1, a2⟩]⟩
    have H13 := H6.keep F613 cag fun _ _ _ y => y
    have L13 := L6.keep F613 cag fun _ _ _ y => y
    have m13 : Sl h13 1 (some ⟨b, 0, none⟩) 512 512 ((hdP x).map bv) (On col13 (10 + 2 * n.toNat)) := (((m10.fr f11 fun _ _ _ y => y).fr n12.fr fun _ _ _ y => y).fr n13.fr fun _ _ _ y => y).mono fun y hy => by rw [hy]; exact cb
    have e13 : Sl h13 1 (some ⟨h11.size, 0, none⟩) 512 512 ((zeros 512).map bv) (On col13 (10 + 2 * n.toNat + 1)) :=
      (Sl.made (F := fun y => y = h11.size) (zs := []) n12 (List.append_nil _).symm rfl (by rw [List.length_map, zeros_length]) (Nat.le_refl _) rfl).fr n13.fr (fun _ _ _ y => y) |>.mono fun y hy => by rw [hy]; exact ce
    have s13 : Sl h13 1 a' l' c' (ints (madeN x.steps)) (On col13 (20 + n.toNat)) := by
      have s12 := (s11.fr n12.fr fun _ _ _ y => y).fr n13.fr fun _ _ _ y => y
      obtain ⟨y1, y2⟩ := s12
      refine ⟨y1, ?_⟩
      cases a' with
      | none => exact y2
      | some pp => obtain ⟨u1, u2, u3, u4⟩ := y2; exact ⟨u1, cnn _ u2 s11.lt, u3, u4⟩
    have hbytes : (ti26).bytes = 24 := rfl
    refine append_col (elem := ti26) (show Sl h13 (ti26).cells hA hl hC (hs.map Sc.v) (On col13 1) from H13.row) rfl rfl (by rw [hbytes]; omega) (by omega) fun a6 c6 h14 f14 s14 => ?_
    have hs14 := f14.size
    have H14 := Rw.push (new := [⟨some ⟨b, 0, none⟩, 512, 512⟩, ⟨some ⟨h11.size, 0, none⟩, 512, 512⟩]) (nvs := [(hdP x).map bv, (zeros 512).map bv]) H13 (Or.inl (by omega)) f14 s14 rfl fun i h1 h2 => by
      have h1 : i < 2 := h1
      obtain rfl | rfl : i = 0 ∨ i = 1 := by omega
      · show Sl h13 1 (some ⟨b, 0, none⟩) 512 512 ((hdP x).map bv) (On col13 (10 + hs.length + 0))
        rw [nh]; exact m13
      · show Sl h13 1 (some ⟨h11.size, 0, none⟩) 512 512 ((zeros 512).map bv) (On col13 (10 + hs.length + 1))
        rw [nh]; exact e13
    have ag14 : Ag h13.size col13 (upd col13 h13.size 1) := ag_upd _ _ _
    have L14 := L13.keep f14 ag14 fun y _ c1 c2 => by have c2 : col13 y = 1 := c2; omega
    have s14' := Sl.keep' s13 f14 ag14 fun y _ c1 c2 => by have c2 : col13 y = 1 := c2; omega
    generalize hc14 : upd col13 h13.size 1 = col14 at H14 ag14 L14 s14'
    refine New.intro fun h15 n15 => ⟨_, rfl, cellsAll n15.rd, fun v hv => by rw [List.mem_singleton.mp hv]; rfl, ?_⟩
    have hs15 := n15.size
    have ag15 : Ag h14.size col14 (upd col14 h14.size 0) := ag_upd _ _ _
    have H15 := H14.keep n15.fr ag15 fun _ _ _ y => y
    have L15 := L14.keep n15.fr ag15 fun _ _ _ y => y
    have s15 := Sl.keep' s14' n15.fr ag15 fun _ _ _ y => y
    generalize upd col14 h14.size 0 = col15 at ag15 H15 L15 s15
    have hbytes2 : (ti22).bytes = 24 := rfl
    refine append_col (elem := ti22) (show Sl h15 (ti22).cells lA ll lC (ls.map Sc.v) (On col15 2) from L15.row) rfl rfl (by rw [hbytes2]; omega) (by omega) fun a7 c7 h16 f16 s16 => ?_
    have hs16 := f16.size
    have L16 := Rw.push (new := [⟨a', l', c'⟩]) (nvs := [ints (madeN x.steps)]) L15 (Or.inl (by omega)) f16 s16 rfl fun i h1 h2 => by
      have h1 : i < 1 := h1
      obtain rfl : i = 0 := by omega
      show Sl h15 1 a' l' c' (ints (madeN x.steps)) (On col15 (20 + ls.length + 0))
      rw [nl]; exact s15
    have ag16 : Ag h15.size col15 (upd col15 h15.size 2) := ag_upd _ _ _
    have H16 := H15.keep f16 ag16 fun y _ c1 c2 => by have c2 : col15 y = 2 := c2; omega
    have c13lo : ∀ y, y ≤ h4.size → col13 y = 0 := fun y hy => (cag y (by omega)).trans (low y hy)
    have c15lo : ∀ y, y ≤ h4.size → col15 y = 0 := fun y hy => by rw [ag15 y (by omega), ag14 y (by omega)]; exact c13lo y hy
    have keepLo : ∀ y, y ≤ h4.size → rd h16 y = rd h6 y := fun y hy => by
      rw [f16.rd (by omega) (fun c => by have c : col15 y = 2 := c; rw [c15lo y hy] at c; omega), n15.at_ (by omega), f14.rd (by omega) (fun c => by have c : col13 y = 1 := c; rw [c13lo y hy] at c; omega)]
      exact F613.rd (by omega) fun y => y
    refine ⟨⟨by omega, by omega, _, hs ++ [⟨some ⟨b, 0, none⟩, 512, 512⟩, ⟨some ⟨h11.size, 0, none⟩, 512, 512⟩], ls ++ [⟨a', l', c'⟩], ?_, by omega, fun y hy => (ag16 y (by omega)).trans (c15lo y hy), (keepLo _ (by omega)).trans rp6, (keepLo _ (Nat.le_refl _)).trans rx6, by rw [et, headsL_snoc, List.map_append]; exact H16, by rw [et, listsL_snoc]; exact L16, ?_, ?_, fun i hi => ?_, fun i hi => ?_⟩, falls (m := 3) hn⟩
    · exact (((F6.no F613).trans f14 fun y hy c => by have c : col13 y = 1 := c; rw [c13lo y (by omega)] at c; omega).new n15).trans f16 fun y hy c => by have c : col15 y = 2 := c; rw [c15lo y (by omega)] at c; omega
    · rw [List.length_append, nh]; show 2 * n.toNat + 2 = _; omega
    · rw [List.length_append, nl]; show n.toNat + 1 = _; omega
    · rw [List.length_append] at hi
      have hi : i < hs.length + 2 := hi
      by_cases e : i < hs.length
      · rw [List.getElem_append_left e]; exact hsl i e
      · rw [List.getElem_append_right (by omega)]
        obtain e2 | e2 : i - hs.length = 0 ∨ i - hs.length = 1 := by omega
        · simp only [e2]; show (512 : Nat) ≤ 512; omega
        · simp only [e2]; show (512 : Nat) ≤ 512; omega
    · rw [List.length_append] at hi
      have hi : i < ls.length + 1 := hi
      by_cases e : i < ls.length
      · rw [List.getElem_append_left e]; exact lsl i e
      · rw [List.getElem_append_right (by omega)]
        have e2 : i - ls.length = 0 := by omega
        simp only [e2]; show l' ≤ 96; omega
  · -- what they were
    have hn : ¬ n < 3 := hn
    have en : n.toNat = 3 := by omega
    rw [en, List.take_of_length_le (by omega)] at H6 L6
    rw [hd3] at H6
    rw [ls3] at L6
    rw [en] at nh nl
    have hl6 : hl = 6 := by omega
    have ll3 : ll = 3 := by omega
    obtain ⟨hb, hhb⟩ : ∃ hb, hb = [hdP p, zeros 512, hdP q, zeros 512, hdP p, zeros 512] := ⟨_, rfl⟩
    have hbl : hb.length = 6 := by rw [hhb]; rfl
    have b0 : hb[0]? = some (hdP p) := by rw [hhb]; rfl
    have b1 : hb[1]? = some (zeros 512) := by rw [hhb]; rfl
    have b4 : hb[4]? = some (hdP p) := by rw [hhb]; rfl
    rw [← hhb] at H6
    clear hhb
    refine ⟨fun wA wL wC k hh => 0 ≤ k ∧ k ≤ 6 ∧ ∃ col, Fr No h hh ∧ h4.size < hh.size ∧ (∀ b, b ≤ h4.size → col b = 0) ∧ rd hh h.size = p.v ∧ Rw hh col 1 10 hA hl hC hs (hb.map (List.map bv)) ∧ Rw hh col 2 20 lA ll lC ls [ints (madeN p.steps), ints (madeN q.steps), ints (madeN p.steps)] ∧ Sl hh 1 wA wL wC ((hb.take k.toNat).map fun b => .string (mkStr b)) (On col 3) ∧ wL = k.toNat,
      fun _ _ _ k _ => ((6 : Nat) - k).toNat, ⟨by omega, by omega, col, F6, hs6, low, rp6, H6, L6, Sl.nil _ _ _, rfl⟩, ?_⟩
    rintro wA wL wC k h17 ⟨k0, k1, col, F17, hs17, low, rp17, H17, L17, W17, rfl⟩
    refine cd (fun hk => ?_) fun hk => ?_
    · have hk6 : k < 6 := by omega
      have i1 : k.toNat < hs.length := by omega
      have i2 : k.toNat < hb.length := by omega
      obtain ⟨pp, ep, cc⟩ := H17.cell i1
      have it := H17.at_ k.toNat i1 (by rw [List.length_map]; exact i2)
      rw [List.getElem_map] at it
      rw [wrap_i64 (n := k + 1) (by omega) (by omega)]
      refine ⟨⟨k0, hk⟩, oe ep ⟨_, _, _, cc, hb[k.toNat], it.str, New.intro fun h18 n18 => ⟨_, rfl, cellsAll n18.rd, fun v hv => by rw [List.mem_singleton.mp hv]; rfl, ?_⟩⟩⟩
      have hs18 := n18.size
      have ag18 : Ag h17.size col (upd col h17.size 0) := ag_upd _ _ _
      have H18 := H17.keep n18.fr ag18 fun _ _ _ y => y
      have L18 := L17.keep n18.fr ag18 fun _ _ _ y => y
      have W18 := Sl.keep' W17 n18.fr ag18 fun _ _ _ y => y
      generalize upd col h17.size 0 = col18 at ag18 H18 L18 W18
      have hbytes : (ti9).bytes = 16 := rfl
      refine append_col (elem := ti9) (show Sl h18 (ti9).cells wA k.toNat wC _ (On col18 3) from W18) rfl rfl (by rw [hbytes]; omega) (by omega) fun a9 c9 h19 f19 s19 => ?_
      have hs19 := f19.size
      have ag19 : Ag h18.size col18 (upd col18 h18.size 3) := ag_upd _ _ _
      have c18 : ∀ y, y ≤ h4.size → col18 y = 0 := fun y hy => (ag18 y (by omega)).trans (low y hy)
      refine ⟨⟨by omega, by omega, _, (F17.new n18).trans f19 fun y hy c => by have c : col18 y = 3 := c; rw [c18 y (by omega)] at c; omega, by omega, fun y hy => (ag19 y (by omega)).trans (c18 y hy), ?_, H18.keep f19 ag19 fun y _ c1 c2 => by have c2 : col18 y = 3 := c2; omega, L18.keep f19 ag19 fun y _ c1 c2 => by have c2 : col18 y = 3 := c2; omega, ?_, by omega⟩, by show ((6 : Nat) - (k + 1)).toNat < ((6 : Nat) - k).toNat; omega⟩
      · rw [f19.rd (by omega) (fun c => by have c : col18 h.size = 3 := c; rw [c18 _ (by omega)] at c; omega), n18.at_ (by omega)]; exact rp17
      · rw [show (k + 1).toNat = k.toNat + 1 by omega, List.take_succ_eq_append_getElem i2, List.map_append]
        exact s19
    · have ek : k.toNat = 6 := by omega
      rw [ek, List.take_of_length_le (by omega)] at W17
      have p17 := P.fr F17
      refine ⟨p.v, rfl, cellsAll rp17, made2_spec p17.S p17.n p17.D fun na nl' nc ba bc h20 col' ss f20 low' N hN hm Bk => ⟨_, _, _, _, _, _, rfl, ?_⟩⟩
      have hs20 := f20.size
      have hbm : blM (madeD p.steps p.seed) (madeN p.steps).length = true := by rw [made_len p.steps p.seed]; exact blM_true Bk.w
      have hms := mayM_mem hm
      have ag20 : Ag h17.size col (upd col h17.size 0) := ag_upd _ _ _
      have hi20 : ∀ b, h17.size ≤ b → upd col h17.size 0 b = 0 := fun b hb => upd_ge hb
      have H20 := H17.keep f20 ag20 fun _ _ _ y => y
      have L20 := L17.keep f20 ag20 fun _ _ _ y => y
      have W20 := Sl.keep' W17 f20 ag20 fun _ _ _ y => y
      generalize upd col h17.size 0 = col20 at ag20 hi20 H20 L20 W20
      have fz : ∀ c b, c ≠ 0 → On col' c b → col20 b = 0 := fun c b hc hb' => by
        rcases Nat.lt_or_ge b h17.size with hlt | hge
        · have hb' : col' b = c := hb'; rw [low' b hlt] at hb'; omega
        · exact hi20 b hge
      have wlen : (hb.map fun b => Value.string (mkStr b)).length = 6 := by rw [List.length_map, hbl]
      have S20 : Hs h h20 col20 ⟨hA, hC, hs, hb.map (List.map bv), lA, lC, ls, [ints (madeN p.steps), ints (madeN q.steps), ints (madeN p.steps)], none, 0, [], [], none, 0, [], []⟩ wA wC (hb.map fun b => .string (mkStr b)) na (madeN p.steps) ba nl' ss (madeD p.steps p.seed) := by
        refine ⟨F17.no f20, fun b hb => (ag20 b (by omega)).trans (low b (by omega)), by show hs.length = 6; omega, by show ls.length = 3; omega, Nat.zero_le _, Nat.zero_le _, ?_, ?_, Rw.nil _ _ _ _, Rw.nil _ _ _ _, ?_, Fz.of N fun b _ hb => fz 1 b (by omega) hb, ⟨Fz.of Bk.row fun b _ hb => fz 2 b (by omega) hb, Bk.num, Bk.len, fun i h1 h2 => ⟨(Bk.at_ i h1 h2).1.1, (Bk.at_ i h1 h2).1.2, fun pp hp => ⟨((Bk.at_ i h1 h2).2 pp hp).1, fz 3 _ (by omega) ((Bk.at_ i h1 h2).2 pp hp).2⟩⟩⟩⟩
        · show Rw h20 col20 1 10 hA hs.length hC hs _; rw [hnum]; exact H20
        · show Rw h20 col20 2 20 lA ls.length lC ls _; rw [lnum]; exact L20
        · rw [wlen]; exact W20
      have W20' : Sl h20 1 wA 6 wC (hb.map fun b => .string (mkStr b)) (On col20 3) := W20
      obtain ⟨pw, ew, cw⟩ := W20'.get (by omega)
      have v0 : (hb.map fun b => Value.string (mkStr b))[0]? = some (.string (mkStr (hdP p))) := by rw [List.getElem?_map, b0]; rfl
      have v1 : (hb.map fun b => Value.string (mkStr b))[1]? = some (.string (mkStr (zeros 512))) := by rw [List.getElem?_map, b1]; rfl
      have v4 : (hb.map fun b => Value.string (mkStr b))[4]? = some (.string (mkStr (hdP p))) := by rw [List.getElem?_map, b4]; rfl
      have sz : (mkStr (hdP p)).size = 512 := hdP_length hm
      refine ⟨⟨by omega, by omega⟩, oe ew ⟨_, Cells.cell cw v0, cn (fun x => absurd (by rw [sz]; rfl) x) fun _ => ⟨⟨by omega, by omega⟩, oe ew ⟨_, Cells.cell cw v0, ⟨by omega, by omega⟩, oe ew ⟨_, Cells.cell cw v4, cnot (ct (beq_self_eq_true _) ?_)⟩⟩⟩⟩⟩
      obtain ⟨pl, el, c0⟩ := L20.cell (i := 0) (by omega)
      obtain ⟨pl2, el2, c2⟩ := L20.cell (i := 2) (by omega)
      have A0 := L20.at_ 0 (by omega) (by show 0 < 3; omega)
      have A2 := L20.at_ 2 (by omega) (by show 2 < 3; omega)
      have l0 := A0.1
      have l2 := A2.1
      have n0 : (madeN p.steps).length = ls[0].l := by
        have : (ints (madeN p.steps)).length = ls[0].l * 1 := l0
        rw [ints, List.length_map] at this; omega
      have n2 : (madeN p.steps).length = ls[2].l := by
        have : (ints (madeN p.steps)).length = ls[2].l * 1 := l2
        rw [ints, List.length_map] at this; omega
      refine ⟨⟨by omega, by omega⟩, oe el ⟨_, _, _, c0, same_spec (ns := madeN p.steps) A0.cells N.cells n0 hN (by omega) ⟨_, rfl, cf rfl ?_⟩⟩⟩
      refine ⟨⟨by omega, by omega⟩, oe el2 ⟨_, _, _, c2, same_spec (ns := madeN p.steps) A2.cells N.cells n2 hN (by omega) ⟨_, rfl, cf rfl ?_⟩⟩⟩
      have := own_k1 (nl := nl') (nc := nc) (bc := bc) g S20 rfl rfl rfl rfl rfl rfl rfl rfl hsl lsl hm hbm hN (by omega) v0 v1 hK
      rw [wlen] at this
      rw [← hnum, ← lnum, ek]
      exact this
end Go.Proofs.YtnlmieklakolkaaDoor.Hd
