/-
  TEXTS FOR txnPlays_card: WvA WvB RfA AdT RfP RfB RfC RfD RfE RfF RfG RfS WpA CrA CrP R4A R4B RwA D5A D5B D5C D5D D5E RxA RxB RxC RxD RxE TaA TcP TcA TxE RxF WhP WhA WpD.
-/
import Derived.Test.YtjdcbblgaoogmaaGreatDoorGp4
namespace Go.Proofs.YtjdcbblgaoogmaaGreatDoor.Wc
open Go Go.Proofs Wx Hp W Ad Pn
def heldN (S : RD) : List Int × Int := Hd.numsM (readAt S 1) S.lasts.length
def heldL (S : RD) (n : Nat) : Nb := (List.range n).map fun k : Nat => ((heldN S).1.getD k 0, readAt S (2 + k))
theorem heldL_succ (S : RD) (n : Nat) : heldL S (n + 1) = heldL S n ++ [((heldN S).1.getD n 0, readAt S (2 + n))] := by unfold heldL; rw [List.range_succ, List.map_append]; rfl
def heldM (S : RD) : Nb × Int :=
  if S.down = true then ([], 30) else if (S.lasts.length : Int) < 98 then ([], 31) else if (heldN S).2 ≠ 0 then ([], 41)
  else if (heldN S).1 = [] ∨ Hd.goodM (readAt S 1) S.lasts.length ((heldL S (heldN S).1.length).map (·.2)) = true then (heldL S (heldN S).1.length, 0) else ([], 41)
theorem numsM_lim {hd : List UInt8} {n : Int} (h : (Hd.numsM hd n).2 = 0) : (Hd.numsM hd n).1.length ≤ 96 := by
  unfold Hd.numsM at h ⊢
  split
  · exact Nat.zero_le _
  · rename_i c0
    rw [if_neg c0] at h
    split
    · exact Nat.zero_le _
    · rename_i c1
      rw [if_neg c1] at h
      split
      · exact Nat.zero_le _
      · rename_i c2
        rw [if_neg c2] at h
        split
        · exact Nat.zero_le _
        · rename_i c3
          rw [if_neg c3] at h
          split
          · exact Nat.zero_le _
          · rename_i c4
            rw [if_neg c4] at h
            split
            · exact Nat.zero_le _
            · rename_i c5
              rw [if_neg c5] at h
              split
              · exact Nat.zero_le _
              · rw [Hd.numsL_length]; omega
theorem read_ok {h : Heap} {D : Nat → Prop} {d : Option Addr} {S : RD} {i : Int} {K KP : Value → Heap → Prop} (A : DiskF h D d S) (hd : S.down = false) (h0 : 0 ≤ i) (h1 : i < S.lasts.length)
    (hK : ∀ b h', Fr No h h' → Sl h' 1 (some ⟨b, 0, none⟩) 512 512 ((readAt S i.toNat).map bv) (From h.size) → (readAt S i.toNat).length = 512 → K (.slice (some ⟨b, 0, none⟩) 512 512) h') : C.wal_read d i h K KP := by
  refine wal_read.ok (DiskF.read A (fun x => absurd (hd.symm.trans x) (by simp)) (fun _ x => absurd ⟨h0, h1⟩ x) fun _ _ _ b h' f s l => ⟨_, _, _, _, rfl, ?_⟩)
  exact must_true ⟨rfl, hK b h' f s l⟩
theorem held_spec {h : Heap} {D : Nat → Prop} {d : Option Addr} {S : RD} {K KP : Value → Heap → Prop} (G : Re.Glo h) (A : DiskF h D d S)
    (h1 : ∀ e, heldM S = ([], e) → e ≠ 0 → ∀ h', Fr No h h' → KP (guV e) h')
    (h2 : ∀ l, heldM S = (l, 0) → ∀ a c h' rs, Fr No h h' → nb rs = l → rs.length ≤ 96 → Bl h' (fun b => b < h.size) a rs → K (.slice a rs.length c) h') : C.wal_held d h K KP := by
  unfold heldM at h1 h2
  refine wal_held.ok (DiskF.down A ⟨_, rfl, ?_⟩)
  cases hd : S.down with
  | true =>
    rw [hd, if_pos rfl] at h1
    exact must_false (h1 30 rfl (by decide) h (Fr.refl _ _))
  | false =>
    rw [hd, if_neg (by simp)] at h1 h2
    refine must_true ⟨rfl, DiskF.blocks A ⟨_, rfl, ?_⟩⟩
    by_cases hn : (S.lasts.length : Int) < 98
    · rw [if_pos hn] at h1
      rw [decide_eq_false (by omega)]
      exact must_false (h1 31 rfl (by decide) h (Fr.refl _ _))
    rw [if_neg hn] at h1 h2
    rw [decide_eq_true (by omega)]
    refine must_true ⟨rfl, read_ok A hd (by decide) (by omega) fun b h6 f6 s6 l6 => ⟨_, _, _, rfl, DiskF.blocks (A.no f6) ⟨_, rfl, ?_⟩⟩⟩
    have e1 : (1 : Int).toNat = 1 := rfl
    rw [e1] at s6 l6
    refine Hd.Nums_spec (n := S.lasts.length) (G.no f6) s6.str (Nat.le_refl _) (by omega) fun na nl nc h8 f8 enl s8 => ⟨_, _, _, _, rfl, ?_⟩
    have f68 := f6.no f8
    have z8 := f68.size
    have z6 := f6.size
    have eN : Hd.numsM (readAt S 1) S.lasts.length = heldN S := rfl
    rw [eN] at s8 enl ⊢
    by_cases he : (heldN S).2 = 0
    rotate_left
    · rw [if_pos he] at h1
      rw [beq_eq_false_iff_ne.mpr he]
      exact must_false (h1 41 rfl (by decide) h8 f68)
    rw [if_neg (fun x => x he)] at h1 h2
    rw [beq_iff_eq.mpr he]
    have lim : (heldN S).1.length ≤ 96 := numsM_lim he
    subst enl
    refine must_true ⟨rfl, ?_⟩
    refine ⟨fun la ll lc da dl dc n hh => 0 ≤ n ∧ n ≤ (heldN S).1.length ∧ ll = n.toNat ∧ dl = n.toNat ∧ Fr No h8 hh ∧ ∃ (rs : Rs) (F1 F2 : Nat → Prop), nb rs = heldL S n.toNat ∧ rs.length = n.toNat ∧
        Row h8.size hh F1 2 la ll lc (rs.flatMap cellsR) ∧ Row h8.size hh F2 1 da dl dc (rs.map fun r => (hsc r).v) ∧ (∀ b, F1 b → ¬ F2 b) ∧ (∀ r ∈ rs, StrAt hh r.2.1.a r.2.1.l r.2.2 ∧ ∀ p, r.2.1.a = some p → (h8.size ≤ p.block ∧ p.block < hh.size) ∧ ¬ F1 p.block ∧ ¬ F2 p.block),
      fun _ _ _ _ _ _ n _ => (((heldN S).1.length : Int) - n).toNat, ⟨by omega, by omega, rfl, rfl, Fr.refl _ _, [], No, No, rfl, rfl, Row.nil _ _ _, Row.nil _ _ _, fun b x => x.elim, fun r hr => absurd hr List.not_mem_nil⟩, ?_⟩
    rintro la ll lc da dl dc n h10 ⟨n0, n1, rfl, rfl, f10, rs, F1, F2, er, lr, r1, r2, dj, ok⟩
    have z10 := f10.size
    refine cd (fun hlt => ?_) fun hlt => ?_
    · have hn' : n.toNat < (heldN S).1.length := by omega
      obtain ⟨p, rfl, cp⟩ := Hd.ints_get (SlCells.fr f10 s8.cells fun _ _ x => x) hn'
      rw [wrap_i64 (n := 2 + n) (by omega) (by omega)]
      refine ⟨⟨n0, hlt⟩, os ⟨_, cp, read_ok (A.no (f68.no f10)) hd (by omega) (by omega) fun b h11 f11 s11 l11 => ⟨_, _, _, rfl, rfl, ?_⟩⟩⟩
      have z11 := f11.size
      have e2 : (2 + n).toNat = 2 + n.toNat := by omega
      rw [e2] at s11 l11
      have bl : b < h11.size := by obtain ⟨_, _, _, o, _⟩ := s11; exact o.lt
      have bg : h10.size ≤ b := by obtain ⟨_, _, g, _⟩ := s11; exact g
      have r1' := r1.keep f11 fun _ _ x => x
      have r2' := r2.keep f11 fun _ _ x => x
      refine row_app (vs := [.int .i64 (heldN S).1[n.toNat], .slice (some ⟨b, 0, none⟩) 512 512]) r1' rfl (cellsR_one ((heldN S).1[n.toNat], ⟨some ⟨b, 0, none⟩, 512, 512⟩, [])) rfl rfl (Nat.le_of_ble_eq_true rfl) (by omega) (by omega) fun la' lc' h13 F1' f13 g13 r1'' => ?_
      have z13 := f13.size
      have r2'' := r2'.keep f13 fun x y w => dj x w y
      refine row_app (vs := [.slice (some ⟨b, 0, none⟩) 512 512]) r2'' rfl (fun v hv => by rw [List.mem_singleton.mp hv]; rfl) rfl rfl (Nat.le_of_ble_eq_true rfl) (by omega) (by omega) fun da' dc' h15 F2' f15 g15 r2''' => ?_
      have z15 := f15.size
      rw [wrap_i64 (by omega) (by omega)]
      have en : (n + 1).toNat = n.toNat + 1 := by omega
      have nb1 : ¬ F1 b := fun x => by have := (r1.ge b x).2; omega
      have nb2 : ¬ F2 b := fun x => by have := (r2.ge b x).2; omega
      have out1 : ∀ x, x < h11.size → ¬ F1 x → ¬ F1' x := fun x hx y w => (g13 x w).elim y fun q => by omega
      have out2 : ∀ x, x < h11.size → ¬ F2 x → ¬ F2' x := fun x hx y w => (g15 x w).elim y fun q => by omega
      have f1015 : Fr No h8 h15 := ((f10.no f11).trans f13 fun x hx y => by have := r1.ge x y; omega).trans f15 fun x hx y => by have := r2.ge x y; omega
      refine ⟨⟨by omega, by omega, en.symm, en.symm, f1015, rs ++ [((heldN S).1[n.toNat], ⟨some ⟨b, 0, none⟩, 512, 512⟩, readAt S (2 + n.toNat))], F1', F2', ?_, by rw [List.length_append, lr, en]; rfl, ?_, ?_, ?_, ?_⟩, falls hlt⟩
      · rw [en, heldL_succ]
        unfold nb at er ⊢
        rw [List.map_append, er, List.getD_eq_getElem?_getD, List.getElem?_eq_getElem hn']; rfl
      · have q := r1''.keep f15 fun x y w => by
          rcases g13 x y with k | k
          · exact dj x k w
          · have := (r2.ge x w).2; omega
        rw [List.flatMap_append]; exact q
      · rw [List.map_append]; exact r2'''
      · intro x y w
        rcases g15 x w with k | k
        · rcases g13 x y with k' | k'
          · exact dj x k' k
          · have := (r2.ge x k).2; omega
        · have := (r1''.ge x y).2; omega
      · intro r hr
        rcases List.mem_append.mp hr with hr | hr
        · obtain ⟨o1, o2⟩ := ok r hr
          refine ⟨StrAt.fr f15 (StrAt.fr ((f11.mono (G := F1) fun _ _ x => x.elim).trans f13 fun x _ y => y) o1 fun p e => (o2 p e).2.1) fun p e => (o2 p e).2.2, fun p e => ?_⟩
          obtain ⟨q1, q2, q3⟩ := o2 p e
          exact ⟨by omega, out1 _ (by omega) q2, out2 _ (by omega) q3⟩
        · rw [List.mem_singleton.mp hr]
          refine ⟨StrAt.fr f15 (StrAt.fr f13 s11.str fun p e => by cases e; exact nb1) fun p e => by cases e; exact nb2, fun p e => ?_⟩
          cases e
          exact ⟨⟨by show h8.size ≤ b; omega, by show b < h15.size; omega⟩, out1 b bl nb1, out2 b bl nb2⟩
    have en : n.toNat = (heldN S).1.length := by omega
    rw [en] at er lr
    have fin := f68.no f10
    have bl : Bl h10 (fun b => b < h.size) la rs := by
      refine ⟨r1.s.cells, fun p e => ?_, fun r hr => ⟨(ok r hr).1, fun p e => ?_⟩⟩
      · subst e
        obtain ⟨_, _, k, o, _⟩ := r1.s
        exact ⟨o.lt, fun x => by have x : p.block < h.size := x; have := (r1.ge _ k).1; omega⟩
      · have := ((ok r hr).2 p e).1
        exact ⟨this.2, fun x => by have x : p.block < h.size := x; omega⟩
    rw [en, ← lr]
    refine ce (fun h0 => ?_) fun h0 => ?_
    · have e0 : (heldN S).1 = [] := List.eq_nil_of_length_eq_zero (by omega)
      rw [if_pos (.inl e0)] at h2
      exact must_true ⟨rfl, h2 _ rfl la lc h10 rs fin er (by omega) bl⟩
    · have Dt : Hd.Dat h10 da n.toNat (rs.map hsc) (rs.map (·.2.2)) := by
        refine ⟨?_, by rw [List.length_map]; omega, by rw [List.length_map, List.length_map], fun i g1 g2 => ?_⟩
        · rw [List.map_map]; exact r2.s.cells
        · rw [List.getElem_map, List.getElem_map]
          rw [List.length_map] at g1
          exact (ok _ (List.getElem_mem g1)).1
      have ed : rs.map (·.2.2) = (heldL S (heldN S).1.length).map (·.2) := by
        rw [← er]
        unfold nb
        rw [List.map_map]; rfl
      have hne : (heldN S).1 ≠ [] := fun e => by rw [e] at lr; have lr : rs.length = 0 := lr; omega
      have lnr : n.toNat = rs.length := by omega
      rw [lnr] at Dt
      refine DiskF.blocks (A.no fin) ⟨_, rfl, Hd.Good_spec (n := S.lasts.length) (G.no fin) (StrAt.fr (f8.no f10) s6.str fun _ _ x => x) (Nat.le_refl _) (by omega) Dt (by omega) fun h20 f20 => ⟨_, rfl, ?_⟩⟩
      rw [ed]
      cases hg : Hd.goodM (readAt S 1) S.lasts.length ((heldL S (heldN S).1.length).map (·.2)) with
      | true =>
        rw [if_pos (.inr hg)] at h2
        exact must_true ⟨rfl, h2 _ rfl la lc h20 rs (fin.no f20) er (by omega) (bl.no f20)⟩
      | false =>
        rw [if_neg (fun x => x.elim hne fun y => by rw [hg] at y; cases y)] at h1
        exact must_false (h1 41 rfl (by decide) h20 (fin.no f20))
end Go.Proofs.YtjdcbblgaoogmaaGreatDoor.Wc
namespace Go.Proofs.YtjdcbblgaoogmaaGreatDoor.Wc
open Go Go.Proofs Wx Hp W Ad Pn
def recM (S : RD) : RD × Int × Int :=
  if (heldM S).2 ≠ 0 then (S, 0, (heldM S).2) else if (heldM S).1 = [] then (S, 0, 0)
  else if (runS (homeS (heldM S).1) S).2 ≠ 0 then ((runS (homeS (heldM S).1) S).1, 0, (runS (homeS (heldM S).1) S).2) else ((runS (homeS (heldM S).1) S).1, (heldM S).1.length, 0)
theorem do_steps {n0 : Nat} {D : Nat → Prop} {d : Option Addr} {hh : Heap} {sb : Nat} {R : Nat → Prop} {S : RD} {xs : List SV} {K : Int → Heap → Prop} (b : Bd n0 D hh sb R xs) (hD : ∀ b, D b → b < n0) (A : DiskF hh D d S) (hp : S.pend.length + xs.length < 1000000000) (ht : S.tape.length + xs.length < 1000000000)
    (hK : ∀ h' D', Fr D hh h' → Gw hh D h' D' → DiskF h' D' d (runS (xs.map SV.stp) S).1 → K (runS (xs.map SV.stp) S).2 h') :
    ∃ (sA6 : Option Addr) (sL6 : Nat) (sC6 : Nat), cellOf hh ⟨sb, 0, none⟩ = some (.slice sA6 sL6 sC6) ∧ C.wal_steps_do sA6 sL6 sC6 d hh fun r10 h22 => ∃ (n6 : Int), r10 = .int .i64 n6 ∧ K n6 h22 := by
  obtain ⟨a, c, e, s⟩ := b.row
  refine ⟨a, _, c, rdc e rfl, do_spec A (fun x hx => (b.ok x hx).weak fun _ y => .inl y) s.cells (fun p e => ?_) hp ht fun h' D' f g A' => ⟨_, rfl, hK h' D' f g A'⟩⟩
  subst e
  obtain ⟨_, _, q, o, _⟩ := s
  exact ⟨o.lt, fun y => by have := hD _ y; have := (b.ge _ q.1).1; omega⟩
theorem Recover_spec {h : Heap} {D : Nat → Prop} {d : Option Addr} {S : RD} {K : Value → Heap → Prop} (G : Re.Glo h) (A : DiskF h D d S) (hp : S.pend.length < 100000000) (ht : S.tape.length < 100000000)
    (hK : ∀ h' D', Fr D h h' → Gw h D h' D' → DiskF h' D' d (recM S).1 → K (.tuple #[.int .i64 (recM S).2.1, .int .i64 (recM S).2.2]) h') : C.wal_Recover d h K := by
  have hDl : ∀ b, D b → b < h.size := fun b x => A.lt x
  refine wal_Recover.ok (New.intro fun h2 n2 => ?_)
  have z2 := n2.size
  have no : ∀ {h'}, Fr No h h' → Fr D h h' ∧ Gw h D h' D ∧ DiskF h' D d S := fun f => ⟨f.mono fun _ _ x => x.elim, Gw.refl f.size hDl, A.no f⟩
  have eRet : ∀ {h3 h4 : Heap} {v : Int}, Fr No h h3 → Did h.size h3 h4 [.int .i64 v] → Fr No h h4 := fun f dd => f.did dd fun hb => by omega
  refine held_spec (G.no n2.fr) (A.no n2.fr) (fun e he hne h13 f13 => ?_) fun l hl la lc h3 rs f3 er lr bl => ⟨_, _, _, rfl, ?_⟩
  · have er : recM S = (S, 0, e) := by unfold recM; rw [he, if_pos hne]
    rw [er] at hK
    refine recover_pan (v := 0) (f13.own (by omega) (fun x => x) n2.own) ((f13.rd (by omega) fun x => x).trans n2.rd) fun h14 d14 => ⟨_, rdc d14.rd rfl, ?_⟩
    have f := eRet (n2.fr.no f13) d14
    obtain ⟨x, y, z⟩ := no f
    exact hK h14 D x y z
  have z3 := f3.size
  have F3 := n2.fr.no f3
  have o3 : Own h3 h.size := f3.own (by omega) (fun x => x) n2.own
  have r3 : rd h3 h.size = [.int .i64 0] := (f3.rd (by omega) fun x => x).trans n2.rd
  have ll : l.length = rs.length := by rw [← er]; exact List.length_map ..
  refine ce (fun h0 => ?_) fun h0 => ?_
  · have el : l = [] := List.eq_nil_of_length_eq_zero (by omega)
    have er : recM S = (S, 0, 0) := by unfold recM; rw [hl, if_neg (fun x => x rfl), if_pos el]
    rw [er] at hK
    refine Put.intro o3 (by rw [r3]; exact Nat.one_pos) fun h4 d4 => ?_
    rw [r3] at d4
    refine recover_ret (v := 0) d4.own d4.rd fun h5 d5 => ⟨_, rdc d5.rd rfl, ?_⟩
    have z4 := d4.size
    have f : Fr No h h5 := (F3.did d4 fun hb => by omega).did d5 fun hb => by omega
    obtain ⟨x, y, z⟩ := no f
    exact hK h5 D x y z
  have hne : l ≠ [] := fun e => by rw [e] at ll; have ll : (0 : Nat) = rs.length := ll; omega
  refine New.intro fun h6 n6 => ?_
  have z6 := n6.size
  have F6 := F3.new n6
  have b6 : Bd h3.size D h6 h3.size (fun b => b = h3.size) [] :=
    ⟨rfl, fun b e => ⟨by omega, by omega⟩, n6.own, ⟨none, 0, n6.rd, Sl.nil _ _ _⟩, fun x hx => absurd hx List.not_mem_nil⟩
  have hD : ∀ b, D b → b < h3.size := fun b x => by have := hDl b x; omega
  have bl6 : Bl h6 (fun b => D b ∨ b = h3.size) la rs := bl.fr n6.fr (fun _ _ x => x.elim) fun x hx y => by
    rcases y with y | y
    · have := hDl x y; omega
    · omega
  refine home_spec b6 hD bl6 (by show 0 + rs.length < 100000; omega) fun h7 R7 ys f7 g7 b7 ey ly => ⟨rfl, ?_⟩
  have z7 := f7.size
  have F7 : Fr No h h7 := F6.trans f7 fun x hx e => by have e : x = h3.size := e; omega
  rw [er] at ey
  have ey : ([] ++ ys).map SV.stp = homeS l := ey
  refine do_steps b7 hD (A.no F7) (by rw [List.nil_append, ly]; omega) (by rw [List.nil_append, ly]; omega) fun h8 D8 f8 g8 A8 => ?_
  rw [ey] at A8 ⊢
  have z8 := f8.size
  have nD : ¬ D h.size := fun x => by have := hDl _ x; omega
  have o8 : Own h8 h.size := f8.own (by omega) nD (f7.own (by omega) (fun e => by have e : h.size = h3.size := e; omega) (n6.fr.own (by omega) (fun x => x) o3))
  have r8 : rd h8 h.size = [.int .i64 0] := (f8.rd (by omega) nD).trans ((f7.rd (by omega) fun e => by have e : h.size = h3.size := e; omega).trans ((n6.fr.rd (by omega) fun x => x).trans r3))
  have F8 : Fr D h h8 := (F7.mono fun _ _ x => x.elim).trans f8 fun _ _ x => x
  have G8 : Gw h D h8 D8 := ⟨fun b hb => g8.old b (by omega), g8.lt⟩
  have nD8 : ¬ D8 h.size := fun x => nD ((g8.old _ (by omega)).mp x)
  have fin : ∀ {m e : Int}, recM S = ((runS (homeS l) S).1, m, e) → Wx.Put ⟨h.size, 0, none⟩ (.int .i64 e) h8 fun h9 => W.D.wal_Recover_c1 (some ⟨h.size, 0, none⟩) h9 fun h10 => ∃ (res2 : Int), cellOf h10 ⟨h.size, 0, none⟩ = some (.int .i64 res2) ∧ K (.tuple #[.int .i64 m, .int .i64 res2]) h10 := by
    intro m e em
    rw [em] at hK
    refine Put.intro o8 (by rw [r8]; exact Nat.one_pos) fun h9 d9 => ?_
    rw [r8] at d9
    refine recover_ret (v := e) d9.own d9.rd fun h10 d10 => ⟨_, rdc d10.rd rfl, ?_⟩
    have z9 := d9.size
    have z10 := d10.size
    have f810 : Fr (fun x => x = h.size) h8 h10 := d9.fr.trans d10.fr fun _ _ x => x
    refine hK h10 D8 (F8.trans f810 fun x hx e => by have e : x = h.size := e; omega) ⟨G8.old, fun b x => by have := G8.lt b x; omega⟩ (A8.fr f810 fun b x e => ?_)
    have e : b = h.size := e
    subst e; exact nD8 x
  refine cn (fun hx => fin ?_) fun hx => fin ?_
  · unfold recM
    rw [hl, if_neg (fun y => y rfl), if_neg hne, if_pos hx]
  · unfold recM
    rw [hl, if_neg (fun y => y rfl), if_neg hne, if_neg (fun y => y hx)]
    show (_, ((l.length : Nat) : Int), (0 : Int)) = _
    rw [ll]
theorem set_len {ls : List (List UInt8)} {y : List UInt8} {i : Nat} (h : ∀ x ∈ ls, x.length = 512) (hy : y.length = 512) : ∀ x ∈ ls.set i y, x.length = 512 := fun x hx => by
  rcases List.mem_or_eq_of_mem_set hx with h1 | h1
  · exact h x h1
  · rw [h1]; exact hy
theorem apply_len : ∀ (ps : Nb) (ls : List (List UInt8)), (∀ x ∈ ls, x.length = 512) → (∀ p ∈ ps, p.2.length = 512) → ∀ x ∈ applyTo ls ps, x.length = 512
  | [], _, h, _ => h
  | p :: r, ls, h, hp => apply_len r (ls.set p.1.toNat p.2) (set_len h (hp p (List.mem_cons_self ..))) fun q hq => hp q (List.mem_cons_of_mem _ hq)
end Go.Proofs.YtjdcbblgaoogmaaGreatDoor.Wc
namespace Go.Proofs.YtjdcbblgaoogmaaGreatDoor.Rf
open Go Go.Proofs Wx Hp W Ad
structure FD where
  first : List UInt8
  acts : List (Int × Int × List UInt8)
  keep : List Bool
  left : Int
  out : Bool
  writes : Int
  flushes : Int
structure FRaw where
  fa : Option Addr
  fn : Nat
  fc : Nat
  aa : Option Addr
  an : Nat
  ac : Nat
  ka : Option Addr
  kn : Nat
  kc : Nat
  left : Int
  out : Bool
  writes : Int
  flushes : Int
def FRaw.cells (r : FRaw) : List Value :=
  [.slice r.fa r.fn r.fc, .slice r.aa r.an r.ac, .slice r.ka r.kn r.kc, .int .i64 r.left, .bool r.out, .int .i64 r.writes, .int .i64 r.flushes]
structure Ref (h : Heap) (b : Nat) (S : FD) (col : Nat → Nat) (m : Nat) (r : FRaw) (es : List Ent) : Prop where
  sc : col b = m
  so : Own h b
  sr : rd h b = r.cells
  left : r.left = S.left
  out : r.out = S.out
  writes : r.writes = S.writes
  flushes : r.flushes = S.flushes
  f : Sl h 1 r.fa r.fn r.fc (S.first.map bv) (On col (m + 1))
  fn : r.fn = S.first.length
  fmax : S.first.length ≤ 8388608
  a : Sl h 3 r.aa r.an r.ac (es.flatMap Ent.cells) (On col (m + 2))
  an : r.an = es.length
  amax : es.length ≤ 140737488355328
  ts : Ents h col (m + 3) es S.acts
  k : Sl h 1 r.ka r.kn r.kc (S.keep.map .bool) (On col (m + 4))
  kn : r.kn = S.keep.length
def RefAt (h : Heap) (d : Option Addr) (S : FD) (col : Nat → Nat) (m : Nat) : Prop := ∃ b r es, d = some ⟨b, 0, none⟩ ∧ Ref h b S col m r es
theorem Ref.keep' {h h' : Heap} {b : Nat} {S : FD} {col col' : Nat → Nat} {m : Nat} {r : FRaw} {es : List Ent} {F : Nat → Prop} (d : Ref h b S col m r es) (f : Fr F h h') (g : Ag h.size col col')
    (hF : ∀ b, m ≤ col b → col b ≤ m + 5 → ¬ F b) : Ref h' b S col' m r es := by
  have hb := d.so.lt
  have hs : ¬ F b := hF b (by have := d.sc; omega) (by have := d.sc; omega)
  exact ⟨(g _ hb).trans d.sc, f.own hb hs d.so, (f.rd hb hs).trans d.sr, d.left, d.out, d.writes, d.flushes, d.f.keep f g (fun b e => hF b (by omega) (by omega)), d.fn, d.fmax,
    d.a.keep f g (fun b e => hF b (by omega) (by omega)), d.an, d.amax, Ents.keep f g (fun b e => hF b (by omega) (by omega)) d.ts, d.k.keep f g (fun b e => hF b (by omega) (by omega)), d.kn⟩
theorem RefAt.keep {h h' : Heap} {d : Option Addr} {S : FD} {col col' : Nat → Nat} {m : Nat} {F : Nat → Prop} (D : RefAt h d S col m) (f : Fr F h h') (g : Ag h.size col col')
    (hF : ∀ b, m ≤ col b → col b ≤ m + 5 → ¬ F b) : RefAt h' d S col' m := by
  obtain ⟨b, r, es, e, D⟩ := D; exact ⟨b, r, es, e, D.keep' f g hF⟩
theorem Ref.field {h : Heap} {b : Nat} {S : FD} {col : Nat → Nat} {m : Nat} {r : FRaw} {es : List Ent} (d : Ref h b S col m r es) (k : Nat) : cellOf h (Addr.add ⟨b, 0, none⟩ k) = r.cells[k]? := by
  rw [add_mk, cellOf_rd, d.sr, Nat.zero_add]
def freshR (bs : List UInt8) : FD := ⟨bs, [], [], 0, false, 0, 0⟩
theorem copied_spec {a : Option Addr} {l c : Nat} {bs : List UInt8} {h : Heap} {K : Value → Heap → Prop} (B : StrAt h a l bs) (hl : l ≤ 140737488355328)
    (hK : ∀ a' c' h', Fr No h h' → Sl h' 1 a' l c' (bs.map bv) (From h.size) → K (.slice a' l c') h') : C.boleref03_copied a l c h K := by
  obtain ⟨s1, s2, s3⟩ := StrAt.src B
  refine boleref03_copied.ok ⟨_, s1, s2, s3, append_nil s1 rfl (by show l * 1 ≤ _; omega) hl hK⟩
theorem Of_spec {a : Option Addr} {l c : Nat} {bs : List UInt8} {h : Heap} {K : Value → Heap → Prop} (col : Nat → Nat) (m : Nat) (B : StrAt h a l bs) (hl : l ≤ 140737488355328)
    (h1 : l % 512 ≠ 0 ∨ l = 0 ∨ 16384 < l / 512 → K (.tuple #[.pointer none, .int .i64 32]) h)
    (h2 : l % 512 = 0 → 0 < l → l / 512 ≤ 16384 → ∀ q h' col', Fr No h h' → Ag h.size col col' → RefAt h' (some q) (freshR bs) col' m → K (.tuple #[.pointer (some q), .int .i64 0]) h') :
    C.boleref03_Of a l c h K := by
  have hbl := B.1
  have hd : Int.tdiv (l : Int) 512 = ((l / 512 : Nat) : Int) := by rw [Int.tdiv_eq_ediv_of_nonneg (by omega)]; omega
  have hmd : Int.tmod (l : Int) 512 = ((l % 512 : Nat) : Int) := by rw [Int.tmod_eq_emod_of_nonneg (by omega)]; omega
  have hw : IntKind.wrap .i64 (Int.tdiv (l : Int) 512) = ((l / 512 : Nat) : Int) := by rw [hd]; exact wrap_i64 (by omega) (by omega)
  refine boleref03_Of.ok (ce (fun x => h1 (Or.inr (Or.inl (by omega)))) fun x => cn (fun y => h1 (Or.inl (by omega))) fun y => ?_)
  rw [hw]
  refine cd (fun z => h1 (Or.inr (Or.inr (by omega)))) fun z => copied_spec B hl fun a' c' h3 f3 s3 => ⟨_, _, _, rfl, New.intro fun h4 n4 => ?_⟩
  refine h2 (by omega) (by omega) (by omega) _ _ (upd (upd col h.size (m + 1)) h3.size m) (f3.new n4) ((ag_upd _ _ _).trans (ag_upd _ _ _) f3.size) ?_
  refine ⟨_, ⟨a', l, c', none, 0, 0, none, 0, 0, 0, false, 0, 0⟩, [], rfl, upd_ge (Nat.le_refl _), n4.own, n4.rd, rfl, rfl, rfl, rfl, ?_, hbl.symm, ?_, Sl.nil _ _ _, rfl, by simp, trivial, Sl.nil _ _ _, rfl⟩
  · have s : Sl h3 1 a' l c' (bs.map bv) (On (upd col h.size (m + 1)) (m + 1)) := s3.mono fun b hb => upd_ge hb
    exact s.keep n4.fr (ag_upd _ _ _) (fun _ _ x => x)
  · show bs.length ≤ 8388608
    omega
theorem Blocks_spec {d : Option Addr} {h : Heap} {K : Value → Heap → Prop} {S : FD} {col : Nat → Nat} {m : Nat} (D : RefAt h d S col m)
    (hK : K (.int .i64 (S.first.length / 512 : Nat)) h) : C.boleref03_Disk_Blocks d h K := by
  obtain ⟨b, r, es, rfl, D⟩ := D
  refine boleref03_Disk_Blocks.ok ⟨_, _, _, D.field 0, ?_⟩
  have hm := D.fmax
  have hd : Int.tdiv (r.fn : Int) 512 = ((S.first.length / 512 : Nat) : Int) := by rw [D.fn, Int.tdiv_eq_ediv_of_nonneg (by omega)]; omega
  have hw : IntKind.wrap .i64 (Int.tdiv (r.fn : Int) 512) = ((S.first.length / 512 : Nat) : Int) := by rw [hd]; exact wrap_i64 (by omega) (by omega)
  rw [hw]; exact hK
end Go.Proofs.YtjdcbblgaoogmaaGreatDoor.Rf
namespace Go.Proofs.YtjdcbblgaoogmaaGreatDoor.Ad
open Go Go.Proofs Wx Hp W
def RD.arm (S : RD) (n : Int) (keep : List Bool) : RD × Int := if S.down then (S, 30) else ({ S with left := if (0 : Int) > n then 0 else n, keep := keep }, 0)
theorem ent_one (e : Ent) : ∀ v ∈ e.cells, v.oneCell' = true := by
  intro v hv; simp only [Ent.cells, List.mem_cons, List.not_mem_nil, or_false] at hv; rcases hv with rfl | rfl | rfl <;> rfl
theorem Arm_spec {d : Option Addr} {n : Int} {ka : Option Addr} {kl kc : Nat} {keep : List Bool} {h : Heap} {K : Value → Heap → Prop} {S : RD} {col : Nat → Nat} {m : Nat} (D : DiskAt h d S col m)
    (hn : n ≤ 9223372036854775807) (hkl : keep.length = kl) (hk : SlCells h ka (keep.map .bool)) (hl : kl ≤ 140737488355328)
    (hK : ∀ h' col', Fr (Dk col m) h h' → Ag h.size col col' → DiskAt h' d (S.arm n keep).1 col' m → K (.int .i64 (S.arm n keep).2) h') : C.adisk_Disk_Arm d [.int .i64 n, .slice ka kl kc] h K := by
  obtain ⟨b, r, es, rfl, D⟩ := D
  refine adisk_Disk_Arm.ok (New.intro fun h2 n2 => ?_)
  have D2 := D.keep' n2.fr (Ag.refl _ _) (fun _ _ _ x => x)
  have F2 : Fr (Dk col m) h h2 := n2.fr.mono fun _ _ x => x.elim
  have hs2 := n2.size
  refine os ⟨_, D2.field 4, ?_⟩
  rw [D.down]
  refine cs (fun e => ?_) fun e => ?_
  · have := hK h2 col F2 (Ag.refl _ _)
    rw [RD.arm, if_pos e] at this; exact this ⟨_, _, _, rfl, D2⟩
  refine ⟨_, rda n2.rd rfl, _, _, _, rda n2.rd rfl, ClonesB_spec hkl (SlCells.fr n2.fr hk fun _ _ x => x) hl fun a' c' h3 f3 s3 => ⟨_, _, _, rfl, rda ((f3.rd n2.own.lt fun x => x).trans n2.rd) rfl, ?_⟩⟩
  have g3 : Ag h2.size col (upd col h2.size (m + 3)) := ag_upd _ _ _
  have D3 := D2.keep' f3 g3 (fun _ _ _ x => x)
  have F3 : Fr (Dk col m) h h3 := F2.no f3
  have s3 : Sl h3 1 a' kl c' (keep.map .bool) (On (upd col h2.size (m + 3)) (m + 3)) := s3.mono fun b hb => upd_ge hb
  have hb := D.so.lt
  have hcb : upd col h2.size (m + 3) b = m := D3.sc
  refine os (Put.add D3.so (by rw [D3.sr]; exact (by decide : 0 + 2 < 8)) fun h4 d4 => ?_)
  rw [D3.sr] at d4
  have D4 : Disk h4 b { S with left := if (0 : Int) > n then 0 else n } (upd col h2.size (m + 3)) m { r with left := if (0 : Int) > n then 0 else n } es := by
    refine Disk.re ?_ D3.sc d4
    refine ⟨rfl, ?_, D3.down, D3.writes, D3.flushes, D3.l, D3.lw, D3.ln, D3.lmax, D3.p, D3.pw, D3.pn, D3.pi, D3.pmax, D3.k, D3.kn, D3.t, D3.tn, D3.tmax, D3.ts⟩
    show 0 ≤ (if (0 : Int) > n then 0 else n) ∧ (if (0 : Int) > n then 0 else n) ≤ _
    split <;> omega
  have F4 : Fr (Dk col m) h h4 := F3.did d4 fun _ => ⟨by rw [D.sc]; omega, by rw [D.sc]; omega⟩
  have s4 := s3.fr d4.fr fun x _ e1 e2 => by have e1 : upd col h2.size (m + 3) x = m + 3 := e1; rw [e2] at e1; omega
  refine os (Put.add D4.so (by rw [D4.sr]; exact (by decide : 0 + 3 < 8)) fun h5 d5 => ?_)
  rw [D4.sr] at d5
  have D5 : Disk h5 b { S with left := if (0 : Int) > n then 0 else n, keep := keep } (upd col h2.size (m + 3)) m { r with left := if (0 : Int) > n then 0 else n, ka := a', kn := kl, kc := c' } es := by
    refine Disk.re ?_ D4.sc d5
    exact ⟨rfl, D4.leftb, D4.down, D4.writes, D4.flushes, D4.l, D4.lw, D4.ln, D4.lmax, D4.p, D4.pw, D4.pn, D4.pi, D4.pmax, s4, hkl.symm, D4.t, D4.tn, D4.tmax, D4.ts⟩
  have F5 : Fr (Dk col m) h h5 := F4.did d5 fun _ => ⟨by rw [D.sc]; omega, by rw [D.sc]; omega⟩
  have := hK h5 _ F5 (g3.le (by omega))
  rw [RD.arm, if_neg (by rw [e]; exact Bool.false_ne_true)] at this
  exact this ⟨_, _, _, rfl, D5⟩
theorem Ents.at_ {h : Heap} {col : Nat → Nat} {k : Nat} : ∀ {es : List Ent} {ts : List (Int × Int × List UInt8)}, Ents h col k es ts → ∀ i (h1 : i < es.length) (h2 : i < ts.length),
    es[i].kind = ts[i].1 ∧ es[i].at_ = ts[i].2.1 ∧ StrAt h es[i].a es[i].l ts[i].2.2 ∧ (∀ p, es[i].a = some p → p.block < h.size ∧ col p.block = k) := by
  intro es
  induction es with
  | nil => intro ts _ i h1; exact absurd h1 (Nat.not_lt_zero _)
  | cons x r ih =>
    intro ts e i h1 h2
    cases ts with
    | nil => exact e.elim
    | cons t s =>
      cases i with
      | zero => exact ⟨e.1, e.2.1, e.2.2.1, e.2.2.2.1⟩
      | succ i => exact ih e.2.2.2.2 i (Nat.lt_of_succ_lt_succ h1) (Nat.lt_of_succ_lt_succ h2)
end Go.Proofs.YtjdcbblgaoogmaaGreatDoor.Ad
namespace Go.Proofs.YtjdcbblgaoogmaaGreatDoor.Ad
open Go Go.Proofs Wx Hp W
def refusedOf (e : Ent) (N : Int) : Int := if e.kind = 2 then 0 else if e.kind ≠ 1 then 1 else if e.at_ < 0 then 31 else if e.at_ ≥ N then 31 else if e.l ≠ 512 then 32 else 0
end Go.Proofs.YtjdcbblgaoogmaaGreatDoor.Ad
namespace Go.Proofs.YtjdcbblgaoogmaaGreatDoor.L3
open Go Go.Proofs Wx Hp W Ad
theorem SlCells.lt {h : Heap} {p : Addr} {xs : List Value} (c : SlCells h (some p) xs) (hx : xs ≠ []) : p.block < h.size := by
  cases xs with
  | nil => exact absurd rfl hx
  | cons x r =>
    have := (cellOf_some (c 0 x rfl)).2
    have hb : (p.add 0).block = p.block := by rw [Addr.add_zero]
    rw [hb] at this
    exact rd_lt this
theorem chosen_add (ps : List (Int × List UInt8)) (x : Int × List UInt8) : ∀ keep : List Bool, chosen (ps ++ [x]) keep = chosen ps keep ++ (if keep[ps.length]? = some true then [x] else []) := by
  induction ps with
  | nil => intro keep; cases keep with
    | nil => simp [chosen]
    | cons k r => cases k <;> simp [chosen]
  | cons p r ih => intro keep; cases keep with
    | nil => simp [chosen]
    | cons k s =>
      have e := ih s
      simp only [chosen] at e ⊢
      cases k <;> simp [e]
end Go.Proofs.YtjdcbblgaoogmaaGreatDoor.L3
namespace Go.Proofs.YtjdcbblgaoogmaaGreatDoor.L3
open Go Go.Proofs Wx Hp W Ad
theorem flat_blk (nb : List (List UInt8)) : nb.flatten.map bv = nb.flatMap blk := by
  rw [List.map_flatten]; rfl
theorem applyTo_len (ps : List (Int × List UInt8)) : ∀ ls, (∀ x ∈ ls, x.length = 512) → (∀ x ∈ ps, x.2.length = 512) → ∀ x ∈ applyTo ls ps, x.length = 512 := by
  induction ps with
  | nil => intro ls h _; exact h
  | cons p r ih =>
    intro ls h hp
    refine ih _ (fun x hx => ?_) (fun x hx => hp x (List.mem_cons_of_mem _ hx))
    rcases List.mem_or_eq_of_mem_set hx with hx | rfl
    · exact h x hx
    · exact hp p (List.mem_cons_self ..)
end Go.Proofs.YtjdcbblgaoogmaaGreatDoor.L3
namespace Go.Proofs.YtjdcbblgaoogmaaGreatDoor.L3
open Go Go.Proofs Wx Hp W Ad
structure Calm (S : RD) : Prop where
  down : S.down = false
  left : S.left = 0
  lw : ∀ x ∈ S.lasts, x.length = 512
  pw : ∀ x ∈ S.pend, x.2.length = 512
theorem Calm.fresh {ls : List (List UInt8)} (h : ∀ x ∈ ls, x.length = 512) : Calm (fresh ls) := ⟨rfl, rfl, h, fun x hx => by simp [Ad.fresh] at hx⟩
theorem Calm.flush {S : RD} (c : Calm S) : S.flush.1 = RD.flushed { S with flushes := IntKind.wrap .i64 (S.flushes + 1) } := by
  rw [RD.flush, if_neg (by rw [c.down]; exact Bool.false_ne_true), RD.step, if_neg (by show ¬ 0 < S.left; rw [c.left]; omega)]
theorem Calm.putW {S : RD} (c : Calm S) (i : Int) {b : List UInt8} (h : b.length = 512) : Calm (S.putW i b) :=
  ⟨c.down, c.left, c.lw, fun x hx => by
    rcases List.mem_append.mp hx with hx | hx
    · exact c.pw x hx
    · rw [List.mem_singleton.mp hx]; exact h⟩
theorem chosen_nil (keep : List Bool) : chosen [] keep = [] := by cases keep <;> rfl
end Go.Proofs.YtjdcbblgaoogmaaGreatDoor.L3
namespace Go.Proofs.YtjdcbblgaoogmaaGreatDoor.L3
open Go Go.Proofs Wx Hp W Ad
def again (S : RD) (t : Int × Int × List UInt8) : RD := if t.1 = 2 then S.flush.1 else (S.write t.2.1 t.2.2).1
def replay (S : RD) (ts : List (Int × Int × List UInt8)) : RD := ts.foldl again S
theorem row_part {h : Heap} {pa : Option Addr} {xs : List Ent} {i : Nat} (P : SlCells h pa (xs.flatMap Ent.cells)) (hi : i < xs.length) : ∃ p, pa = some p ∧ Cells h (p.add (i * 3)) (Ent.cells xs[i]) := by
  cases pa with
  | none =>
    have P : xs.flatMap Ent.cells = [] := P
    have := flat_length Ent.cells 3 xs (fun _ _ => rfl)
    rw [P] at this; simp at this; omega
  | some p =>
    have := Cells.part P (i * 3) 3
    rw [flat_part Ent.cells 3 xs (fun _ _ => rfl) _ hi] at this
    exact ⟨p, rfl, this⟩
structure Rot (h : Heap) (a : Option Addr) (l : Nat) (xs : List Ent) (ts : List (Int × Int × List UInt8)) : Prop where
  cells : SlCells h a (xs.flatMap Ent.cells)
  num : ts.length = l
  len : xs.length = ts.length
  at_ : ∀ i (h1 : i < xs.length) (h2 : i < ts.length), xs[i].kind = ts[i].1 ∧ xs[i].at_ = ts[i].2.1 ∧ StrAt h xs[i].a xs[i].l ts[i].2.2
end Go.Proofs.YtjdcbblgaoogmaaGreatDoor.L3
namespace Go.Proofs.YtjdcbblgaoogmaaGreatDoor.L3
open Go Go.Proofs Wx Hp W Ad
abbrev Tt := Int × Int × List UInt8
def hasFlush (ts : List Tt) : Bool := ts.any fun t => t.1 == 2
def trail (ts : List Tt) : Nat := ts.foldl (fun n t => if t.1 = 1 then n + 1 else 0) 0
theorem trail_snoc (ts : List Tt) (t : Tt) : trail (ts ++ [t]) = if t.1 = 1 then trail ts + 1 else 0 := by rw [trail, List.foldl_append]; rfl
def stays (ts : List Tt) (i : Nat) (keep : List Bool) : Bool := hasFlush (ts.drop (i + 1)) || keep.getD (trail (ts.take i)) false
def leftR (keep : List Bool) : List (List UInt8) → List Tt → Nat → List (List UInt8)
  | ls, [], _ => ls
  | ls, t :: r, k => if t.1 = 1 then leftR keep (if hasFlush r || keep.getD k false then ls.set t.2.1.toNat t.2.2 else ls) r (k + 1) else leftR keep ls r 0
def May (N : Int) (t : Tt) : Prop := t.1 = 2 ∨ (t.1 = 1 ∧ 0 ≤ t.2.1 ∧ t.2.1 < N ∧ t.2.2.length = 512)
theorem applyTo_snoc (ls : List (List UInt8)) (ps : List (Int × List UInt8)) (p : Int × List UInt8) : applyTo ls (ps ++ [p]) = (applyTo ls ps).set p.1.toNat p.2 := by rw [applyTo, List.foldl_append]; rfl
theorem left_plain (keep : List Bool) (N : Nat) : ∀ (ts : List Tt) (S : RD), Calm S → S.lasts.length = N → (∀ t ∈ ts, May N t) →
    ((replay S ts).cut keep).lasts = leftR keep (if hasFlush ts then applyTo S.lasts S.pend else applyTo S.lasts (chosen S.pend keep)) ts S.pend.length := by
  intro ts
  induction ts with
  | nil => intro S _ _ _; rfl
  | cons t r ih =>
    intro S c hN hm
    have hr : ∀ t ∈ r, May N t := fun t ht => hm t (List.mem_cons_of_mem _ ht)
    have hst : replay S (t :: r) = replay (again S t) r := rfl
    rw [hst]
    rcases hm t (List.mem_cons_self ..) with h2 | ⟨h1, e0, e1, e2⟩
    · have ea : again S t = RD.flushed { S with flushes := IntKind.wrap .i64 (S.flushes + 1) } := by rw [again, if_pos h2, c.flush]
      have cf : Calm (again S t) := by
        rw [ea]; exact ⟨c.down, c.left, applyTo_len _ _ c.lw c.pw, fun x hx => by simp [RD.flushed] at hx⟩
      rw [ih _ cf (by rw [ea]; exact (applyTo_length _ _).trans hN) hr]
      have hf : hasFlush (t :: r) = true := by rw [hasFlush, List.any_cons, h2]; rfl
      rw [hf, if_pos rfl, leftR, if_neg (show ¬ t.1 = 1 by rw [h2]; decide)]
      have el : (again S t).lasts = applyTo S.lasts S.pend := by rw [ea]; rfl
      have ep : (again S t).pend = [] := by rw [ea]; rfl
      rw [el, ep, chosen_nil]
      show leftR keep (if hasFlush r = true then applyTo S.lasts S.pend else applyTo S.lasts S.pend) r 0 = _
      rw [ite_self]
    · have ea : again S t = S.putW t.2.1 t.2.2 := by
        rw [again, if_neg (by rw [h1]; decide), RD.write, if_neg (by rw [c.down]; exact Bool.false_ne_true), if_neg (fun x => x ⟨e0, by rw [hN]; exact e1⟩), if_neg (fun x => x e2), RD.step, if_neg (by show ¬ 0 < S.left; rw [c.left]; omega)]
        rfl
      rw [ea, ih _ (c.putW _ e2) hN hr]
      have hf : hasFlush (t :: r) = hasFlush r := by rw [hasFlush, List.any_cons, h1]; rfl
      rw [hf, leftR, if_pos (show t.1 = 1 from h1)]
      have el : (S.putW t.2.1 t.2.2).pend = S.pend ++ [(t.2.1, t.2.2)] := rfl
      have ell : (S.putW t.2.1 t.2.2).lasts = S.lasts := rfl
      rw [el, ell, List.length_append, List.length_singleton]
      cases hh : hasFlush r with
      | true => simp only [if_true, Bool.true_or, applyTo_snoc]
      | false =>
        simp only [Bool.false_eq_true, if_false, Bool.false_or]
        rw [chosen_add, List.getD_eq_getElem?_getD]
        cases hk : keep[S.pend.length]? with
        | none => simp
        | some b => cases b <;> simp [applyTo_snoc]
theorem left_fresh (keep : List Bool) {N : Nat} {ls : List (List UInt8)} (h : ∀ x ∈ ls, x.length = 512) (hl : ls.length = N) (ts : List Tt) (hm : ∀ t ∈ ts, May N t) : ((replay (Ad.fresh ls) ts).cut keep).lasts = leftR keep ls ts 0 := by
  rw [left_plain keep N ts _ (Calm.fresh h) hl hm]
  show leftR keep (if hasFlush ts = true then ls else applyTo ls (chosen [] keep)) ts 0 = _
  rw [chosen_nil]
  show leftR keep (if hasFlush ts = true then ls else ls) ts 0 = _
  rw [ite_self]
theorem leftR_step (keep : List Bool) (ls : List (List UInt8)) (ts : List Tt) (i : Nat) (hi : i < ts.length) :
    leftR keep ls (ts.drop i) (trail (ts.take i)) = leftR keep (if ts[i].1 = 1 ∧ stays ts i keep = true then ls.set ts[i].2.1.toNat ts[i].2.2 else ls) (ts.drop (i + 1)) (trail (ts.take (i + 1))) := by
  rw [List.drop_eq_getElem_cons hi, take_snoc _ _ hi, trail_snoc, leftR]
  by_cases h : ts[i].1 = 1
  · rw [if_pos h, if_pos h]
    cases hs : stays ts i keep with
    | true => rw [stays] at hs; rw [hs, if_pos rfl, if_pos ⟨h, rfl⟩]
    | false => rw [stays] at hs; rw [hs, if_neg Bool.false_ne_true, if_neg (fun x => by cases x.2)]
  · rw [if_neg h, if_neg h, if_neg (fun x => h x.1)]
def refT (N : Int) (t : Tt) : Int := refusedOf ⟨t.1, t.2.1, none, t.2.2.length, 0⟩ N
theorem refT_may {N : Int} {t : Tt} (h : refT N t = 0) : May N t := by
  unfold refT refusedOf at h
  split at h
  · rename_i e; exact Or.inl e
  · split at h
    · exact absurd h (by decide)
    · split at h
      · exact absurd h (by decide)
      · split at h
        · exact absurd h (by decide)
        · split at h
          · exact absurd h (by decide)
          · rename_i e1 e2 e3 e4 e5
            have e2 : ¬ t.1 ≠ 1 := e2
            have e3 : ¬ t.2.1 < 0 := e3
            have e4 : ¬ t.2.1 ≥ N := e4
            have e5 : ¬ t.2.2.length ≠ 512 := e5
            exact Or.inr ⟨by omega, by omega, by omega, by omega⟩
theorem Rot.fr {h h' : Heap} {a : Option Addr} {l : Nat} {es : List Ent} {ts : List Tt} (r : Rot h a l es ts) (f : Fr No h h') : Rot h' a l es ts :=
  ⟨SlCells.fr f r.cells fun _ _ x => x, r.num, r.len, fun i h1 h2 => ⟨(r.at_ i h1 h2).1, (r.at_ i h1 h2).2.1, StrAt.fr f (r.at_ i h1 h2).2.2 fun _ _ x => x⟩⟩
end Go.Proofs.YtjdcbblgaoogmaaGreatDoor.L3
namespace Go.Proofs.YtjdcbblgaoogmaaGreatDoor.L3
open Go Go.Proofs Wx Hp W Ad
theorem fault_spec {e : Ent} {N : Int} {h : Heap} {K : Value → Heap → Prop} (hK : ∀ h', Fr No h h' → K (.int .i64 (refusedOf e N)) h') : C.boleref03_fault N e.cells h K := by
  refine boleref03_fault.ok (New.intro fun h2 n2 => ⟨_, rda n2.rd rfl, ?_⟩)
  have k := hK h2 n2.fr
  unfold refusedOf at k
  refine ce (fun a => by rw [if_pos a] at k; exact k) fun a => ce (fun b => ⟨_, rda n2.rd rfl, ?_⟩) fun b => by rw [if_neg a, if_pos b] at k; exact k
  rw [if_neg a, if_neg (fun x => x b)] at k
  refine cd (fun c => by rw [if_pos c] at k; exact k) fun c => ⟨_, rda n2.rd rfl, ?_⟩
  rw [if_neg c] at k
  refine cd (fun d => by rw [if_pos d] at k; exact k) fun d => ⟨_, _, _, rda n2.rd rfl, ?_⟩
  rw [if_neg d] at k
  refine cn (fun f => by rw [if_pos (by omega)] at k; exact k) fun f => by rw [if_neg (by omega)] at k; exact k
theorem Rot.cell {h : Heap} {a : Option Addr} {l : Nat} {es : List Ent} {ts : List Tt} (R : Rot h a l es ts) {i : Nat} (hi : i < l) :
    ∃ p e, a = some p ∧ Cells h (p.add (i * 3)) (Ent.cells e) ∧ e.kind = (ts.getD i (0, 0, [])).1 ∧ e.at_ = (ts.getD i (0, 0, [])).2.1 ∧ StrAt h e.a e.l (ts.getD i (0, 0, [])).2.2 ∧ i < ts.length ∧ es[i]? = some e := by
  have h1 := R.num
  have h2 := R.len
  have h3 : i < es.length := by omega
  have h4 : i < ts.length := by omega
  obtain ⟨p, e, c⟩ := row_part R.cells h3
  obtain ⟨x1, x2, x3⟩ := R.at_ i h3 h4
  rw [List.getD_eq_getElem?_getD, List.getElem?_eq_getElem h4]
  exact ⟨p, es[i], e, c, x1, x2, x3, h4, List.getElem?_eq_getElem h3⟩
theorem hasFlush_drop (ts : List Tt) (i : Nat) (h : i < ts.length) : hasFlush (ts.drop i) = (ts[i].1 == 2 || hasFlush (ts.drop (i + 1))) := by
  rw [List.drop_eq_getElem_cons h]; rfl
theorem lasts_spec {aa : Option Addr} {al ac : Nat} {es : List Ent} {ts : List Tt} {ka : Option Addr} {kl kc : Nat} {keep : List Bool} {i : Int} {h : Heap} {K : Value → Heap → Prop}
    (R : Rot h aa al es ts) (Kp : SlCells h ka (keep.map .bool)) (hkl : keep.length = kl) (h0 : 0 ≤ i) (hi : i < al) (hal : al ≤ 140737488355328)
    (hK : K (.bool (stays ts i.toNat keep)) h) : C.boleref03_lasts aa al ac i ka kl kc h K := by
  have hn := R.num
  refine boleref03_lasts.ok ?_
  unfold boleref03_lasts
  rw [wrap_i64 (n := i + 1) (by omega) (by omega), wrap_i64 (n := i - 1) (by omega) (by omega)]
  refine ⟨fun j hh => i + 1 ≤ j ∧ j ≤ al ∧ hh = h ∧ hasFlush (ts.drop (i + 1).toNat) = hasFlush (ts.drop j.toNat), fun j _ => ((al : Int) - j).toNat, ⟨by omega, by omega, rfl, rfl⟩, ?_⟩
  rintro j hq ⟨j0, j1, rfl, ej⟩
  have ei : (i + 1).toNat = i.toNat + 1 := by omega
  refine cd (fun hj => ?_) fun hj => ?_
  · obtain ⟨p, e, rfl, c, x1, _, _, hjl, _⟩ := R.cell (i := j.toNat) (by omega)
    have ek : (ts.getD j.toNat (0, 0, [])) = ts[j.toNat] := by rw [List.getD_eq_getElem?_getD, List.getElem?_eq_getElem hjl]; rfl
    rw [ek] at x1
    refine ⟨⟨by omega, hj⟩, os ⟨_, Cells.cell c (i := 0) rfl, ce (fun h2 => ?_) fun h2 => ?_⟩⟩
    · have : stays ts i.toNat keep = true := by
        rw [stays, ← ei, ej, hasFlush_drop ts _ hjl, ← x1, h2]; rfl
      rw [this] at hK; exact hK
    · rw [wrap_i64 (by omega) (by omega)]
      refine ⟨⟨by omega, by omega, rfl, ?_⟩, by have := falls (m := al) hj; exact this⟩
      rw [ej, hasFlush_drop ts _ hjl, show (j + 1).toNat = j.toNat + 1 by omega, ← x1]
      have : (e.kind == 2) = false := by rw [beq_eq_false_iff_ne]; exact h2
      rw [this]; rfl
  · have hfl : hasFlush (ts.drop (i.toNat + 1)) = false := by
      rw [← ei, ej, List.drop_of_length_le (by omega)]; rfl
    have last : ∀ n : Nat, n = trail (ts.take i.toNat) → boleref03_lasts.k1 ka kl n hq K := by
      intro n hn'
      have hs : stays ts i.toNat keep = keep.getD n false := by rw [stays, hfl, hn']; rfl
      rw [hs, List.getD_eq_getElem?_getD] at hK
      refine cd (fun hlt => ?_) fun hge => ?_
      · have hlt' : n < keep.length := by omega
        rw [List.getElem?_eq_getElem hlt'] at hK
        cases ka with
        | none => have Kp : keep.map Value.bool = [] := Kp; have := List.map_eq_nil_iff.mp Kp; rw [this] at hlt'; exact absurd hlt' (by simp)
        | some kp => exact ⟨⟨by omega, hlt⟩, os ⟨_, by rw [Int.toNat_natCast]; exact Kp n _ (by rw [List.getElem?_eq_getElem (by rw [List.length_map]; exact hlt'), List.getElem_map]; rfl), hK⟩⟩
      · rw [List.getElem?_eq_none (by omega)] at hK
        exact hK
    refine ⟨fun number j hh => -1 ≤ j ∧ j < i ∧ number = i - 1 - j ∧ hh = hq ∧ (number : Int) + trail (ts.take (j + 1).toNat) = trail (ts.take i.toNat), fun _ j _ => (j + 1).toNat, ⟨by omega, by omega, by omega, rfl, by rw [show (i - 1 + 1).toNat = i.toNat by omega]; omega⟩, ?_⟩
    rintro number j2 _ ⟨k0, k1, k2, rfl, k3⟩
    refine cd (fun hj2 => ?_) fun hj2 => ?_
    · obtain ⟨p, e, rfl, c, x1, _, _, hjl, _⟩ := R.cell (i := j2.toNat) (by omega)
      have ek : (ts.getD j2.toNat (0, 0, [])) = ts[j2.toNat] := by rw [List.getD_eq_getElem?_getD, List.getElem?_eq_getElem hjl]; rfl
      rw [ek] at x1
      have et : (j2 + 1).toNat = j2.toNat + 1 := by omega
      rw [et, take_snoc _ _ hjl, trail_snoc] at k3
      refine ⟨⟨by omega, by omega⟩, os ⟨_, Cells.cell c (i := 0) rfl, ce (fun h2 => ?_) fun h2 => ?_⟩⟩
      · rw [if_pos (by omega)] at k3
        rw [wrap_i64 (by omega) (by omega), wrap_i64 (by omega) (by omega)]
        exact ⟨⟨by omega, by omega, by omega, rfl, by rw [show j2 - 1 + 1 = j2 by omega]; omega⟩, by show (j2 - 1 + 1).toNat < (j2 + 1).toNat; omega⟩
      · rw [if_neg (by omega)] at k3
        have := last number.toNat (by omega)
        rw [show ((number.toNat : Nat) : Int) = number by omega] at this
        exact this
    · have ej2 : (j2 + 1).toNat = 0 := by omega
      rw [ej2, List.take_zero] at k3
      have k3 : number + 0 = trail (ts.take i.toNat) := k3
      have := last number.toNat (by omega)
      rw [show ((number.toNat : Nat) : Int) = number by omega] at this
      exact this
theorem put_snoc (ys : List Value) (y : Value) : ∀ (X : List Value) (o : Nat), put X o (ys ++ [y]) = (put X o ys).set (o + ys.length) y := by
  induction ys with
  | nil => intro X o; rfl
  | cons v r ih =>
    intro X o
    show put (X.set o v) (o + 1) (r ++ [y]) = _
    rw [ih, List.length_cons, show o + 1 + r.length = o + (r.length + 1) by omega]; rfl
theorem set_len {ls : List (List UInt8)} (h : ∀ x ∈ ls, x.length = 512) {y : List UInt8} (hy : y.length = 512) (i : Nat) : ∀ x ∈ ls.set i y, x.length = 512 := by
  intro x hx
  rcases List.mem_or_eq_of_mem_set hx with hx | rfl
  · exact h x hx
  · exact hy
theorem flat_set {ls : List (List UInt8)} (h : ∀ x ∈ ls, x.length = 512) {y : List UInt8} (hy : y.length = 512) {i : Nat} (hi : i < ls.length) : put (ls.flatten.map bv) (i * 512) (y.map bv) = (ls.set i y).flatten.map bv := by
  rw [flat_blk, flat_blk]
  exact put_part blk 512 ls (fun x hx => blk_len (h x hx)) i hi y (blk_len hy)
theorem left_spec {ia : Option Addr} {il ic N : Nat} {ibs : List UInt8} {aa : Option Addr} {al ac : Nat} {es : List Ent} {ts : List Tt} {ka : Option Addr} {kl kc : Nat} {keep : List Bool} {h : Heap} {K : Value → Heap → Prop}
    (B : StrAt h ia il ibs) (hN : N ≤ 16384) (hil : il = N * 512) (R : Rot h aa al es ts) (hal : al ≤ 140737488355328) (hm : ∀ t ∈ ts, May N t) (Kp : SlCells h ka (keep.map .bool)) (hkl : keep.length = kl)
    (hK : ∀ a c h', Fr No h h' → Sl h' 1 a il c ((leftR keep (chunks ibs) ts 0).flatten.map bv) (From h.size) → K (.slice a il c) h') : C.boleref03_left ia il ic aa al ac ka kl kc h K := by
  have hn := R.num
  have hbl := B.1
  refine boleref03_left.ok (Rf.copied_spec B (by omega) fun a c h2 f2 s2 => ⟨_, _, _, rfl, ?_⟩)
  have hs2 := f2.size
  have hcl : (chunks ibs).length = N := by rw [chunks_length, hbl]; omega
  refine ⟨fun i hh => 0 ≤ i ∧ i ≤ al ∧ Fr No h hh ∧ ∃ ls, Sl hh 1 a il c (ls.flatten.map bv) (From h.size) ∧ ls.length = N ∧ (∀ x ∈ ls, x.length = 512) ∧ leftR keep ls (ts.drop i.toNat) (trail (ts.take i.toNat)) = leftR keep (chunks ibs) ts 0, fun i _ => ((al : Int) - i).toNat,
    ⟨by omega, by omega, f2, chunks ibs, by rw [chunks_join (by omega)]; exact s2, hcl, chunks_len _, rfl⟩, ?_⟩
  rintro i h3 ⟨i0, i1, f3, ls, s3, hls, hlw, el⟩
  have hs3 := f3.size
  refine cd (fun hi => ?_) fun hi => ?_
  rotate_left
  · rw [List.drop_of_length_le (by omega), leftR] at el
    rw [el] at s3
    exact hK a c h3 f3 s3
  have R3 := R.fr f3
  obtain ⟨p, e, rfl, cc, x1, x2, x3, hit, hee⟩ := R3.cell (i := i.toNat) (by omega)
  have ek : (ts.getD i.toNat (0, 0, [])) = ts[i.toNat] := by rw [List.getD_eq_getElem?_getD, List.getElem?_eq_getElem hit]; rfl
  rw [ek] at x1 x2 x3
  rw [leftR_step keep ls ts i.toNat hit] at el
  have e1 : (i + 1).toNat = i.toNat + 1 := by omega
  refine ⟨⟨i0, hi⟩, Hp.os ⟨_, rfl, cc, NewRow.intro rfl (ent_one _) rfl fun h5 n5 => ⟨_, rda n5.rd rfl, ?_⟩⟩⟩
  have hs5 := n5.size
  have lt5 := n5.own.lt
  have f5 := f3.new n5
  have s5 := s3.fr n5.fr fun _ _ _ x => x
  rw [wrap_i64 (n := i + 1) (by omega) (by omega)]
  refine cn (fun hne => ?_) fun heq => ?_
  · rw [if_neg (fun x => hne (x1.trans x.1))] at el
    exact ⟨⟨by omega, by omega, f5, ls, s5, hls, hlw, by rw [e1]; exact el⟩, falls hi⟩
  have hk1 : ts[i.toNat].1 = 1 := x1.symm.trans heq
  have hmay : 0 ≤ ts[i.toNat].2.1 ∧ ts[i.toNat].2.1 < N ∧ ts[i.toNat].2.2.length = 512 := by
    rcases hm _ (List.getElem_mem hit) with h | h
    · omega
    · exact h.2
  refine lasts_spec (R.fr f5) (SlCells.fr f5 Kp fun _ _ x => x) hkl i0 hi hal ⟨_, rfl, ?_⟩
  cases hst : stays ts i.toNat keep with
  | false =>
    rw [if_neg (fun x => by rw [hst] at x; cases x.2)] at el
    refine ⟨fun k hh => k = 0 ∧ h5 = hh, fun _ _ => 0, ⟨rfl, rfl⟩, ?_⟩
    rintro k _ ⟨rfl, rfl⟩
    have fin : (0 ≤ i + 1 ∧ i + 1 ≤ al ∧ Fr No h h5 ∧ ∃ ls, Sl h5 1 a il c (ls.flatten.map bv) (From h.size) ∧ ls.length = N ∧ (∀ x ∈ ls, x.length = 512) ∧ leftR keep ls (ts.drop (i + 1).toNat) (trail (ts.take (i + 1).toNat)) = leftR keep (chunks ibs) ts 0) :=
      ⟨by omega, by omega, f5, ls, s5, hls, hlw, by rw [e1]; exact el⟩
    exact ct rfl ⟨fin, falls hi⟩
  | true =>
    rw [if_pos ⟨hk1, hst⟩] at el
    have hj : ts[i.toNat].2.1.toNat < ls.length := by omega
    obtain ⟨pp, rfl, _⟩ := s5.get (by omega)
    have hp := s5.mk
    obtain ⟨ob, oo, osp⟩ := pp
    have hp : osp = none := by simpa using hp
    subst hp
    have hnew : h.size ≤ ob := s3.2.2.1
    have hob3 : ob < h3.size := by
      have := s3.2.2.2.1
      exact this.lt
    refine ⟨fun k hh => 0 ≤ k ∧ k ≤ 512 ∧ Fr No h hh ∧ rd hh h3.size = e.cells ∧ h5.size ≤ hh.size ∧ Sl hh 1 (some ⟨ob, oo, none⟩) il c (put (ls.flatten.map bv) (ts[i.toNat].2.1.toNat * 512) ((ts[i.toNat].2.2.take k.toNat).map bv)) (From h.size), fun k _ => ((512 : Nat) - k).toNat,
      ⟨by omega, by omega, f5, n5.rd, Nat.le_refl _, s5⟩, ?_⟩
    rintro k h7 ⟨k0, k1, f7, r7, hs7, s7⟩
    refine cd (fun hk => ?_) fun hk => ?_
    · have hk : k < 512 := hk
      refine ct rfl ⟨_, rda r7 rfl, _, _, _, rda r7 rfl, ?_⟩
      have hkl : k.toNat < ts[i.toNat].2.2.length := by omega
      have el' := x3.1
      have x7 := StrAt.fr f7 ((R.at_ i.toNat (by have := R.len; omega) hit).2.2) fun _ _ x => x
      have hee' : es[i.toNat]'(by have := R.len; omega) = e := by
        rw [List.getElem?_eq_getElem (by have := R.len; omega)] at hee; exact Option.some.inj hee
      rw [hee'] at x7
      refine ⟨⟨k0, by omega⟩, ?_⟩
      have x72 := x7.2
      cases hea : e.a with
      | none =>
        rw [hea] at x72
        have x72 : ts[i.toNat].2.2.map bv = [] := x72
        have := List.map_eq_nil_iff.mp x72
        rw [this] at hkl; exact absurd hkl (by simp)
      | some ep =>
        rw [hea] at x72
        have x72 : Cells h7 ep (ts[i.toNat].2.2.map bv) := x72
        refine Hp.os ⟨_, Cells.cell x72 (i := k.toNat) (v := bv (ts[i.toNat].2.2[k.toNat]'hkl)) (by rw [List.getElem?_map, List.getElem?_eq_getElem hkl]; rfl), ?_⟩
        rw [x2, wrap_i64 (n := ts[i.toNat].2.1 * 512) (by omega) (by omega), wrap_i64 (n := ts[i.toNat].2.1 * 512 + k) (by omega) (by omega)]
        have hpos : (ts[i.toNat].2.1 * 512 + k).toNat = ts[i.toNat].2.1.toNat * 512 + k.toNat := by omega
        have hjN : ts[i.toNat].2.1.toNat * 512 + 512 ≤ N * 512 := by omega
        rw [hpos]
        obtain ⟨w1, w2⟩ := s7.wr
        refine ⟨⟨by omega, by omega⟩, Hp.os (Put.add w1 (by omega) fun h8 d8 => ?_)⟩
        have s8 := s7.putAt (j := ts[i.toNat].2.1.toNat * 512 + k.toNat) (new := [bv (ts[i.toNat].2.2[k.toNat]'hkl)]) (by rw [List.length_singleton]; omega) d8
        have ep : put (put (ls.flatten.map bv) (ts[i.toNat].2.1.toNat * 512) ((ts[i.toNat].2.2.take k.toNat).map bv)) (ts[i.toNat].2.1.toNat * 512 + k.toNat) [bv (ts[i.toNat].2.2[k.toNat]'hkl)] = put (ls.flatten.map bv) (ts[i.toNat].2.1.toNat * 512) ((ts[i.toNat].2.2.take (k + 1).toNat).map bv) := by
          rw [show (k + 1).toNat = k.toNat + 1 by omega, take_snoc _ _ hkl, List.map_append, List.map_singleton, put_snoc, List.length_map, List.length_take, Nat.min_eq_left (by omega)]
          rfl
        rw [ep] at s8
        rw [wrap_i64 (by omega) (by omega)]
        refine ⟨⟨by omega, by omega, f7.did d8 (fun x => by omega), ?_, ?_, s8⟩, falls (m := 512) hk⟩
        · rw [d8.at_ (by omega) (by omega)]; exact r7
        · have := d8.fr.size; omega
    · have hk512 : k.toNat = 512 := by have hk : ¬ k < 512 := hk; omega
      rw [hk512, List.take_of_length_le (by omega), flat_set hlw hmay.2.2 hj] at s7
      exact ⟨⟨by omega, by omega, f7, _, s7, by rw [List.length_set]; exact hls, set_len hlw hmay.2.2 _, by rw [e1]; exact el⟩, falls hi⟩
end Go.Proofs.YtjdcbblgaoogmaaGreatDoor.L3
namespace Go.Proofs.YtjdcbblgaoogmaaGreatDoor.Rf
open Go Go.Proofs Wx Hp W Ad L3
def FD.goes (S : FD) : FD × Bool := if S.left = 0 then (S, false) else ({ S with left := S.left - 1, out := S.left - 1 == 0 }, S.left - 1 == 0)
def FD.N (S : FD) : Nat := S.first.length / 512
def FD.putW (S : FD) (i : Int) (bs : List UInt8) : FD := { S with writes := IntKind.wrap .i64 (S.writes + 1), acts := S.acts ++ [(1, i, bs)] }
def FD.write (S : FD) (i : Int) (bs : List UInt8) : FD × Int :=
  if S.out = true then (S, 30) else if refT (S.N : Nat) (1, i, bs) ≠ 0 then (S, refT (S.N : Nat) (1, i, bs)) else ((S.putW i bs).goes.1, if (S.putW i bs).goes.2 = true then 30 else 0)
def FD.flush (S : FD) : FD × Int :=
  if S.out = true then (S, 30) else if (FD.goes { S with flushes := IntKind.wrap .i64 (S.flushes + 1) }).2 = true then ((FD.goes { S with flushes := IntKind.wrap .i64 (S.flushes + 1) }).1, 30)
  else ({ (FD.goes { S with flushes := IntKind.wrap .i64 (S.flushes + 1) }).1 with acts := (FD.goes { S with flushes := IntKind.wrap .i64 (S.flushes + 1) }).1.acts ++ [(2, 0, [])] }, 0)
def FD.arm (S : FD) (n : Int) (keep : List Bool) : FD × Int := if S.out = true then (S, 30) else if n > 0 then ({ S with left := n, keep := keep }, 0) else ({ S with left := 0 }, 0)
section
variable {h h' : Heap} {b : Nat} {S : FD} {col col' : Nat → Nat} {m : Nat} {r : FRaw} {es : List Ent}
theorem Ref.re (D : Ref h b S col m r es) {l w f : Int} {o : Bool} (d : Did b h h' ({ r with left := l, out := o, writes := w, flushes := f } : FRaw).cells) : Ref h' b { S with left := l, out := o, writes := w, flushes := f } col m { r with left := l, out := o, writes := w, flushes := f } es := by
  have ne : ∀ k, 1 ≤ k → ∀ x, col x = m + k → ¬ (fun x => x = b) x := fun k hk x hx (y : x = b) => by rw [y, D.sc] at hx; omega
  exact ⟨D.sc, d.own, d.rd, rfl, rfl, rfl, rfl, D.f.keep d.fr (Ag.refl _ _) (ne 1 (by decide)), D.fn, D.fmax, D.a.keep d.fr (Ag.refl _ _) (ne 2 (by decide)), D.an, D.amax, Ents.keep d.fr (Ag.refl _ _) (ne 3 (by decide)) D.ts, D.k.keep d.fr (Ag.refl _ _) (ne 4 (by decide)), D.kn⟩
theorem Ref.dk (D : Ref h b S col m r es) : Dk col m b := ⟨by rw [D.sc]; omega, by rw [D.sc]; omega⟩
theorem Ref.len (D : Ref h b S col m r es) : (rd h b).length = 7 := by rw [D.sr]; rfl
theorem goes_spec {K : Value → Heap → Prop} (D : Ref h b S col m r es) (hl : 0 ≤ S.left ∧ S.left ≤ 9223372036854775807)
    (hK : ∀ h' r', Fr (Dk col m) h h' → Ref h' b S.goes.1 col m r' es → K (.bool S.goes.2) h') : C.boleref03_Disk_goes (some ⟨b, 0, none⟩) h K := by
  refine boleref03_Disk_goes.ok (os ⟨_, D.field 3, ?_⟩)
  rw [D.left]
  refine ce (fun h0 => ?_) fun h0 => ?_
  · have e1 : S.goes = (S, false) := by unfold FD.goes; rw [if_pos h0]
    rw [e1] at hK
    exact hK h r (Fr.refl _ _) D
  have e1 : S.goes = ({ S with left := S.left - 1, out := S.left - 1 == 0 }, S.left - 1 == 0) := by unfold FD.goes; rw [if_neg h0]
  rw [e1] at hK
  refine os ⟨_, D.field 3, os ?_⟩
  rw [D.left, wrap_i64 (by omega) (by omega)]
  refine Put.add D.so (by rw [D.len]; decide) fun h2 d2 => ?_
  rw [D.sr] at d2
  have d2' : Did b h h2 ({ r with left := S.left - 1, out := r.out, writes := r.writes, flushes := r.flushes } : FRaw).cells := d2
  have D2 := D.re d2'
  refine os ⟨_, D2.field 3, os (Put.add D2.so (by rw [D2.len]; decide) fun h3 d3 => ?_)⟩
  rw [D2.sr] at d3
  have d3' : Did b h2 h3 ({ r with left := S.left - 1, out := S.left - 1 == 0, writes := r.writes, flushes := r.flushes } : FRaw).cells := d3
  have D3 := D2.re d3'
  refine os ⟨_, D3.field 4, ?_⟩
  have D3' : Ref h3 b { S with left := S.left - 1, out := S.left - 1 == 0 } col m { r with left := S.left - 1, out := S.left - 1 == 0, writes := r.writes, flushes := r.flushes } es := by
    have := D3
    rw [D.writes, D.flushes] at this ⊢
    exact this
  exact hK h3 _ (((Fr.refl _ _).did d2 fun _ => D.dk).did d3 fun _ => D.dk) D3'
theorem act_spec {e : Ent} {t : Int × Int × List UInt8} {X : Heap → Prop} (D : Ref h b S col m r es) (hk : e.kind = t.1) (ha : e.at_ = t.2.1) (B : StrAt h e.a e.l t.2.2) (hc : ∀ p, e.a = some p → p.block < h.size ∧ col p.block = m + 3) (hn : es.length < 1000000000)
    (hX : ∀ h' col' r', Fr (Dk col m) h h' → Ag h.size col col' → Ref h' b { S with acts := S.acts ++ [t] } col' m r' (es ++ [e]) → X h') :
    AppendP ti122 122 r.aa r.an r.ac 1 e.cells h fun sA sL sC h9 => onSome (some (⟨b, 0, none⟩ : Addr)) fun p5 => Put (Addr.add p5 1) (.slice sA sL sC) h9 fun h10 => X h10 := by
  have han := D.an
  refine append_col D.a rfl rfl (by show (r.an + 1) * 40 ≤ _; omega) (by omega) fun a8 c8 h8 f8 s8 => ?_
  have g8 : Ag h.size col (upd col h.size (m + 2)) := ag_upd _ _ _
  have hne : ∀ k, k ≠ m + 2 → ∀ x, col x = k → ¬ On col (m + 2) x := fun k hk x hx y => hk (hx.symm.trans y)
  have sb := D.so.lt
  have nsb : ¬ On col (m + 2) b := hne m (by omega) b D.sc
  have r8 := (f8.rd sb nsb).trans D.sr
  refine os (Put.add (f8.own sb nsb D.so) (by rw [r8]; exact (by decide : 0 + 1 < 7)) fun h9 d9 => ?_)
  rw [r8] at d9
  have d9' : Did b h8 h9 ({ r with aa := a8, an := r.an + 1, ac := c8 } : FRaw).cells := d9
  have z8 := f8.size
  have sc8 : upd col h.size (m + 2) b = m := (g8 b sb).trans D.sc
  have ne : ∀ k, 1 ≤ k → ∀ x, upd col h.size (m + 2) x = m + k → ¬ (fun x => x = b) x := fun k hk x hx (y : x = b) => by rw [y, sc8] at hx; omega
  have F9 : Fr (Dk col m) h h9 := ((f8.mono fun x _ hx => by have hx : col x = m + 2 := hx; exact ⟨by omega, by omega⟩).did d9 fun _ => D.dk)
  refine hX h9 (upd col h.size (m + 2)) { r with aa := a8, an := r.an + 1, ac := c8 } F9 g8 ⟨sc8, d9.own, d9.rd, D.left, D.out, D.writes, D.flushes, (D.f.keep f8 g8 (hne _ (by omega))).keep d9.fr (Ag.refl _ _) (ne 1 (by decide)), D.fn, D.fmax, ?_, by show r.an + 1 = (es ++ [e]).length; rw [List.length_append, han]; rfl, by rw [List.length_append]; show es.length + 1 ≤ _; omega, ?_, (D.k.keep f8 g8 (hne _ (by omega))).keep d9.fr (Ag.refl _ _) (ne 4 (by decide)), D.kn⟩
  · have : (es ++ [e]).flatMap Ent.cells = es.flatMap Ent.cells ++ e.cells := by rw [List.flatMap_append, List.flatMap_singleton]
    rw [this]
    exact s8.keep d9.fr (Ag.refl _ _) (ne 2 (by decide))
  · refine Ents.keep d9.fr (Ag.refl _ _) (ne 3 (by decide)) (Ents.keep f8 g8 (hne _ (by omega)) (Ents.snoc hk ha B hc D.ts))
end
section
variable {h : Heap} {d : Option Addr} {S : FD} {col : Nat → Nat} {m : Nat}
theorem Write_spec {i : Int} {a : Option Addr} {l c : Nat} {bs : List UInt8} {K : Value → Heap → Prop} (D : RefAt h d S col m) (B : StrAt h a l bs) (hlm : l ≤ 140737488355328) (hl : 0 ≤ S.left ∧ S.left ≤ 9223372036854775807) (hn : S.acts.length < 1000000000)
    (hK : ∀ h' col', Fr (Dk col m) h h' → Ag h.size col col' → RefAt h' d (S.write i bs).1 col' m → K (.int .i64 (S.write i bs).2) h') : C.boleref03_Disk_Write d i a l c h K := by
  obtain ⟨b, r, es, rfl, D⟩ := D
  refine boleref03_Disk_Write.ok (os ⟨_, D.field 4, ?_⟩)
  rw [D.out]
  refine cs (fun ho => ?_) fun ho => ?_
  · have e1 : S.write i bs = (S, 30) := by unfold FD.write; rw [if_pos ho]
    rw [e1] at hK
    exact hK h col (Fr.refl _ _) (Ag.refl _ _) ⟨b, r, es, rfl, D⟩
  refine copied_spec B hlm fun a2 c2 h2 f2 s2 => ⟨_, _, _, rfl, NewRow.intro rfl (ent_one ⟨1, i, a2, l, c2⟩) rfl fun h4 n4 => ⟨_, rfl, cellsAll n4.rd, ?_⟩⟩
  have z2 := f2.size
  have z4 := n4.size
  have g4 : Ag h.size col (upd col h.size (m + 3)) := ag_upd _ _ _
  have F4 : Fr No h h4 := f2.new n4
  have D4 := D.keep' F4 g4 fun _ _ _ y => y
  refine Blocks_spec ⟨b, r, es, rfl, D4⟩ ⟨_, rfl, ⟨rfl, cellsAll n4.rd⟩, fault_spec (e := ⟨1, i, a2, l, c2⟩) fun h6 f6 => ⟨_, rfl, ?_⟩⟩
  have hbl := B.1
  have er : refusedOf ⟨1, i, a2, l, c2⟩ ((S.first.length / 512 : Nat) : Int) = refT (S.N : Nat) (1, i, bs) := by unfold refT refusedOf; rw [show ((1 : Int), i, bs).2.2.length = l from hbl]; rfl
  rw [er]
  have D6 := D4.keep' f6 (Ag.refl _ _) fun _ _ _ y => y
  have F6 : Fr No h h6 := F4.no f6
  have z6 := f6.size
  refine cn (fun hne => ?_) fun he => ?_
  · have e1 : S.write i bs = (S, refT (S.N : Nat) (1, i, bs)) := by unfold FD.write; rw [if_neg (by rw [ho]; simp), if_pos hne]
    rw [e1] at hK
    exact hK h6 _ (F6.mono fun _ _ y => y.elim) g4 ⟨b, r, es, rfl, D6⟩
  have e1 : S.write i bs = ((S.putW i bs).goes.1, if (S.putW i bs).goes.2 = true then 30 else 0) := by unfold FD.write; rw [if_neg (by rw [ho]; simp), if_neg (fun y => y he)]
  rw [e1] at hK
  refine os ⟨_, D6.field 5, os (Put.add D6.so (by rw [D6.len]; decide) fun h7 d7 => ?_)⟩
  rw [D6.sr, D6.writes] at d7
  have d7' : Did b h6 h7 ({ r with left := r.left, out := r.out, writes := IntKind.wrap .i64 (S.writes + 1), flushes := r.flushes } : FRaw).cells := d7
  have D7 := D6.re d7'
  have z7 := d7.size
  have ra : rd h7 h2.size = Ent.cells ⟨1, i, a2, l, c2⟩ := (d7.at_ (by omega) fun y => by have := D.so.lt; omega).trans ((f6.rd (by omega) fun y => y).trans n4.rd)
  refine os ⟨_, _, _, D7.field 1, _, rfl, cellsAll ra, rfl, New.intro fun h8 n8 => ?_⟩
  have D8 := D7.keep' n8.fr (Ag.refl _ _) fun _ _ _ y => y
  refine ⟨D8.field 1, _, rfl, cellsAll n8.rd, ent_one _, ?_⟩
  have z8 := n8.size
  have s8 := (((s2.fr n4.fr fun _ _ _ y => y).fr f6 fun _ _ _ y => y).fr d7.fr fun x _ y e => by have y : h.size ≤ x := y; have e : x = b := e; have := D.so.lt; omega).fr n8.fr fun _ _ _ y => y
  have hel := Ents.length D.ts
  refine act_spec D8 (e := ⟨1, i, a2, l, c2⟩) (t := (1, i, bs)) rfl rfl s8.str (fun p ep => ?_) (by omega) fun h10 col10 r10 f10 g10 D10 => ?_
  · have ep : a2 = some p := ep
    subst ep
    exact ⟨s8.lt, upd_ge s8.2.2.1⟩
  have eS : ({ S with left := r.left, out := r.out, writes := IntKind.wrap .i64 (S.writes + 1), flushes := r.flushes, acts := S.acts ++ [(1, i, bs)] } : FD) = S.putW i bs := by
    rw [D.left, D.out, D.flushes]; rfl
  have D10' : Ref h10 b (S.putW i bs) col10 m r10 (es ++ [⟨1, i, a2, l, c2⟩]) := by rw [← eS]; exact D10
  have dk : ∀ x, x < h.size → Dk (upd col h.size (m + 3)) m x → Dk col m x := fun x hx y => by unfold Dk at y ⊢; rw [g4 x hx] at y; exact y
  have F8 : Fr (Dk col m) h h8 := ((F6.mono fun _ _ y => y.elim).did d7 fun _ => D.dk).new n8
  have F10 : Fr (Dk col m) h h10 := F8.trans f10 dk
  have G10 : Ag h.size col col10 := g4.trans g10 F8.size
  have dk2 : ∀ x, x < h.size → Dk col10 m x → Dk col m x := fun x hx y => by unfold Dk at y ⊢; rw [G10 x hx] at y; exact y
  refine goes_spec D10' hl fun h11 r11 f11 D11 => ⟨_, rfl, cs (fun hg => ?_) fun hg => ?_⟩
  · rw [hg, if_pos rfl] at hK
    exact hK h11 col10 (F10.trans f11 dk2) G10 ⟨b, r11, _, rfl, D11⟩
  · rw [hg, if_neg (by simp)] at hK
    exact hK h11 col10 (F10.trans f11 dk2) G10 ⟨b, r11, _, rfl, D11⟩
end
end Go.Proofs.YtjdcbblgaoogmaaGreatDoor.Rf
namespace Go.Proofs.YtjdcbblgaoogmaaGreatDoor.Rf
open Go Go.Proofs Wx Hp W Ad L3
theorem bools_one (l : List Bool) : ∀ v ∈ l.map Value.bool, v.oneCell' = true := fun v hv => by
  obtain ⟨x, _, rfl⟩ := List.mem_map.mp hv; rfl
theorem marks_spec {a : Option Addr} {l c : Nat} {bs : List Bool} {h : Heap} {K : Value → Heap → Prop} (B : SlCells h a (bs.map .bool)) (hl : bs.length = l) (hm : l ≤ 140737488355328)
    (hK : ∀ a' c' h', Fr No h h' → Sl h' 1 a' l c' (bs.map .bool) (From h.size) → K (.slice a' l c') h') : C.boleref03_marks a l c h K := by
  have e : (bs.map Value.bool).length = l * 1 := by rw [List.length_map, hl, Nat.mul_one]
  exact boleref03_marks.ok ⟨_, e, B, bools_one bs, append_nil e rfl (by show l * 1 ≤ _; omega) hm hK⟩
section
variable {h : Heap} {d : Option Addr} {S : FD} {col : Nat → Nat} {m : Nat}
theorem Flush_spec {K : Value → Heap → Prop} (D : RefAt h d S col m) (hl : 0 ≤ S.left ∧ S.left ≤ 9223372036854775807) (hn : S.acts.length < 1000000000)
    (hK : ∀ h' col', Fr (Dk col m) h h' → Ag h.size col col' → RefAt h' d S.flush.1 col' m → K (.int .i64 S.flush.2) h') : C.boleref03_Disk_Flush d h K := by
  obtain ⟨b, r, es, rfl, D⟩ := D
  refine boleref03_Disk_Flush.ok (os ⟨_, D.field 4, ?_⟩)
  rw [D.out]
  refine cs (fun ho => ?_) fun ho => ?_
  · have e1 : S.flush = (S, 30) := by unfold FD.flush; rw [if_pos ho]
    rw [e1] at hK
    exact hK h col (Fr.refl _ _) (Ag.refl _ _) ⟨b, r, es, rfl, D⟩
  unfold FD.flush at hK
  rw [if_neg (by rw [ho]; simp)] at hK
  refine os ⟨_, D.field 6, os (Put.add D.so (by rw [D.len]; decide) fun h2 d2 => ?_)⟩
  rw [D.sr, D.flushes] at d2
  have d2' : Did b h h2 ({ r with left := r.left, out := r.out, writes := r.writes, flushes := IntKind.wrap .i64 (S.flushes + 1) } : FRaw).cells := d2
  have D2 := D.re d2'
  have eS : ({ S with left := r.left, out := r.out, writes := r.writes, flushes := IntKind.wrap .i64 (S.flushes + 1) } : FD) = { S with flushes := IntKind.wrap .i64 (S.flushes + 1) } := by rw [D.left, D.out, D.writes]
  rw [eS] at D2
  have F2 : Fr (Dk col m) h h2 := (Fr.refl _ _).did d2 fun _ => D.dk
  have hl2 : 0 ≤ ({ S with flushes := IntKind.wrap .i64 (S.flushes + 1) } : FD).left ∧ ({ S with flushes := IntKind.wrap .i64 (S.flushes + 1) } : FD).left ≤ 9223372036854775807 := hl
  have ha : (FD.goes { S with flushes := IntKind.wrap .i64 (S.flushes + 1) }).1.acts = S.acts := by unfold FD.goes; split <;> rfl
  generalize ({ S with flushes := IntKind.wrap .i64 (S.flushes + 1) } : FD) = S2 at hK D2 hl2 ha
  refine goes_spec D2 hl2 fun h3 r3 f3 D3 => ⟨_, rfl, cs (fun hg => ?_) fun hg => ?_⟩
  · rw [if_pos hg] at hK
    exact hK h3 col (F2.trans f3 fun _ _ y => y) (Ag.refl _ _) ⟨b, r3, es, rfl, D3⟩
  rw [if_neg (by rw [hg]; simp)] at hK
  have hel := Ents.length D3.ts
  rw [ha] at hel
  refine os ⟨_, _, _, D3.field 1, rfl, New.intro fun h4 n4 => ?_⟩
  have D4 := D3.keep' n4.fr (Ag.refl _ _) fun _ _ _ y => y
  have e0 : ([.int .i64 2, .int .i64 0, .slice none 0 0] : List Value) = Ent.cells ⟨2, 0, none, 0, 0⟩ := rfl
  have r4 := n4.rd
  refine ⟨Ent.cells ⟨2, 0, none, 0, 0⟩, rfl, cellsAll r4, ent_one _, ?_⟩
  refine act_spec D4 (e := ⟨2, 0, none, 0, 0⟩) (t := (2, 0, [])) rfl rfl ⟨rfl, rfl⟩ (fun p ep => by cases ep) (by omega) fun h6 col6 r6 f6 g6 D6 => ?_
  exact hK h6 col6 (((F2.trans f3 fun _ _ y => y).new n4).trans f6 fun _ _ y => y) (g6.le (Nat.le_trans d2.fr.size (Nat.le_trans f3.size n4.fr.size))) ⟨b, r6, _, rfl, D6⟩
theorem Arm_spec {n : Int} {ka : Option Addr} {kl kc : Nat} {keep : List Bool} {K : Value → Heap → Prop} (D : RefAt h d S col m) (B : SlCells h ka (keep.map .bool)) (hkl : keep.length = kl) (hm : kl ≤ 140737488355328) (hac : ∀ p, ka = some p → keep ≠ [] → ¬ Dk col m p.block)
    (hK : ∀ h' col', Fr (Dk col m) h h' → Ag h.size col col' → RefAt h' d (S.arm n keep).1 col' m → K (.int .i64 (S.arm n keep).2) h') : C.boleref03_Disk_Arm d [.int .i64 n, .slice ka kl kc] h K := by
  obtain ⟨b, r, es, rfl, D⟩ := D
  refine boleref03_Disk_Arm.ok (New.intro fun h2 n2 => ?_)
  have z2 := n2.size
  have D2 := D.keep' n2.fr (Ag.refl _ _) fun _ _ _ y => y
  have sb := D.so.lt
  refine os ⟨_, D2.field 4, ?_⟩
  rw [D.out]
  refine cs (fun ho => ?_) fun ho => ?_
  · have e1 : S.arm n keep = (S, 30) := by unfold FD.arm; rw [if_pos ho]
    rw [e1] at hK
    exact hK h2 col (n2.fr.mono fun _ _ y => y.elim) (Ag.refl _ _) ⟨b, r, es, rfl, D2⟩
  refine os (Put.add D2.so (by rw [D2.len]; decide) fun h3 d3 => ?_)
  rw [D2.sr] at d3
  have d3' : Did b h2 h3 ({ r with left := 0, out := r.out, writes := r.writes, flushes := r.flushes } : FRaw).cells := d3
  have D3 := D2.re d3'
  have z3 := d3.size
  have r3 : rd h3 h.size = [.int .i64 n, .slice ka kl kc] := (d3.at_ (by omega) (by omega)).trans n2.rd
  have F3 : Fr (Dk col m) h h3 := (n2.fr.mono fun _ _ y => y.elim).did d3 fun _ => D.dk
  refine ⟨_, rda r3 rfl, cd (fun hp => ⟨_, rda r3 rfl, ?_⟩) fun hp => ?_⟩
  rotate_left
  · have e1 : S.arm n keep = ({ S with left := 0 }, 0) := by unfold FD.arm; rw [if_neg (by rw [ho]; simp), if_neg hp]
    rw [e1] at hK
    have eS : ({ S with left := 0, out := r.out, writes := r.writes, flushes := r.flushes } : FD) = { S with left := 0 } := by rw [D.out, D.writes, D.flushes]
    rw [eS] at D3
    exact hK h3 col F3 (Ag.refl _ _) ⟨b, _, es, rfl, D3⟩
  have e1 : S.arm n keep = ({ S with left := n, keep := keep }, 0) := by unfold FD.arm; rw [if_neg (by rw [ho]; simp), if_pos hp]
  rw [e1] at hK
  refine os (Put.add D3.so (by rw [D3.len]; decide) fun h4 d4 => ?_)
  rw [D3.sr] at d4
  have d4' : Did b h3 h4 ({ r with left := n, out := r.out, writes := r.writes, flushes := r.flushes } : FRaw).cells := d4
  have D4 := D3.re d4'
  have z4 := d4.size
  have r4 : rd h4 h.size = [.int .i64 n, .slice ka kl kc] := (d4.at_ (by omega) (by omega)).trans r3
  have F4 : Fr (Dk col m) h h4 := F3.did d4 fun _ => D.dk
  have B4 : SlCells h4 ka (keep.map .bool) := by
    cases ka with
    | none => exact B
    | some p =>
      by_cases hk : keep = []
      · subst hk; exact Cells.nil _ _
      · exact SlCells.fr (a := some p) F4 B fun q eq y => by
          cases eq
          exact hac p rfl hk y
  refine ⟨_, _, _, rda r4 rfl, marks_spec B4 hkl hm fun a5 c5 h5 f5 s5 => ⟨_, _, _, rfl, ?_⟩⟩
  have g5 : Ag h4.size col (upd col h4.size (m + 4)) := ag_upd _ _ _
  have D5 := D4.keep' f5 g5 fun _ _ _ y => y
  refine os (Put.add D5.so (by rw [D5.len]; decide) fun h6 d6 => ?_)
  rw [D5.sr] at d6
  have d6' : Did b h5 h6 ({ r with left := n, ka := a5, kn := kl, kc := c5 } : FRaw).cells := d6
  have sc := D5.sc
  have ne : ∀ k, 1 ≤ k → ∀ x, upd col h4.size (m + 4) x = m + k → ¬ (fun x => x = b) x := fun k hk x hx (y : x = b) => by rw [y, sc] at hx; omega
  have F6 : Fr (Dk col m) h h6 := (F4.no f5).did d6 fun _ => D.dk
  refine hK h6 (upd col h4.size (m + 4)) F6 (g5.le (by omega)) ⟨b, { r with left := n, ka := a5, kn := kl, kc := c5 }, es, rfl, ⟨sc, d6.own, d6.rd, rfl, D.out, D.writes, D.flushes, D5.f.keep d6.fr (Ag.refl _ _) (ne 1 (by decide)), D.fn, D.fmax, D5.a.keep d6.fr (Ag.refl _ _) (ne 2 (by decide)), D.an, D.amax, Ents.keep d6.fr (Ag.refl _ _) (ne 3 (by decide)) D5.ts, ?_, hkl.symm⟩⟩
  have s5' : Sl h5 1 a5 kl c5 (keep.map .bool) (On (upd col h4.size (m + 4)) (m + 4)) := s5.mono fun x hx => upd_ge hx
  exact s5'.keep d6.fr (Ag.refl _ _) (ne 4 (by decide))
end
end Go.Proofs.YtjdcbblgaoogmaaGreatDoor.Rf
namespace Go.Proofs.YtjdcbblgaoogmaaGreatDoor.Rf
open Go Go.Proofs Wx Hp W Ad L3
def lastW (i : Int) (z : List UInt8) (ts : List Tt) : List UInt8 := ts.foldl (fun b t => if t.1 = 1 ∧ t.2.1 = i then t.2.2 else b) z
theorem lastW_snoc (i : Int) (z : List UInt8) (ts : List Tt) (t : Tt) : lastW i z (ts ++ [t]) = if t.1 = 1 ∧ t.2.1 = i then t.2.2 else lastW i z ts := by unfold lastW; rw [List.foldl_append]; rfl
def pendF (ts : List Tt) : List Int := ts.foldl (fun l t => if t.1 = 2 then [] else l ++ [t.2.1]) []
theorem pendF_snoc (ts : List Tt) (t : Tt) : pendF (ts ++ [t]) = if t.1 = 2 then [] else pendF ts ++ [t.2.1] := by unfold pendF; rw [List.foldl_append]; rfl
def FD.first' (S : FD) (i : Int) : List UInt8 := (S.first.drop (i.toNat * 512)).take 512
structure FD.Ok (S : FD) : Prop where
  len : S.first.length = S.N * 512
  max : S.N ≤ 16384
  may : ∀ t ∈ S.acts, May (S.N : Nat) t
theorem str_cut {h : Heap} {a : Option Addr} {l c i j : Nat} {bs : List UInt8} (B : StrAt h a l bs) (hlc : l ≤ c) (hij : i ≤ j) (hj : j ≤ l) : StrAt h (if c = i then a else Option.map (Addr.add · i) a) (j - i) ((bs.drop i).take (j - i)) := by
  by_cases e : c = i
  · rw [if_pos e]
    have : j - i = 0 := by omega
    rw [this, List.take_zero]; exact StrAt.nil _ _
  · rw [if_neg e]
    exact StrAt.take (StrAt.drop B i) (by omega)
section
variable {h : Heap} {d : Option Addr} {S : FD} {col : Nat → Nat} {m : Nat} {b : Nat} {r : FRaw} {es : List Ent}
theorem Ref.rot (D : Ref h b S col m r es) : Rot h r.aa r.an es S.acts :=
  ⟨D.a.cells, (Ents.length D.ts).symm.trans D.an.symm, Ents.length D.ts, fun i h1 h2 => by obtain ⟨x1, x2, x3, _⟩ := Ents.at_ D.ts i h1 h2; exact ⟨x1, x2, x3⟩⟩
theorem Ref.str (D : Ref h b S col m r es) : StrAt h r.fa r.fn S.first := D.f.str
theorem Read_spec {i : Int} {K : Value → Heap → Prop} (D : RefAt h d S col m) (ok : S.Ok) (hw : ∀ t ∈ S.acts, t.2.2.length ≤ 140737488355328)
    (h1 : S.out = true → K (.tuple #[.slice none 0 0, .int .i64 30]) h) (h2 : S.out = false → ¬ (0 ≤ i ∧ i < (S.N : Nat)) → K (.tuple #[.slice none 0 0, .int .i64 31]) h)
    (h3 : S.out = false → 0 ≤ i → i < (S.N : Nat) → ∀ a c h', Fr No h h' → Sl h' 1 a (lastW i (S.first' i) S.acts).length c ((lastW i (S.first' i) S.acts).map bv) (From h.size) → K (.tuple #[.slice a (lastW i (S.first' i) S.acts).length c, .int .i64 0]) h') : C.boleref03_Disk_Read d i h K := by
  obtain ⟨b, r, es, rfl, D⟩ := D
  have R := D.rot
  refine boleref03_Disk_Read.ok (os ⟨_, D.field 4, ?_⟩)
  rw [D.out]
  refine cs (fun ho => h1 ho) fun ho => cd (fun hi => h2 ho (by omega)) fun hi => Blocks_spec ⟨b, r, es, rfl, D⟩ ⟨_, rfl, cd (fun hj => h2 ho (by have hj : i ≥ ((S.N : Nat) : Int) := hj; omega)) fun hj => ?_⟩
  have hj : ¬ i ≥ ((S.N : Nat) : Int) := hj
  have h3 := h3 ho (by omega) (by omega)
  have hnum := R.num
  have hmx := ok.max
  have hln := ok.len
  have hfn := D.fn
  have hamax := D.amax
  have hel := R.len
  unfold boleref03_Disk_Read.k1
  refine os ⟨_, _, _, D.field 1, fun j hh => -1 ≤ j ∧ j < S.acts.length ∧ hh = h ∧ lastW i (S.first' i) S.acts = lastW i (S.first' i) (S.acts.take (j + 1).toNat), fun j _ => (j + 1).toNat, ⟨?_, ?_, rfl, ?_⟩, ?_⟩
  · rw [wrap_i64 (by omega) (by omega)]; omega
  · rw [wrap_i64 (by omega) (by omega)]; omega
  · rw [wrap_i64 (by omega) (by omega), List.take_of_length_le (by omega)]
  rintro j hh ⟨j0, j1, rfl, e⟩
  refine cd (fun hlt => ?_) fun hlt => ?_
  · obtain ⟨p, en, ep, c, x1, x2, x3, hjl, _⟩ := R.cell (i := j.toNat) (by omega)
    have ek : (S.acts.getD j.toNat (0, 0, [])) = S.acts[j.toNat] := by rw [List.getD_eq_getElem?_getD, List.getElem?_eq_getElem hjl]; rfl
    rw [ek] at x1 x2 x3
    have et : (j + 1).toNat = j.toNat + 1 := by omega
    rw [et, take_snoc _ _ hjl, lastW_snoc] at e
    have nxt : ¬ (S.acts[j.toNat].1 = 1 ∧ S.acts[j.toNat].2.1 = i) → ((-1 ≤ j - 1 ∧ j - 1 < S.acts.length ∧ hh = hh ∧ lastW i (S.first' i) S.acts = lastW i (S.first' i) (S.acts.take (j - 1 + 1).toNat)) ∧ (j - 1 + 1).toNat < (j + 1).toNat) := fun y => by
      rw [if_neg y] at e
      exact ⟨⟨by omega, by omega, rfl, by rw [show (j - 1 + 1).toNat = j.toNat by omega]; exact e⟩, by omega⟩
    have bd : (0 : Int) ≤ j ∧ j < (r.an : Int) := ⟨by omega, by omega⟩
    refine os ⟨_, _, _, D.field 1, bd, ?_⟩
    rw [ep]
    refine os ⟨_, Cells.cell c (i := 0) rfl, ce (fun hk => ?_) fun hk => ?_⟩
    · refine os ⟨_, _, _, D.field 1, bd, ?_⟩
      rw [ep]
      refine os ⟨_, Cells.cell c (i := 1) rfl, ce (fun ha => ?_) fun ha => ?_⟩
      · rw [if_pos ⟨by omega, by omega⟩] at e
        rw [e] at h3
        have l3 := hw _ (List.getElem_mem hjl)
        have hx3 := x3.1
        refine os ⟨_, _, _, D.field 1, bd, ?_⟩
        rw [ep]
        refine os ⟨_, _, _, Cells.cell c (i := 2) rfl, copied_spec x3 (by omega) fun a5 c5 h5 f5 s5 => ⟨_, _, _, rfl, ?_⟩⟩
        rw [← hx3] at s5 ⊢
        exact h3 a5 c5 h5 f5 s5
      · rw [wrap_i64 (by omega) (by omega)]
        exact nxt fun y => ha (by omega)
    · rw [wrap_i64 (by omega) (by omega)]
      exact nxt fun y => hk (by omega)
  · have ej : (j + 1).toNat = 0 := by omega
    rw [ej, List.take_zero] at e
    have e : lastW i (S.first' i) S.acts = S.first' i := e
    rw [e] at h3
    have lc := D.f.le
    have w1 : IntKind.wrap .i64 (i * 512) = i * 512 := wrap_i64 (by omega) (by omega)
    have w2 : IntKind.wrap .i64 (i * 512 + 512) = i * 512 + 512 := wrap_i64 (by omega) (by omega)
    refine os ⟨_, _, _, D.field 0, ?_⟩
    rw [w1, w2]
    have n1 : (i * 512).toNat = i.toNat * 512 := by omega
    have n2 : (i * 512 + 512).toNat = i.toNat * 512 + 512 := by omega
    have hf : (S.first' i).length = 512 := by unfold FD.first'; rw [List.length_take, List.length_drop]; omega
    rw [n1, n2]
    refine ⟨⟨by omega, by omega, by omega⟩, ?_⟩
    have B := str_cut (i := i.toNat * 512) (j := i.toNat * 512 + 512) D.str lc (by omega) (by omega)
    have hd : i.toNat * 512 + 512 - i.toNat * 512 = 512 := by omega
    rw [hd] at B ⊢
    refine copied_spec B (by decide) fun a5 c5 h5 f5 s5 => ⟨_, _, _, rfl, ?_⟩
    rw [hf] at h3
    exact h3 a5 c5 h5 f5 s5
def FD.image (S : FD) : List (List UInt8) := leftR (if S.out = true then S.keep else []) (chunks S.first) S.acts 0
theorem Image_spec {K : Value → Heap → Prop} (D : RefAt h d S col m) (ok : S.Ok) 
    (hK : ∀ a c h', Fr No h h' → Sl h' 1 a (S.N * 512) c (S.image.flatten.map bv) (From h.size) → K (.slice a (S.N * 512) c) h') : C.boleref03_Disk_Image d h K := by
  obtain ⟨b, r, es, rfl, D⟩ := D
  have R := D.rot
  have el : r.fn = S.N * 512 := D.fn.trans ok.len
  have hnum := R.num
  have hamax := D.amax
  have han := D.an
  unfold FD.image at hK
  refine boleref03_Disk_Image.ok (os ⟨_, D.field 4, ?_⟩)
  rw [D.out]
  refine cs (fun ho => ?_) fun ho => ?_
  · rw [if_pos ho] at hK
    refine os ⟨_, _, _, D.field 0, os ⟨_, _, _, D.field 1, os ⟨_, _, _, D.field 2, ?_⟩⟩⟩
    refine left_spec D.str ok.max el R (by omega) ok.may D.k.cells D.kn.symm fun a c h' f s => ⟨_, _, _, rfl, ?_⟩
    rw [el] at s ⊢
    exact hK a c h' f s
  · rw [if_neg (by rw [ho]; simp)] at hK
    refine os ⟨_, _, _, D.field 0, os ⟨_, _, _, D.field 1, ?_⟩⟩
    refine left_spec (keep := []) D.str ok.max el R (by omega) ok.may rfl rfl fun a c h' f s => ⟨_, _, _, rfl, ?_⟩
    rw [el] at s ⊢
    exact hK a c h' f s
end
end Go.Proofs.YtjdcbblgaoogmaaGreatDoor.Rf
namespace Go.Proofs.YtjdcbblgaoogmaaGreatDoor.Rf
open Go Go.Proofs Wx Hp W Ad L3
theorem replay_snoc (D : RD) (ts : List Tt) (t : Tt) : replay D (ts ++ [t]) = again (replay D ts) t := by unfold replay; rw [List.foldl_append]; rfl
def FD.Q (S : FD) : RD := replay (Ad.fresh (chunks S.first)) S.acts
theorem again_write {D : RD} (c : L3.Calm D) {i : Int} {b : List UInt8} (h0 : 0 ≤ i) (h1 : i < D.lasts.length) (h2 : b.length = 512) : again D (1, i, b) = D.putW i b := by
  rw [again, if_neg (show ¬ ((1 : Int), i, b).1 = 2 from (by decide : ¬ (1 : Int) = 2)), RD.write, if_neg (by rw [c.down]; exact Bool.false_ne_true), if_neg (fun x => x ⟨h0, h1⟩), if_neg (fun x => x h2), RD.step, if_neg (by show ¬ 0 < D.left; rw [c.left]; omega)]
  rfl
theorem again_flush {D : RD} (c : L3.Calm D) {i : Int} {b : List UInt8} : again D (2, i, b) = RD.flushed { D with flushes := IntKind.wrap .i64 (D.flushes + 1) } := by rw [again, if_pos rfl, c.flush]
theorem replay_calm {D : RD} (N : Nat) : ∀ (ts : List Tt), L3.Calm D → D.lasts.length = N → (∀ t ∈ ts, May N t) → L3.Calm (replay D ts) ∧ (replay D ts).lasts.length = N := by
  intro ts
  induction ts generalizing D with
  | nil => intro c h _; exact ⟨c, h⟩
  | cons t r ih =>
    intro c hN hm
    have hr : ∀ t ∈ r, May N t := fun t ht => hm t (List.mem_cons_of_mem _ ht)
    have hst : replay D (t :: r) = replay (again D t) r := rfl
    rw [hst]
    obtain ⟨k, i, b⟩ := t
    rcases hm _ (List.mem_cons_self ..) with h2 | ⟨h1, e0, e1, e2⟩
    · have h2 : k = 2 := h2
      subst h2
      rw [again_flush c]
      exact ih ⟨c.down, c.left, applyTo_len _ _ c.lw c.pw, fun x hx => by simp [RD.flushed] at hx⟩ ((applyTo_length _ _).trans hN) hr
    · have h1 : k = 1 := h1
      subst h1
      rw [again_write c e0 (by rw [hN]; exact e1) e2]
      exact ih (c.putW _ e2) hN hr
theorem FD.Ok.calm {S : FD} (o : S.Ok) : L3.Calm S.Q ∧ S.Q.lasts.length = S.N :=
  replay_calm S.N S.acts (L3.Calm.fresh (chunks_len _)) (by show (chunks S.first).length = _; rw [chunks_length]; rfl) o.may
theorem FD.Ok.left {S : FD} (o : S.Ok) (keep : List Bool) : (S.Q.cut keep).lasts = leftR keep (chunks S.first) S.acts 0 :=
  left_fresh keep (chunks_len _) (by rw [chunks_length]; rfl) S.acts o.may
structure Sm (D : RD) (S : FD) : Prop where
  ok : S.Ok
  tape : D.tape = S.acts
  writes : D.writes = S.writes
  flushes : D.flushes = S.flushes
  down : D.down = S.out
  left : S.out = false → D.left = S.left
  keep : S.out = false → S.left ≠ 0 → D.keep = S.keep
  leftb : 0 ≤ S.left ∧ S.left ≤ 9223372036854775807
  len : D.lasts.length = S.N
  up : S.out = false → D.lasts = S.Q.lasts ∧ D.pend = S.Q.pend
  dn : S.out = true → D.lasts = leftR S.keep (chunks S.first) S.acts 0 ∧ D.pend = []
theorem refT_iff {N : Nat} {i : Int} {b : List UInt8} : refT (N : Nat) (1, i, b) = if ¬ (0 ≤ i ∧ i < (N : Nat)) then 31 else if b.length ≠ 512 then 32 else 0 := by
  unfold refT refusedOf
  rw [if_neg (show ¬ ((1 : Int) = 2) by decide), if_neg (show ¬ ((1 : Int) ≠ 1) by decide)]
  by_cases h1 : i < 0
  · rw [if_pos h1, if_pos (by omega)]
  · rw [if_neg h1]
    by_cases h2 : i ≥ (N : Nat)
    · rw [if_pos h2, if_pos (by omega)]
    · rw [if_neg h2]
      show (if b.length ≠ 512 then (32 : Int) else 0) = _
      rw [if_neg (show ¬ ¬ (0 ≤ i ∧ i < (N : Nat)) from fun y => y ⟨by omega, by omega⟩)]
theorem sm_step {D1 : RD} {S1 : FD} {f : RD → RD} {g : FD → FD} (ho : S1.out = false) (hd : D1.down = false) (hl : D1.left = S1.left) (hb : 0 ≤ S1.left ∧ S1.left ≤ 9223372036854775807)
    (cutok : S1.left ≠ 0 → S1.left - 1 = 0 → Sm (RD.cut { D1 with left := S1.left - 1 } D1.keep) { S1 with left := S1.left - 1, out := true })
    (go : ∀ l, (l = S1.left ∨ S1.left ≠ 0 ∧ l = S1.left - 1 ∧ l ≠ 0) → Sm (f { D1 with left := l }) (g { S1 with left := l, out := false })) :
    (D1.step f).2 = (if S1.goes.2 = true then 30 else 0) ∧ Sm (D1.step f).1 (if S1.goes.2 = true then S1.goes.1 else g S1.goes.1) := by
  unfold RD.step FD.goes
  rw [hl]
  by_cases h0 : S1.left = 0
  · rw [if_neg (by omega), if_pos h0]
    have := go S1.left (.inl rfl)
    have e1 : ({ D1 with left := S1.left } : RD) = D1 := by rw [← hl]
    have e2 : ({ S1 with left := S1.left, out := false } : FD) = S1 := by rw [← ho]
    rw [e1, e2] at this
    exact ⟨rfl, this⟩
  · rw [if_pos (by omega), if_neg h0]
    by_cases h1 : S1.left - 1 = 0
    · rw [if_pos h1]
      have e : (S1.left - 1 == 0) = true := beq_iff_eq.mpr h1
      have c := cutok h0 h1
      simp only [e, if_true]
      exact ⟨by first | trivial | rfl, c⟩
    · rw [if_neg h1]
      have e : (S1.left - 1 == 0) = false := beq_eq_false_iff_ne.mpr h1
      have c := go (S1.left - 1) (.inr ⟨h0, rfl, h1⟩)
      simp only [e]
      exact ⟨by first | trivial | rfl | simp, by simpa using c⟩
theorem Sm.write {D : RD} {S : FD} (s : Sm D S) (i : Int) (b : List UInt8) : (D.write i b).2 = (S.write i b).2 ∧ Sm (D.write i b).1 (S.write i b).1 := by
  unfold RD.write FD.write
  rw [s.down, s.len, refT_iff]
  by_cases ho : S.out = true
  · rw [if_pos ho, if_pos ho]; exact ⟨rfl, s⟩
  rw [if_neg ho, if_neg ho]
  have ho : S.out = false := by simpa using ho
  by_cases hi : 0 ≤ i ∧ i < (S.N : Nat)
  rotate_left
  · rw [if_pos hi, if_pos hi, if_pos (by decide)]; exact ⟨rfl, s⟩
  have hi' : ¬ ¬ (0 ≤ i ∧ i < (S.N : Nat)) := fun y => y hi
  rw [if_neg hi', if_neg hi']
  by_cases hb : b.length = 512
  rotate_left
  · rw [if_pos hb, if_pos hb, if_pos (by decide)]; exact ⟨rfl, s⟩
  have hb' : ¬ b.length ≠ 512 := fun y => y hb
  rw [if_neg hb', if_neg hb', if_neg (show ¬ ((0 : Int) ≠ 0) from fun y => y rfl)]
  have ok1 : ∀ l o, FD.Ok { S.putW i b with left := l, out := o } := fun l o => ⟨s.ok.len, s.ok.max, fun t ht => by
    rcases List.mem_append.mp ht with ht | ht
    · exact s.ok.may t ht
    · rw [List.mem_singleton.mp ht]; exact .inr ⟨rfl, hi.1, hi.2, hb⟩⟩
  obtain ⟨c, lq⟩ := s.ok.calm
  obtain ⟨u1, u2⟩ := s.up ho
  have eQ : ∀ l o, FD.Q { S.putW i b with left := l, out := o } = S.Q.putW i b := fun l o => by
    show replay _ (S.acts ++ [(1, i, b)]) = _
    rw [replay_snoc]; exact again_write (D := S.Q) c hi.1 (by rw [show (S.Q).lasts.length = S.N from lq]; exact hi.2) hb
  have W := sm_step (D1 := D.putW i b) (S1 := S.putW i b) (f := id) (g := id) ho (s.down.trans ho) (s.left ho) s.leftb (fun h0 h1 => ?_) fun l hl => ?_
  · simpa using W
  · have lk := (ok1 (S.left - 1) true).left S.keep
    rw [eQ] at lk
    refine ⟨ok1 _ _, by show D.tape ++ _ = S.acts ++ _; rw [s.tape], by show IntKind.wrap .i64 (D.writes + 1) = _; rw [s.writes]; rfl, s.flushes, rfl, fun y => (by cases y), fun y => (by cases y), ⟨by show 0 ≤ S.left - 1; have := s.leftb; have h0 : S.left ≠ 0 := h0; omega, by show S.left - 1 ≤ _; have := s.leftb; omega⟩, by show (applyTo _ _).length = _; rw [applyTo_length]; exact s.len, fun y => (by cases y), fun _ => ⟨?_, rfl⟩⟩
    show applyTo D.lasts (chosen (D.pend ++ [(i, b)]) D.keep) = leftR S.keep (chunks S.first) (S.acts ++ [(1, i, b)]) 0
    rw [u1, u2, s.keep ho h0]
    exact lk
  · have hlb : 0 ≤ l ∧ l ≤ 9223372036854775807 := by
      have := s.leftb
      have hl : l = S.left ∨ S.left ≠ 0 ∧ l = S.left - 1 ∧ l ≠ 0 := hl
      omega
    refine ⟨ok1 _ _, by show D.tape ++ _ = S.acts ++ _; rw [s.tape], by show IntKind.wrap .i64 (D.writes + 1) = _; rw [s.writes]; rfl, s.flushes, s.down.trans ho, fun _ => rfl, fun _ h => s.keep ho ?_, hlb, s.len, fun _ => ?_, fun y => (by cases y)⟩
    · have hl : l = S.left ∨ S.left ≠ 0 ∧ l = S.left - 1 ∧ l ≠ 0 := hl
      have h : l ≠ 0 := h
      omega
    · have e := eQ l false
      rw [show FD.Q (id { S.putW i b with left := l, out := false }) = S.Q.putW i b from e]
      exact ⟨u1, by show D.pend ++ _ = S.Q.pend ++ _; rw [u2]⟩
end Go.Proofs.YtjdcbblgaoogmaaGreatDoor.Rf
namespace Go.Proofs.YtjdcbblgaoogmaaGreatDoor.Rf
open Go Go.Proofs Wx Hp W Ad L3
theorem Sm.flush {D : RD} {S : FD} (s : Sm D S) : D.flush.2 = S.flush.2 ∧ Sm D.flush.1 S.flush.1 := by
  unfold RD.flush FD.flush
  have hd : ¬ S.out = true → ¬ D.down = true := fun y => by rw [s.down]; exact y
  by_cases ho : S.out = true
  · rw [if_pos (s.down.trans ho), if_pos ho]; exact ⟨rfl, s⟩
  rw [if_neg (hd ho), if_neg ho]
  have ho : S.out = false := by simpa using ho
  obtain ⟨c, lq⟩ := s.ok.calm
  obtain ⟨u1, u2⟩ := s.up ho
  have W := sm_step (D1 := { D with flushes := IntKind.wrap .i64 (D.flushes + 1) }) (S1 := { S with flushes := IntKind.wrap .i64 (S.flushes + 1) }) (f := RD.flushed) (g := fun S => { S with acts := S.acts ++ [(2, 0, [])] }) ho (s.down.trans ho) (s.left ho) s.leftb (fun h0 h1 => ?_) fun l hl => ?_
  · obtain ⟨W1, W2⟩ := W
    refine ⟨W1.trans ?_, ?_⟩
    · split <;> rfl
    · refine cast ?_ W2
      congr 1
      split <;> rfl
  · have lk := s.ok.left S.keep
    refine ⟨⟨s.ok.len, s.ok.max, s.ok.may⟩, s.tape, s.writes, by show IntKind.wrap .i64 (D.flushes + 1) = _; rw [s.flushes], rfl, fun y => (by cases y), fun y => (by cases y), ⟨by show 0 ≤ S.left - 1; have := s.leftb; have h0 : S.left ≠ 0 := h0; omega, by show S.left - 1 ≤ _; have := s.leftb; omega⟩, by show (applyTo _ _).length = _; rw [applyTo_length]; exact s.len, fun y => (by cases y), fun _ => ⟨?_, rfl⟩⟩
    show applyTo D.lasts (chosen D.pend D.keep) = leftR S.keep (chunks S.first) S.acts 0
    rw [u1, u2, s.keep ho h0]
    exact lk
  · have hlb : 0 ≤ l ∧ l ≤ 9223372036854775807 := by
      have := s.leftb
      have hl : l = S.left ∨ S.left ≠ 0 ∧ l = S.left - 1 ∧ l ≠ 0 := hl
      omega
    have eQ : replay (Ad.fresh (chunks S.first)) (S.acts ++ [(2, 0, [])]) = RD.flushed { S.Q with flushes := IntKind.wrap .i64 (S.Q.flushes + 1) } := by rw [replay_snoc]; exact again_flush (D := S.Q) c
    refine ⟨⟨s.ok.len, s.ok.max, fun t ht => ?_⟩, by show D.tape ++ _ = S.acts ++ _; rw [s.tape], s.writes, by show IntKind.wrap .i64 (D.flushes + 1) = _; rw [s.flushes], s.down.trans ho, fun _ => rfl, fun _ h => s.keep ho ?_, hlb, by show (applyTo _ _).length = _; rw [applyTo_length]; exact s.len, fun _ => ?_, fun y => (by cases y)⟩
    · rcases List.mem_append.mp ht with ht | ht
      · exact s.ok.may t ht
      · rw [List.mem_singleton.mp ht]; exact .inl rfl
    · have hl : l = S.left ∨ S.left ≠ 0 ∧ l = S.left - 1 ∧ l ≠ 0 := hl
      have h : l ≠ 0 := h
      omega
    · show applyTo D.lasts D.pend = (replay (Ad.fresh (chunks S.first)) (S.acts ++ [(2, 0, [])])).lasts ∧ [] = (replay (Ad.fresh (chunks S.first)) (S.acts ++ [(2, 0, [])])).pend
      rw [eQ, u1, u2]
      exact ⟨rfl, rfl⟩
theorem Sm.arm {D : RD} {S : FD} (s : Sm D S) {n : Int} (hn : n ≤ 9223372036854775807) (keep : List Bool) : (D.arm n keep).2 = (S.arm n keep).2 ∧ Sm (D.arm n keep).1 (S.arm n keep).1 := by
  unfold RD.arm FD.arm
  have hd : ¬ S.out = true → ¬ D.down = true := fun y => by rw [s.down]; exact y
  by_cases ho : S.out = true
  · rw [if_pos (s.down.trans ho), if_pos ho]; exact ⟨rfl, s⟩
  rw [if_neg (hd ho), if_neg ho]
  by_cases h : n > 0
  · rw [if_pos h, if_neg (by omega)]
    exact ⟨rfl, ⟨s.ok.len, s.ok.max, s.ok.may⟩, s.tape, s.writes, s.flushes, s.down, fun _ => rfl, fun _ _ => rfl, ⟨by show 0 ≤ n; omega, hn⟩, s.len, s.up, fun y => absurd y ho⟩
  · rw [if_neg h]
    have e : (if (0 : Int) > n then 0 else n) = 0 := by split <;> omega
    rw [e]
    exact ⟨rfl, ⟨s.ok.len, s.ok.max, s.ok.may⟩, s.tape, s.writes, s.flushes, s.down, fun _ => rfl, fun _ y => absurd rfl y, ⟨Int.le_refl _, by show (0 : Int) ≤ _; decide⟩, s.len, s.up, fun y => absurd y ho⟩
theorem Sm.image {D : RD} {S : FD} (s : Sm D S) : D.lasts = S.image := by
  unfold FD.image
  cases ho : S.out with
  | true => rw [if_pos rfl]; exact (s.dn ho).1
  | false =>
    rw [if_neg (by simp), (s.up ho).1, ← s.ok.left []]
    show _ = applyTo S.Q.lasts (chosen S.Q.pend [])
    have : chosen S.Q.pend [] = [] := by unfold chosen; rw [List.zip_nil_right]; rfl
    rw [this]; rfl
theorem readFrom_snoc (b : List UInt8) (i : Int) (ps : List (Int × List UInt8)) (p : Int × List UInt8) : readFrom b i (ps ++ [p]) = if p.1 = i then p.2 else readFrom b i ps := by unfold readFrom; rw [List.foldl_append]; rfl
theorem applyTo_at (i : Nat) : ∀ (ps : List (Int × List UInt8)) (ls : List (List UInt8)), i < ls.length → (∀ x ∈ ps, 0 ≤ x.1) → (applyTo ls ps).getD i [] = readFrom (ls.getD i []) i ps
  | [], _, _, _ => rfl
  | p :: r, ls, hi, h => by
    have h0 := h p (List.mem_cons_self ..)
    show (applyTo (ls.set p.1.toNat p.2) r).getD i [] = readFrom (if p.1 = i then p.2 else ls.getD i []) i r
    rw [applyTo_at i r _ (by rw [List.length_set]; exact hi) fun x hx => h x (List.mem_cons_of_mem _ hx)]
    congr 1
    rw [List.getD_eq_getElem?_getD, List.getD_eq_getElem?_getD]
    by_cases e : p.1 = i
    · rw [if_pos e, show p.1.toNat = i by omega, List.getElem?_set_self hi]; rfl
    · rw [if_neg e, List.getElem?_set_ne (by omega)]
theorem replay_read (N i : Nat) (z : List UInt8) (D0 : RD) (c0 : L3.Calm D0) (hN : D0.lasts.length = N) (h0 : D0.pend = []) (hz : D0.lasts.getD i [] = z) (hi : i < N) : ∀ (n : Nat) (ts : List Tt), ts.length = n → (∀ t ∈ ts, May N t) →
    readAt (replay D0 ts) i = lastW i z ts ∧ (∀ x ∈ (replay D0 ts).pend, 0 ≤ x.1) ∧ (replay D0 ts).pend.map (·.1) = pendF ts := by
  intro n
  induction n with
  | zero =>
    intro ts hl _
    have : ts = [] := List.length_eq_zero_iff.mp hl
    subst this
    refine ⟨?_, ?_, ?_⟩
    · show readFrom (D0.lasts.getD i []) i D0.pend = z
      rw [h0, hz]; rfl
    · intro x hx
      have hx : x ∈ D0.pend := hx
      rw [h0] at hx; cases hx
    · show D0.pend.map (·.1) = []
      rw [h0]; rfl
  | succ n ih =>
    intro ts hl hm
    have hne : ts ≠ [] := fun e => by rw [e] at hl; cases hl
    obtain ⟨us, t, rfl⟩ : ∃ us t, ts = us ++ [t] := ⟨ts.dropLast, ts.getLast hne, (List.dropLast_concat_getLast hne).symm⟩
    have hu : ∀ t ∈ us, May N t := fun x hx => hm x (List.mem_append_left _ hx)
    obtain ⟨i1, i2, i3⟩ := ih us (by rw [List.length_append] at hl; simpa using hl) hu
    obtain ⟨c, lq⟩ := replay_calm N us c0 hN hu
    rw [replay_snoc, lastW_snoc, pendF_snoc]
    obtain ⟨k, j, b⟩ := t
    rcases hm (k, j, b) (List.mem_append_right _ (List.mem_singleton.mpr rfl)) with h2 | ⟨h1, e0, e1, e2⟩
    · have h2 : k = 2 := h2
      subst h2
      rw [again_flush c, if_neg (fun y => by have := y.1; simp at this), if_pos rfl]
      refine ⟨?_, fun x hx => (by cases hx), rfl⟩
      rw [← i1]
      exact applyTo_at i _ _ (by rw [lq]; exact hi) i2
    · have h1 : k = 1 := h1
      subst h1
      rw [again_write c e0 (by rw [lq]; exact e1) e2, if_neg (show ¬ ((1 : Int), j, b).1 = 2 from (by decide : ¬ (1 : Int) = 2))]
      refine ⟨?_, fun x hx => ?_, ?_⟩
      · show readFrom ((replay D0 us).lasts.getD i []) i ((replay D0 us).pend ++ [(j, b)]) = _
        rw [readFrom_snoc, ← i1]
        by_cases e : j = i
        · rw [if_pos e, if_pos ⟨rfl, e⟩]
        · rw [if_neg e, if_neg (fun y => e y.2)]; rfl
      · rcases List.mem_append.mp hx with hx | hx
        · exact i2 x hx
        · rw [List.mem_singleton.mp hx]; exact e0
      · show ((replay D0 us).pend ++ [(j, b)]).map (·.1) = _
        rw [List.map_append, i3]; rfl
theorem Sm.read {D : RD} {S : FD} (s : Sm D S) (ho : S.out = false) {i : Nat} (hi : i < S.N) : readAt D i = lastW i (S.first' i) S.acts := by
  obtain ⟨u1, u2⟩ := s.up ho
  have hl : (chunks S.first).length = S.N := by rw [chunks_length]; rfl
  have hz : (Ad.fresh (chunks S.first)).lasts.getD i [] = S.first' i := by
    show (chunks S.first).getD i [] = _
    rw [List.getD_eq_getElem?_getD, List.getElem?_eq_getElem (by rw [hl]; exact hi), Option.getD_some, chunks_get]; rfl
  obtain ⟨r1, _⟩ := replay_read S.N i (S.first' i) (Ad.fresh (chunks S.first)) (L3.Calm.fresh (chunks_len _)) hl rfl hz hi S.acts.length S.acts rfl s.ok.may
  rw [← r1]
  unfold readAt
  rw [u1, u2]; rfl
theorem sm_fresh {bs : List UInt8} (h1 : bs.length % 512 = 0) (h2 : bs.length / 512 ≤ 16384) : Sm (Ad.fresh (chunks bs)) (freshR bs) :=
  ⟨⟨by show bs.length = bs.length / 512 * 512; omega, h2, fun t ht => (by cases ht)⟩, rfl, rfl, rfl, rfl, fun _ => rfl, fun _ y => absurd rfl y, ⟨Int.le_refl _, by show (0 : Int) ≤ _; decide⟩, by show (chunks bs).length = _; rw [chunks_length]; rfl, fun _ => ⟨rfl, rfl⟩, fun y => (by cases y)⟩
end Go.Proofs.YtjdcbblgaoogmaaGreatDoor.Rf
namespace Go.Proofs.YtjdcbblgaoogmaaGreatDoor.Rf
open Go Go.Proofs Wx Hp W Ad L3
section
variable {h : Heap} {d : Option Addr} {S : FD} {col : Nat → Nat} {m : Nat}
end
theorem zero_cells (n : Nat) : repCells z5 n = (List.replicate n (0 : UInt8)).map bv := by
  rw [repCells_eq, List.map_replicate]
  show (List.replicate n [bv 0]).flatten = _
  rw [List.flatten_replicate_singleton]
theorem New_spec {n : Int} {h : Heap} {K : Value → Heap → Prop} (col : Nat → Nat) (m : Nat)
    (h1 : n < 1 ∨ 16384 < n → K (.tuple #[.pointer none, .int .i64 32]) h)
    (h2 : 1 ≤ n → n ≤ 16384 → ∀ q h' col', Fr No h h' → Ag h.size col col' → RefAt h' (some q) (freshR (List.replicate (n.toNat * 512) 0)) col' m → K (.tuple #[.pointer (some q), .int .i64 0]) h') : C.boleref03_New n h K := by
  refine boleref03_New.ok (cd (fun a => h1 (.inl a)) fun a => cd (fun b => h1 (.inr b)) fun b => ?_)
  unfold boleref03_New.k1
  have en : (n * 512).toNat = n.toNat * 512 := by omega
  rw [wrap_i64 (n := n * 512) (by omega) (by omega), en]
  refine ⟨⟨by omega, Int.le_refl _, by omega, by omega⟩, New.intro fun h3 n3 => New.intro fun h4 n4 => ?_⟩
  have z3 := n3.size
  refine h2 (by omega) (by omega) _ _ (upd (upd col h.size (m + 1)) h3.size m) (n3.fr.new n4) ((ag_upd _ _ _).trans (ag_upd _ _ _) n3.fr.size) ?_
  have ll : (List.replicate (n.toNat * 512) (0 : UInt8)).length = n.toNat * 512 := List.length_replicate ..
  have r3 : rd h3 h.size = (List.replicate (n.toNat * 512) (0 : UInt8)).map bv := n3.rd.trans (zero_cells _)
  refine ⟨_, ⟨some ⟨h.size, 0, none⟩, n.toNat * 512, n.toNat * 512, none, 0, 0, none, 0, 0, 0, false, 0, 0⟩, [], rfl, upd_ge (Nat.le_refl _), n4.own, n4.rd, rfl, rfl, rfl, rfl, ?_, ll.symm, ?_, Sl.nil _ _ _, rfl, by simp, trivial, Sl.nil _ _ _, rfl⟩
  · have s : Sl h3 1 (some ⟨h.size, 0, none⟩) (n.toNat * 512) (n.toNat * 512) ((List.replicate (n.toNat * 512) (0 : UInt8)).map bv) (On (upd col h.size (m + 1)) (m + 1)) := by
      refine ⟨by rw [List.length_map, ll, Nat.mul_one], rfl, upd_ge (Nat.le_refl _), n3.own, Nat.le_refl _, ?_, ?_⟩
      · show ((rd h3 h.size).drop 0).take _ = _
        rw [r3, List.drop_zero, List.take_length]
      · show 0 + n.toNat * 512 * 1 ≤ (rd h3 h.size).length
        rw [r3, List.length_map, ll]; omega
    exact s.keep n4.fr (ag_upd _ _ _) (fun _ _ x => x)
  · show (List.replicate (n.toNat * 512) (0 : UInt8)).length ≤ 8388608
    rw [ll]; omega
end Go.Proofs.YtjdcbblgaoogmaaGreatDoor.Rf
namespace Go.Proofs.YtjdcbblgaoogmaaGreatDoor.Rf
open Go Go.Proofs Wx Hp W Ad L3
theorem goes_acts (S : FD) : S.goes.1.acts = S.acts ∧ S.goes.1.first = S.first := by unfold FD.goes; split <;> exact ⟨rfl, rfl⟩
theorem write_acts (S : FD) (i : Int) (bs : List UInt8) (hw : ∀ t ∈ S.acts, t.2.2.length ≤ 512) : (∀ t ∈ (S.write i bs).1.acts, t.2.2.length ≤ 512) ∧ (S.write i bs).1.first = S.first := by
  unfold FD.write
  split
  · exact ⟨hw, rfl⟩
  · split
    · exact ⟨hw, rfl⟩
    · rename_i h1 h2
      have h2 : refT (S.N : Nat) (1, i, bs) = 0 := by simpa using h2
      obtain ⟨e1, e2⟩ := goes_acts (S.putW i bs)
      refine ⟨fun t ht => ?_, e2⟩
      rw [e1] at ht
      have ht : t ∈ S.acts ++ [(1, i, bs)] := ht
      rcases List.mem_append.mp ht with ht | ht
      · exact hw t ht
      · rw [List.mem_singleton.mp ht]
        rcases refT_may h2 with h | ⟨_, _, _, h⟩
        · have h : (1 : Int) = 2 := h
          exact absurd h (by decide)
        · have h : bs.length = 512 := h
          show bs.length ≤ 512
          omega
theorem flush_acts (S : FD) (hw : ∀ t ∈ S.acts, t.2.2.length ≤ 512) : (∀ t ∈ S.flush.1.acts, t.2.2.length ≤ 512) ∧ S.flush.1.first = S.first := by
  obtain ⟨e1, e2⟩ := goes_acts { S with flushes := IntKind.wrap .i64 (S.flushes + 1) }
  have e1 : (FD.goes { S with flushes := IntKind.wrap .i64 (S.flushes + 1) }).1.acts = S.acts := e1
  have e2 : (FD.goes { S with flushes := IntKind.wrap .i64 (S.flushes + 1) }).1.first = S.first := e2
  unfold FD.flush
  split
  · exact ⟨hw, rfl⟩
  · split
    · exact ⟨by rw [e1]; exact hw, e2⟩
    · refine ⟨fun t ht => ?_, e2⟩
      have ht : t ∈ (FD.goes { S with flushes := IntKind.wrap .i64 (S.flushes + 1) }).1.acts ++ [(2, 0, [])] := ht
      rw [e1] at ht
      rcases List.mem_append.mp ht with ht | ht
      · exact hw t ht
      · rw [List.mem_singleton.mp ht]; exact Nat.zero_le _
theorem N_of {S S' : FD} (h : S'.first = S.first) : S'.N = S.N := by unfold FD.N; rw [h]
theorem arm_acts (S : FD) (n : Int) (keep : List Bool) : (S.arm n keep).1.acts = S.acts ∧ (S.arm n keep).1.first = S.first := by unfold FD.arm; split <;> (try split) <;> exact ⟨rfl, rfl⟩
def RfS (h : Heap) (E : Nat → Prop) (r : Option Addr) (D : RD) : Prop := ∃ col S, RefAt h r S col 1 ∧ Sm D S ∧ 0 < S.N ∧ (∀ t ∈ S.acts, t.2.2.length ≤ 512) ∧ (∀ b, h.size ≤ b → col b = 0) ∧ ∀ b, E b ↔ 1 ≤ col b ∧ col b ≤ 6
section
variable {h h' : Heap} {E F : Nat → Prop} {r : Option Addr} {D : RD}
theorem RfS.mk {S : FD} {col : Nat → Nat} (a : RefAt h r S col 1) (s : Sm D S) (p : 0 < S.N) (w : ∀ t ∈ S.acts, t.2.2.length ≤ 512) : RfS h (fun b => b < h.size ∧ 1 ≤ col b ∧ col b ≤ 6) r D := by
  refine ⟨trim col h.size, S, a.keep (F := No) (Fr.refl _ h) (ag_trim _ _) fun _ _ _ x => x, s, p, w, fun b hb => trim_ge hb, fun b => ⟨fun hb => by rw [trim_lt hb.1]; exact hb.2, fun hb => ?_⟩⟩
  rcases Nat.lt_or_ge b h.size with h1 | h1
  · rw [trim_lt h1] at hb; exact ⟨h1, hb⟩
  · rw [trim_ge h1] at hb; omega
theorem RfS.lt (x : RfS h E r D) {b : Nat} (hb : E b) : b < h.size := by
  obtain ⟨col, S, _, _, _, _, hz, hD⟩ := x
  rcases Nat.lt_or_ge b h.size with h1 | h1
  · exact h1
  · have := (hD b).mp hb; rw [hz b h1] at this; omega
theorem RfS.fr (x : RfS h E r D) (f : Fr F h h') (hF : ∀ b, E b → ¬ F b) : RfS h' E r D := by
  obtain ⟨col, S, a, s, p, w, hz, hD⟩ := x
  have := f.size
  exact ⟨col, S, a.keep f (Ag.refl _ _) fun b h1 h2 => hF b ((hD b).mpr ⟨h1, by omega⟩), s, p, w, fun b hb => hz b (by omega), hD⟩
theorem RfS.no (x : RfS h E r D) (f : Fr No h h') : RfS h' E r D := x.fr f fun _ _ y => y
theorem dk_iff {col : Nat → Nat} (hD : ∀ b, E b ↔ 1 ≤ col b ∧ col b ≤ 6) (f : Fr (Dk col 1) h h') : Fr E h h' := f.mono fun b _ hb => (hD b).mpr ⟨hb.1, by have := hb.2; omega⟩
theorem RfS.gw {col col' : Nat → Nat} {S' : FD} (hD : ∀ b, E b ↔ 1 ≤ col b ∧ col b ≤ 6) (g : Ag h.size col col') (a : RefAt h' r S' col' 1) (s : Sm D S') (p : 0 < S'.N) (w : ∀ t ∈ S'.acts, t.2.2.length ≤ 512) (hs : h.size ≤ h'.size) :
    ∃ E', Gw h E h' E' ∧ RfS h' E' r D :=
  ⟨_, ⟨fun b hb => by rw [hD b, g b hb]; exact ⟨fun x => x.2, fun x => ⟨by omega, x⟩⟩, fun b hb => hb.1⟩, RfS.mk a s p w⟩
theorem RfS.write {i : Int} {a : Option Addr} {l c : Nat} {bs : List UInt8} {K : Value → Heap → Prop} (x : RfS h E r D) (B : StrAt h a l bs) (hl : l ≤ 140737488355328) (ht : D.tape.length < 1000000000)
    (hK : ∀ h' E', Fr E h h' → Gw h E h' E' → RfS h' E' r (D.write i bs).1 → K (.int .i64 (D.write i bs).2) h') : C.boleref03_Disk_Write r i a l c h K := by
  obtain ⟨col, S, A, s, p, w, hz, hD⟩ := x
  obtain ⟨e, s'⟩ := s.write i bs
  obtain ⟨w', ef⟩ := write_acts S i bs w
  refine Write_spec A B hl s.leftb (by rw [← s.tape]; exact ht) fun h' col' f g A' => ?_
  obtain ⟨E', G, X⟩ := RfS.gw hD g A' s' (by rw [N_of ef]; exact p) w' f.size
  rw [← e]
  exact hK h' E' (dk_iff hD f) G X
theorem RfS.flush {K : Value → Heap → Prop} (x : RfS h E r D) (ht : D.tape.length < 1000000000)
    (hK : ∀ h' E', Fr E h h' → Gw h E h' E' → RfS h' E' r D.flush.1 → K (.int .i64 D.flush.2) h') : C.boleref03_Disk_Flush r h K := by
  obtain ⟨col, S, A, s, p, w, hz, hD⟩ := x
  obtain ⟨e, s'⟩ := s.flush
  obtain ⟨w', ef⟩ := flush_acts S w
  refine Flush_spec A s.leftb (by rw [← s.tape]; exact ht) fun h' col' f g A' => ?_
  obtain ⟨E', G, X⟩ := RfS.gw hD g A' s' (by rw [N_of ef]; exact p) w' f.size
  rw [← e]
  exact hK h' E' (dk_iff hD f) G X
theorem RfS.arm {n : Int} {ka : Option Addr} {kl kc : Nat} {keep : List Bool} {K : Value → Heap → Prop} (x : RfS h E r D) (hn : n ≤ 9223372036854775807) (B : SlCells h ka (keep.map .bool)) (hkl : keep.length = kl) (hm : kl ≤ 140737488355328) (hac : ∀ p, ka = some p → keep ≠ [] → ¬ E p.block)
    (hK : ∀ h' E', Fr E h h' → Gw h E h' E' → RfS h' E' r (D.arm n keep).1 → K (.int .i64 (D.arm n keep).2) h') : C.boleref03_Disk_Arm r [.int .i64 n, .slice ka kl kc] h K := by
  obtain ⟨col, S, A, s, p, w, hz, hD⟩ := x
  obtain ⟨e, s'⟩ := s.arm hn keep
  obtain ⟨ea, ef⟩ := arm_acts S n keep
  refine Arm_spec A B hkl hm (fun q eq hne y => hac q eq hne ((hD _).mpr ⟨y.1, by have := y.2; omega⟩)) fun h' col' f g A' => ?_
  obtain ⟨E', G, X⟩ := RfS.gw hD g A' s' (by rw [N_of ef]; exact p) (by rw [ea]; exact w) f.size
  rw [← e]
  exact hK h' E' (dk_iff hD f) G X
theorem RfS.blocks {K : Value → Heap → Prop} (x : RfS h E r D) (hK : K (.int .i64 D.lasts.length) h) : C.boleref03_Disk_Blocks r h K := by
  obtain ⟨col, S, A, s, p, w, hz, hD⟩ := x
  refine Blocks_spec A ?_
  rw [s.len] at hK
  exact hK
theorem RfS.read {i : Int} {K : Value → Heap → Prop} (x : RfS h E r D)
    (h1 : D.down = true → K (.tuple #[.slice none 0 0, .int .i64 30]) h) (h2 : D.down = false → ¬ (0 ≤ i ∧ i < D.lasts.length) → K (.tuple #[.slice none 0 0, .int .i64 31]) h)
    (h3 : D.down = false → 0 ≤ i → i < D.lasts.length → ∀ a l c h', Fr No h h' → Sl h' 1 a l c ((readAt D i.toNat).map bv) (From h.size) → K (.tuple #[.slice a l c, .int .i64 0]) h') : C.boleref03_Disk_Read r i h K := by
  obtain ⟨col, S, A, s, p, w, hz, hD⟩ := x
  rw [s.down, s.len] at *
  refine Read_spec A s.ok (fun t ht => Nat.le_trans (w t ht) (by decide)) h1 h2 fun ho i0 i1 a c h' f sl => ?_
  have e := s.read ho (i := i.toNat) (by omega)
  rw [show ((i.toNat : Nat) : Int) = i by omega] at e
  rw [e] at h3
  exact h3 ho i0 i1 a _ c h' f sl
theorem RfS.image {K : Value → Heap → Prop} (x : RfS h E r D) (hK : ∀ a l c h', Fr No h h' → Sl h' 1 a l c (D.lasts.flatten.map bv) (From h.size) → K (.slice a l c) h') : C.boleref03_Disk_Image r h K := by
  obtain ⟨col, S, A, s, p, w, hz, hD⟩ := x
  rw [s.image] at hK
  exact Image_spec A s.ok fun a c h' f sl => hK a _ c h' f sl
theorem RfS.fields (x : RfS h E r D) : ∃ rb aa ac, r = some ⟨rb, 0, none⟩ ∧ E rb ∧ cellOf h (Addr.add ⟨rb, 0, none⟩ 1) = some (.slice aa D.tape.length ac) ∧ cellOf h (Addr.add ⟨rb, 0, none⟩ 4) = some (.bool D.down) ∧ cellOf h (Addr.add ⟨rb, 0, none⟩ 5) = some (.int .i64 D.writes) ∧ cellOf h (Addr.add ⟨rb, 0, none⟩ 6) = some (.int .i64 D.flushes) := by
  obtain ⟨col, S, ⟨b, q, es, e, A⟩, s, p, w, hz, hD⟩ := x
  have c := fun k => A.field k
  refine ⟨b, q.aa, q.ac, e, (hD b).mpr (by rw [A.sc]; omega), ?_, ?_, ?_, ?_⟩
  · rw [c 1, s.tape, ← A.ts.length, ← A.an]; rfl
  · rw [c 4, s.down, ← A.out]; rfl
  · rw [c 5, s.writes, ← A.writes]; rfl
  · rw [c 6, s.flushes, ← A.flushes]; rfl
theorem fresh_N {bs : List UInt8} (h0 : 0 < bs.length) (h1 : bs.length % 512 = 0) : 0 < (freshR bs).N := by
  show 0 < bs.length / 512
  omega
theorem RfS.of {a : Option Addr} {l c : Nat} {bs : List UInt8} {K : Value → Heap → Prop} (B : StrAt h a l bs) (hl : l ≤ 140737488355328)
    (h1 : l % 512 ≠ 0 ∨ l = 0 ∨ 16384 < l / 512 → K (.tuple #[.pointer none, .int .i64 32]) h)
    (h2 : l % 512 = 0 → 0 < l → l / 512 ≤ 16384 → ∀ q h' E, Fr No h h' → (∀ b, E b → h.size ≤ b) → RfS h' E (some q) (fresh (chunks bs)) → K (.tuple #[.pointer (some q), .int .i64 0]) h') : C.boleref03_Of a l c h K := by
  refine Of_spec (fun _ => 0) 1 B hl h1 fun y1 y2 y3 q h' col' f g A => ?_
  have bl := B.1
  refine h2 y1 y2 y3 q h' _ f (fun b hb => ?_) (RfS.mk A (sm_fresh (by omega) (by omega)) (fresh_N (by omega) (by omega)) fun t ht => by cases ht)
  rcases Nat.lt_or_ge b h.size with h1 | h1
  · have e : col' b = 0 := g b h1
    omega
  · exact h1
theorem chunks_zero (n : Nat) : chunks (List.replicate (n * 512) (0 : UInt8)) = List.replicate n zeroBlk := by
  refine List.ext_getElem (by rw [chunks_length, List.length_replicate, List.length_replicate]; omega) fun i g1 g2 => ?_
  rw [List.length_replicate] at g2
  rw [chunks_get _ g1, List.getElem_replicate, List.drop_replicate, List.take_replicate]
  unfold zeroBlk
  congr 1
  have : (i + 1) * 512 ≤ n * 512 := Nat.mul_le_mul_right _ g2
  omega
theorem RfS.new {n : Int} {K : Value → Heap → Prop} (h1 : n < 1 ∨ 16384 < n → K (.tuple #[.pointer none, .int .i64 32]) h)
    (h2 : 1 ≤ n → n ≤ 16384 → ∀ q h' E, Fr No h h' → (∀ b, E b → h.size ≤ b) → RfS h' E (some q) (fresh (List.replicate n.toNat zeroBlk)) → K (.tuple #[.pointer (some q), .int .i64 0]) h') : C.boleref03_New n h K := by
  refine New_spec (fun _ => 0) 1 h1 fun y1 y2 q h' col' f g A => ?_
  have hl : (List.replicate (n.toNat * 512) (0 : UInt8)).length = n.toNat * 512 := List.length_replicate
  have s := sm_fresh (bs := List.replicate (n.toNat * 512) (0 : UInt8)) (by rw [hl]; omega) (by rw [hl]; omega)
  rw [chunks_zero] at s
  refine h2 y1 y2 q h' _ f (fun b hb => ?_) (RfS.mk A s (fresh_N (by rw [hl]; omega) (by rw [hl]; omega)) fun t ht => by cases ht)
  rcases Nat.lt_or_ge b h.size with h1 | h1
  · have e : col' b = 0 := g b h1
    omega
  · exact h1
theorem newF_spec {n : Int} {K : Value → Heap → Prop} (h1 : n < 1 ∨ 16384 < n → K (.tuple #[.pointer none, .int .i64 32]) h)
    (h2 : 1 ≤ n → n ≤ 16384 → ∀ q h' E, Fr No h h' → (∀ b, E b → h.size ≤ b) → DiskF h' E (some q) (fresh (List.replicate n.toNat zeroBlk)) → K (.tuple #[.pointer (some q), .int .i64 0]) h') : C.adisk_New n h K := by
  refine Ad.New_spec (fun _ => 0) 1 h1 fun y1 y2 q h' col' f g A => h2 y1 y2 q h' _ f (fun b hb => ?_) (DiskF.mk A)
  rcases Nat.lt_or_ge b h.size with h1 | h1
  · have e : col' b = 0 := g b h1
    omega
  · exact h1
end
end Go.Proofs.YtjdcbblgaoogmaaGreatDoor.Rf
namespace Go.Proofs.YtjdcbblgaoogmaaGreatDoor.Wc
open Go Go.Proofs Wx Hp W Ad
theorem runS_len : ∀ (xs : List Stp) (S : RD), (runS xs S).1.tape.length ≤ S.tape.length + xs.length ∧ (runS xs S).1.pend.length ≤ S.pend.length + xs.length
  | [], S => ⟨Nat.le_refl _, Nat.le_refl _⟩
  | s :: r, S => by
    obtain ⟨a, b⟩ := write_len S s
    have e : runS (s :: r) S = if (s.on S).2 = 0 then runS r (s.on S).1 else s.on S := rfl
    rw [e, List.length_cons]
    split
    · obtain ⟨c, d⟩ := runS_len r (s.on S).1
      omega
    · omega
theorem runS_down {S : RD} (h : S.down = true) : ∀ {xs : List Stp}, xs ≠ [] → runS xs S = (S, 30)
  | [], hn => absurd rfl hn
  | s :: r, _ => by
    have e : s.on S = (S, 30) := by
      cases s with
      | w i b => show S.write i b = _; unfold RD.write; rw [if_pos h]
      | f => show S.flush = _; unfold RD.flush; rw [if_pos h]
    show (if (s.on S).2 = 0 then runS r (s.on S).1 else s.on S) = _
    rw [e]
    exact if_neg (show ¬ (30 : Int) = 0 by decide)
theorem homeS_len (l : Nb) : (homeS l).length = l.length + 3 := by unfold homeS ws; rw [List.length_append, List.length_map]; rfl
theorem commitS_len (l : Nb) (hdr : List UInt8) : (commitS l hdr).length = 2 * l.length + 6 := by
  unfold commitS
  rw [List.length_append, List.length_append, homeS_len]
  unfold ws
  rw [List.length_map, logL_length]
  show l.length + 3 + (l.length + 3) = _
  omega
theorem commitS_ne (l : Nb) (hdr : List UInt8) : commitS l hdr ≠ [] := fun e => by have := commitS_len l hdr; rw [e] at this; cases this
theorem wal_run {S : RD} {l : Nb} (h0 : l ≠ []) (h1 : mayW l S.lasts.length = true) (h2 : (l.map (·.2)).all (fun d => d.length == 512) = true) : wal S l = runS (commitS l (hdrOf l)) S := by
  unfold wal
  rw [if_neg h0, if_neg (by rw [h1]; decide), if_neg (by rw [h2]; decide)]
  split
  · rename_i h; exact (runS_down h (commitS_ne _ _)).symm
  · rfl
theorem mayW_len {l : Nb} {n : Int} (h : mayW l n = true) : l.length ≤ 96 := by
  unfold mayW at h
  rw [Bool.and_eq_true, decide_eq_true_eq] at h
  omega
theorem wal_len (S : RD) (l : Nb) : (wal S l).1.tape.length ≤ S.tape.length + 198 ∧ (wal S l).1.pend.length ≤ S.pend.length + 198 := by
  unfold wal
  split
  · exact ⟨Nat.le_add_right _ _, Nat.le_add_right _ _⟩
  · split
    · exact ⟨Nat.le_add_right _ _, Nat.le_add_right _ _⟩
    · rename_i hm
      have := mayW_len (l := l) (n := S.lasts.length) (by cases e : mayW l S.lasts.length <;> simp_all)
      split
      · exact ⟨Nat.le_add_right _ _, Nat.le_add_right _ _⟩
      · split
        · exact ⟨Nat.le_add_right _ _, Nat.le_add_right _ _⟩
        · have := runS_len (commitS l (hdrOf l)) S
          rw [commitS_len] at this
          omega
theorem getD_some {α : Type} {l : List α} {i : Nat} (h : i < l.length) (d : α) : l[i]? = some (l.getD i d) := by
  rw [List.getD_eq_getElem?_getD, List.getElem?_eq_getElem h]; rfl
end Go.Proofs.YtjdcbblgaoogmaaGreatDoor.Wc
namespace Go.Proofs.YtjdcbblgaoogmaaGreatDoor.Cr
open Go Go.Proofs Wx Hp Su
def P : BitVec 32 := 0xEDB88320#32
def T (w : BitVec 32) : BitVec 32 := (w >>> 1) ^^^ (bif w.getLsbD 0 then P else 0#32)
theorem T_xor (a b : BitVec 32) : T (a ^^^ b) = T a ^^^ T b := by
  unfold T
  rw [BitVec.ushiftRight_xor_distrib, BitVec.getLsbD_xor]
  cases a.getLsbD 0 <;> cases b.getLsbD 0 <;> simp only [Bool.xor_false, Bool.xor_true, Bool.not_false, Bool.not_true, cond_true, cond_false, BitVec.xor_zero]
  · rw [BitVec.xor_assoc]
  · rw [BitVec.xor_assoc, BitVec.xor_assoc, BitVec.xor_comm P]
  · rw [BitVec.xor_assoc (a >>> 1) P, BitVec.xor_comm (b >>> 1) P, ← BitVec.xor_assoc P, BitVec.xor_self, BitVec.zero_xor]
def Tn : Nat → BitVec 32 → BitVec 32
  | 0, w => w
  | n + 1, w => Tn n (T w)
theorem Tn_xor : ∀ (n : Nat) (a b : BitVec 32), Tn n (a ^^^ b) = Tn n a ^^^ Tn n b
  | 0, _, _ => rfl
  | n + 1, a, b => by rw [Tn, T_xor, Tn_xor n]; rfl
theorem T_shl {x : BitVec 32} (h : x.toNat < 2 ^ 31) : T (x <<< 1) = x := by
  have h0 : (x <<< 1).getLsbD 0 = false := by rw [BitVec.getLsbD_shiftLeft]; rfl
  rw [T, h0, cond_false, BitVec.xor_zero]
  apply BitVec.eq_of_toNat_eq
  rw [BitVec.toNat_ushiftRight, BitVec.toNat_shiftLeft, Nat.shiftLeft_eq, Nat.shiftRight_eq_div_pow, Nat.mod_eq_of_lt (by omega)]
  omega
def bit (b : Bool) : BitVec 32 := bif b then 1#32 else 0#32
def natB : List Bool → Nat
  | [] => 0
  | b :: r => b.toNat + 2 * natB r
theorem natB_lt : ∀ bs : List Bool, natB bs < 2 ^ bs.length
  | [] => by decide
  | b :: r => by
    have := natB_lt r
    have hb : b.toNat ≤ 1 := by cases b <;> decide
    rw [natB, List.length_cons, Nat.pow_succ]; omega
def num (bs : List Bool) : BitVec 32 := BitVec.ofNat 32 (natB bs)
theorem num_cons (b : Bool) (r : List Bool) (h : natB r < 2 ^ 31) : num (b :: r) = bit b ^^^ (num r <<< 1) := by
  apply BitVec.eq_of_getLsbD_eq
  intro i hi
  rw [num, natB, BitVec.getLsbD_ofNat, BitVec.getLsbD_xor, BitVec.getLsbD_shiftLeft, num, BitVec.getLsbD_ofNat]
  cases i with
  | zero =>
    have e : (b.toNat + 2 * natB r).testBit 0 = b := by rw [Nat.testBit_zero]; cases b <;> simp [Nat.add_mod]
    rw [e]
    cases b <;> simp [bit]
  | succ i =>
    have e : (b.toNat + 2 * natB r).testBit (i + 1) = (natB r).testBit i := by
      rw [Nat.testBit_succ]; congr 1
      have hb : b.toNat ≤ 1 := by cases b <;> decide
      omega
    have e2 : (bit b).getLsbD (i + 1) = false := by
      cases b
      · simp [bit]
      · simp [bit, BitVec.getLsbD_one]
    rw [e, e2]
    simp [hi, show i < 32 by omega]
def g (D : BitVec 32) (b : Bool) : BitVec 32 := T (D ^^^ bit b)
theorem fold_num : ∀ (bs : List Bool), bs.length ≤ 32 → ∀ D, bs.foldl g D = Tn bs.length (D ^^^ num bs)
  | [], _, D => by
    have : num [] = 0#32 := rfl
    rw [this, BitVec.xor_zero]; rfl
  | b :: r, h, D => by
    have hl : r.length ≤ 31 := by rw [List.length_cons] at h; omega
    have hn : natB r < 2 ^ 31 := Nat.lt_of_lt_of_le (natB_lt r) (Nat.pow_le_pow_right (by decide) hl)
    have hN : (num r).toNat < 2 ^ 31 := by
      rw [num, BitVec.toNat_ofNat, Nat.mod_eq_of_lt (by omega)]; exact hn
    rw [List.foldl_cons, fold_num r (by omega), List.length_cons, Tn, num_cons b r hn, ← BitVec.xor_assoc, T_xor (D ^^^ bit b), T_shl hN]
    rfl
theorem xor_int (a b : BitVec 32) : bitsI .xor .u32 (a.toNat : Int) (b.toNat : Int) = ((a ^^^ b).toNat : Int) := by
  show IntKind.wrap .u32 (((BitVec.ofInt 32 (a.toNat : Int) ^^^ BitVec.ofInt 32 (b.toNat : Int)).toNat : Nat) : Int) = _
  rw [BitVec.ofInt_natCast, BitVec.ofInt_natCast, BitVec.ofNat_toNat, BitVec.ofNat_toNat, BitVec.setWidth_eq, BitVec.setWidth_eq]
  have := (a ^^^ b).isLt
  exact wrap_u32 ⟨by omega, by omega⟩
theorem and_int (a b : BitVec 32) : bitsI .and .u32 (a.toNat : Int) (b.toNat : Int) = ((a &&& b).toNat : Int) := by
  show IntKind.wrap .u32 (((BitVec.ofInt 32 (a.toNat : Int) &&& BitVec.ofInt 32 (b.toNat : Int)).toNat : Nat) : Int) = _
  rw [BitVec.ofInt_natCast, BitVec.ofInt_natCast, BitVec.ofNat_toNat, BitVec.ofNat_toNat, BitVec.setWidth_eq, BitVec.setWidth_eq]
  have := (a &&& b).isLt
  exact wrap_u32 ⟨by omega, by omega⟩
theorem shr_int (a : BitVec 32) : Int.fdiv (a.toNat : Int) (2 ^ min (Int.toNat 4) 32) = ((a >>> 4).toNat : Int) := by
  have e : (2 ^ min (Int.toNat 4) 32 : Int) = 16 := by decide
  rw [e, BitVec.toNat_ushiftRight, Nat.shiftRight_eq_div_pow, Int.fdiv_eq_ediv_of_nonneg _ (by decide)]
  omega
theorem half_table : ∀ n : Nat, n < 16 → half (n : Int) = ((Tn 4 (BitVec.ofNat 32 n)).toNat : Int) := by decide
theorem fifteen : ∀ i, i < 32 → (15#32).getLsbD i = decide (i < 4) := by decide
theorem low4 (x : BitVec 32) : x = (x &&& 15#32) ^^^ ((x >>> 4) <<< 4) := by
  apply BitVec.eq_of_getLsbD_eq
  intro i hi
  rw [BitVec.getLsbD_xor, BitVec.getLsbD_and, fifteen i hi, BitVec.getLsbD_shiftLeft, BitVec.getLsbD_ushiftRight]
  by_cases h : i < 4
  · simp [h]
  · rw [decide_eq_true hi, decide_eq_false h, show 4 + (i - 4) = i by omega]; simp
theorem Tn4_shl {z : BitVec 32} (h : z.toNat < 2 ^ 28) : Tn 4 (z <<< 4) = z := by
  have s : ∀ k, k ≤ 3 → (z <<< k).toNat < 2 ^ 31 := fun k hk => by
    rw [BitVec.toNat_shiftLeft, Nat.shiftLeft_eq]
    refine Nat.lt_of_le_of_lt (Nat.mod_le _ _) ?_
    have : 2 ^ k ≤ 2 ^ 3 := Nat.pow_le_pow_right (by decide) hk
    have := Nat.mul_le_mul_left z.toNat this
    omega
  have e : ∀ k, z <<< (k + 1) = (z <<< k) <<< 1 := fun k => by rw [BitVec.shiftLeft_add]
  show T (T (T (T (z <<< 4)))) = z
  rw [e 3, T_shl (s 3 (by decide)), e 2, T_shl (s 2 (by decide)), e 1, T_shl (s 1 (by decide)), e 0, T_shl (s 0 (by decide))]
  exact BitVec.shiftLeft_zero z
theorem half_word (x : BitVec 32) : bitsI .xor .u32 (half (bitsI .and .u32 (x.toNat : Int) 15)) (Int.fdiv (x.toNat : Int) (2 ^ min (Int.toNat 4) 32)) = ((Tn 4 x).toNat : Int) := by
  have e15 : (15 : Int) = ((15#32).toNat : Int) := rfl
  have hx : (x &&& 15#32).toNat < 16 := by
    rw [BitVec.toNat_and]; exact Nat.lt_of_le_of_lt Nat.and_le_right (by decide)
  rw [e15, and_int, half_table _ hx, BitVec.ofNat_toNat, BitVec.setWidth_eq, shr_int, xor_int]
  have hz : (x >>> 4).toNat < 2 ^ 28 := by
    rw [BitVec.toNat_ushiftRight, Nat.shiftRight_eq_div_pow]
    have := x.isLt
    omega
  conv => rhs; rw [low4 x, Tn_xor, Tn4_shl hz]
theorem Tn_add : ∀ (m n : Nat) (w : BitVec 32), Tn (m + n) w = Tn n (Tn m w)
  | 0, n, w => by rw [Nat.zero_add]; rfl
  | m + 1, n, w => by rw [Nat.add_right_comm, Tn, Tn_add m n]; rfl
theorem step_word (v : BitVec 32) (b : UInt8) : stepM (v.toNat : Int) b = ((Tn 8 (v ^^^ BitVec.ofNat 32 b.toNat)).toNat : Int) := by
  have hb : b.toNat < 256 := b.toNat_lt
  have e : IntKind.wrap .u32 (b.toNat : Int) = ((BitVec.ofNat 32 b.toNat).toNat : Int) := by
    rw [wrap_u32 ⟨by omega, by omega⟩, BitVec.toNat_ofNat, Nat.mod_eq_of_lt (by omega)]
  unfold stepM
  rw [e, xor_int, half_word, half_word, show (8 : Nat) = 4 + 4 from rfl, Tn_add]
def bitsOf (b : UInt8) : List Bool := (List.range 8).map fun i => b.toNat.testBit i
theorem bits_num : ∀ n : Nat, n < 256 → num ((List.range 8).map fun i => n.testBit i) = BitVec.ofNat 32 n := by decide +kernel
theorem bitsOf_length (b : UInt8) : (bitsOf b).length = 8 := by rw [bitsOf, List.length_map, List.length_range]
theorem step_bits (v : BitVec 32) (b : UInt8) : stepM (v.toNat : Int) b = (((bitsOf b).foldl g v).toNat : Int) := by
  rw [step_word, fold_num _ (by rw [bitsOf_length]; decide), bitsOf_length, bitsOf, bits_num _ b.toNat_lt]
def allBits (bs : List UInt8) : List Bool := bs.flatMap bitsOf
theorem allBits_length (bs : List UInt8) : (allBits bs).length = 8 * bs.length := by
  induction bs with
  | nil => rfl
  | cons b r ih =>
    have e : allBits (b :: r) = bitsOf b ++ allBits r := rfl
    rw [e, List.length_append, bitsOf_length, ih, List.length_cons]; omega
theorem fold_bits : ∀ (bs : List UInt8) (v : BitVec 32), bs.foldl stepM (v.toNat : Int) = (((allBits bs).foldl g v).toNat : Int) := by
  intro bs
  induction bs with
  | nil => intro v; rfl
  | cons b r ih =>
    intro v
    have e : allBits (b :: r) = bitsOf b ++ allBits r := rfl
    rw [List.foldl_cons, step_bits, ih, e, List.foldl_append]
end Go.Proofs.YtjdcbblgaoogmaaGreatDoor.Cr
namespace Go.Proofs.YtjdcbblgaoogmaaGreatDoor.Cr
open Go Go.Proofs Wx Hp Su Re Hd
def Rep (m : List Int) (F : BitVec 32 → BitVec 32) : Prop := m = (List.range 32).map fun i => ((F (1#32 <<< i)).toNat : Int)
def Lin (F : BitVec 32 → BitVec 32) : Prop := ∀ a b, F (a ^^^ b) = F a ^^^ F b
theorem Lin.zero {F : BitVec 32 → BitVec 32} (h : Lin F) : F 0#32 = 0#32 := by
  have := h 0#32 0#32
  rw [BitVec.xor_self] at this
  rw [this, BitVec.xor_self]
def low (V : BitVec 32) (i : Nat) : BitVec 32 := BitVec.ofNat 32 (V.toNat % 2 ^ i)
theorem low_bit (V : BitVec 32) (i j : Nat) (hj : j < 32) : (low V i).getLsbD j = (decide (j < i) && V.getLsbD j) := by
  rw [low, BitVec.getLsbD_ofNat, Nat.testBit_mod_two_pow, decide_eq_true hj, Bool.true_and]; rfl
theorem low_succ (V : BitVec 32) (i : Nat) (hi : i < 32) : low V (i + 1) = low V i ^^^ (bif V.getLsbD i then 1#32 <<< i else 0#32) := by
  apply BitVec.eq_of_getLsbD_eq
  intro j hj
  rw [BitVec.getLsbD_xor, low_bit V _ j hj, low_bit V _ j hj]
  have e1 : (1#32 <<< i).getLsbD j = decide (j = i) := by
    rw [BitVec.getLsbD_shiftLeft, BitVec.getLsbD_one]
    by_cases h : j = i
    · subst h; simp [hj]
    · simp only [decide_eq_false h, decide_eq_true hj, Bool.true_and]
      by_cases h2 : j < i
      · simp [h2]
      · simp [h2, show j - i ≠ 0 by omega]
  by_cases h : j = i
  · subst h
    rw [decide_eq_true (show j < j + 1 by omega), decide_eq_false (show ¬ j < j by omega)]
    cases hb : V.getLsbD j with
    | true => rw [cond_true, e1]; simp
    | false => simp
  · have : decide (j < i + 1) = decide (j < i) := by
      by_cases h2 : j < i
      · rw [decide_eq_true h2, decide_eq_true (show j < i + 1 by omega)]
      · rw [decide_eq_false h2, decide_eq_false (show ¬ j < i + 1 by omega)]
    rw [this]
    cases V.getLsbD i with
    | true => rw [cond_true, e1, decide_eq_false h, Bool.xor_false]
    | false => simp
theorem low_all {V : BitVec 32} {i : Nat} (h : V.toNat < 2 ^ i) : low V i = V := by
  rw [low, Nat.mod_eq_of_lt h, BitVec.ofNat_toNat, BitVec.setWidth_eq]
theorem times_go {m : List Int} {F : BitVec 32 → BitVec 32} (hm : Rep m F) (hF : Lin F) (V : BitVec 32) : ∀ (f i : Nat), f = 33 - i → i ≤ 32 → timesGo m f ((V >>> i).toNat : Int) ((F (low V i)).toNat : Int) i = ((F V).toNat : Int) := by
  intro f
  induction f with
  | zero => intro i h1 h2; omega
  | succ f ih =>
    intro i h1 h2
    have hV := V.isLt
    have hsh : (V >>> i).toNat = V.toNat / 2 ^ i := by rw [BitVec.toNat_ushiftRight, Nat.shiftRight_eq_div_pow]
    unfold timesGo
    by_cases hz : (V >>> i).toNat = 0
    · have hlt : V.toNat < 2 ^ i := by
        rw [hsh] at hz
        exact (Nat.div_eq_zero_iff_lt (Nat.pow_pos (by decide))).mp hz
      rw [hz, low_all hlt]; rfl
    · have hi : i < 32 := by
        rcases Nat.lt_or_ge i 32 with h | h
        · exact h
        · exfalso
          have : i = 32 := by omega
          subst this
          rw [hsh, Nat.div_eq_of_lt (by exact hV)] at hz
          exact hz rfl
      have hne : (((V >>> i).toNat : Int) != 0) = true := by rw [bne_iff_ne]; omega
      rw [hne, cond_true]
      have e1 : (2 ^ min (Int.toNat 1) 32 : Int) = 2 := by decide
      have hd : Int.fdiv ((V >>> i).toNat : Int) 2 = ((V >>> (i + 1)).toNat : Int) := by
        rw [Int.fdiv_eq_ediv_of_nonneg _ (by decide), hsh, BitVec.toNat_ushiftRight, Nat.shiftRight_eq_div_pow, Nat.pow_succ, ← Nat.div_div_eq_div_mul]
        omega
      have hbit : (bitsI .and .u32 ((V >>> i).toNat : Int) 1 == 1) = V.getLsbD i := by
        have e : (1 : Int) = ((1#32).toNat : Int) := rfl
        conv => lhs; rw [show bitsI .and .u32 ((V >>> i).toNat : Int) 1 = bitsI .and .u32 ((V >>> i).toNat : Int) ((1#32).toNat : Int) from rfl, and_int]
        have hb : ((V >>> i) &&& 1#32) = (bif V.getLsbD i then 1#32 else 0#32) := by
          apply BitVec.eq_of_getLsbD_eq
          intro j hj
          rw [BitVec.getLsbD_and, BitVec.getLsbD_one, BitVec.getLsbD_ushiftRight]
          cases j with
          | zero => cases V.getLsbD i <;> simp
          | succ j => cases V.getLsbD i <;> simp [BitVec.getLsbD_one]
        rw [hb]
        cases V.getLsbD i <;> rfl
      rw [e1, hd, hbit]
      have hmi : m.getD i 0 = ((F (1#32 <<< i)).toNat : Int) := by
        rw [hm, List.getD_eq_getElem?_getD, List.getElem?_map, List.getElem?_range hi]; rfl
      have hr : (bif V.getLsbD i then bitsI .xor .u32 ((F (low V i)).toNat : Int) (m.getD i 0) else ((F (low V i)).toNat : Int)) = ((F (low V (i + 1))).toNat : Int) := by
        rw [low_succ V i hi, hmi]
        cases V.getLsbD i with
        | true => rw [cond_true, cond_true, xor_int, hF]
        | false => rw [cond_false, cond_false, BitVec.xor_zero]
      rw [hr]
      exact ih (i + 1) (by omega) (by omega)
theorem times_rep {m : List Int} {F : BitVec 32 → BitVec 32} (hm : Rep m F) (hF : Lin F) (V : BitVec 32) : timesM m (V.toNat : Int) = ((F V).toNat : Int) := by
  have := times_go hm hF V 33 0 rfl (by omega)
  have e1 : V >>> 0 = V := BitVec.ushiftRight_zero V
  have e2 : low V 0 = 0#32 := by rw [low, Nat.pow_zero, Nat.mod_one]
  rw [e1, e2, hF.zero] at this
  exact this
theorem square_rep {m : List Int} {F : BitVec 32 → BitVec 32} (hm : Rep m F) (hF : Lin F) : Rep (squareM m) (fun a => F (F a)) := by
  unfold Rep squareM
  conv => lhs; rw [show m = (List.range 32).map fun i => ((F (1#32 <<< i)).toNat : Int) from hm]
  rw [List.map_map]
  apply List.map_congr_left
  intro i _
  have := times_rep hm hF (F (1#32 <<< i))
  rw [show m = (List.range 32).map fun i => ((F (1#32 <<< i)).toNat : Int) from hm] at this
  exact this
theorem m0_rep : Rep m0 (Tn 8) := by
  unfold Rep m0
  apply List.map_congr_left
  intro i hi
  have hi := List.mem_range.mp hi
  have h2 : 2 ^ i < 2 ^ 32 := Nat.pow_lt_pow_right (by decide) hi
  have e : IntKind.wrap .u32 (1 * 2 ^ min i 32) = (((1#32 <<< i).toNat : Nat) : Int) := by
    rw [Nat.min_eq_left (by omega), Int.one_mul, BitVec.toNat_shiftLeft, Nat.shiftLeft_eq]
    have e2 : ((2 : Int) ^ i) = ((2 ^ i : Nat) : Int) := by simp
    rw [e2, wrap_u32 ⟨Int.natCast_nonneg _, Int.ofNat_lt.mpr (show 2 ^ i < 4294967296 from h2)⟩]
    have : (1#32).toNat = 1 := rfl
    rw [this, Nat.one_mul, Nat.mod_eq_of_lt h2]
  rw [e, step_word]
  have : BitVec.ofNat 32 (0 : UInt8).toNat = 0#32 := rfl
  rw [this, BitVec.xor_zero]
end Go.Proofs.YtjdcbblgaoogmaaGreatDoor.Cr
namespace Go.Proofs.YtjdcbblgaoogmaaGreatDoor.Cr
open Go Go.Proofs Wx Hp W Su Re Hd
theorem and1 {n : Int} (h0 : 0 ≤ n) (h1 : n < 9223372036854775808) : bitsI .and .i64 n 1 = n % 2 := by
  obtain ⟨k, rfl⟩ := Int.eq_ofNat_of_zero_le h0
  show IntKind.wrap .i64 (((BitVec.ofInt 64 (k : Int) &&& BitVec.ofInt 64 ((1 : Nat) : Int)).toNat : Nat) : Int) = _
  rw [BitVec.ofInt_natCast, BitVec.ofInt_natCast, BitVec.toNat_and, BitVec.toNat_ofNat, BitVec.toNat_ofNat]
  have hk : k < 2 ^ 64 := by
    have : k < 9223372036854775808 := by omega
    exact Nat.lt_trans this (by decide)
  rw [Nat.mod_eq_of_lt hk, show 1 % 2 ^ 64 = 1 by decide, Nat.and_one_is_mod]
  rw [wrap_i64 (by omega) (by omega)]
  omega
theorem Tn_lin (k : Nat) : Lin (Tn k) := Tn_xor k
theorem behind_go : ∀ (f : Nat) (m : List Int) (k n : Nat) (V : BitVec 32), Rep m (Tn k) → n < 2 ^ f → n < 9223372036854775808 → behindGo f m (V.toNat : Int) (n : Int) = ((Tn (k * n) V).toNat : Int) := by
  intro f
  induction f with
  | zero =>
    intro m k n V _ hn _
    have : n = 0 := by simpa using hn
    subst this
    rfl
  | succ f ih =>
    intro m k n V hm hn hb
    by_cases h0 : n = 0
    · subst h0
      rfl
    have hd : decide ((n : Int) > 0) = true := decide_eq_true (by omega)
    have sq : Rep (squareM m) (Tn (2 * k)) := by
      have := square_rep hm (Tn_lin k)
      have e : (fun a => Tn k (Tn k a)) = Tn (2 * k) := by
        funext a
        rw [show 2 * k = k + k by omega, Tn_add]
      rw [e] at this; exact this
    have hdiv : (n : Int) / 2 = ((n / 2 : Nat) : Int) := by omega
    have hlt : n / 2 < 2 ^ f := by rw [Nat.pow_succ] at hn; omega
    rw [behindGo, hd, cond_true, and1 (by omega) (by omega), hdiv]
    by_cases ho : n % 2 = 1
    · have : ((n : Int) % 2 == 1) = true := beq_iff_eq.mpr (by omega)
      rw [this, cond_true, times_rep hm (Tn_lin k), ih _ (2 * k) (n / 2) _ sq hlt (by omega), ← Tn_add]
      congr 3
      have e : k * n = k * (1 + 2 * (n / 2)) := by congr 1; omega
      rw [e, Nat.mul_add, Nat.mul_one, ← Nat.mul_assoc, Nat.mul_comm k 2]
    · have : ((n : Int) % 2 == 1) = false := beq_eq_false_iff_ne.mpr (by omega)
      rw [this, cond_false, ih _ (2 * k) (n / 2) _ sq hlt (by omega)]
      congr 3
      have e : k * n = k * (2 * (n / 2)) := by congr 1; omega
      rw [e, ← Nat.mul_assoc, Nat.mul_comm k 2]
theorem behind_exact (V : BitVec 32) {n : Nat} (hn : n < 9223372036854775808) : behindM (V.toNat : Int) (n : Int) = ((Tn (8 * n) V).toNat : Int) :=
  behind_go 64 m0 8 n V m0_rep (Nat.lt_trans hn (by decide)) hn
theorem fold_lin : ∀ (xs : List Bool) (A B : BitVec 32), xs.foldl g (A ^^^ B) = xs.foldl g A ^^^ Tn xs.length B
  | [], _, _ => rfl
  | x :: r, A, B => by
    have e : g (A ^^^ B) x = g A x ^^^ T B := by
      rw [g, g, ← T_xor]
      congr 1
      rw [BitVec.xor_assoc, BitVec.xor_assoc, BitVec.xor_comm B]
    rw [List.foldl_cons, List.foldl_cons, e, fold_lin r, List.length_cons]
    rfl
def fb (bs : List UInt8) (v : BitVec 32) : BitVec 32 := (allBits bs).foldl g v
theorem allBits_append (xs ys : List UInt8) : allBits (xs ++ ys) = allBits xs ++ allBits ys := List.flatMap_append
theorem fb_append (xs ys : List UInt8) (v : BitVec 32) : fb (xs ++ ys) v = fb ys (fb xs v) := by rw [fb, allBits_append, List.foldl_append]; rfl
theorem fb_lin (bs : List UInt8) (A B : BitVec 32) : fb bs (A ^^^ B) = fb bs A ^^^ Tn (8 * bs.length) B := by rw [fb, fold_lin, allBits_length]; rfl
def M : BitVec 32 := 0xFFFFFFFF#32
theorem of_fb (bs : List UInt8) : ofM bs = ((M ^^^ fb bs M).toNat : Int) := by
  have e : (4294967295 : Int) = (M.toNat : Int) := rfl
  have em : (IntKind.max .u32) = (M.toNat : Int) := by decide
  rw [ofM, e, em, fold_bits, xor_int]; rfl
theorem of_append (xs ys : List UInt8) (h : ys.length < 9223372036854775808) : ofM (xs ++ ys) = joinM (ofM xs) (ofM ys) ys.length := by
  rw [joinM, of_fb, of_fb, of_fb, behind_exact _ h, xor_int, fb_append]
  congr 2
  have e : fb ys (fb xs M) = fb ys M ^^^ Tn (8 * ys.length) (fb xs M ^^^ M) := by
    rw [← fb_lin]
    congr 1
    rw [BitVec.xor_comm (fb xs M), ← BitVec.xor_assoc, BitVec.xor_self, BitVec.zero_xor]
  rw [e, BitVec.xor_comm M (fb xs M), ← BitVec.xor_assoc, BitVec.xor_comm M (fb ys M), BitVec.xor_comm]
theorem chain_flat : ∀ (ds : List (List UInt8)) (xs : List UInt8), (∀ d ∈ ds, d.length < 9223372036854775808) → ds.foldl (fun s d => joinM s (ofM d) d.length) (ofM xs) = ofM (xs ++ ds.flatten)
  | [], xs, _ => by rw [List.flatten_nil, List.append_nil]; rfl
  | d :: r, xs, h => by
    rw [List.foldl_cons, ← of_append xs d (h d List.mem_cons_self), chain_flat r (xs ++ d) (fun e he => h e (List.mem_cons_of_mem _ he)), List.flatten_cons, List.append_assoc]
theorem sum_flat (hd : List UInt8) (ds : List (List UInt8)) (h : ∀ d ∈ ds, d.length < 9223372036854775808) : sumM hd ds = ofM (putU hd 12 (leBs 4 0) ++ ds.flatten) := chain_flat ds _ h
theorem Tn_succ (n : Nat) (w : BitVec 32) : T (Tn n w) = Tn (n + 1) w := by rw [Tn_add n 1]; rfl
end Go.Proofs.YtjdcbblgaoogmaaGreatDoor.Cr
namespace Go.Proofs.YtjdcbblgaoogmaaGreatDoor.Cr
open Go Go.Proofs Wx Hp W Su Re Hd
theorem markH_size (h : Heap) (b : Nat) : (markH h b).size = h.size := by
  unfold markH; split
  · rw [Array.size_modify]
  · rfl
theorem markH_rd (h : Heap) (b c : Nat) : rd (markH h b) c = rd h c := by
  unfold markH; split
  · rename_i cs e T hb
    simp only [rd, Array.getElem?_modify]
    by_cases hc : b = c
    · subst hc
      rw [if_pos rfl, hb]; rfl
    · rw [if_neg hc]
  · rfl
theorem Fr.markH {F : Nat → Prop} {h h' : Heap} {b : Nat} (f : Fr F h h') (hb : F b ∨ h.size ≤ b) : Fr F h (markH h' b) := by
  refine ⟨by rw [markH_size]; exact f.size, fun c hc hF => ?_⟩
  rw [← f.same c hc hF]
  unfold Wx.markH; split
  · rw [Array.getElem?_modify, if_neg]
    intro e; subst e
    rcases hb with hb | hb
    · exact hF hb
    · omega
  · rfl
theorem MarkAt.intro {p : Addr} {h : Heap} {k : Heap → Prop} (H : k (markH h p.block)) : MarkAt p h k := H
theorem append_grow {elem : TI} {e : Nat} {a : Option Addr} {l c n : Nat} {old new : List Value} {h : Heap} {k : Option Addr → Nat → Nat → Heap → Prop}
    (ho : old.length = l * elem.cells) (S : SlCells h a old) (hn : new.length = n * elem.cells) (hz : elem.zero.length = elem.cells) (hb : (l + n) * elem.bytes ≤ 140737488355328) (hb' : l + n ≤ 140737488355328) (hc : c < l + n)
    (hk : ∀ c' h', Fr No h h' → Sl h' elem.cells (some ⟨h.size, 0, none⟩) (l + n) c' (old ++ new) (fun b => b = h.size) → k (some ⟨h.size, 0, none⟩) (l + n) c' h') :
    AppendP elem e a l c n new h k := by
  refine ⟨old, ho, S, hb, hb', fun x => absurd x (by omega), fun _ cap hcap => ?_⟩
  refine hk cap _ (fr_newO _ _) (Sl.new h elem.cells e (l + n) cap (old ++ new) _ _ rfl (by rw [List.length_append, ho, hn, Nat.add_mul]) hcap ?_)
  rw [length_repCells, hz]
theorem append_from {elem : TI} {e : Nat} {a : Option Addr} {l c n : Nat} {xs new : List Value} {h0 h : Heap} {k : Option Addr → Nat → Nat → Heap → Prop} (f : Fr No h0 h)
    (s : Sl h elem.cells a l c xs (From h0.size)) (hn : new.length = n * elem.cells) (hz : elem.zero.length = elem.cells) (hb : (l + n) * elem.bytes ≤ 140737488355328) (hb' : l + n ≤ 140737488355328)
    (hk : ∀ a' c' h', Fr No h0 h' → Sl h' elem.cells a' (l + n) c' (xs ++ new) (From h0.size) → k a' (l + n) c' h') :
    AppendP elem e a l c n new h k := by
  have hs := f.size
  refine append_own s hn hz hb hb' fun a' c' h' f' s' => hk a' c' h' (f.trans f' fun b hb e => by have : h0.size ≤ b := e; omega) (s'.mono fun b hb => ?_)
  rcases hb with hb | hb
  · exact hb
  · show h0.size ≤ b; omega
theorem bv_nat (m : Nat) : (Value.int .u8 (IntKind.wrap .u8 (m : Int))) = bv (UInt8.ofNat m) := by
  rw [bv_wrap]
  congr 1
  apply UInt8.toNat_inj.mp
  rw [UInt8.toNat_ofNat', UInt8.toNat_ofNat']; omega
end Go.Proofs.YtjdcbblgaoogmaaGreatDoor.Cr
namespace Go.Proofs.YtjdcbblgaoogmaaGreatDoor.Rz
open Go Go.Proofs Wx Hp
theorem oe {α : Type} {a : Option α} {p : α} {k : α → Prop} (e : a = some p) (h : k p) : onSome a k := by rw [e]; exact h
variable {h0 hh h' : Heap} {col : Nat → Nat}
end Go.Proofs.YtjdcbblgaoogmaaGreatDoor.Rz
namespace Go.Proofs.YtjdcbblgaoogmaaGreatDoor.Wd
open Go Go.Proofs Wx Hp W Ad Wc Rf
open L3 (Tt)
def stp (t : Tt) : Stp := if t.1 = 1 then .w t.2.1 t.2.2 else .f
structure EsT (h : Heap) (E : Nat → Prop) (es : List Ent) (ts : List Tt) : Prop where
  len : es.length = ts.length
  at_ : ∀ i (h1 : i < es.length) (h2 : i < ts.length), es[i].kind = ts[i].1 ∧ es[i].at_ = ts[i].2.1 ∧ StrAt h es[i].a es[i].l ts[i].2.2 ∧ ∀ p, es[i].a = some p → es[i].l ≠ 0 → ¬ E p.block
theorem str_lt {h : Heap} {p : Addr} {l : Nat} {bs : List UInt8} (B : StrAt h (some p) l bs) (hl : l ≠ 0) : p.block < h.size :=
  L3.SlCells.lt B.2 fun e => by
    have := B.1
    rw [List.map_eq_nil_iff] at e
    rw [e] at this
    exact hl this.symm
theorem str_keep {h h' : Heap} {F : Nat → Prop} {a : Option Addr} {l : Nat} {bs : List UInt8} (B : StrAt h a l bs) (f : Fr F h h') (hF : ∀ p, a = some p → l ≠ 0 → p.block < h.size → ¬ F p.block) : StrAt h' a l bs := by
  by_cases hl : l = 0
  · subst hl
    have e : bs = [] := List.eq_nil_of_length_eq_zero B.1
    subst e
    exact StrAt.nil h' a
  · exact StrAt.fr f B fun p e => by subst e; exact hF p rfl hl (str_lt B hl)
theorem EsT.step {h h' : Heap} {E E' : Nat → Prop} {es : List Ent} {ts : List Tt} (t : EsT h E es ts) (f : Fr E h h') (g : Gw h E h' E') : EsT h' E' es ts := by
  refine ⟨t.len, fun i h1 h2 => ?_⟩
  obtain ⟨a, b, c, d⟩ := t.at_ i h1 h2
  exact ⟨a, b, str_keep c f fun p e hl _ => d p e hl, fun p e hl y => d p e hl ((g.old _ (by rw [e] at c; exact str_lt c hl)).mp y)⟩
theorem EsT.no {h h' : Heap} {E : Nat → Prop} {es : List Ent} {ts : List Tt} (t : EsT h E es ts) (f : Fr No h h') : EsT h' E es ts := by
  refine ⟨t.len, fun i h1 h2 => ?_⟩
  obtain ⟨a, b, c, d⟩ := t.at_ i h1 h2
  exact ⟨a, b, str_keep c f fun _ _ _ _ y => y, d⟩
theorem EsT.app {h : Heap} {E : Nat → Prop} {es es' : List Ent} {ts ts' : List Tt} (t : EsT h E es ts) (t' : EsT h E es' ts') : EsT h E (es ++ es') (ts ++ ts') := by
  refine ⟨by rw [List.length_append, List.length_append, t.len, t'.len], fun i h1 h2 => ?_⟩
  rw [List.length_append] at h1 h2
  by_cases hi : i < es.length
  · have hi2 : i < ts.length := by rw [← t.len]; exact hi
    simp only [List.getElem_append_left hi, List.getElem_append_left hi2]
    exact t.at_ i hi hi2
  · have hl := t.len
    simp only [List.getElem_append_right (show es.length ≤ i by omega), List.getElem_append_right (show ts.length ≤ i by omega), hl]
    exact t'.at_ (i - ts.length) (by omega) (by omega)
theorem EsT.nil (h : Heap) (E : Nat → Prop) : EsT h E [] [] := ⟨rfl, fun i h1 => absurd h1 (Nat.not_lt_zero _)⟩
theorem EsT.one {h : Heap} {E : Nat → Prop} {e : Ent} {t : Tt} (h1 : e.kind = t.1) (h2 : e.at_ = t.2.1) (h3 : StrAt h e.a e.l t.2.2) (h4 : ∀ p, e.a = some p → e.l ≠ 0 → ¬ E p.block) : EsT h E [e] [t] :=
  ⟨rfl, fun i g1 g2 => by
    have : i = 0 := by have : i < 1 := g1; omega
    subst this
    exact ⟨h1, h2, h3, h4⟩⟩
theorem ent_cell {h : Heap} {a : Option Addr} {es : List Ent} (R : SlCells h a (es.flatMap Ent.cells)) {i : Nat} (hi : i < es.length) : ∃ p, a = some p ∧ Cells h (p.add (i * 3)) es[i].cells := by
  cases a with
  | none =>
    exfalso
    have R : es.flatMap Ent.cells = [] := R
    have := flat_length Ent.cells 3 es fun _ _ => rfl
    rw [R, List.length_nil] at this
    omega
  | some p =>
    refine ⟨p, rfl, ?_⟩
    have := Cells.part (show Cells h p (es.flatMap Ent.cells) from R) (i * 3) 3
    rw [flat_part Ent.cells 3 es (fun _ _ => rfl) i hi] at this
    exact this
structure Bx (h : Heap) (a : Option Addr) (rs : Rs) : Prop where
  cells : SlCells h a (rs.flatMap cellsR)
  ok : ∀ r ∈ rs, StrAt h r.2.1.a r.2.1.l r.2.2
theorem Bx.no {h h' : Heap} {a : Option Addr} {rs : Rs} (b : Bx h a rs) (f : Fr No h h') : Bx h' a rs := ⟨SlCells.fr f b.cells fun _ _ y => y, fun r hr => StrAt.fr f (b.ok r hr) fun _ _ y => y⟩
theorem Bx.get {h : Heap} {a : Option Addr} {rs : Rs} (b : Bx h a rs) {i : Nat} (hi : i < rs.length) : ∃ p, a = some p ∧ Cells h (p.add (i * 2)) (cellsR rs[i]) := by
  have R := b.cells
  cases a with
  | none =>
    exfalso
    have R : rs.flatMap cellsR = [] := R
    have := flat_length cellsR 2 rs fun _ _ => rfl
    rw [R, List.length_nil] at this
    omega
  | some p =>
    refine ⟨p, rfl, ?_⟩
    have := Cells.part (show Cells h p (rs.flatMap cellsR) from R) (i * 2) 2
    rw [flat_part cellsR 2 rs (fun _ _ => rfl) i hi] at this
    exact this
end Go.Proofs.YtjdcbblgaoogmaaGreatDoor.Wd
namespace Go.Proofs.YtjdcbblgaoogmaaGreatDoor.Wd
open Go Go.Proofs Wx Hp W Ad Wc Rf
open L3 (Tt)
theorem ent_one' (es : List Ent) : ∀ v ∈ es.flatMap Ent.cells, v.oneCell' = true := fun v hv => by
  obtain ⟨e, _, hv⟩ := List.mem_flatMap.mp hv
  unfold Ent.cells at hv
  simp only [List.mem_cons, List.not_mem_nil, or_false] at hv
  rcases hv with rfl | rfl | rfl <;> rfl
theorem row_more {n0 : Nat} {hh : Heap} {F : Nat → Prop} {w n : Nat} {a : Option Addr} {l c e : Nat} {xs vs : List Value} {elem : TI} {K : Option Addr → Nat → Nat → Heap → Prop} (r : Row n0 hh F w a l c xs) (hv : vs.length = n * w)
    (hz : elem.zero.length = elem.cells) (hc : elem.cells = w) (hby : elem.bytes ≤ 64) (hl : l + n < 1000000) (hn : n0 ≤ hh.size)
    (hK : ∀ a' c' h' F', Fr F hh h' → (∀ b, F' b → F b ∨ hh.size ≤ b) → Row n0 h' F' w a' (l + n) c' (xs ++ vs) → K a' (l + n) c' h') : AppendP elem e a l c n vs hh K := by
  refine append_own (show Sl hh elem.cells a l c xs F by rw [hc]; exact r.s) (by rw [hc, hv]) hz (Nat.le_trans (Nat.mul_le_mul (show l + n ≤ 1000000 by omega) hby) (by decide)) (by omega) fun a' c' h5 f5 s5 => ?_
  rw [hc] at s5
  have z5 := f5.size
  refine hK a' c' h5 (fun b => (F b ∨ hh.size ≤ b) ∧ b < h5.size) f5 (fun b hb => hb.1) ⟨?_, fun b hb => ⟨?_, hb.2⟩⟩
  · obtain ⟨q1, q2⟩ := s5
    refine ⟨q1, ?_⟩
    cases a' with
    | none => exact q2
    | some p => obtain ⟨a1, a2, a3, a4⟩ := q2; exact ⟨a1, ⟨a2, a3.lt⟩, a3, a4⟩
  · rcases hb.1 with q | q
    · exact (r.ge b q).1
    · omega
def entW (n : Int) (a : Option Addr) (l c : Nat) : Ent := ⟨1, n, a, l, c⟩
def entF : Ent := ⟨2, 0, none, 0, 0⟩
def wT (l : Nb) : List Tt := l.map fun p => (1, p.1, p.2)
def homeT (l : Nb) : List Tt := wT l ++ [(2, 0, []), (1, 1, Hd.zeros 512), (2, 0, [])]
theorem stp_w (l : Nb) : (wT l).map stp = ws l := by
  unfold wT ws
  rw [List.map_map]; rfl
theorem stp_home (l : Nb) : (homeT l).map stp = homeS l := by
  unfold homeT homeS
  rw [List.map_append, stp_w]; rfl
def logT (ds : List (List UInt8)) (i : Nat) : List Tt := (List.range i).map fun k : Nat => ((1 : Int), 2 + (k : Int), ds.getD k [])
theorem logT_succ (ds : List (List UInt8)) (i : Nat) : logT ds (i + 1) = logT ds i ++ [((1 : Int), 2 + (i : Int), ds.getD i [])] := by unfold logT; rw [List.range_succ, List.map_append]; rfl
theorem stp_log (l : Nb) : (logT (l.map (·.2)) l.length).map stp = ws (logL l) := by
  unfold ws
  refine List.ext_getElem (by unfold logT; rw [List.length_map, List.length_map, List.length_map, List.length_range, logL_length]) fun i h1 h2 => ?_
  rw [List.length_map, logL_length] at h2
  rw [List.getElem_map, List.getElem_map, logL_get _ (by rw [logL_length]; exact h2)]
  unfold logT
  rw [List.getElem_map, List.getElem_range]
  show Stp.w (2 + (i : Int)) ((l.map (·.2)).getD i []) = Stp.w (2 + (i : Int)) l[i].2
  rw [List.getD_eq_getElem?_getD, List.getElem?_map, List.getElem?_eq_getElem h2]; rfl
def commitT (l : Nb) (hdr : List UInt8) : List Tt := logT (l.map (·.2)) l.length ++ [(2, 0, []), (1, 1, hdr), (2, 0, [])] ++ homeT l
theorem stp_commit (l : Nb) (hdr : List UInt8) : (commitT l hdr).map stp = commitS l hdr := by
  unfold commitT commitS
  rw [List.map_append, List.map_append, stp_log, stp_home]; rfl
theorem wT_snoc (l : Nb) (p : Int × List UInt8) : wT (l ++ [p]) = wT l ++ [(1, p.1, p.2)] := by unfold wT; rw [List.map_append]; rfl
theorem flat_snoc (es : List Ent) (e : Ent) : (es ++ [e]).flatMap Ent.cells = es.flatMap Ent.cells ++ e.cells := by rw [List.flatMap_append, List.flatMap_cons, List.flatMap_nil, List.append_nil]
theorem EsT.entW {h : Heap} {E : Nat → Prop} {n : Int} {a : Option Addr} {l c : Nat} {b : List UInt8} (B : StrAt h a l b) (O : ∀ p, a = some p → l ≠ 0 → ¬ E p.block) : EsT h E [Wd.entW n a l c] [(1, n, b)] := EsT.one rfl rfl B O
theorem EsT.entF (h : Heap) (E : Nat → Prop) : EsT h E [Wd.entF] [(2, 0, [])] := EsT.one rfl rfl (StrAt.nil h none) fun p e => by cases e
theorem row_no {n0 w l c : Nat} {h h' h0 : Heap} {F : Nat → Prop} {a : Option Addr} {xs : List Value} (R : Row n0 h F w a l c xs) (f : Fr No h0 h) (e : n0 = h0.size) (f' : Fr F h h') : Fr No h0 h' := f.trans f' fun b hb y => by have := (R.ge b y).1; omega
end Go.Proofs.YtjdcbblgaoogmaaGreatDoor.Wd
namespace Go.Proofs.YtjdcbblgaoogmaaGreatDoor.Wd
open Go Go.Proofs Wx Hp W Ad Wc Rf
open L3 (Tt)
theorem EsT.small {h : Heap} {E : Nat → Prop} {es : List Ent} {ts : List Tt} (T : EsT h E es ts) (hs : ∀ t ∈ ts, t.2.2.length ≤ 512) : ∀ i (hi : i < es.length), es[i].l ≤ 140737488355328 := fun i hi => by
  have hi2 : i < ts.length := by rw [← T.len]; exact hi
  have := (T.at_ i hi hi2).2.2.1.1
  have := hs _ (List.getElem_mem hi2)
  omega
theorem EsT.weak {h : Heap} {E E' : Nat → Prop} {es : List Ent} {ts : List Tt} (T : EsT h E' es ts) (hE : ∀ b, E b → E' b) : EsT h E es ts :=
  ⟨T.len, fun i h1 h2 => by
    obtain ⟨a, b, c, d⟩ := T.at_ i h1 h2
    exact ⟨a, b, c, fun p e hl y => d p e hl (hE _ y)⟩⟩
theorem wT_small {l : Nb} (h : ∀ p ∈ l, p.2.length ≤ 512) : ∀ t ∈ wT l, t.2.2.length ≤ 512 := fun t ht => by
  obtain ⟨p, hp, rfl⟩ := List.mem_map.mp ht; exact h p hp
theorem three_small {b : List UInt8} (hb : b.length ≤ 512) : ∀ t ∈ ([((2 : Int), (0 : Int), ([] : List UInt8)), (1, 1, b), (2, 0, [])] : List Tt), t.2.2.length ≤ 512 := fun t ht => by
  simp only [List.mem_cons, List.not_mem_nil, or_false] at ht
  rcases ht with rfl | rfl | rfl
  · exact Nat.zero_le _
  · exact hb
  · exact Nat.zero_le _
theorem homeT_small {l : Nb} (h : ∀ p ∈ l, p.2.length ≤ 512) : ∀ t ∈ homeT l, t.2.2.length ≤ 512 := fun t ht => by
  rcases List.mem_append.mp ht with ht | ht
  · exact wT_small h t ht
  · exact three_small (by rw [Hd.zeros_length]; exact Nat.le_refl _) t ht
theorem rs_ns (rs : Rs) : (nb rs).map (·.1) = rs.map (·.1) := by unfold nb; rw [List.map_map]; rfl
theorem rs_ds (rs : Rs) : (nb rs).map (·.2) = rs.map (·.2.2) := by unfold nb; rw [List.map_map]; rfl
end Go.Proofs.YtjdcbblgaoogmaaGreatDoor.Wd
namespace Go.Proofs.YtjdcbblgaoogmaaGreatDoor.Wd
open Go Go.Proofs Wx Hp W Ad Wc Rf
open L3 (Tt)
theorem lastW_len {N : Int} {i : Int} : ∀ (n : Nat) (ts : List Tt) (z : List UInt8), ts.length = n → z.length = 512 → (∀ t ∈ ts, L3.May N t) → (lastW i z ts).length = 512
  | 0, ts, z, hn, hz, _ => by rw [List.eq_nil_of_length_eq_zero hn]; exact hz
  | n + 1, ts, z, hn, hz, hm => by
    have ne : ts ≠ [] := fun e => by rw [e] at hn; cases hn
    rw [← List.dropLast_concat_getLast ne, lastW_snoc]
    have hl := hm _ (List.getLast_mem ne)
    split
    · rename_i h
      rcases hl with h2 | h2
      · rw [h.1] at h2; exact absurd h2 (by decide)
      · exact h2.2.2.2
    · exact lastW_len n _ z (by rw [List.length_dropLast, hn]; rfl) hz fun t ht => hm t (List.dropLast_subset _ ht)
theorem RfS.readLen {h : Heap} {E : Nat → Prop} {r : Option Addr} {D : RD} (x : RfS h E r D) (hd : D.down = false) {i : Nat} (hi : i < D.lasts.length) : (readAt D i).length = 512 := by
  obtain ⟨col, S, _, s, _, _, _, _⟩ := x
  have ho : S.out = false := by rw [← s.down]; exact hd
  rw [s.len] at hi
  rw [s.read ho hi]
  refine lastW_len _ _ _ rfl ?_ s.ok.may
  unfold FD.first'
  rw [List.length_take, List.length_drop, s.ok.len]
  have : (i + 1) * 512 ≤ S.N * 512 := Nat.mul_le_mul_right _ hi
  have : ((i : Int)).toNat = i := Int.toNat_natCast i
  rw [this]
  omega
theorem RfS.max {h : Heap} {E : Nat → Prop} {r : Option Addr} {D : RD} (x : RfS h E r D) : D.lasts.length ≤ 16384 := by
  obtain ⟨col, S, _, s, _, _, _, _⟩ := x
  rw [s.len]; exact s.ok.max
end Go.Proofs.YtjdcbblgaoogmaaGreatDoor.Wd
namespace Go.Proofs.YtjdcbblgaoogmaaGreatDoor.Wd
open Go Go.Proofs Wx Hp W Ad Wc Rf
open L3 (Tt)
theorem flat_512 : ∀ (ls : List (List UInt8)), (∀ x ∈ ls, x.length = 512) → ls.flatten.length = ls.length * 512
  | [], _ => rfl
  | x :: r, h => by
    rw [List.flatten_cons, List.length_append, flat_512 r fun y hy => h y (List.mem_cons_of_mem _ hy), h x (List.mem_cons_self ..), List.length_cons]; omega
theorem row_bytes {n0 : Nat} {hh : Heap} {F : Nat → Prop} {n : Nat} {a : Option Addr} {l c e : Nat} {xs vs : List Value} {elem : TI} {K : Option Addr → Nat → Nat → Heap → Prop} (r : Row n0 hh F 1 a l c xs) (hv : vs.length = n)
    (hz : elem.zero.length = elem.cells) (hc : elem.cells = 1) (hby : elem.bytes = 1) (hl : l + n ≤ 140737488355328) (hn : n0 ≤ hh.size)
    (hK : ∀ a' c' h' F', Fr F hh h' → (∀ b, F' b → F b ∨ hh.size ≤ b) → Row n0 h' F' 1 a' (l + n) c' (xs ++ vs) → K a' (l + n) c' h') : AppendP elem e a l c n vs hh K := by
  refine append_own (show Sl hh elem.cells a l c xs F by rw [hc]; exact r.s) (by rw [hc, hv, Nat.mul_one]) hz (by rw [hby, Nat.mul_one]; exact hl) hl fun a' c' h5 f5 s5 => ?_
  rw [hc] at s5
  have z5 := f5.size
  refine hK a' c' h5 (fun b => (F b ∨ hh.size ≤ b) ∧ b < h5.size) f5 (fun b hb => hb.1) ⟨?_, fun b hb => ⟨?_, hb.2⟩⟩
  · obtain ⟨q1, q2⟩ := s5
    refine ⟨q1, ?_⟩
    cases a' with
    | none => exact q2
    | some p => obtain ⟨a1, a2, a3, a4⟩ := q2; exact ⟨a1, ⟨a2, a3.lt⟩, a3, a4⟩
  · rcases hb.1 with q | q
    · exact (r.ge b q).1
    · omega
end Go.Proofs.YtjdcbblgaoogmaaGreatDoor.Wd
namespace Go.Proofs.YtjdcbblgaoogmaaGreatDoor.Rx
open Go Go.Proofs Wx Hp W Ad Tm Spc Re
def lget (row : List (Int × Txt)) (i : Int) : Option Txt := row.foldl (fun o p => if p.1 = i then some p.2 else o) none
theorem lget_snoc (row : List (Int × Txt)) (p : Int × Txt) (i : Int) : lget (row ++ [p]) i = if p.1 = i then some p.2 else lget row i := by
  unfold lget; rw [List.foldl_append]; rfl
theorem lget_mem {i : Int} : ∀ {n : Nat} {row : List (Int × Txt)}, row.length = n → ∀ {b : Txt}, lget row i = some b → (i, b) ∈ row
  | 0, row, hn, b, e => by rw [List.eq_nil_of_length_eq_zero hn] at e; cases e
  | n + 1, row, hn, b, e => by
    have ne : row ≠ [] := by intro y; rw [y] at hn; cases hn
    rw [← List.dropLast_concat_getLast ne] at e ⊢
    rw [lget_snoc] at e
    split at e
    · rename_i h; cases e; subst h; exact List.mem_append_right _ (List.mem_singleton.mpr rfl)
    · exact List.mem_append_left _ (lget_mem (n := n) (by rw [List.length_dropLast, hn]; rfl) e)
structure RM where
  disk : RD
  row : List (Int × Txt)
  ends : Bool
def RM.N (M : RM) : Nat := M.disk.lasts.length
def RM.read (M : RM) (i : Int) : Txt × Int :=
  if M.ends = true then ([], 61) else if i < 0 ∨ i ≥ M.N then ([], 31) else match lget M.row i with
    | some b => (b, 0)
    | none => if M.disk.down = true then ([], 30) else (readAt M.disk i.toNat, 0)
def keysTo (M : RM) (k : Nat) : List Int := ((List.range' 98 k).filter fun i => (lget M.row ((i : Nat) : Int)).isSome).map fun i : Nat => ((i : Nat) : Int)
theorem keysTo_succ (M : RM) (k : Nat) : keysTo M (k + 1) = keysTo M k ++ if (lget M.row ((98 + k : Nat) : Int)).isSome = true then [((98 + k : Nat) : Int)] else [] := by
  unfold keysTo
  rw [List.range'_concat, List.filter_append, List.map_append, Nat.one_mul]
  congr 1
  by_cases h : (lget M.row ((98 + k : Nat) : Int)).isSome = true
  · rw [if_pos h]; simp only [List.filter, h, List.map]
  · rw [if_neg h]; simp only [List.filter, h, List.map]
def RM.written (M : RM) : List Int := if M.ends = true then [] else keysTo M (M.N - 98)
theorem mem_keysTo {M : RM} {k : Nat} {x : Int} : x ∈ keysTo M k ↔ 98 ≤ x ∧ x < 98 + k ∧ (lget M.row x).isSome = true := by
  unfold keysTo
  rw [List.mem_map]
  constructor
  · rintro ⟨a, ha, rfl⟩
    rw [List.mem_filter, List.mem_range'_1] at ha
    exact ⟨by omega, by omega, ha.2⟩
  · rintro ⟨h1, h2, h3⟩
    refine ⟨x.toNat, ?_, by omega⟩
    rw [List.mem_filter, List.mem_range'_1]
    refine ⟨by omega, ?_⟩
    rw [show ((x.toNat : Nat) : Int) = x by omega]; exact h3
theorem keysTo_lt (M : RM) (k : Nat) : (keysTo M k).Pairwise (· < ·) := by
  unfold keysTo
  rw [List.pairwise_map]
  have h : (List.range' 98 k).Pairwise (· < ·) := List.pairwise_lt_range'
  exact ((h.sublist (List.filter_sublist)).imp fun h => by omega)
theorem le_trans_b : ∀ a b c : Int, decide (a ≤ b) = true → decide (b ≤ c) = true → decide (a ≤ c) = true := fun a b c h1 h2 => decide_eq_true (Int.le_trans (of_decide_eq_true h1) (of_decide_eq_true h2))
theorem le_total_b : ∀ a b : Int, (decide (a ≤ b) || decide (b ≤ a)) = true := fun a b => by
  rcases Int.le_total a b with h | h
  · rw [decide_eq_true h]; rfl
  · rw [decide_eq_true h, Bool.or_true]
theorem sortZ_eq {l m : List Int} (h : l.Nodup) (hm : m.Pairwise (· < ·)) (hs : ∀ x, x ∈ l ↔ x ∈ m) : sortZ l = m := by
  have hp0 : (sortZ l).Perm l := List.mergeSort_perm l _
  have hlt : (sortZ l).Pairwise (· < ·) := by
    have h1 : (sortZ l).Pairwise fun x y => decide (x ≤ y) = true := List.pairwise_mergeSort le_trans_b le_total_b l
    have h2 : (sortZ l).Nodup := hp0.nodup_iff.mpr h
    exact (h1.and h2).imp fun ⟨a, b⟩ => by have := of_decide_eq_true a; omega
  have hmn : m.Nodup := hm.imp fun h => by omega
  have hp : (sortZ l).Perm m := hp0.trans ((List.perm_ext_iff_of_nodup h hmn).mpr hs)
  exact List.Perm.eq_of_pairwise (le := (· < ·)) (fun a b _ _ h1 h2 => by omega) hlt hm hp
structure Sim (T : TM) (M : RM) : Prop where
  ends : M.ends = T.over
  dk : M.disk = T.disk
  gone : T.over = true → T.put = [] ∧ T.undo = []
  un : T.over = false → T.undo.length = M.row.length
  nd : T.over = false → ∀ k, k ≤ M.row.length → ((undoAll T.put (T.undo.drop k)).map (·.1)).Nodup
  mx : T.over = false → ∀ k, k ≤ M.row.length → (undoAll T.put (T.undo.drop k)).length ≤ 96
  get : T.over = false → ∀ k, k ≤ M.row.length → ∀ i, aget (undoAll T.put (T.undo.drop k)) i = lget (M.row.take k) i
  rr : ∀ p ∈ M.row, 98 ≤ p.1 ∧ p.1 < T.N ∧ p.2.length = 512
theorem Sim.N {T : TM} {M : RM} (s : Sim T M) : M.N = T.N := by unfold RM.N; rw [s.dk]; rfl
theorem Sim.now {T : TM} {M : RM} (s : Sim T M) (h : T.over = false) (i : Int) : aget T.put i = lget M.row i := by
  have := s.get h M.row.length (Nat.le_refl _) i
  rw [← s.un h, List.drop_length, s.un h, List.take_length] at this
  exact this
theorem Sim.nodup {T : TM} {M : RM} (s : Sim T M) (h : T.over = false) : (T.put.map (·.1)).Nodup := by
  have := s.nd h M.row.length (Nat.le_refl _)
  rw [← s.un h, List.drop_length] at this
  exact this
theorem Sim.most {T : TM} {M : RM} (s : Sim T M) (h : T.over = false) : T.put.length ≤ 96 := by
  have := s.mx h M.row.length (Nat.le_refl _)
  rw [← s.un h, List.drop_length] at this
  exact this
theorem Sim.read {T : TM} {M : RM} (s : Sim T M) (i : Int) : M.read i = T.read i := by
  unfold RM.read TM.read
  rw [s.ends, s.N]
  split
  · rfl
  · rename_i h
    have hl : T.over = false := by cases e : T.over <;> simp_all
    split
    · rfl
    · rename_i h2
      rw [← s.now hl i]
      cases e : aget T.put i with
      | some b => rw [TM.get_some e]
      | none =>
        rw [TM.get_none e, s.dk]
theorem aget_key {α : Type} {i : Int} {m : List (Int × α)} : i ∈ m.map (·.1) ↔ (aget m i).isSome = true := by
  constructor
  · intro h
    cases e : aget m i with
    | some b => rfl
    | none =>
      obtain ⟨p, hp, ep⟩ := List.mem_map.mp h
      exact absurd ep (aget_none.mp e p hp)
  · intro h
    cases e : aget m i with
    | some b => exact List.mem_map.mpr ⟨_, aget_mem e, rfl⟩
    | none => rw [e] at h; cases h
theorem Sim.written {T : TM} {M : RM} (s : Sim T M) : T.written = M.written := by
  unfold TM.written RM.written
  rw [s.ends]
  cases hl : T.over with
  | true => rw [(s.gone hl).1, if_pos rfl]; exact List.mergeSort_nil
  | false =>
    rw [if_neg (by simp)]
    refine sortZ_eq (s.nodup hl) (keysTo_lt _ _) fun x => ?_
    rw [mem_keysTo, aget_key, s.now hl, s.N]
    constructor
    · intro h
      cases e : lget M.row x with
      | none => rw [e] at h; cases h
      | some b =>
        have := s.rr _ (lget_mem rfl e)
        simp only at this
        exact ⟨this.1, by omega, rfl⟩
    · exact fun h => h.2.2
theorem sortZ_length (l : List Int) : (sortZ l).length = l.length := (List.mergeSort_perm l _).length_eq
theorem Sim.many {T : TM} {M : RM} (s : Sim T M) : M.written.length = T.put.length := by rw [← s.written]; unfold TM.written; rw [sortZ_length, List.length_map]
def RM.write (M : RM) (i : Int) (bs : Txt) : RM × Int :=
  if M.ends = true then (M, 61) else if i < 98 ∨ i ≥ M.N then (M, 31) else if bs.length ≠ 512 then (M, 32) else if lget M.row i = none ∧ M.written.length ≥ 96 then (M, 60) else ({ M with row := M.row ++ [(i, bs)] }, 0)
theorem undo1_aput (m : List (Int × Txt)) (i : Int) (v : Txt) : undo1 (aput m i v) (i, aget m i) = m := by
  unfold undo1
  cases e : aget m i with
  | some b => exact aput_aput e
  | none => exact adel_aput e
theorem undoAll_app (m : List (Int × Txt)) (us vs : List (Int × Option Txt)) : undoAll m (us ++ vs) = undoAll (undoAll m vs) us := by unfold undoAll; rw [List.foldr_append]
theorem aput_nodup {α : Type} {m : List (Int × α)} (h : (m.map (·.1)).Nodup) (i : Int) (v : α) : ((aput m i v).map (·.1)).Nodup := by
  rw [aput_keys]
  split
  · rename_i e
    rw [List.nodup_append]
    refine ⟨h, by simp, fun a ha b hb => ?_⟩
    rw [List.mem_singleton] at hb
    subst hb
    obtain ⟨p, hp, rfl⟩ := List.mem_map.mp ha
    exact aget_none.mp e p hp
  · exact h
theorem Sim.write {T : TM} {M : RM} (s : Sim T M) (i : Int) (bs : Txt) : (M.write i bs).2 = (T.write i bs).2 ∧ Sim (T.write i bs).1 (M.write i bs).1 := by
  unfold RM.write TM.write
  rw [s.ends, s.N, s.many]
  split
  · exact ⟨rfl, s⟩
  · rename_i h
    have hl : T.over = false := by cases e : T.over <;> simp_all
    rw [← s.now hl i]
    split
    · exact ⟨rfl, s⟩
    · split
      · exact ⟨rfl, s⟩
      · split
        · exact ⟨rfl, s⟩
        · rename_i h2 h3 h4
          refine ⟨rfl, rfl, s.dk, fun y => absurd (hl.symm.trans y) (by simp), fun _ => ?_, fun _ k hk => ?_, fun _ k hk => ?_, fun _ k hk j => ?_, fun p hp => ?_⟩
          · show (T.undo ++ [_]).length = (M.row ++ [_]).length
            rw [List.length_append, List.length_append, s.un hl]; rfl
          · have hk : k ≤ (M.row ++ [(i, bs)]).length := hk
            rw [List.length_append, List.length_singleton] at hk
            show ((undoAll (aput T.put i bs) ((T.undo ++ [(i, aget T.put i)]).drop k)).map _).Nodup
            rcases Nat.lt_or_ge M.row.length k with y | y
            · rw [List.drop_eq_nil_of_le (by rw [List.length_append, s.un hl]; show _ + 1 ≤ k; omega)]
              exact aput_nodup (s.nodup hl) i bs
            · rw [List.drop_append_of_le_length (by rw [s.un hl]; exact y), undoAll_app]
              show ((undoAll (undo1 (aput T.put i bs) (i, aget T.put i)) _).map _).Nodup
              rw [undo1_aput]
              exact s.nd hl k y
          · have hk : k ≤ (M.row ++ [(i, bs)]).length := hk
            rw [List.length_append, List.length_singleton] at hk
            show (undoAll (aput T.put i bs) ((T.undo ++ [(i, aget T.put i)]).drop k)).length ≤ 96
            rcases Nat.lt_or_ge M.row.length k with y | y
            · rw [List.drop_eq_nil_of_le (by rw [List.length_append, s.un hl]; show _ + 1 ≤ k; omega)]
              show (aput T.put i bs).length ≤ 96
              have := s.most hl
              rw [aput_length]
              split
              · rename_i z
                have : ¬ T.put.length ≥ 96 := fun w => h4 ⟨z, w⟩
                omega
              · exact this
            · rw [List.drop_append_of_le_length (by rw [s.un hl]; exact y), undoAll_app]
              show (undoAll (undo1 (aput T.put i bs) (i, aget T.put i)) _).length ≤ 96
              rw [undo1_aput]
              exact s.mx hl k y
          · have hk : k ≤ (M.row ++ [(i, bs)]).length := hk
            rw [List.length_append, List.length_singleton] at hk
            show aget (undoAll (aput T.put i bs) ((T.undo ++ [(i, aget T.put i)]).drop k)) j = lget ((M.row ++ [(i, bs)]).take k) j
            rcases Nat.lt_or_ge M.row.length k with y | y
            · rw [List.drop_eq_nil_of_le (by rw [List.length_append, s.un hl]; show _ + 1 ≤ k; omega), List.take_of_length_le (by rw [List.length_append]; show _ + 1 ≤ k; omega), lget_snoc]
              show aget (aput T.put i bs) j = _
              rw [aget_aput, s.now hl j]
              by_cases e : j = i
              · rw [if_pos e, if_pos (show (i, bs).1 = j from e.symm)]
              · rw [if_neg e, if_neg (show ¬ (i, bs).1 = j from fun y => e y.symm)]
            · rw [List.drop_append_of_le_length (by rw [s.un hl]; exact y), undoAll_app, List.take_append_of_le_length y]
              show aget (undoAll (undo1 (aput T.put i bs) (i, aget T.put i)) _) j = _
              rw [undo1_aput]
              exact s.get hl k y j
          · have hp : p ∈ M.row ++ [(i, bs)] := hp
            rcases List.mem_append.mp hp with y | y
            · exact s.rr p y
            · rw [List.mem_singleton.mp y]; show 98 ≤ i ∧ i < (T.N : Int) ∧ bs.length = 512; omega
def RM.back (M : RM) (m : Int) : RM × Int := if M.ends = true then (M, 61) else if m < 0 ∨ m > M.row.length then (M, 62) else ({ M with row := M.row.take m.toNat }, 0)
theorem Sim.back {T : TM} {M : RM} (s : Sim T M) (m : Int) : (M.back m).2 = (T.back m).2 ∧ Sim (T.back m).1 (M.back m).1 := by
  unfold RM.back TM.back
  rw [s.ends]
  split
  · exact ⟨rfl, s⟩
  · rename_i h
    have hl : T.over = false := by cases e : T.over <;> simp_all
    rw [s.un hl]
    split
    · exact ⟨rfl, s⟩
    · rename_i h2
      have hm : m.toNat ≤ M.row.length := by omega
      have key : ∀ k, k ≤ m.toNat → undoAll (undoAll T.put (T.undo.drop m.toNat)) ((T.undo.take m.toNat).drop k) = undoAll T.put (T.undo.drop k) := fun k hk => by
        have e : T.undo.drop k = (T.undo.take m.toNat).drop k ++ T.undo.drop m.toNat := by
          have e1 : T.undo = T.undo.take m.toNat ++ T.undo.drop m.toNat := (List.take_append_drop _ _).symm
          rw (config := { occs := .pos [1] }) [e1]
          rw [List.drop_append_of_le_length (by rw [List.length_take, s.un hl]; omega)]
        rw [e, undoAll_app]
      have lt : (M.row.take m.toNat).length = m.toNat := by rw [List.length_take]; omega
      refine ⟨rfl, rfl, s.dk, fun y => absurd (hl.symm.trans y) (by simp), fun _ => ?_, fun _ k hk => ?_, fun _ k hk => ?_, fun _ k hk j => ?_, fun p hp => s.rr p (List.mem_of_mem_take hp)⟩
      · show (T.undo.take m.toNat).length = (M.row.take m.toNat).length
        rw [lt, List.length_take, s.un hl]; omega
      · have hk : k ≤ (M.row.take m.toNat).length := hk
        rw [lt] at hk
        show ((undoAll (undoAll T.put (T.undo.drop m.toNat)) ((T.undo.take m.toNat).drop k)).map _).Nodup
        rw [key k hk]; exact s.nd hl k (by omega)
      · have hk : k ≤ (M.row.take m.toNat).length := hk
        rw [lt] at hk
        show (undoAll (undoAll T.put (T.undo.drop m.toNat)) ((T.undo.take m.toNat).drop k)).length ≤ 96
        rw [key k hk]; exact s.mx hl k (by omega)
      · have hk : k ≤ (M.row.take m.toNat).length := hk
        rw [lt] at hk
        show aget (undoAll (undoAll T.put (T.undo.drop m.toNat)) ((T.undo.take m.toNat).drop k)) j = lget ((M.row.take m.toNat).take k) j
        rw [key k hk, s.get hl k (by omega) j, List.take_take, Nat.min_eq_left hk]
theorem Sim.mark {T : TM} {M : RM} (s : Sim T M) : (if M.ends = true then ((0 : Int), (61 : Int)) else ((M.row.length : Int), 0)) = T.mark := by
  unfold TM.mark
  rw [s.ends]
  split
  · rfl
  · rename_i h
    have hl : T.over = false := by cases e : T.over <;> simp_all
    rw [s.un hl]
theorem Sim.over {T : TM} {M : RM} (s : Sim T M) {S : RD} (h : S.lasts.length = T.N) : Sim ⟨S, [], [], true⟩ { M with disk := S, ends := true } :=
  ⟨rfl, rfl, fun _ => ⟨rfl, rfl⟩, fun y => (by cases y), fun y => (by cases y), fun y => (by cases y), fun y => (by cases y), fun p hp => by
    have e : TM.N ⟨S, [], [], true⟩ = T.N := h
    rw [e]; exact s.rr p hp⟩
theorem Sim.onDisk {T : TM} {M : RM} (s : Sim T M) {S : RD} (h : S.lasts.length = T.N) : Sim { T with disk := S } { M with disk := S } := by
  have hN : TM.N { T with disk := S } = T.N := h
  exact ⟨s.ends, rfl, s.gone, s.un, s.nd, s.mx, s.get, fun p hp => by rw [hN]; exact s.rr p hp⟩
theorem sim_new (S : RD) : Sim ⟨S, [], [], false⟩ ⟨S, [], false⟩ :=
  ⟨rfl, rfl, fun y => (by cases y), fun _ => rfl, fun _ k _ => by
    show ((undoAll [] (([] : List (Int × Option Txt)).drop k)).map _).Nodup
    rw [List.drop_nil]; exact List.nodup_nil, fun _ k _ => by
    show (undoAll [] (([] : List (Int × Option Txt)).drop k)).length ≤ 96
    rw [List.drop_nil]; exact Nat.zero_le _, fun _ k _ i => by
    show aget (undoAll [] (([] : List (Int × Option Txt)).drop k)) i = lget (([] : List (Int × Txt)).take k) i
    rw [List.drop_nil, List.take_nil]; rfl, fun p hp => (by cases hp)⟩
end Go.Proofs.YtjdcbblgaoogmaaGreatDoor.Rx
namespace Go.Proofs.YtjdcbblgaoogmaaGreatDoor.Rx
open Go Go.Proofs Wx Hp W Ad Tm Spc Re
theorem newS_intro {bs : Txt} {t : Nat} {h : Heap} {k : Nat → Heap → Prop} (H : ∀ cap h', Fr No h h' → Sl h' 1 (some ⟨h.size, 0, none⟩) bs.length cap (bs.map bv) (fun b => b = h.size) → k cap h') : NewS (mkStr bs) t h k := by
  intro cap hcap
  have hcap : bs.length ≤ cap := hcap
  show k cap (newS h ((mkStr bs).toList.map bv ++ List.replicate (cap - bs.length) (bv 0)) t)
  rw [toList_mkStr]
  generalize hcs : bs.map bv ++ List.replicate (cap - bs.length) (bv 0) = cs
  have hg : (newS h cs t)[h.size]? = some (.cells ⟨cs⟩ t (cs.length, cs.length + 1)) := by simp [newS]
  have hr : rd (newS h cs t) h.size = cs := by simp only [rd, hg]
  refine H cap _ ⟨by simp [newS], fun x hx _ => by simp [newS, Array.getElem?_push, show x ≠ h.size by omega]⟩ ⟨by rw [List.length_map, Nat.mul_one], rfl, rfl, ⟨_, _, _, hg, .inr (Nat.le_refl _)⟩, hcap, ?_, ?_⟩
  · show ((rd (newS h cs t) h.size).drop 0).take _ = _
    rw [hr, ← hcs, List.drop_zero]; exact List.take_left
  · show 0 + cap * 1 ≤ (rd (newS h cs t) h.size).length
    rw [hr, ← hcs, List.length_append, List.length_map, List.length_replicate]; omega
def dcell (p : Int × Txt) : List Value := [.int .i64 p.1, .string (mkStr p.2)]
theorem dcell_one (p : Int × Txt) : ∀ v ∈ dcell p, v.oneCell' = true := one2 rfl rfl
structure RR where
  rb : Nat
  q : Option Addr
  ra : Option Addr
  rc : Nat
structure RxC (h : Heap) (col : Nat → Nat) (R : RR) (M : RM) : Prop where
  nrm : ∀ b, h.size ≤ b → col b = 0
  rc : col R.rb = 1
  ro : Own h R.rb
  rr : rd h R.rb = [.pointer R.q, .slice R.ra M.row.length R.rc, .bool M.ends]
  dk : Rf.RfS h (fun b => col b = 3) R.q M.disk
  row : Sl h 2 R.ra M.row.length R.rc (M.row.flatMap dcell) (On col 4)
  rm : M.row.length ≤ 1000000000
def Rx (h : Heap) (F : Nat → Prop) (r e : Option Addr) (M : RM) : Prop := ∃ col R, r = some ⟨R.rb, 0, none⟩ ∧ e = R.q ∧ RxC h col R M ∧ ∀ b, F b ↔ 1 ≤ col b ∧ col b ≤ 4
theorem iffS {h : Heap} {E E' : Nat → Prop} {r : Option Addr} {D : RD} (x : Rf.RfS h E r D) (g : ∀ b, E' b ↔ E b) : Rf.RfS h E' r D := by
  obtain ⟨col, S, a, s, p, w, hz, hD⟩ := x
  exact ⟨col, S, a, s, p, w, hz, fun b => (g b).trans (hD b)⟩
theorem RxC.max {h : Heap} {col : Nat → Nat} {R : RR} {M : RM} (X : RxC h col R M) : M.N ≤ 16384 := Wd.RfS.max X.dk
theorem RxC.keep {h h' : Heap} {col : Nat → Nat} {R : RR} {M : RM} {G : Nat → Prop} (X : RxC h col R M) (f : Fr G h h') (hG : ∀ b, b < h.size → 1 ≤ col b → col b ≤ 4 → ¬ G b) : RxC h' col R M := by
  have c1 := X.rc
  have l1 := X.ro.lt
  have g1 := hG _ l1 (by omega) (by omega)
  exact ⟨fun b hb => X.nrm b (Nat.le_trans f.size hb), c1, f.own l1 g1 X.ro, (f.rd l1 g1).trans X.rr,
    X.dk.fr f (fun b hb => hG b (X.dk.lt hb) (by have hb : col b = 3 := hb; omega) (by have hb : col b = 3 := hb; omega)), X.row.fr f (fun b hb e => hG b hb (by have e : col b = 4 := e; omega) (by have e : col b = 4 := e; omega)), X.rm⟩
theorem Rx.fr {h h' : Heap} {F G : Nat → Prop} {r e : Option Addr} {M : RM} (x : Rx h F r e M) (f : Fr G h h') (hG : ∀ b, F b → ¬ G b) : Rx h' F r e M := by
  obtain ⟨col, R, e1, e2, X, hF⟩ := x
  exact ⟨col, R, e1, e2, X.keep f fun b _ h1 h2 => hG b ((hF b).mpr ⟨h1, h2⟩), hF⟩
theorem Rx.lt {h : Heap} {F : Nat → Prop} {r e : Option Addr} {M : RM} (x : Rx h F r e M) {b : Nat} (hb : F b) : b < h.size := by
  obtain ⟨col, R, e1, e2, X, hF⟩ := x
  rcases Nat.lt_or_ge b h.size with y | y
  · exact y
  · have := X.nrm b y; have := (hF b).mp hb; omega
theorem sl_rng {h : Heap} {ec l c : Nat} {a : Option Addr} {xs : List Value} {F : Nat → Prop} (s : Sl h ec a l c xs F) : Sl h ec a l c xs (fun b => F b ∧ b < h.size) := by
  obtain ⟨h1, h2⟩ := s
  refine ⟨h1, ?_⟩
  cases a with
  | none => exact h2
  | some p => exact ⟨h2.1, ⟨h2.2.1, h2.2.2.1.lt⟩, h2.2.2.1, h2.2.2.2.1, h2.2.2.2.2⟩
theorem Begin_spec {h : Heap} {D : Nat → Prop} {q : Option Addr} {S : RD} {K : Value → Heap → Prop} (x : Rf.RfS h D q S)
    (hK : ∀ F h', Fr No h h' → Rx h' F (some ⟨h.size, 0, none⟩) q ⟨S, [], false⟩ → (∀ b, F b ↔ D b ∨ b = h.size) → K (.pointer (some ⟨h.size, 0, none⟩)) h') : C.boleref06_Begin q h K := by
  have l := fun b (hb : D b) => x.lt hb
  refine boleref06_Begin.ok (New.intro fun h2 n2 => ?_)
  have z := n2.size
  obtain ⟨col, c1, c3, c4⟩ : ∃ col : Nat → Nat, col h.size = 1 ∧ (∀ b, D b → col b = 3) ∧ ∀ b, ¬ D b → b ≠ h.size → col b = 0 :=
    ⟨fun b => if b = h.size then 1 else @ite _ (D b) (Classical.propDecidable _) 3 0, if_pos rfl,
      (fun b hb => by have := l b hb; show (if b = h.size then 1 else @ite _ (D b) (Classical.propDecidable _) 3 0) = 3; rw [if_neg (by omega), if_pos hb]), (fun b hb hne => by show (if b = h.size then 1 else @ite _ (D b) (Classical.propDecidable _) 3 0) = 0; rw [if_neg hne, if_neg hb])⟩
  refine hK (fun b => 1 ≤ col b ∧ col b ≤ 4) h2 n2.fr ⟨col, ⟨h.size, q, none, 0⟩, rfl, rfl, ⟨fun b hb => c4 b (fun y => by have := l b y; omega) (by omega), c1, n2.own, n2.rd, iffS (x.no n2.fr) fun b => ⟨fun e => ?_, c3 b⟩, Sl.nil _ _ _, Nat.zero_le _⟩, fun b => Iff.rfl⟩ fun b => ⟨fun hb => ?_, fun hb => ?_⟩
  · refine Classical.byContradiction fun y => ?_
    have e : col b = 3 := e
    by_cases y2 : b = h.size
    · rw [y2] at e; omega
    · have := c4 b y y2; omega
  · by_cases y : D b
    · exact .inl y
    · refine .inr (Classical.byContradiction fun ne => ?_)
      have := c4 b y ne; omega
  · rcases hb with y | rfl
    · have := c3 b y; omega
    · omega
theorem RxC.dcell {h : Heap} {col : Nat → Nat} {R : RR} {M : RM} (X : RxC h col R M) {j : Nat} (hj : j < M.row.length) : ∃ p, R.ra = some p ∧ Cells h (p.add (j * 2)) (dcell M.row[j]) := by
  obtain ⟨p, ep, cc⟩ := X.row.get (by omega)
  refine ⟨p, ep, ?_⟩
  have := Cells.take (Cells.drop cc (j * 2)) 2
  rw [flat_part Rx.dcell 2 M.row (fun x _ => rfl) j hj] at this
  exact this
theorem Blocks_spec {h : Heap} {col : Nat → Nat} {R : RR} {M : RM} {K : Value → Heap → Prop} (X : RxC h col R M) (hK : K (.int .i64 M.N) h) : C.boleref03_Disk_Blocks R.q h K := X.dk.blocks hK
def AtR (row : List (Int × Txt)) (i : Int) (a : Int) : Prop := (a = -1 ∧ lget row i = none) ∨ ∃ k : Nat, ∃ hk : k < row.length, a = k ∧ lget row i = some row[k].2
theorem put_spec {h : Heap} {col : Nat → Nat} {R : RR} {M : RM} {i : Int} {K : Value → Heap → Prop} (X : RxC h col R M) (hK : ∀ a, AtR M.row i a → K (.int .i64 a) h) : C.boleref06_Txn_put (some ⟨R.rb, 0, none⟩) i h K := by
  have rm := X.rm
  refine boleref06_Txn_put.ok ⟨fun a k hh => ∃ j : Nat, k = j ∧ j ≤ M.row.length ∧ h = hh ∧ ((a = -1 ∧ lget (M.row.take j) i = none) ∨ ∃ k : Nat, ∃ hk : k < M.row.length, a = k ∧ lget (M.row.take j) i = some M.row[k].2), fun _ k _ => ((M.row.length : Int) - k).toNat,
    ⟨0, rfl, Nat.zero_le _, rfl, .inl ⟨rfl, rfl⟩⟩, ?_⟩
  rintro a k _ ⟨j, rfl, hj, rfl, ha⟩
  refine os ⟨_, _, _, rda X.rr rfl, cd (fun hl => ?_) fun hl => ?_⟩
  · have hl' : j < M.row.length := by omega
    obtain ⟨p, ep, cc⟩ := X.dcell hl'
    refine os ⟨_, _, _, rda X.rr rfl, ⟨by omega, hl⟩, oe ep ⟨_, Cells.cell cc rfl, ?_⟩⟩
    have es : lget (M.row.take (j + 1)) i = if M.row[j].1 = i then some M.row[j].2 else lget (M.row.take j) i := by rw [take_snoc _ _ hl', lget_snoc]
    have ew : IntKind.wrap .i64 ((j : Int) + 1) = ((j + 1 : Nat) : Int) := by rw [wrap_i64 (by omega) (by omega)]; omega
    rw [ew]
    refine ce (fun e => ⟨⟨j + 1, rfl, hl', rfl, .inr ⟨j, hl', rfl, by rw [es, if_pos e]⟩⟩, (by show ((M.row.length : Int) - ((j + 1 : Nat) : Int)).toNat < ((M.row.length : Int) - (j : Int)).toNat; omega)⟩) fun e => ⟨⟨j + 1, rfl, hl', rfl, ?_⟩, (by show ((M.row.length : Int) - ((j + 1 : Nat) : Int)).toNat < ((M.row.length : Int) - (j : Int)).toNat; omega)⟩
    rw [es, if_neg e]; exact ha
  · have e : j = M.row.length := by omega
    subst e
    rw [List.take_length] at ha
    exact hK a ha
theorem AtR.neg {row : List (Int × Txt)} {i a : Int} (x : AtR row i a) : a < 0 ↔ lget row i = none := by
  rcases x with ⟨rfl, e⟩ | ⟨k, hk, rfl, e⟩
  · exact ⟨fun _ => e, fun _ => by decide⟩
  · exact ⟨fun y => by omega, fun y => by rw [y] at e; cases e⟩
theorem dRead_spec {h : Heap} {col : Nat → Nat} {R : RR} {M : RM} {i : Int} {K : Value → Heap → Prop} (X : RxC h col R M) (h0 : 0 ≤ i) (h1 : i < M.N)
    (hK : ∀ a l c h', Fr No h h' → l = (if M.disk.down = true then ([] : Txt) else readAt M.disk i.toNat).length → Sl h' 1 a l c ((if M.disk.down = true then ([] : Txt) else readAt M.disk i.toNat).map bv) (From h.size) → K (.tuple #[.slice a l c, .int .i64 (if M.disk.down = true then 30 else 0)]) h') :
    C.boleref03_Disk_Read R.q i h K := by
  refine X.dk.read (fun ho => ?_) (fun _ y => absurd ⟨h0, h1⟩ y) fun ho _ _ a l c h' f s => ?_
  · rw [ho] at hK
    exact hK none 0 0 h (Fr.refl _ _) rfl (Sl.nil _ _ _)
  · rw [ho, if_neg (by simp), if_neg (by simp)] at hK
    exact hK a l c h' f (by have := s.1; rw [List.length_map] at this; omega) s
theorem Read_rspec {h : Heap} {F : Nat → Prop} {r e : Option Addr} {M : RM} {i : Int} {K : Value → Heap → Prop} (x : Rx h F r e M)
    (hK : ∀ a l c h', Fr No h h' → l = (M.read i).1.length → Sl h' 1 a l c ((M.read i).1.map bv) (From h.size) → K (.tuple #[.slice a l c, .int .i64 (M.read i).2]) h') : C.boleref06_Txn_Read r i h K := by
  obtain ⟨col, R, rfl, rfl, X, hF⟩ := x
  have bad : ∀ e, M.read i = ([], e) → K (.tuple #[.slice none 0 0, .int .i64 e]) h := fun e h2 => by
    rw [h2] at hK
    exact hK none 0 0 h (Fr.refl _ _) rfl (Sl.nil _ _ _)
  refine boleref06_Txn_Read.ok (os ⟨_, rda X.rr rfl, ?_⟩)
  cases he : M.ends with
  | true => exact ct rfl (bad _ (by unfold RM.read; rw [if_pos he]))
  | false =>
    have e0 : M.read i = if i < 0 ∨ i ≥ M.N then (([], 31) : Txt × Int) else match lget M.row i with
      | some b => (b, 0)
      | none => if M.disk.down = true then ([], 30) else (readAt M.disk i.toNat, 0) := by unfold RM.read; rw [if_neg (by rw [he]; simp)] <;> rfl
    refine cf rfl (cd (fun y => bad _ (by rw [e0, if_pos (.inl y)])) fun y0 => os ⟨_, rda X.rr rfl, Blocks_spec X ⟨_, rfl, cd (fun y => bad _ (by rw [e0, if_pos (.inr y)])) fun y1 => ?_⟩⟩)
    rw [if_neg (by omega)] at e0
    unfold boleref06_Txn_Read.k1
    refine put_spec X fun a ha => ⟨_, rfl, cd (fun y => ?_) fun y => ?_⟩
    · rcases ha with ⟨rfl, _⟩ | ⟨k, hk, rfl, eg⟩
      · exact absurd y (by decide)
      · rw [eg] at e0
        simp only at e0
        rw [e0] at hK
        obtain ⟨p, ep, cc⟩ := X.dcell hk
        refine os ⟨_, _, _, rda X.rr rfl, ⟨by omega, by omega⟩, oe ep ⟨_, Cells.cell cc rfl, newS_intro fun cap h5 f5 s5 => ?_⟩⟩
        exact hK _ _ cap h5 f5 rfl (s5.mono fun b hb => by have hb : b = h.size := hb; show h.size ≤ b; omega)
    · have eg : lget M.row i = none := ha.neg.mp (by omega)
      rw [eg] at e0
      simp only at e0
      refine os ⟨_, rda X.rr rfl, dRead_spec X (by omega) (by omega) fun a l c h6 f6 hl s6 => ⟨_, _, _, _, rfl, ?_⟩⟩
      rw [e0] at hK
      cases ho : M.disk.down with
      | true => rw [ho] at hK hl s6; exact hK a l c h6 f6 hl s6
      | false => rw [ho] at hK hl s6; exact hK a l c h6 f6 hl s6
theorem Mark_rspec {h : Heap} {F : Nat → Prop} {r e : Option Addr} {M : RM} {K : Value → Heap → Prop} (x : Rx h F r e M)
    (hK : K (.tuple #[.int .i64 (if M.ends = true then ((0 : Int), (61 : Int)) else ((M.row.length : Int), 0)).1, .int .i64 (if M.ends = true then ((0 : Int), (61 : Int)) else ((M.row.length : Int), 0)).2]) h) : C.boleref06_Txn_Mark r h K := by
  obtain ⟨col, R, rfl, rfl, X, hF⟩ := x
  refine boleref06_Txn_Mark.ok (os ⟨_, rda X.rr rfl, ?_⟩)
  cases he : M.ends with
  | true => rw [he] at hK; exact ct rfl hK
  | false => rw [he] at hK; exact cf rfl (os ⟨_, _, _, rda X.rr rfl, hK⟩)
end Go.Proofs.YtjdcbblgaoogmaaGreatDoor.Rx
namespace Go.Proofs.YtjdcbblgaoogmaaGreatDoor.Rx
open Go Go.Proofs Wx Hp W Ad Tm Spc Re
theorem app_from {elem : TI} {e : Nat} {a : Option Addr} {l c n : Nat} {xs new : List Value} {h0 h : Heap} {k : Option Addr → Nat → Nat → Heap → Prop} (f : Fr No h0 h)
    (s : Sl h elem.cells a l c xs (From h0.size)) (hn : new.length = n * elem.cells) (hz : elem.zero.length = elem.cells) (hb : (l + n) * elem.bytes ≤ 140737488355328) (hb' : l + n ≤ 140737488355328)
    (hk : ∀ a' c' h', Fr No h0 h' → Sl h' elem.cells a' (l + n) c' (xs ++ new) (From h0.size) → k a' (l + n) c' h') :
    AppendP elem e a l c n new h k := by
  have hs := f.size
  refine append_own s hn hz hb hb' fun a' c' h' f' s' => hk a' c' h' (f.trans f' fun b hb e => by have : h0.size ≤ b := e; omega) (s'.mono fun b hb => ?_)
  rcases hb with hb | hb
  · exact hb
  · show h0.size ≤ b; omega
theorem Written_xspec {h : Heap} {col : Nat → Nat} {R : RR} {M : RM} {K : Value → Heap → Prop} (X : RxC h col R M)
    (hK : ∀ a c h', Fr No h h' → Sl h' 1 a M.written.length c (M.written.map (.int .i64)) (From h.size) → K (.slice a M.written.length c) h') : C.boleref06_Txn_Written (some ⟨R.rb, 0, none⟩) h K := by
  have hNm := X.max
  refine boleref06_Txn_Written.ok ⟨fun a l c i hh => ∃ j : Nat, i = ((98 + j : Nat) : Int) ∧ j ≤ M.N - 98 ∧ Fr No h hh ∧ l = (keysTo M j).length ∧ Sl hh 1 a l c ((keysTo M j).map (.int .i64)) (From h.size) ∧ ((M.ends = true ∨ M.row = []) → keysTo M j = [] ∧ (M.ends = true → j = 0)), fun _ _ _ i _ => ((M.N : Int) - i).toNat,
    ⟨0, rfl, Nat.zero_le _, Fr.refl _ _, rfl, Sl.nil _ _ _, fun _ => ⟨rfl, fun _ => rfl⟩⟩, ?_⟩
  rintro a l c i h2 ⟨j, rfl, hj, f2, rfl, s2, hz⟩
  have X2 := X.keep f2 fun _ _ _ _ y => y
  have fin : M.written = keysTo M j → K (.slice a (keysTo M j).length c) h2 := fun e => by
    rw [e] at hK; exact hK a c h2 f2 s2
  refine os ⟨_, rda X2.rr rfl, Blocks_spec X2 ⟨_, rfl, cd (fun hl => os ⟨_, rda X2.rr rfl, cnot ?_⟩) fun hl => fin ?_⟩⟩
  · cases he : M.ends with
    | true => exact ct rfl (fin (by unfold RM.written; rw [if_pos he, (hz (.inl he)).1]))
    | false =>
      refine cf rfl (os ⟨_, _, _, rda X2.rr rfl, cd (fun hr => ?_) fun hr => fin ?_⟩)
      · unfold boleref06_Txn_Written.k1
        have ew : IntKind.wrap .i64 (((98 + j : Nat) : Int) + 1) = ((98 + (j + 1) : Nat) : Int) := by rw [wrap_i64 (by omega) (by omega)]; omega
        have es := keysTo_succ M j
        have me : ((M.N : Int) - ((98 + (j + 1) : Nat) : Int)).toNat < ((M.N : Int) - ((98 + j : Nat) : Int)).toNat := by omega
        have hne : ¬ (false = true ∨ M.row = []) := by
          rintro (y | y)
          · cases y
          · rw [y] at hr; exact absurd hr (by decide)
        refine put_spec X2 fun n2 ha => ⟨_, rfl, ?_⟩
        rw [ew]
        refine cd (fun y => ?_) fun y => ?_
        · have hs : (lget M.row ((98 + j : Nat) : Int)).isSome = true := by
            cases e : lget M.row ((98 + j : Nat) : Int) with
            | some b => rfl
            | none => have := ha.neg.mpr e; omega
          rw [if_pos hs] at es
          have hkl : (keysTo M j).length ≤ j := by
            have : (keysTo M j).length ≤ (List.range' 98 j).length := by unfold keysTo; rw [List.length_map]; exact List.length_filter_le ..
            rw [List.length_range'] at this; exact this
          refine New.intro fun h6 n6 => ⟨[.int .i64 ((98 + j : Nat) : Int)], rfl, cellsAll n6.rd, (fun v hv => by rw [List.mem_singleton.mp hv]; rfl), ?_⟩
          refine app_from (f2.new n6) (s2.fr n6.fr fun _ _ _ y => y) rfl rfl (by show (_ + 1) * 8 ≤ _; omega) (by omega) fun a' c' h7 f7 s7 => ⟨⟨j + 1, rfl, by omega, f7, by rw [es, List.length_append]; rfl, ?_, fun y => absurd y hne⟩, me⟩
          rw [es, List.map_append]; exact s7
        · have hs : ¬ (lget M.row ((98 + j : Nat) : Int)).isSome = true := by
            rw [ha.neg.mp (by omega)]; simp
          rw [if_neg hs, List.append_nil] at es
          exact ⟨⟨j + 1, rfl, by omega, f2, by rw [es], by rw [es]; exact s2, fun y => absurd y hne⟩, me⟩
      · have er : M.row = [] := by
          cases e : M.row with
          | nil => rfl
          | cons p r => rw [e] at hr; exact absurd (show (0 : Int) < ((r.length + 1 : Nat) : Int) by omega) hr
        have all : ∀ k, keysTo M k = [] := fun k => by
          cases e : keysTo M k with
          | nil => rfl
          | cons x r =>
            have : x ∈ keysTo M k := by rw [e]; exact List.mem_cons_self ..
            rw [mem_keysTo, er] at this
            exact absurd this.2.2 (by simp [lget])
        unfold RM.written
        rw [if_neg (by rw [he]; simp), all, all]
  · have ej : j = M.N - 98 := by omega
    unfold RM.written
    cases he : M.ends with
    | true => rw [if_pos rfl, (hz (.inl he)).1]
    | false => rw [if_neg (by simp), ej]
theorem Write_rspec {h : Heap} {F : Nat → Prop} {r e : Option Addr} {M : RM} {i : Int} {a : Option Addr} {l c : Nat} {bs : Txt} {K : Value → Heap → Prop} (x : Rx h F r e M) (B : StrAt h a l bs) (hu : M.ends = false → M.row.length < 1000000000)
    (hK : ∀ h' F', Fr F h h' → Gw h F h' F' → Rx h' F' r e (M.write i bs).1 → K (.int .i64 (M.write i bs).2) h') : C.boleref06_Txn_Write r i a l c h K := by
  have hlt := fun b hb => x.lt (b := b) hb
  obtain ⟨col, R, rfl, rfl, X, hF⟩ := x
  have bad : ∀ e h', Fr No h h' → M.write i bs = (M, e) → K (.int .i64 e) h' := fun e h' f h2 => by
    rw [h2] at hK
    exact hK h' F (f.mono fun _ _ y => y.elim) (Gw.refl f.size hlt) ⟨col, R, rfl, rfl, X.keep f fun _ _ _ _ y => y, hF⟩
  refine boleref06_Txn_Write.ok (os ⟨_, rda X.rr rfl, ?_⟩)
  cases he : M.ends with
  | true => exact ct rfl (bad _ h (Fr.refl _ _) (by unfold RM.write; rw [if_pos he]))
  | false =>
  have hu := hu he
  have e0 : M.write i bs = if i < 98 ∨ i ≥ M.N then (M, 31) else if bs.length ≠ 512 then (M, 32) else if lget M.row i = none ∧ M.written.length ≥ 96 then (M, 60) else ({ M with row := M.row ++ [(i, bs)] }, 0) := by unfold RM.write; rw [if_neg (by rw [he]; simp)]
  refine cf rfl (cd (fun y => bad _ h (Fr.refl _ _) (by rw [e0, if_pos (.inl y)])) fun y0 => os ⟨_, rda X.rr rfl, Blocks_spec X ⟨_, rfl, cd (fun y => bad _ h (Fr.refl _ _) (by rw [e0, if_pos (.inr y)])) fun y1 => ?_⟩⟩)
  rw [if_neg (by omega)] at e0
  have hbl := B.1
  unfold boleref06_Txn_Write.k1
  refine cn (fun y => bad _ h (Fr.refl _ _) (by rw [e0, if_pos (by omega)])) fun y => ?_
  rw [if_neg (by omega)] at e0
  refine put_spec X fun n2 ha => ⟨_, rfl, Written_xspec X fun wa wc h5 f5 sw => ⟨_, _, _, rfl, ?_⟩⟩
  have fin : ¬ (lget M.row i = none ∧ M.written.length ≥ 96) → boleref06_Txn_Write.k2 (some ⟨R.rb, 0, none⟩) i a l h5 K := fun hno => by
    rw [if_neg hno] at e0
    rw [e0] at hK
    have X5 := X.keep f5 fun _ _ _ _ y => y
    have z5 := f5.size
    have c1 := X.rc
    have hm := X.rm
    unfold boleref06_Txn_Write.k2
    refine os ⟨_, _, _, rda X5.rr rfl, bs, StrAt.fr f5 B fun _ _ y => y, rfl, New.intro fun h6 n6 => ⟨rda ((n6.at_ X5.ro.lt).trans X5.rr) rfl, dcell (i, bs), rfl, cellsAll n6.rd, dcell_one _, ?_⟩⟩
    have z6 := n6.size
    have nb : ∀ b, h6.size ≤ b → col b = 0 := fun b hb => X5.nrm b (by omega)
    have s6 : Sl h6 2 R.ra M.row.length R.rc (M.row.flatMap dcell) (On col 4) := X5.row.fr n6.fr fun _ _ _ y => y
    refine append_col (elem := ti190) s6 rfl rfl (by show (_ + 1) * 24 ≤ _; omega) (by omega) fun a' c' h7 f7 s7 => ?_
    have z7 := f7.size
    have l1 : R.rb < h6.size := by have := X5.ro.lt; omega
    have k1 : ¬ On col 4 R.rb := fun y => by have y : col R.rb = 4 := y; omega
    have o7 : Own h7 R.rb := f7.own l1 k1 (n6.ow X5.ro)
    have r7 : rd h7 R.rb = [.pointer R.q, .slice R.ra M.row.length R.rc, .bool M.ends] := (f7.rd l1 k1).trans ((n6.at_ X5.ro.lt).trans X5.rr)
    refine os (Put.add o7 (by rw [r7]; show 0 + 1 < 3; omega) fun h8 d8 => ?_)
    have z8 := d8.size
    obtain ⟨cl, ecl⟩ : ∃ cl, cl = trim (upd col h6.size 4) h7.size := ⟨_, rfl⟩
    have old : ∀ b, b < h6.size → cl b = col b := fun b hb => by rw [ecl, trim_lt (by omega), upd_lt hb]
    have new : ∀ b, h6.size ≤ b → b < h7.size → cl b = 4 := fun b h1 h2 => by rw [ecl, trim_lt h2, upd_ge h1]
    have top : ∀ b, h7.size ≤ b → cl b = 0 := fun b h1 => by rw [ecl, trim_ge h1]
    have f8 : Fr F h h8 := by
      have fa : Fr F h h6 := (f5.mono fun _ _ y => y.elim).new n6
      refine (fa.trans f7 fun b hb y => (hF b).mpr ?_).did d8 fun _ => (hF _).mpr ⟨by omega, by omega⟩
      have y : col b = 4 := y
      omega
    refine hK h8 (fun b => 1 ≤ cl b ∧ cl b ≤ 4) f8 ⟨fun b hb => by show 1 ≤ cl b ∧ cl b ≤ 4 ↔ F b; rw [old b (by omega), hF b], fun b hb => ?_⟩ ⟨cl, { R with ra := a', rc := c' }, rfl, rfl,
      ⟨fun b hb => top b (by omega), (old _ l1).trans c1, d8.own, ?_, ?_, ?_, ?_⟩, fun b => Iff.rfl⟩
    · rcases Nat.lt_or_ge b h7.size with y | y
      · omega
      · have := top b y; have hb : 1 ≤ cl b ∧ cl b ≤ 4 := hb; omega
    · show rd h8 R.rb = [.pointer R.q, .slice a' (M.row ++ [(i, bs)]).length c', .bool M.ends]
      rw [d8.rd, r7, List.length_append]; rfl
    · have x7 := (X5.dk.no n6.fr).fr f7 fun b y y2 => by have y : col b = 3 := y; have y2 : col b = 4 := y2; omega
      have x8 := x7.fr d8.fr fun b y y2 => by have y : col b = 3 := y; have y2 : b = R.rb := y2; rw [y2] at y; omega
      refine iffS x8 fun b => ?_
      show cl b = 3 ↔ col b = 3
      rcases Nat.lt_or_ge b h6.size with y | y
      · rw [old b y]
      · have e := nb b y
        rcases Nat.lt_or_ge b h7.size with y2 | y2
        · rw [new b y y2, e]; omega
        · rw [top b y2, e]
    · have e2 : (M.row ++ [(i, bs)]).flatMap dcell = M.row.flatMap dcell ++ dcell (i, bs) := by rw [List.flatMap_append]; rfl
      show Sl h8 2 a' (M.row ++ [(i, bs)]).length c' ((M.row ++ [(i, bs)]).flatMap dcell) (On cl 4)
      rw [e2, List.length_append]
      have s8 := (sl_rng s7).fr d8.fr fun b _ y y2 => by
        have y2 : b = R.rb := y2
        have y := y.1
        have y : upd col h6.size 4 b = 4 := y
        rw [y2, upd_lt l1] at y; omega
      refine s8.mono fun b hb => ?_
      have h1 : upd col h6.size 4 b = 4 := hb.1
      show cl b = 4
      rw [ecl, trim_lt hb.2]; exact h1
    · show (M.row ++ [(i, bs)]).length ≤ _
      rw [List.length_append]; show M.row.length + 1 ≤ _; omega
  refine cd (fun y => cd (fun y2 => bad _ h5 f5 ?_) fun y2 => fin ?_) fun y => fin ?_
  · rw [e0, if_pos ⟨ha.neg.mp y, by omega⟩]
  · rintro ⟨_, y3⟩; omega
  · rintro ⟨y3, _⟩; exact y (ha.neg.mpr y3)
theorem Back_rspec {h : Heap} {F : Nat → Prop} {r e : Option Addr} {M : RM} {m : Int} {K : Value → Heap → Prop} (x : Rx h F r e M)
    (hK : ∀ h' F', Fr F h h' → Gw h F h' F' → Rx h' F' r e (M.back m).1 → K (.int .i64 (M.back m).2) h') : C.boleref06_Txn_Back r m h K := by
  have hlt := fun b hb => x.lt (b := b) hb
  obtain ⟨col, R, rfl, rfl, X, hF⟩ := x
  have bad : ∀ e, M.back m = (M, e) → K (.int .i64 e) h := fun e h2 => by
    rw [h2] at hK
    exact hK h F (Fr.refl _ _) (Gw.refl (Nat.le_refl _) hlt) ⟨col, R, rfl, rfl, X, hF⟩
  refine boleref06_Txn_Back.ok (os ⟨_, rda X.rr rfl, ?_⟩)
  cases he : M.ends with
  | true => exact ct rfl (bad _ (by unfold RM.back; rw [if_pos he]))
  | false =>
  have e0 : M.back m = if m < 0 ∨ m > M.row.length then (M, 62) else ({ M with row := M.row.take m.toNat }, 0) := by unfold RM.back; rw [if_neg (by rw [he]; simp)]
  refine cf rfl (cd (fun y => bad _ (by rw [e0, if_pos (.inl y)])) fun y0 => os ⟨_, _, _, rda X.rr rfl, cd (fun y => bad _ (by rw [e0, if_pos (.inr y)])) fun y1 => ?_⟩)
  rw [if_neg (by omega)] at e0
  rw [e0] at hK
  have c1 := X.rc
  have hm := X.rm
  have cap := X.row.le
  have lt : (M.row.take m.toNat).length = m.toNat := by rw [List.length_take]; omega
  have l2 := flat_length dcell 2 (M.row.take m.toNat) fun _ _ => rfl
  unfold boleref06_Txn_Back.k1
  refine os ⟨_, _, _, rda X.rr rfl, ⟨by omega, by omega⟩, (M.row.take m.toNat).flatMap dcell, by rw [l2, lt], ?_, fun v hv => ?_, ?_⟩
  · have := SlCells.take X.row.cells (m.toNat * 2)
    rw [show (M.row.flatMap dcell).take (m.toNat * 2) = (M.row.take m.toNat).flatMap dcell from ?_] at this
    · exact this
    · have e1 : M.row.flatMap dcell = (M.row.take m.toNat).flatMap dcell ++ (M.row.drop m.toNat).flatMap dcell := by rw [← List.flatMap_append, List.take_append_drop]
      rw [e1, show m.toNat * 2 = ((M.row.take m.toNat).flatMap dcell).length by rw [l2, lt], List.take_left]
  · obtain ⟨p, _, hp⟩ := List.mem_flatMap.mp hv
    exact dcell_one p v hp
  refine append_nil (elem := ti190) (by rw [l2, lt]; rfl) rfl (by show _ * 24 ≤ _; omega) (by omega) fun a' c' h2 f2 s2 => ?_
  have z2 := f2.size
  have X2 := X.keep f2 fun _ _ _ _ y => y
  refine os (Put.add X2.ro (by rw [X2.rr]; show 0 + 1 < 3; omega) fun h3 d3 => ?_)
  have z3 := d3.size
  have r1 := X.ro.lt
  obtain ⟨cl, ecl⟩ : ∃ cl : Nat → Nat, cl = fun b => if b < h.size then (if col b = 4 then 2 else col b) else if b < h2.size then 4 else 0 := ⟨_, rfl⟩
  have old : ∀ b, b < h.size → cl b = if col b = 4 then 2 else col b := fun b hb => by rw [ecl]; show (if b < h.size then _ else _) = _; rw [if_pos hb]
  have new : ∀ b, h.size ≤ b → b < h2.size → cl b = 4 := fun b h1 h2' => by rw [ecl]; show (if b < h.size then _ else if b < h2.size then 4 else 0) = _; rw [if_neg (by omega), if_pos h2']
  have top : ∀ b, h2.size ≤ b → cl b = 0 := fun b h1 => by rw [ecl]; show (if b < h.size then _ else if b < h2.size then 4 else 0) = _; rw [if_neg (by omega), if_neg (by omega)]
  refine hK h3 (fun b => 1 ≤ cl b ∧ cl b ≤ 4) ((f2.mono fun _ _ y => y.elim).did d3 fun _ => (hF _).mpr ⟨by omega, by omega⟩) ⟨fun b hb => ?_, fun b hb => ?_⟩ ⟨cl, { R with ra := a', rc := c' }, rfl, rfl,
    ⟨fun b hb => top b (by omega), ?_, d3.own, ?_, ?_, ?_, ?_⟩, fun b => Iff.rfl⟩
  · show 1 ≤ cl b ∧ cl b ≤ 4 ↔ F b
    rw [old b hb, hF b]
    split <;> omega
  · have hb : 1 ≤ cl b ∧ cl b ≤ 4 := hb
    rcases Nat.lt_or_ge b h2.size with y | y
    · omega
    · have := top b y; omega
  · show cl R.rb = 1
    rw [old _ r1, if_neg (by omega)]; exact c1
  · show rd h3 R.rb = [.pointer R.q, .slice a' (M.row.take m.toNat).length c', .bool M.ends]
    rw [d3.rd, X2.rr, lt]; rfl
  · have x3 := X2.dk.fr d3.fr fun b y y2 => by have y : col b = 3 := y; have y2 : b = R.rb := y2; rw [y2] at y; omega
    refine iffS x3 fun b => ?_
    show cl b = 3 ↔ col b = 3
    rcases Nat.lt_or_ge b h.size with y | y
    · rw [old b y]; split <;> omega
    · have e := X.nrm b y
      rcases Nat.lt_or_ge b h2.size with y2 | y2
      · rw [new b y y2, e]; omega
      · rw [top b y2, e]
  · have s3 := (sl_rng s2).fr d3.fr fun b _ y y2 => by have y : h.size ≤ b := y.1; have y2 : b = R.rb := y2; omega
    show Sl h3 2 a' (M.row.take m.toNat).length c' ((M.row.take m.toNat).flatMap dcell) (On cl 4)
    rw [lt]
    exact s3.mono fun b hb => new b hb.1 hb.2
  · show (M.row.take m.toNat).length ≤ _
    omega
def RxS (h : Heap) (F : Nat → Prop) (r e : Option Addr) (T : TM) : Prop := ∃ M, Sim T M ∧ Rx h F r e M
theorem RxS.fr {h h' : Heap} {F G : Nat → Prop} {r e : Option Addr} {T : TM} (x : RxS h F r e T) (f : Fr G h h') (hG : ∀ b, F b → ¬ G b) : RxS h' F r e T := by
  obtain ⟨M, s, x⟩ := x; exact ⟨M, s, x.fr f hG⟩
theorem RxS.no {h h' : Heap} {F : Nat → Prop} {r e : Option Addr} {T : TM} (x : RxS h F r e T) (f : Fr No h h') : RxS h' F r e T := x.fr f fun _ _ y => y
theorem RxS.lt {h : Heap} {F : Nat → Prop} {r e : Option Addr} {T : TM} (x : RxS h F r e T) {b : Nat} (hb : F b) : b < h.size := by
  obtain ⟨M, s, x⟩ := x; exact x.lt hb
theorem Read_spec {h : Heap} {F : Nat → Prop} {r e : Option Addr} {T : TM} {i : Int} {K : Value → Heap → Prop} (x : RxS h F r e T)
    (hK : ∀ a l c h', Fr No h h' → l = (T.read i).1.length → Sl h' 1 a l c ((T.read i).1.map bv) (From h.size) → K (.tuple #[.slice a l c, .int .i64 (T.read i).2]) h') : C.boleref06_Txn_Read r i h K := by
  obtain ⟨M, s, x⟩ := x
  rw [← s.read i] at hK
  exact Read_rspec x hK
theorem Write_spec0 {h : Heap} {F : Nat → Prop} {r e : Option Addr} {T : TM} {i : Int} {a : Option Addr} {l c : Nat} {bs : Txt} {K : Value → Heap → Prop} (x : RxS h F r e T) (B : StrAt h a l bs) (hu : T.undo.length < 1000000000)
    (hK : ∀ h' F', Fr F h h' → Gw h F h' F' → RxS h' F' r e (T.write i bs).1 → K (.int .i64 (T.write i bs).2) h') : C.boleref06_Txn_Write r i a l c h K := by
  obtain ⟨M, s, x⟩ := x
  have w := s.write i bs
  refine Write_rspec x B (fun he => by rw [← s.un (by rw [← s.ends]; exact he)]; exact hu) fun h' F' f g x' => ?_
  rw [w.1]
  exact hK h' F' f g ⟨_, w.2, x'⟩
theorem Written_spec0 {h : Heap} {F : Nat → Prop} {r e : Option Addr} {T : TM} {K : Value → Heap → Prop} (x : RxS h F r e T)
    (hK : ∀ a c h', Fr No h h' → Sl h' 1 a T.written.length c (T.written.map (.int .i64)) (From h.size) → K (.slice a T.written.length c) h') : C.boleref06_Txn_Written r h K := by
  obtain ⟨M, s, col, R, rfl, rfl, X, hF⟩ := x
  rw [s.written] at hK
  exact Written_xspec X hK
theorem Mark_spec {h : Heap} {F : Nat → Prop} {r e : Option Addr} {T : TM} {K : Value → Heap → Prop} (x : RxS h F r e T) (hK : K (.tuple #[.int .i64 T.mark.1, .int .i64 T.mark.2]) h) : C.boleref06_Txn_Mark r h K := by
  obtain ⟨M, s, x⟩ := x
  rw [← s.mark] at hK
  exact Mark_rspec x hK
theorem Back_spec {h : Heap} {F : Nat → Prop} {r e : Option Addr} {T : TM} {m : Int} {K : Value → Heap → Prop} (x : RxS h F r e T)
    (hK : ∀ h' F', Fr F h h' → Gw h F h' F' → RxS h' F' r e (T.back m).1 → K (.int .i64 (T.back m).2) h') : C.boleref06_Txn_Back r m h K := by
  obtain ⟨M, s, x⟩ := x
  have w := s.back m
  refine Back_rspec x fun h' F' f g x' => ?_
  rw [w.1]
  exact hK h' F' f g ⟨_, w.2, x'⟩
theorem RxS.readLen {h : Heap} {F : Nat → Prop} {r e : Option Addr} {T : TM} (x : RxS h F r e T) {i : Int} (e0 : (T.read i).2 = 0) : (T.read i).1.length = 512 := by
  obtain ⟨M, s, col, R, rfl, rfl, X, hF⟩ := x
  have hN := s.N
  rw [← s.read i] at e0 ⊢
  unfold RM.read at e0 ⊢
  split at e0
  · cases e0
  · rename_i h1
    rw [if_neg h1]
    split at e0
    · cases e0
    · rename_i h2
      rw [if_neg h2]
      cases eg : lget M.row i with
      | some b => exact (s.rr _ (lget_mem rfl eg)).2.2
      | none =>
        rw [eg] at e0
        simp only at e0 ⊢
        split at e0
        · cases e0
        · rename_i h3
          rw [if_neg h3]
          exact Wd.RfS.readLen X.dk (by simpa using h3) (by have e : M.N = M.disk.lasts.length := rfl; omega)
end Go.Proofs.YtjdcbblgaoogmaaGreatDoor.Rx
namespace Go.Proofs.YtjdcbblgaoogmaaGreatDoor.Cr
open Go Go.Proofs Wx Hp W Su Re Hd
open Wc (Rs nb cellsR Row hdrOf)
theorem one6 {w : BitVec 32} {k : Int → Prop} (hK : k ((T w).toNat : Int)) : bif (Int.tmod (w.toNat : Int) 2) == 1 then k (bitsI .xor .u32 (IntKind.wrap .u32 (Int.tdiv (w.toNat : Int) 2)) 3988292384) else k (IntKind.wrap .u32 (Int.tdiv (w.toNat : Int) 2)) := by
  have hw := w.isLt
  have ed : Int.tdiv (w.toNat : Int) 2 = (((w >>> 1).toNat : Nat) : Int) := by
    rw [BitVec.toNat_ushiftRight, Nat.shiftRight_eq_div_pow, Int.tdiv_eq_ediv_of_nonneg (by omega)]; omega
  have em : Int.tmod (w.toNat : Int) 2 = ((w.toNat % 2 : Nat) : Int) := by rw [Int.tmod_eq_emod_of_nonneg (by omega)]; omega
  have hs := (w >>> 1).isLt
  have wr : IntKind.wrap .u32 (Int.tdiv (w.toNat : Int) 2) = (((w >>> 1).toNat : Nat) : Int) := by rw [ed, wrap_u32 ⟨by omega, by omega⟩]
  have bt : w.getLsbD 0 = decide (w.toNat % 2 = 1) := by rw [BitVec.getLsbD, Nat.testBit_zero]
  refine ce (fun hb => ?_) fun hb => ?_
  · rw [em] at hb
    have hb' : w.getLsbD 0 = true := by rw [bt]; exact decide_eq_true (by omega)
    rw [T, hb', cond_true] at hK
    have eP : (3988292384 : Int) = (P.toNat : Int) := by decide
    rw [wr, eP, xor_int]; exact hK
  · rw [em] at hb
    have hb' : w.getLsbD 0 = false := by rw [bt]; exact decide_eq_false (by omega)
    rw [T, hb', cond_false, BitVec.xor_zero] at hK
    rw [wr]; exact hK
theorem crc6_spec {a : Option Addr} {l c : Nat} {bs : List UInt8} {h : Heap} {K : Value → Heap → Prop} (B : StrAt h a l bs) (hl : l ≤ 140737488355328) (hK : K (.int .u32 (ofM bs)) h) : C.boleref06_crc a l c h K := by
  have hb := B.1
  refine boleref06_crc.ok ⟨fun v n hh => 0 ≤ n ∧ n ≤ l ∧ h = hh ∧ v = ((fb (bs.take n.toNat) M).toNat : Int), fun _ n _ => ((l : Int) - n).toNat, ⟨by omega, by omega, rfl, rfl⟩, ?_⟩
  rintro v n _ ⟨n0, n1, rfl, rfl⟩
  refine cd (fun hn => ?_) fun hn => ?_
  · have hn' : n.toNat < bs.length := by omega
    obtain ⟨p, rfl, c5⟩ : ∃ p, a = some p ∧ cellOf h (p.add n.toNat) = some (bv bs[n.toNat]) := by
      have c := B.2
      cases a with
      | none => have c : bs.map bv = [] := c; have := List.map_eq_nil_iff.mp c; rw [this] at hn'; exact absurd hn' (by simp)
      | some p => exact ⟨p, rfl, c n.toNat _ (by rw [List.getElem?_map, List.getElem?_eq_getElem hn']; rfl)⟩
    refine ⟨⟨n0, hn⟩, os ⟨_, c5, ?_⟩⟩
    have hbl : bs[n.toNat].toNat < 256 := bs[n.toNat].toNat_lt
    have e1 : IntKind.wrap .u32 (bs[n.toNat].toNat : Int) = ((BitVec.ofNat 32 bs[n.toNat].toNat).toNat : Int) := by
      rw [wrap_u32 ⟨by omega, by omega⟩, BitVec.toNat_ofNat, Nat.mod_eq_of_lt (by omega)]
    rw [e1, xor_int]
    refine ⟨fun w k hh => 0 ≤ k ∧ k ≤ ((8 : Nat) : Int) ∧ h = hh ∧ w = ((Tn k.toNat (fb (bs.take n.toNat) M ^^^ BitVec.ofNat 32 bs[n.toNat].toNat)).toNat : Int), fun _ k _ => (((8 : Nat) : Int) - k).toNat, ⟨by omega, by omega, rfl, rfl⟩, ?_⟩
    rintro w k _ ⟨k0, k1, rfl, rfl⟩
    refine cd (fun hk => ?_) fun hk => ?_
    · rw [wrap_i64 (n := k + 1) (by omega) (by omega)]
      refine one6 (k := fun x => (_ ∧ _ ∧ _ ∧ x = _) ∧ (((8 : Nat) : Int) - (k + 1)).toNat < (((8 : Nat) : Int) - k).toNat) ?_
      rw [Tn_succ, show k.toNat + 1 = (k + 1).toNat by omega]
      exact ⟨⟨by omega, by omega, rfl, rfl⟩, falls (m := 8) hk⟩
    · have e8 : k.toNat = 8 := by omega
      rw [e8, wrap_i64 (by omega) (by omega)]
      refine ⟨⟨by omega, by omega, rfl, ?_⟩, falls hn⟩
      rw [show (n + 1).toNat = n.toNat + 1 by omega, List.take_succ_eq_append_getElem hn', fb_append]
      have := step_bits (fb (bs.take n.toNat) M) bs[n.toNat]
      rw [step_word] at this
      rw [this]
      have e : allBits [bs[n.toNat]] = bitsOf bs[n.toNat] := by rw [allBits, List.flatMap_cons, List.flatMap_nil, List.append_nil]
      have e2 : ∀ x, fb [bs[n.toNat]] x = (bitsOf bs[n.toNat]).foldl g x := fun x => by rw [fb, e]
      rw [e2]
  · rw [List.take_of_length_le (by omega)]
    have em : (IntKind.max .u32) = (M.toNat : Int) := by decide
    rw [em, xor_int, ← of_fb]
    exact hK
theorem leB_snoc (n v : Nat) : Re.leBs (n + 1) v = Re.leBs n v ++ [UInt8.ofNat (v / 256 ^ n)] := by unfold Re.leBs; rw [List.range_succ, List.map_append]; rfl
theorem tm256 (x : Nat) : Int.tmod (x : Int) 256 = ((x % 256 : Nat) : Int) := by rw [Int.tmod_eq_emod_of_nonneg (by omega)]; omega
theorem td256 (x : Nat) : Int.tdiv (x : Int) 256 = ((x / 256 : Nat) : Int) := by rw [Int.tdiv_eq_ediv_of_nonneg (by omega)]; omega
theorem byte256 (x : Nat) : UInt8.ofNat (x % 256) = UInt8.ofNat x := by
  apply UInt8.toNat_inj.mp
  rw [UInt8.toNat_ofNat', UInt8.toNat_ofNat']; omega
theorem wrap_nat {x : Nat} (h : x ≤ 9223372036854775807) : IntKind.wrap .i64 (x : Int) = (x : Int) := wrap_i64 (by omega) (by omega)
theorem low6_spec {v m : Nat} {h : Heap} {K : Value → Heap → Prop} (hv : v ≤ 9223372036854775807) (hm : m ≤ 1000)
    (hK : ∀ a c h', Fr No h h' → Sl h' 1 a m c ((Re.leBs m v).map bv) (From h.size) → K (.slice a m c) h') : C.boleref06_low (v : Int) (m : Int) h K := by
  refine boleref06_low.ok ⟨fun n a l c i hh => ∃ k : Nat, i = k ∧ k ≤ m ∧ n = ((v / 256 ^ k : Nat) : Int) ∧ k = l ∧ Fr No h hh ∧ Sl hh 1 a k c ((Re.leBs k v).map bv) (From h.size), fun _ _ _ _ i _ => ((m : Int) - i).toNat,
    ⟨0, rfl, Nat.zero_le _, by rw [Nat.pow_zero, Nat.div_one], rfl, Fr.refl _ _, Sl.nil _ _ _⟩, ?_⟩
  rintro _ a _ c _ h2 ⟨k, rfl, hk, rfl, rfl, f, s⟩
  have hle : v / 256 ^ k ≤ v := Nat.div_le_self _ _
  refine cd (fun hlt => ?_) fun hlt => ?_
  · have ed : Int.tdiv ((v / 256 ^ k : Nat) : Int) 256 = ((v / 256 ^ (k + 1) : Nat) : Int) := by rw [td256, Nat.pow_succ, ← Nat.div_div_eq_div_mul]
    have hle2 : v / 256 ^ (k + 1) ≤ v := Nat.div_le_self _ _
    refine New.intro fun h3 n3 => ⟨[bv (UInt8.ofNat (v / 256 ^ k))], rfl, cellsAll (by rw [n3.rd, tm256, bv_nat, byte256]), bv_one [UInt8.ofNat (v / 256 ^ k)], append_from (f.new n3) (s.fr n3.fr fun _ _ _ y => y) rfl rfl (by show (k + 1) * 1 ≤ _; omega) (by omega) fun a' c' h4 f4 s4 => ?_⟩
    rw [ed, wrap_nat (Nat.le_trans hle2 hv), wrap_i64 (n := (k : Int) + 1) (by omega) (by omega)]
    refine ⟨⟨k + 1, rfl, by omega, rfl, rfl, f4, ?_⟩, falls hlt⟩
    rw [leB_snoc, List.map_append]; exact s4
  · have : k = m := by omega
    subst this
    exact hK a c h2 f s
theorem low6I {n : Int} {m : Nat} {h : Heap} {K : Value → Heap → Prop} (h0 : 0 ≤ n) (hv : n ≤ 9223372036854775807) (hm : m ≤ 1000)
    (hK : ∀ a c h', Fr No h h' → Sl h' 1 a m c ((Re.leBs m n.toNat).map bv) (From h.size) → K (.slice a m c) h') : C.boleref06_low n (m : Int) h K := by
  obtain ⟨v, rfl⟩ := Int.eq_ofNat_of_zero_le h0
  exact low6_spec (by omega) hm hK
theorem flat4_length (ns : List Int) : (flat4 ns).length = 4 * ns.length := by
  induction ns with
  | nil => rfl
  | cons a r ih =>
    have e : flat4 (a :: r) = Re.leBs 4 a.toNat ++ flat4 r := rfl
    rw [e, List.length_append, leB_length, ih, List.length_cons]; omega
theorem row_keep {n0 : Nat} {h h' : Heap} {a : Option Addr} {l c : Nat} {xs : List Value} (s : Sl h 1 a l c xs (From n0)) : Row n0 h (fun b => n0 ≤ b ∧ b < h.size) 1 a l c xs := by
  refine ⟨(Rx.sl_rng s).mono fun b hb => hb, fun b hb => hb⟩
def front12 (l : Nat) : List UInt8 := magicL ++ Re.leBs 2 l ++ zeros 2
theorem front12_len (l : Nat) : (front12 l).length = 12 := by simp only [front12, List.length_append, leB_length, zeros_length]; rfl
theorem Header6_spec {h : Heap} {a : Option Addr} {c : Nat} {rs : Rs} {K : Value → Heap → Prop} (b : Wd.Bx h a rs) (hl : rs.length ≤ 96) (hx : ∀ r ∈ rs, 0 ≤ r.1 ∧ r.1 < 4294967296) (h5 : ∀ r ∈ rs, r.2.2.length = 512)
    (hK : ∀ a' c' h', Fr No h h' → Sl h' 1 a' 512 c' ((hdrOf (nb rs)).map bv) (From h.size) → K (.slice a' 512 c') h') : C.boleref06_Header a rs.length c h K := by
  refine boleref06_Header.ok (New.intro fun h2 n2 => ?_)
  have hs2 := n2.size
  refine MarkAt.intro (low6_spec (v := rs.length) (m := 2) (by omega) (by decide) fun la lc h4 f4 s4 => ⟨_, _, _, rfl, ?_⟩)
  have hs3 : (markH h2 (Addr.block ⟨h.size, 0, none⟩)).size = h.size + 1 := by rw [markH_size, hs2]
  have F3 : Fr No h (markH h2 (Addr.block ⟨h.size, 0, none⟩)) := Fr.markH n2.fr (Or.inr (Nat.le_refl _))
  have F4 := F3.no f4
  have z4 := f4.size
  have r4 : rd h4 h.size = magicL.map bv := by
    rw [f4.rd (by omega) fun y => y, markH_rd, n2.rd]; rfl
  have m8 : SlCells h4 (some ⟨h.size, 0, none⟩) (magicL.map bv) := cellsAll r4
  refine ⟨(Re.leBs 2 rs.length).map bv, by rw [List.length_map, leB_length], s4.cells, bv_one _, append_grow (old := magicL.map bv) rfl m8 (by rw [List.length_map, leB_length]; rfl) rfl (by decide) (by decide) (by decide) fun c5 h5' f5 s5 => ?_⟩
  have F5 := F4.no f5
  refine New.intro fun h6 n6 => ?_
  have F6 := F5.new n6
  have s5' : Sl h5' 1 (some ⟨h4.size, 0, none⟩) 10 c5 ((magicL ++ Re.leBs 2 rs.length).map bv) (From h.size) := by
    have := s5.mono (G := From h.size) fun b hb => by show h.size ≤ b; omega
    rw [← List.map_append] at this; exact this
  refine ⟨(zeros 2).map bv, rfl, cellsAll n6.rd, bv_one _, append_from F6 (s5'.fr n6.fr fun _ _ _ y => y) rfl rfl (by decide) (by decide) fun fa fc h7 F7 s7 => ?_⟩
  rw [← List.map_append] at s7
  have s7 : Sl h7 1 fa 12 fc ((front12 rs.length).map bv) (From h.size) := s7
  clear s5 s5' s4 m8 r4 F3 F4 F5 F6 f4 f5 n6 n2
  have z7 := F7.size
  have RFr : Row h.size h7 (fun b => h.size ≤ b ∧ b < h7.size) 1 fa 12 fc ((front12 rs.length).map bv) := row_keep (h' := h7) s7
  refine ⟨fun ba bl bc da dl dc n hh => ∃ i : Nat, n = i ∧ i ≤ rs.length ∧ 4 * i = bl ∧ 512 * i = dl ∧ Fr No h7 hh ∧ ∃ F G, Row h7.size hh F 1 ba (4 * i) bc ((flat4 ((rs.take i).map (·.1))).map bv) ∧ Row h7.size hh G 1 da (512 * i) dc ((((rs.take i).map (·.2.2)).flatten).map bv) ∧ ∀ b, F b → ¬ G b, fun _ _ _ _ _ _ n _ => ((rs.length : Int) - n).toNat,
    ⟨0, rfl, Nat.zero_le _, rfl, rfl, Fr.refl _ _, No, No, Row.nil _ _ _, Row.nil _ _ _, fun _ y => y.elim⟩, ?_⟩
  rintro ba _ bc da _ dc _ h8 ⟨i, rfl, hi, rfl, rfl, f8, F, G, RF, RG, dis⟩
  have z8 := f8.size
  refine cd (fun hlt => ?_) fun hlt => ?_
  · have hi' : i < rs.length := by omega
    obtain ⟨p, ep, cp⟩ := ((b.no F7).no f8).get hi'
    have B0 := (b.ok _ (List.getElem_mem hi'))
    have x0 := hx _ (List.getElem_mem hi')
    have x5 := h5 _ (List.getElem_mem hi')
    have el : rs[i].2.1.l = 512 := by have := B0.1; omega
    rw [Int.toNat_natCast, wrap_i64 (n := (i : Int) + 1) (by omega) (by omega)]
    refine ⟨⟨by omega, hlt⟩, Rz.oe ep ⟨_, rfl, cp, NewRow.intro rfl (Wc.cellsR_one _) rfl fun h10 n10 => ⟨_, cellsAll n10.rd 0 _ rfl, ?_⟩⟩⟩
    have z10 := n10.size
    refine low6I (n := rs[i].1) (m := 4) x0.1 (by omega) (by decide) fun la lc h11 f11 s11 => ⟨_, _, _, rfl, _, by rw [List.length_map, leB_length], s11.cells, bv_one _, ?_⟩
    have z11 := f11.size
    have q := n10.fr.no f11
    have R1 := RF.keep q fun _ _ y => y
    refine Wd.row_bytes R1 (n := 4) (by rw [List.length_map, leB_length]) rfl rfl rfl (by omega) (by omega) fun ba' bc' h12 F12 f12 g12 R12 => ?_
    have z12 := f12.size
    have G2 := (RG.keep q fun _ _ y => y).keep f12 fun x hx y => dis x y hx
    have f12' : Fr No h7 h12 := (f8.no q).trans f12 fun x hx y => by have := (R1.ge x y).1; omega
    have x12 : cellOf h12 (Addr.add ⟨h8.size, 0, none⟩ 1) = some rs[i].2.1.v := by
      have e : rd h12 h8.size = cellsR rs[i] := by
        rw [f12.rd (by omega) (fun y => by have := (RF.ge _ y).2; omega), f11.rd (by omega) fun y => y]; exact n10.rd
      exact cellsAll e 1 _ rfl
    have B12 := ((b.no F7).no f12').ok _ (List.getElem_mem hi')
    obtain ⟨q1, q2, q3⟩ := StrAt.src B12
    have dis2 : ∀ x, F12 x → ¬ G x := fun x hx y => by
      rcases g12 x hx with w | w
      · exact dis x w y
      · have := (RG.ge x y).2; omega
    refine ⟨_, _, _, x12, _, q1, q2, q3, Wd.row_bytes G2 (by rw [q1, Nat.mul_one]) rfl rfl rfl (by omega) (by omega) fun da' dc' h13 G13 f13 g13 R13 => ?_⟩
    have z13 := f13.size
    have f13' : Fr No h7 h13 := f12'.trans f13 fun x hx y => by have := (RG.ge x y).1; omega
    refine ⟨⟨i + 1, rfl, by omega, by omega, by omega, f13', F12, G13, ?_, ?_, fun x hx y => ?_⟩, falls hlt⟩
    · have e2 : flat4 ((rs.take (i + 1)).map (·.1)) = flat4 ((rs.take i).map (·.1)) ++ Re.leBs 4 rs[i].1.toNat := by
        rw [Ad.take_snoc _ _ hi', List.map_append]
        simp only [flat4, List.flatMap_append, List.map_cons, List.map_nil, List.flatMap_cons, List.flatMap_nil, List.append_nil]
      rw [e2, List.map_append, show 4 * (i + 1) = 4 * i + 4 by omega]
      exact R12.keep f13 fun x hx y => dis2 x hx y
    · have e2 : ((rs.take (i + 1)).map (·.2.2)).flatten = ((rs.take i).map (·.2.2)).flatten ++ rs[i].2.2 := by
        rw [Ad.take_snoc _ _ hi', List.map_append, List.flatten_append]
        simp only [List.map_cons, List.map_nil, List.flatten_cons, List.flatten_nil, List.append_nil]
      rw [e2, List.map_append, show 512 * (i + 1) = 512 * i + rs[i].2.1.l by omega]
      exact R13
    · rcases g13 x y with w | w
      · exact dis2 x hx w
      · have := (R12.ge x hx).2; omega
  have ei : i = rs.length := by omega
  subst ei
  rw [List.take_length] at RF RG
  obtain ⟨ns, ens⟩ : ∃ ns, ns = rs.map (·.1) := ⟨_, rfl⟩
  obtain ⟨ds, eds⟩ : ∃ ds, ds = rs.map (·.2.2) := ⟨_, rfl⟩
  have nl : ns.length = rs.length := by rw [ens, List.length_map]
  have dsl : ds.length = rs.length := by rw [eds, List.length_map]
  rw [← ens] at RF
  rw [← eds] at RG
  have dfl : ds.flatten.length = 512 * rs.length := by
    rw [Wd.flat_512 _ fun y hy => by
      rw [eds] at hy
      obtain ⟨r, hr, rfl⟩ := List.mem_map.mp hy
      exact h5 r hr, dsl]; omega
  refine ⟨fun b9 l9 c9 hh => 4 * rs.length ≤ l9 ∧ l9 ≤ 496 ∧ Fr No h7 hh ∧ ∃ F, Row h7.size hh F 1 b9 l9 c9 ((flat4 ns ++ zeros (l9 - 4 * rs.length)).map bv) ∧ Row h7.size hh G 1 da (512 * rs.length) dc (ds.flatten.map bv) ∧ ∀ b, F b → ¬ G b, fun _ l9 _ _ => 496 - l9, ⟨by omega, by omega, f8, F, ?_, RG, dis⟩, ?_⟩
  · rw [Nat.sub_self]
    rw [show zeros 0 = [] from rfl, List.append_nil]; exact RF
  clear RF RG dis
  intro b9 l9 c9 h9 I9
  obtain ⟨k0, k1, f9, F9, RF, RG, dis⟩ := I9
  have z9 := f9.size
  have ew : IntKind.wrap .i64 (IntKind.wrap .i64 (((12 : Nat) : Int) + 4) + (l9 : Int)) = 16 + (l9 : Int) := by
    rw [wrap_i64 (n := ((12 : Nat) : Int) + 4) (by omega) (by omega), wrap_i64 (by omega) (by omega)]; omega
  rw [ew]
  generalize hq : decide (16 + (l9 : Int) < 512) = q
  refine cs (fun hk => ?_) fun hk => ?_
  · have hk := of_decide_eq_true (hq.trans hk)
    refine New.intro fun h10 n10 => ⟨[bv 0], rfl, cellsAll n10.rd, bv_one [0], ?_⟩
    have z10 := n10.size
    have R1 := RF.keep n10.fr fun _ _ y => y
    have G1 := RG.keep n10.fr fun _ _ y => y
    refine Wd.row_bytes R1 (n := 1) rfl rfl rfl rfl (by omega) (by omega) fun b11 c11 h11 F11 f11 g11 R11 => ?_
    have z11 := f11.size
    refine ⟨⟨by omega, by omega, (f9.new n10).trans f11 fun x hx y => by have := (R1.ge x y).1; omega, F11, ?_, G1.keep f11 fun x hx y => dis x y hx, fun x hx y => ?_⟩, by show 496 - (l9 + 1) < 496 - l9; omega⟩
    · rw [show l9 + 1 - 4 * rs.length = (l9 - 4 * rs.length) + 1 by omega, zeros_add, ← List.append_assoc, List.map_append]
      exact R11
    · rcases g11 x hx with w | w
      · exact dis x w y
      · have := (G1.ge x y).2; omega
  have hk := of_decide_eq_false (hq.trans hk)
  have e9 : l9 = 496 := by omega
  subst e9
  obtain ⟨back, eb⟩ : ∃ back, back = flat4 ns ++ zeros (496 - 4 * rs.length) := ⟨_, rfl⟩
  rw [← eb] at RF
  have bl : back.length = 496 := by rw [eb, List.length_append, flat4_length, zeros_length, nl]; omega
  have RF0 := (RFr.keep f9 fun _ _ y => y).s
  refine ⟨_, by rw [List.length_map, front12_len], RF0.cells, bv_one _, append_nil (by rw [List.length_map, front12_len]; rfl) rfl (by decide) (by decide) fun a10 c10 h10 f10 s10 => ?_⟩
  refine New.intro fun h11 n11 => ⟨(zeros 4).map bv, rfl, cellsAll n11.rd, bv_one _, append_from (f10.new n11) (s10.fr n11.fr fun _ _ _ y => y) rfl rfl (by decide) (by decide) fun a12 c12 h12 f12 s12 => ?_⟩
  have RB12 := (RF.keep f12 fun _ _ y => y).s
  refine ⟨_, by rw [List.length_map, bl], RB12.cells, bv_one _, append_from f12 s12 (by rw [List.length_map, bl]; rfl) rfl (by decide) (by decide) fun a13 c13 h13 f13 s13 => ?_⟩
  have RD13 := (RG.keep f13 fun _ _ y => y).s
  refine ⟨_, by rw [List.length_map, dfl, Nat.mul_one], RD13.cells, bv_one _, append_from f13 s13 (by rw [List.length_map, dfl]; show _ = _ * 1; omega) rfl (by show (512 + 512 * rs.length) * 1 ≤ _; omega) (by omega) fun a14 c14 h14 f14 s14 => ?_⟩
  have eall : front12 rs.length ++ zeros 4 ++ back ++ ds.flatten = laidM ns 0 ++ ds.flatten := by
    rw [eb, ← leB_zero]
    unfold front12 laidM
    rw [nl]
    simp only [List.append_assoc]
  rw [← List.map_append, ← List.map_append, ← List.map_append, eall] at s14
  have esum : ofM (laidM ns 0 ++ ds.flatten) = sumM (laidM ns 0) ds := by
    have e := sum_flat (laidM ns 0) ds (fun d hd => by
      rw [eds] at hd
      obtain ⟨r, hr, rfl⟩ := List.mem_map.mp hd
      rw [h5 r hr]; decide)
    rw [laid_put] at e
    exact e.symm
  have us := sum_range (laidM ns 0) ds
  obtain ⟨u0, u1⟩ := us
  refine crc6_spec s14.str (by omega) ⟨_, rfl, ?_⟩
  rw [esum, wrap_i64 (n := sumM (laidM ns 0) ds) (by omega) (by omega)]
  refine low6I (m := 4) u0 (by omega) (by decide) fun a15 c15 h15 f15 s15 => ⟨_, _, _, rfl, _, by rw [List.length_map, leB_length], s15.cells, bv_one _, ?_⟩
  have z14 := f14.size
  have z15 := f15.size
  have f9' : Fr No h h15 := ((F7.no f9).no f14).no f15
  have RB15 := ((RF.keep f14 fun _ _ y => y).keep f15 fun _ _ y => y)
  have RF15 := ((RFr.keep f9 fun _ _ y => y).keep f14 fun _ _ y => y).keep f15 fun _ _ y => y
  refine Wd.row_bytes RF15 (n := 4) (by rw [List.length_map, leB_length]) rfl rfl rfl (by omega) (by have := F7.size; omega) fun a16 c16 h16 F16 f16 g16 R16 => ?_
  have z16 := f16.size
  have RB16 := (RB15.keep f16 fun x hx y => by have := (RF15.ge x y).2; have := (RF.ge x hx).1; omega).s
  refine ⟨_, by rw [List.length_map, bl], RB16.cells, bv_one _, ?_⟩
  refine Wd.row_bytes R16 (n := 496) (by rw [List.length_map, bl]) rfl rfl rfl (by omega) (by have := F7.size; omega) fun a17 c17 h17 F17 f17 g17 R17 => ?_
  have F16' : Fr No h h16 := f9'.trans f16 fun x hx y => by have := (RF15.ge x y).1; omega
  refine hK a17 c17 h17 (F16'.trans f17 fun x hx y => by have := (R16.ge x y).1; omega) ?_
  have eh : hdrOf (nb rs) = front12 rs.length ++ Re.leBs 4 (sumM (laidM ns 0) ds).toNat ++ back := by
    unfold hdrOf
    rw [Wd.rs_ns, Wd.rs_ds, ← ens, ← eds, eb]
    have e : ∀ s, laidM ns s = front12 ns.length ++ Re.leBs 4 s ++ (flat4 ns ++ zeros (496 - 4 * ns.length)) := fun s => by
      unfold laidM front12
      simp only [List.append_assoc]
    refine (e _).trans ?_
    rw [nl]
  rw [eh, List.map_append, List.map_append]
  exact R17.s.mono fun x hx => (R17.ge x hx).1
end Go.Proofs.YtjdcbblgaoogmaaGreatDoor.Cr
namespace Go.Proofs.YtjdcbblgaoogmaaGreatDoor.Wd
open Go Go.Proofs Wx Hp W Ad Wc Rf
open L3 (Tt)
theorem EsT.grow {h h' : Heap} {E F F' : Nat → Prop} {es : List Ent} {ts : List Tt} (T : EsT h (fun b => E b ∨ F b) es ts) (f : Fr F h h') (g : ∀ b, F' b → F b ∨ h.size ≤ b) : EsT h' (fun b => E b ∨ F' b) es ts := by
  refine ⟨T.len, fun i h1 h2 => ?_⟩
  obtain ⟨a, b, c, d⟩ := T.at_ i h1 h2
  refine ⟨a, b, str_keep c f fun p e hl _ y => d p e hl (.inr y), fun p e hl y => ?_⟩
  rcases y with y | y
  · exact d p e hl (.inl y)
  · rcases g _ y with w | w
    · exact d p e hl (.inr w)
    · rw [e] at c; have := str_lt c hl; omega
theorem rep8 (m : Nat) : repCells z5 m = (Hd.zeros m).map bv := by
  unfold Hd.zeros
  rw [List.map_replicate, repCells_eq]
  show (List.replicate m [Value.int .u8 0]).flatten = List.replicate m (bv 0)
  induction m with
  | zero => rfl
  | succ m ih => rw [List.replicate_succ, List.flatten_cons, ih, List.replicate_succ]; rfl
theorem nb_at (rs : Rs) {i : Nat} (h : i < rs.length) : (nb rs).take (i + 1) = (nb rs).take i ++ [(rs[i].1, rs[i].2.2)] := by
  rw [take_snoc _ _ (by unfold nb; rw [List.length_map]; exact h), nb_get rs h]
theorem take6_spec {h : Heap} {E : Nat → Prop} {r : Option Addr} {D : RD} {a : Option Addr} {es : List Ent} {ts : List Tt} {K : Value → Heap → Prop} (x : RfS h E r D) (R : SlCells h a (es.flatMap Ent.cells)) (off : ∀ p, a = some p → p.block < h.size ∧ ¬ E p.block) (t : EsT h E es ts)
    (hl : es.length < 100000) (hbl : ∀ i (hi : i < es.length), es[i].l ≤ 140737488355328) (ht : D.tape.length + es.length < 1000000000)
    (hK : ∀ h' E', Fr E h h' → Gw h E h' E' → RfS h' E' r (runS (ts.map stp) D).1 → K (.int .i64 (runS (ts.map stp) D).2) h') :
    ∃ (I3 : Int → Heap → Prop) (M3 : Int → Heap → Nat), I3 0 h ∧
      ∀ (n4 : Int), ∀ h20 : Heap, I3 n4 h20 →
      bif (decide (n4 < (es.length : Int))) then (
      (0 ≤ n4 ∧ n4 < (es.length : Int)) ∧
      onSome a fun p3 =>
      ∃ cs7 : List Value, List.length cs7 = 3 ∧ Cells h20 (Addr.add p3 ((Int.toNat n4) * 3)) cs7 ∧
      NewRow z122 122 cs7 3 h20 fun h22 =>
      ∃ (n5 : Int), cellOf h22 (Addr.add ⟨h20.size, 0, none⟩ 0) = some (.int .i64 n5) ∧
      bif (n5 == 1) then (
      ∃ (n6 : Int), cellOf h22 (Addr.add ⟨h20.size, 0, none⟩ 1) = some (.int .i64 n6) ∧
      ∃ (sA8 : Option Addr) (sL8 : Nat) (sC8 : Nat), cellOf h22 (Addr.add ⟨h20.size, 0, none⟩ 2) = some (.slice sA8 sL8 sC8) ∧
      C.boleref03_Disk_Write r n6 sA8 sL8 sC8 h22 fun r2 h23 =>
      ∃ (n7 : Int), r2 = .int .i64 n7 ∧
      bif (n7 != 0) then (
      K (.int .i64 n7) h23) else (
      I3 (IntKind.wrap .i64 (n4 + 1)) h23 ∧ M3 (IntKind.wrap .i64 (n4 + 1)) h23 < M3 n4 h20)) else (
      C.boleref03_Disk_Flush r h22 fun r3 h24 =>
      ∃ (n8 : Int), r3 = .int .i64 n8 ∧
      bif (n8 != 0) then (
      K (.int .i64 n8) h24) else (
      I3 (IntKind.wrap .i64 (n4 + 1)) h24 ∧ M3 (IntKind.wrap .i64 (n4 + 1)) h24 < M3 n4 h20))) else (
      K (.int .i64 0) h20) := by
  refine ⟨fun m hh => ∃ n : Nat, m = n ∧ n ≤ es.length ∧ ∃ E' D', RfS hh E' r D' ∧ Fr E h hh ∧ Gw h E hh E' ∧ D'.tape.length ≤ D.tape.length + n ∧ runS (ts.map stp) D = runS ((ts.drop n).map stp) D', fun m _ => ((es.length : Int) - m).toNat,
    ⟨0, rfl, Nat.zero_le _, E, D, x, Fr.refl _ _, Gw.refl (Nat.le_refl _) (fun b hb => x.lt hb), Nat.le_refl _, rfl⟩, ?_⟩
  rintro _ h2 ⟨n, rfl, hn, E', D', x', f, g, t1, e⟩
  refine cd (fun hlt => ?_) fun hlt => ?_
  · have hi : n < es.length := by omega
    have hi2 : n < ts.length := by rw [← t.len]; exact hi
    obtain ⟨p, ep, cp⟩ := ent_cell (SlCells.fr f R fun p e => (off p e).2) hi
    have hb := hbl n hi
    rw [Int.toNat_natCast, wrap_i64 (n := (n : Int) + 1) (by omega) (by omega)]
    have hd : (ts.drop n).map stp = stp ts[n] :: (ts.drop (n + 1)).map stp := by rw [List.drop_eq_getElem_cons hi2]; rfl
    have er : runS (ts.map stp) D = if ((stp ts[n]).on D').2 = 0 then runS ((ts.drop (n + 1)).map stp) ((stp ts[n]).on D').1 else (stp ts[n]).on D' := by rw [e, hd]; rfl
    refine ⟨⟨by omega, hlt⟩, Rz.oe ep ⟨_, rfl, cp, NewRow.intro rfl (fun v hv => by
      unfold Ent.cells at hv
      simp only [List.mem_cons, List.not_mem_nil, or_false] at hv
      rcases hv with rfl | rfl | rfl <;> rfl) rfl fun h4 n4 => ⟨_, cellsAll n4.rd 0 _ rfl, ?_⟩⟩⟩
    have z4 := n4.size
    have x4 := x'.no n4.fr
    have f4 : Fr E h h4 := f.new n4
    have g4 : Gw h E h4 E' := ⟨g.old, fun b y => by have := g.lt b y; omega⟩
    obtain ⟨k1, k2, k3, k4⟩ := (t.step f4 g4).at_ n hi hi2
    refine ce (fun h1 => ⟨_, cellsAll n4.rd 1 _ rfl, _, _, _, cellsAll n4.rd 2 _ rfl, ?_⟩) fun h1 => ?_
    · have es1 : stp ts[n] = .w ts[n].2.1 ts[n].2.2 := by unfold stp; rw [if_pos (by rw [← k1]; exact h1)]
      rw [es1] at er
      rw [k2]
      refine x4.write k3 hb (by omega) fun h3 E3 f3 g3 x3 => ⟨_, rfl, ?_⟩
      have F3 : Fr E h h3 := f4.trans f3 fun b hb y => (g.old b hb).mp y
      have G3 := g4.trans g3 f4.size
      refine cn (fun hne => ?_) fun h0 => ⟨⟨n + 1, rfl, by omega, E3, _, x3, F3, G3, ?_, ?_⟩, falls hlt⟩
      · have er : runS (ts.map stp) D = D'.write ts[n].2.1 ts[n].2.2 := er.trans (if_neg hne)
        rw [er] at hK
        exact hK h3 E3 F3 G3 x3
      · have := (write_len D' (.w ts[n].2.1 ts[n].2.2)).1
        have this : (D'.write ts[n].2.1 ts[n].2.2).1.tape.length ≤ D'.tape.length + 1 := this
        omega
      · exact er.trans (if_pos h0)
    · have es1 : stp ts[n] = .f := by unfold stp; rw [if_neg (by rw [← k1]; exact h1)]
      rw [es1] at er
      refine x4.flush (by omega) fun h3 E3 f3 g3 x3 => ⟨_, rfl, ?_⟩
      have F3 : Fr E h h3 := f4.trans f3 fun b hb y => (g.old b hb).mp y
      have G3 := g4.trans g3 f4.size
      refine cn (fun hne => ?_) fun h0 => ⟨⟨n + 1, rfl, by omega, E3, _, x3, F3, G3, ?_, ?_⟩, falls hlt⟩
      · have er : runS (ts.map stp) D = D'.flush := er.trans (if_neg hne)
        rw [er] at hK
        exact hK h3 E3 F3 G3 x3
      · have := (write_len D' .f).1
        have this : D'.flush.1.tape.length ≤ D'.tape.length + 1 := this
        omega
      · exact er.trans (if_pos h0)
  · have en : n = ts.length := by have := t.len; omega
    rw [en, List.drop_length] at e
    have e : runS (ts.map stp) D = (D', 0) := e
    rw [e] at hK
    exact hK h2 E' f g x'
theorem Commit6_spec {h : Heap} {E : Nat → Prop} {r : Option Addr} {D : RD} {a : Option Addr} {c : Nat} {rs : Rs} {K : Value → Heap → Prop} (x : RfS h E r D) (b : Bx h a rs) (off : ∀ r ∈ rs, ∀ p, r.2.1.a = some p → r.2.1.l ≠ 0 → ¬ E p.block)
    (hm : rs ≠ [] → mayW (nb rs) D.lasts.length = true) (h5 : ∀ r ∈ rs, r.2.2.length = 512) (hx : ∀ r ∈ rs, 0 ≤ r.1 ∧ r.1 < 4294967296) (ht : D.tape.length < 100000000)
    (hK : ∀ h' E', Fr E h h' → Gw h E h' E' → RfS h' E' r (wal D (nb rs)).1 → K (.int .i64 (wal D (nb rs)).2) h') : C.boleref06_Commit r a rs.length c h K := by
  have hE : ∀ b, E b → b < h.size := fun b y => x.lt y
  have hb : (ti122).bytes ≤ 64 := by decide
  refine boleref06_Commit.ok (ce (fun h0 => ?_) fun h0 => ?_)
  · have e : rs = [] := List.eq_nil_of_length_eq_zero (by omega)
    have ew : wal D (nb rs) = (D, 0) := by rw [e]; exact if_pos rfl
    rw [ew] at hK
    exact hK h E (Fr.refl _ _) (Gw.refl (Nat.le_refl _) hE) x
  have hne : rs ≠ [] := fun e => by subst e; exact h0 rfl
  have hm := hm hne
  have hl := mayW_len hm
  have nbl : (nb rs).length = rs.length := by unfold nb; rw [List.length_map]
  rw [nbl] at hl
  have dl : (rs.map (·.2.2)).length = rs.length := List.length_map ..
  refine NewRow.intro rfl (fun v hv => by
    simp only [List.mem_cons, List.not_mem_nil, or_false] at hv
    rcases hv with rfl | rfl | rfl <;> rfl) rfl fun h3 n3 => ?_
  have z3 := n3.size
  have b3 := b.no n3.fr
  have fl : ∀ {hh : Heap}, Fr No h3 hh → rd hh h.size = [.int .i64 2, .int .i64 0, .slice none 0 0] := fun {hh} f => (f.rd (by omega) fun y => y).trans n3.rd
  -- what the caller's blocks are
  have dat : ∀ {hh : Heap} {F : Nat → Prop} (i : Nat) (hi : i < rs.length), Fr No h3 hh → (∀ b, F b → h3.size ≤ b) → StrAt hh rs[i].2.1.a rs[i].2.1.l rs[i].2.2 ∧ ∀ p, rs[i].2.1.a = some p → rs[i].2.1.l ≠ 0 → ¬ (E p.block ∨ F p.block) := fun {hh F} i hi f g => by
    have B := b3.ok _ (List.getElem_mem hi)
    refine ⟨StrAt.fr f B fun _ _ y => y, fun p e hl y => ?_⟩
    rcases y with y | y
    · exact off _ (List.getElem_mem hi) p e hl y
    · rw [e] at B; have := str_lt B hl; have := g _ y; omega
  refine ⟨fun a l c m hh => ∃ es F, m = (List.length es : Int) ∧ es.length ≤ rs.length ∧ es.length = l ∧ Fr No h3 hh ∧ Row h3.size hh F 3 a es.length c (es.flatMap Ent.cells) ∧ EsT hh (fun b => E b ∨ F b) es (logT (rs.map (·.2.2)) es.length), fun _ _ _ m _ => ((rs.length : Int) - m).toNat,
    ⟨[], No, rfl, Nat.zero_le _, rfl, Fr.refl _ _, Row.nil _ _ _, EsT.nil _ _⟩, ?_⟩
  rintro aa _ ac _ h4 ⟨es, F, rfl, hi, rfl, f, R, T⟩
  have z4 := f.size
  refine cd (fun hlt => ?_) fun hlt => ?_
  · have hi' : es.length < rs.length := by omega
    have hd : es.length < (rs.map (·.2.2)).length := by omega
    obtain ⟨p, ep, cp⟩ := (b3.no f).get hi'
    rw [Int.toNat_natCast, wrap_i64 (n := (es.length : Int) + 1) (by omega) (by omega), wrap_i64 (n := 2 + (es.length : Int)) (by omega) (by omega)]
    refine ⟨⟨by omega, hlt⟩, Rz.oe ep ⟨_, rfl, cp, NewRow.intro rfl (cellsR_one _) rfl fun h6 n6 => ⟨_, _, _, cellsAll n6.rd 1 _ rfl, rfl, ?_⟩⟩⟩
    have z6 := n6.size
    have R6 := R.keep n6.fr fun _ _ y => y
    obtain ⟨B, O⟩ := dat (F := F) es.length hi' (f.new n6) fun b y => (R.ge b y).1
    refine row_app R6 (vs := (entW (2 + (es.length : Int)) rs[es.length].2.1.a rs[es.length].2.1.l rs[es.length].2.1.c).cells) rfl (fun v hv => ent_one' [entW (2 + (es.length : Int)) rs[es.length].2.1.a rs[es.length].2.1.l rs[es.length].2.1.c] v (by rw [List.flatMap_cons, List.flatMap_nil, List.append_nil]; exact hv)) rfl rfl hb (by omega) (by omega) fun a' c' h8 F8 f8 g8 R8 => ?_
    have el : (es ++ [entW (2 + (es.length : Int)) rs[es.length].2.1.a rs[es.length].2.1.l rs[es.length].2.1.c]).length = es.length + 1 := by rw [List.length_append]; rfl
    refine ⟨⟨es ++ [entW (2 + (es.length : Int)) rs[es.length].2.1.a rs[es.length].2.1.l rs[es.length].2.1.c], F8, by rw [el]; rfl, by omega, el, row_no R6 (f.new n6) rfl f8, by rw [el, flat_snoc]; exact R8, ?_⟩, falls hlt⟩
    rw [el, logT_succ]
    have eg : (rs.map (·.2.2)).getD es.length [] = rs[es.length].2.2 := by rw [List.getD_eq_getElem?_getD, List.getElem?_eq_getElem hd, List.getElem_map]; rfl
    rw [eg]
    exact ((T.no n6.fr).app (EsT.entW B O)).grow f8 g8
  have ei : es.length = rs.length := by omega
  refine ⟨_, rfl, cellsAll (fl f), _, rfl, cellsAll (fl f), Cr.Header6_spec (b3.no f) hl hx h5 fun ha hc h9 f9 sh => ⟨_, _, _, rfl, ⟨rfl, cellsAll (fl (f.no f9))⟩, ⟨rfl, cellsAll (fl (f.no f9))⟩, rfl, rfl, rfl, New.intro fun h10 n10 => ⟨[entF, entW 1 ha 512 hc, entF].flatMap Ent.cells, rfl, cellsAll n10.rd, ent_one' _, ?_⟩⟩⟩
  have q := f9.new n10
  have z9 := f9.size
  have z10 := q.size
  have R10 := R.keep q fun _ _ y => y
  have hlen : (hdrOf (nb rs)).length = 512 := by have := sh.1; rw [List.length_map] at this; omega
  have offG : ∀ {hh : Heap} {F : Nat → Prop} {p : Addr}, hh.size ≤ p.block → (∀ b, F b → b < hh.size) → h3.size ≤ hh.size → ¬ (E p.block ∨ F p.block) := fun {hh F p} g l z y => by
    rcases y with y | y
    · have := hE _ y; omega
    · have := l _ y; omega
  have Th : EsT h10 (fun b => E b ∨ F b) [entF, entW 1 ha 512 hc, entF] [(2, 0, []), (1, 1, hdrOf (nb rs)), (2, 0, [])] :=
    (EsT.entF _ _).app ((EsT.entW ⟨hlen, SlCells.fr n10.fr sh.cells fun _ _ y => y⟩ fun p e _ => by
      subst e
      exact offG (hh := h4) sh.2.2.1 (fun b y => (R.ge b y).2) z4).app (EsT.entF _ _))
  have T10 := (T.no q).app Th
  have el2 : (es ++ [entF, entW 1 ha 512 hc, entF]).length = es.length + 3 := by rw [List.length_append]; rfl
  refine row_more R10 (n := 3) rfl rfl rfl hb (by omega) (by omega) fun a11 c11 h11 F11 f11 g11 R11 => ?_
  have T11 := T10.grow f11 g11
  have F3' : Fr No h3 h11 := row_no R10 (f.no q) rfl f11
  obtain ⟨es2, ees2⟩ : ∃ es2, es2 = es ++ [entF, entW 1 ha 512 hc, entF] := ⟨_, rfl⟩
  obtain ⟨t2, et2⟩ : ∃ t2, t2 = logT (rs.map (·.2.2)) es.length ++ [(2, 0, []), (1, 1, hdrOf (nb rs)), (2, 0, [])] := ⟨_, rfl⟩
  rw [← ees2, ← et2] at T11
  rw [← ees2] at el2
  have R11 : Row h3.size h11 F11 3 a11 (es.length + 3) c11 (es2.flatMap Ent.cells) := by rw [ees2, List.flatMap_append]; exact R11
  clear R10 T10 Th sh n10 q f9 R T f hlt
  refine ⟨fun a l c m hh => ∃ fs F, m = (List.length fs : Int) ∧ fs.length ≤ rs.length ∧ es.length + 3 + fs.length = l ∧ Fr No h3 hh ∧ Row h3.size hh F 3 a (es.length + 3 + fs.length) c ((es2 ++ fs).flatMap Ent.cells) ∧ EsT hh (fun b => E b ∨ F b) (es2 ++ fs) (t2 ++ wT ((nb rs).take fs.length)), fun _ _ _ m _ => ((rs.length : Int) - m).toNat,
    ⟨[], F11, rfl, Nat.zero_le _, rfl, F3', by rw [List.append_nil]; exact R11, by rw [List.append_nil, List.length_nil, List.take_zero]; unfold wT; rw [List.map_nil, List.append_nil]; exact T11⟩, ?_⟩
  rintro aa2 _ ac2 _ h12 ⟨fs, F, rfl, hi2, rfl, f, R, T⟩
  have z12 := f.size
  refine cd (fun hlt => ?_) fun hlt => ?_
  · have hi' : fs.length < rs.length := by omega
    obtain ⟨p, ep, cp⟩ := (b3.no f).get hi'
    rw [Int.toNat_natCast, wrap_i64 (n := (fs.length : Int) + 1) (by omega) (by omega)]
    refine ⟨⟨by omega, hlt⟩, Rz.oe ep ⟨_, rfl, cp, NewRow.intro rfl (cellsR_one _) rfl fun h14 n14 => ⟨_, cellsAll n14.rd 0 _ rfl, _, _, _, cellsAll n14.rd 1 _ rfl, rfl, ?_⟩⟩⟩
    have z14 := n14.size
    have R14 := R.keep n14.fr fun _ _ y => y
    obtain ⟨B, O⟩ := dat (F := F) fs.length hi' (f.new n14) fun b y => (R.ge b y).1
    refine row_app R14 (vs := (entW rs[fs.length].1 rs[fs.length].2.1.a rs[fs.length].2.1.l rs[fs.length].2.1.c).cells) rfl (fun v hv => ent_one' [entW rs[fs.length].1 rs[fs.length].2.1.a rs[fs.length].2.1.l rs[fs.length].2.1.c] v (by rw [List.flatMap_cons, List.flatMap_nil, List.append_nil]; exact hv)) rfl rfl hb (by omega) (by omega) fun a' c' h16 F16 f16 g16 R16 => ?_
    have el : (fs ++ [entW rs[fs.length].1 rs[fs.length].2.1.a rs[fs.length].2.1.l rs[fs.length].2.1.c]).length = fs.length + 1 := by rw [List.length_append]; rfl
    refine ⟨⟨fs ++ [entW rs[fs.length].1 rs[fs.length].2.1.a rs[fs.length].2.1.l rs[fs.length].2.1.c], F16, by rw [el]; rfl, by omega, by omega, row_no R14 (f.new n14) rfl f16, by rw [el, ← List.append_assoc, flat_snoc]; exact R16, ?_⟩, falls hlt⟩
    rw [el, nb_at rs hi', wT_snoc, ← List.append_assoc, ← List.append_assoc]
    exact ((T.no n14.fr).app (EsT.entW B O)).grow f16 g16
  have ef : fs.length = rs.length := by omega
  rw [List.take_of_length_le (by omega)] at T
  refine ⟨_, rfl, cellsAll (fl f), _, rfl, cellsAll (fl f), ⟨by decide, by decide, by decide, by decide⟩, New.intro fun h17 n17 => ⟨⟨rfl, cellsAll (fl (f.new n17))⟩, ⟨rfl, cellsAll (fl (f.new n17))⟩, rfl, rfl, rfl, New.intro fun h18 n18 => ⟨[entF, entW 1 (some ⟨h12.size, 0, none⟩) 512 512, entF].flatMap Ent.cells, rfl, cellsAll n18.rd, ent_one' _, ?_⟩⟩⟩
  have z17 := n17.size
  have z18 := n18.size
  have q := n17.fr.new n18
  have R18 := R.keep q fun _ _ y => y
  have er17 : rd h17 h12.size = (Hd.zeros 512).map bv := n17.rd.trans (rep8 _)
  have Tz : EsT h18 (fun b => E b ∨ F b) [entF, entW 1 (some ⟨h12.size, 0, none⟩) 512 512, entF] [(2, 0, []), (1, 1, Hd.zeros 512), (2, 0, [])] :=
    (EsT.entF _ _).app ((EsT.entW (strAll (by rw [n18.at_ (by omega)]; exact er17) (Hd.zeros_length _)) fun p e _ => by
      cases e
      exact offG (hh := h12) (Nat.le_refl _) (fun b y => (R.ge b y).2) z12).app (EsT.entF _ _))
  have T18 := (T.no q).app Tz
  refine row_more R18 (n := 3) rfl rfl rfl hb (by omega) (by omega) fun a19 c19 h19 F19 f19 g19 R19 => ?_
  have T19 := T18.grow f19 g19
  have F3' : Fr No h3 h19 := row_no R18 (f.no q) rfl f19
  have Fh : Fr No h h19 := n3.fr.no F3'
  have z19 := Fh.size
  obtain ⟨es3, ees3⟩ : ∃ es3, es3 = (es2 ++ fs) ++ [entF, entW 1 (some ⟨h12.size, 0, none⟩) 512 512, entF] := ⟨_, rfl⟩
  have el3 : es3.length = es.length + 3 + fs.length + 3 := by rw [ees3, List.length_append, List.length_append, el2]; rfl
  have ets : (t2 ++ wT (nb rs)) ++ [(2, 0, []), (1, 1, Hd.zeros 512), (2, 0, [])] = commitT (nb rs) (hdrOf (nb rs)) := by
    rw [et2, ei]
    unfold commitT homeT
    rw [rs_ds, nbl]
    simp only [List.append_assoc]
  rw [← ees3, ets] at T19
  have R19 : Row h3.size h19 F19 3 a19 (es.length + 3 + fs.length + 3) c19 (es3.flatMap Ent.cells) := by rw [ees3, List.flatMap_append]; exact R19
  have Tf : EsT h19 E es3 (commitT (nb rs) (hdrOf (nb rs))) := T19.weak fun b y => .inl y
  have h5n : ∀ p ∈ nb rs, p.2.length ≤ 512 := fun p hp => by
    obtain ⟨r, hr, rfl⟩ := List.mem_map.mp hp
    have := h5 r hr
    show r.2.2.length ≤ 512
    omega
  have ew := wal_run (S := D) (l := nb rs) (fun e => hne (by unfold nb at e; exact List.map_eq_nil_iff.mp e)) hm (List.all_eq_true.mpr fun d hd => by
    rw [rs_ds] at hd
    obtain ⟨r, hr, rfl⟩ := List.mem_map.mp hd
    exact beq_iff_eq.mpr (h5 r hr))
  rw [← el3]
  refine take6_spec (x.no Fh) R19.s.cells (fun p e => by
    subst e
    refine ⟨R19.s.lt, fun y => ?_⟩
    have := hE _ y
    have := (R19.ge _ R19.s.2.2.1).1
    omega) Tf (by omega) (Tf.small fun t ht => ?_) (by omega) fun h5' E5 f5 g5 x5 => ?_
  · unfold commitT at ht
    rcases List.mem_append.mp ht with ht | ht
    · rcases List.mem_append.mp ht with ht | ht
      · unfold logT at ht
        obtain ⟨k, hk, rfl⟩ := List.mem_map.mp ht
        show (((nb rs).map (·.2)).getD k []).length ≤ 512
        rw [List.getD_eq_getElem?_getD]
        rcases Nat.lt_or_ge k ((nb rs).map (·.2)).length with h | h
        · rw [List.getElem?_eq_getElem h, List.getElem_map]
          exact h5n _ (List.getElem_mem _)
        · rw [List.getElem?_eq_none h]; exact Nat.zero_le _
      · exact three_small (by omega) t ht
    · exact homeT_small h5n t ht
  · rw [stp_commit, ← ew] at x5 ⊢
    exact hK h5' E5 ((Fh.mono fun _ _ y => y.elim).trans f5 fun _ _ y => y) ⟨fun b hb => g5.old b (by omega), g5.lt⟩ x5
end Go.Proofs.YtjdcbblgaoogmaaGreatDoor.Wd
namespace Go.Proofs.YtjdcbblgaoogmaaGreatDoor.Tm
open Go Go.Proofs Wx Hp W Ad
def TM.ended (S : RD) : TM := ⟨S, [], [], true⟩
theorem end_body {h : Heap} {b : Nat} {q x y z : Value} {K : Value → Heap → Prop} (o : Own h b) (e : rd h b = [q, x, y, z]) (hK : ∀ h', Did b h h' [q, .map none, .slice none 0 0, .bool true] → K (.tuple #[]) h') : txn_Txn_end (some ⟨b, 0, none⟩) K h := by
  refine os (Put.add o (by rw [e]; show 1 < 4; omega) fun h2 d2 => ?_)
  rw [e] at d2
  refine os (Put.add d2.own (by rw [d2.rd]; show 2 < 4; omega) fun h3 d3 => ?_)
  rw [d2.rd] at d3
  refine os (Put.add d3.own (by rw [d3.rd]; show 3 < 4; omega) fun h4 d4 => ?_)
  rw [d3.rd] at d4
  exact hK h4 ⟨by rw [d4.size, d3.size, d2.size], (d2.fr.trans d3.fr fun _ _ x => x).trans d4.fr fun _ _ x => x, d4.own, d4.rd⟩
theorem TxC.shut {h h7 h8 : Heap} {F : Nat → Prop} {col : Nat → Nat} {d : Option Addr} {r : TR} {T : TM} {S : RD} {D : Nat → Prop} (X : TxC h col d r T) (hF : ∀ b, F b ↔ 1 ≤ col b ∧ col b ≤ 5) (f : Fr (fun b => col b = 5) h h7) (g : Gw h (fun b => col b = 5) h7 D) (A : DiskF h7 D d S)
    (d8 : Did r.tb h7 h8 [.pointer d, .map none, .slice none 0 0, .bool true]) : ∃ F', Fr F h h8 ∧ Gw h F h8 F' ∧ Tx h8 F' (some ⟨r.tb, 0, none⟩) d (TM.ended S) := by
  have tl := X.own.lt
  have s1 := X.sc
  have z7 := f.size
  have z8 := d8.size
  obtain ⟨col', k1, k2⟩ : ∃ col' : Nat → Nat, (∀ b, D b → col' b = 5) ∧ ∀ b, ¬ D b → col' b = if b < h.size ∧ col b ≠ 5 then col b else 0 :=
    ⟨fun b => @ite _ (D b) (Classical.propDecidable _) 5 (if b < h.size ∧ col b ≠ 5 then col b else 0), fun b x => if_pos x, fun b x => if_neg x⟩
  have old : ∀ b, b < h.size → col' b = col b := fun b hb => by
    by_cases x : D b
    · rw [k1 b x]; exact ((g.old b hb).mp x).symm
    · have : col b ≠ 5 := fun e => x ((g.old b hb).mpr e)
      rw [k2 b x, if_pos ⟨hb, this⟩]
  have five : ∀ b, col' b = 5 ↔ D b := fun b => ⟨fun e => by
    by_cases x : D b
    · exact x
    · rw [k2 b x] at e
      split at e
      · rename_i y; exact absurd e y.2
      · exact absurd e (by decide), k1 b⟩
  have big : ∀ b, h8.size ≤ b → col' b = 0 := fun b hb => by
    have x : ¬ D b := fun x => by have := A.lt x; omega
    rw [k2 b x, if_neg (by omega)]
  refine ⟨fun b => 1 ≤ col' b ∧ col' b ≤ 5, ?_, ⟨fun b hb => by rw [old b hb]; exact (hF b).symm, fun b hb => ?_⟩, .inr ⟨col', r.tb, rfl, ⟨big, (old _ tl).trans s1, d8.own, d8.rd, ⟨rfl, rfl⟩, rfl, ?_⟩, fun b => Iff.rfl⟩⟩
  · refine (f.mono fun b _ e => (hF b).mpr ?_).trans d8.fr fun b _ e => (hF b).mpr ?_
    · have e : col b = 5 := e; omega
    · have e : b = r.tb := e; subst e; omega
  · rcases Nat.lt_or_ge b h8.size with x | x
    · exact x
    · rw [big b x] at hb; omega
  · refine (A.fr d8.fr fun b hb e => ?_).iff five
    have e : b = r.tb := e
    subst e
    have := (g.old _ tl).mp hb
    have this : col r.tb = 5 := this
    omega
theorem Abort_spec {h : Heap} {F : Nat → Prop} {t d : Option Addr} {T : TM} {K : Value → Heap → Prop} (x : Tx h F t d T) (hK : ∀ h' F', Fr F h h' → Gw h F h' F' → Tx h' F' t d (TM.ended T.disk) → K (.tuple #[]) h') : C.txn_Txn_Abort t h K := by
  have hlt := fun b hb => x.lt (b := b) hb
  rcases x with ⟨col, r, rfl, X, hF⟩ | ⟨col, tb, rfl, X, hF⟩
  · refine txn_Txn_Abort.ok (txn_Txn_end.ok (end_body X.own X.cell fun h2 d2 => ⟨rfl, ?_⟩))
    obtain ⟨F', f, g, y⟩ := X.shut hF (Fr.refl _ _) (Gw.refl (Nat.le_refl _) fun b hb => X.dk.lt hb) X.dk d2
    exact hK h2 F' f g y
  · refine txn_Txn_Abort.ok (txn_Txn_end.ok (end_body X.own X.cell fun h2 d2 => ⟨rfl, ?_⟩))
    have s1 := X.sc
    have f2 : Fr F h h2 := d2.fr.mono fun b _ e => by have e : b = tb := e; subst e; exact (hF _).mpr (by omega)
    have z2 := d2.size
    exact hK h2 F f2 (Gw.refl f2.size hlt) (.inr ⟨col, tb, rfl, ⟨fun b hb => X.nrm b (by omega), s1, d2.own, d2.rd, ⟨rfl, rfl⟩, rfl, X.dk.fr d2.fr fun b hb e => by
      have e : b = tb := e
      subst e
      have hb : col b = 5 := hb
      omega⟩, hF⟩)
end Go.Proofs.YtjdcbblgaoogmaaGreatDoor.Tm
namespace Go.Proofs.YtjdcbblgaoogmaaGreatDoor.Tm
open Go Go.Proofs Wx Hp W Ad Spc
def TM.blocks (T : TM) : Wc.Nb := T.written.map fun i => (i, (aget T.put i).getD [])
def TM.commit (T : TM) : TM × Int :=
  if T.over = true then (T, 61) else if T.put = [] then (TM.ended T.disk, 0) else (TM.ended (Wc.wal T.disk T.blocks).1, (Wc.wal T.disk T.blocks).2)
theorem sortZ_perm (l : List Int) : (sortZ l).Perm l := List.mergeSort_perm l _
theorem okGo_of {n : Int} : ∀ (l : List Int) (last : Int), l.Pairwise (· < ·) → (∀ x ∈ l, last < x ∧ x < n) → Hd.okGo n last l = true
  | [], _, _, _ => rfl
  | a :: r, last, hp, h => by
    rw [List.pairwise_cons] at hp
    have h1 := h a (List.mem_cons_self ..)
    show (!(decide (a ≤ last) || decide (a ≥ n)) && Hd.okGo n a r) = true
    rw [okGo_of r a hp.2 fun x hx => ⟨hp.1 x hx, (h x (List.mem_cons_of_mem _ hx)).2⟩, decide_eq_false (by omega), decide_eq_false (by omega)]; rfl
theorem aget_some {α : Type} {i : Int} {m : List (Int × α)} (h : i ∈ m.map (·.1)) : ∃ b, aget m i = some b := by
  cases e : aget m i with
  | some b => exact ⟨b, rfl⟩
  | none =>
    obtain ⟨p, hp, ep⟩ := List.mem_map.mp h
    exact absurd ep (aget_none.mp e p hp)
end Go.Proofs.YtjdcbblgaoogmaaGreatDoor.Tm
namespace Go.Proofs.YtjdcbblgaoogmaaGreatDoor.Tm
open Go Go.Proofs Wx Hp W Ad
def rsOf (ps : List (Int × (Sc × Txt))) (l : List Int) : Wc.Rs := l.map fun i => (i, (aget ps i).getD (⟨none, 0, 0⟩, []))
theorem rs_blocks {h : Heap} {col : Nat → Nat} {d : Option Addr} {r : TR} {T : TM} (X : TxC h col d r T) : Wc.nb (rsOf r.ps T.written) = T.blocks := by
  unfold Wc.nb rsOf TM.blocks
  rw [List.map_map]
  refine List.map_congr_left fun i _ => ?_
  show (i, ((aget r.ps i).getD _).2) = (i, (aget T.put i).getD [])
  rw [X.put, aget_map (fun x : Sc × Txt => x.2) i r.ps]
  cases aget r.ps i <;> rfl
theorem Over_spec {h : Heap} {F : Nat → Prop} {t d : Option Addr} {T : TM} {K : Value → Heap → Prop} (x : Tx h F t d T) (hK : K (.bool T.over) h) : C.txn_Txn_Over t h K := by
  rcases x with ⟨col, r, rfl, X, hF⟩ | ⟨col, tb, rfl, X, hF⟩
  · rw [X.live] at hK; exact txn_Txn_Over.ok (os ⟨_, rda X.cell rfl, hK⟩)
  · rw [X.over] at hK; exact txn_Txn_Over.ok (os ⟨_, rda X.cell rfl, hK⟩)
theorem Commit_spec {h : Heap} {F : Nat → Prop} {t d : Option Addr} {T : TM} {K : Value → Heap → Prop} (G : Re.Glo h) (x : Tx h F t d T) (hp : T.put.length < 10000) (hq : T.disk.pend.length < 100000000) (ht : T.disk.tape.length < 100000000)
    (hK : ∀ h' F', Fr F h h' → Gw h F h' F' → Tx h' F' t d T.commit.1 → K (.int .i64 T.commit.2) h') : C.txn_Txn_Commit t h K := by
  have hlt := fun b hb => x.lt (b := b) hb
  have x0 := x
  rcases x with ⟨col, r, rfl, X, hF⟩ | ⟨col, tb, rfl, X, hF⟩
  rotate_left
  · refine txn_Txn_Commit.ok (os ⟨_, rda X.cell rfl, ct rfl ?_⟩)
    have e0 : T.commit = (T, 61) := by unfold TM.commit; rw [X.over, if_pos rfl]
    rw [e0] at hK
    exact hK h F (Fr.refl _ _) (Gw.refl (Nat.le_refl _) hlt) (.inr ⟨col, tb, rfl, X, hF⟩)
  have live := X.live
  have elen : T.put.length = r.ps.length := by rw [X.put, List.length_map]
  have em : (mm (fun x : Sc × Txt => x.1.v) r.ps).length = r.ps.length := mm_length _ _
  refine txn_Txn_Commit.ok (os ⟨_, rda X.cell rfl, cf rfl (os ⟨_, rda X.cell rfl, _, X.map, ce (fun h0 => ?_) fun h0 => ?_⟩)⟩)
  · have e : T.put = [] := List.eq_nil_of_length_eq_zero (by omega)
    have e0 : T.commit = (TM.ended T.disk, 0) := by unfold TM.commit; rw [live, if_neg (by simp), if_pos e]
    rw [e0] at hK
    refine txn_Txn_end.okD (end_body X.own X.cell fun h2 d2 => ?_)
    obtain ⟨F', f, g, y⟩ := X.shut hF (Fr.refl _ _) (Gw.refl (Nat.le_refl _) fun b hb => X.dk.lt hb) X.dk d2
    exact hK h2 F' f g y
  have hne : T.put ≠ [] := fun e => by rw [e] at elen; have : (0 : Nat) = r.ps.length := elen; omega
  have e0 : T.commit = (TM.ended (Wc.wal T.disk T.blocks).1, (Wc.wal T.disk T.blocks).2) := by unfold TM.commit; rw [live, if_neg (by simp), if_neg hne]
  rw [e0] at hK
  refine Written_spec x0 (by omega) fun a l c h3 f3 el s3 => ⟨_, _, _, rfl, ?_⟩
  have wl : T.written.length = l := by have := s3.1; rw [List.length_map] at this; omega
  have z3 := f3.size
  have mem : ∀ i ∈ T.written, ∃ x, aget r.ps i = some x ∧ (i, x) ∈ r.ps := fun i hi => by
    have hi : i ∈ T.put.map (·.1) := (sortZ_perm _).mem_iff.mp hi
    rw [X.put, List.map_map] at hi
    obtain ⟨v, e⟩ := aget_some (m := r.ps) hi
    exact ⟨v, e, aget_mem e⟩
  have rl : (rsOf r.ps T.written).length = l := by unfold rsOf; rw [List.length_map, wl]
  refine ⟨fun la ll lc n hh => 0 ≤ n ∧ n ≤ l ∧ ll = n.toNat ∧ Fr No h3 hh ∧ ∃ F1 : Nat → Prop, Wc.Row h3.size hh F1 2 la ll lc (((rsOf r.ps T.written).take n.toNat).flatMap Wc.cellsR),
    fun _ _ _ n _ => ((l : Int) - n).toNat, ⟨by omega, by omega, rfl, Fr.refl _ _, No, Wc.Row.nil _ _ _⟩, ?_⟩
  rintro la ll lc n h4 ⟨n0, n1, rfl, f4, F1, r1⟩
  have z4 := f4.size
  have f34 := f3.no f4
  refine cd (fun hn => ?_) fun hn => ?_
  · have hn' : n.toNat < T.written.length := by omega
    have cc := SlCells.fr f4 s3.cells fun _ _ x => x
    obtain ⟨p, rfl, cv⟩ := Hd.ints_get (ns := T.written) cc hn'
    obtain ⟨v, ev, mv⟩ := mem _ (List.getElem_mem hn')
    refine ⟨⟨n0, hn⟩, os ⟨_, cv, os ⟨_, rda ((f34.rd X.own.lt fun x => x).trans X.cell) rfl, _, map_fr X.map f34 (fun x => x), v.1.a, v.1.l, v.1.c, ?_, rfl, ?_⟩⟩⟩
    · rw [mget_mm, ev]; rfl
    have erg : (rsOf r.ps T.written)[n.toNat]'(by rw [rl, ← wl]; exact hn') = (T.written[n.toNat], v) := by
      unfold rsOf
      rw [List.getElem_map, ev]; rfl
    refine Wc.row_app (vs := [.int .i64 T.written[n.toNat], v.1.v]) r1 rfl (Wc.cellsR_one (T.written[n.toNat], v)) rfl rfl (Nat.le_of_ble_eq_true rfl) (by omega) (by omega) fun la' lc' h6 F1' f6 g6 r1' => ?_
    rw [wrap_i64 (by omega) (by omega)]
    have en : (n + 1).toNat = n.toNat + 1 := by omega
    refine ⟨⟨by omega, by omega, en.symm, f4.trans f6 fun b hb y => by have := r1.ge b y; omega, F1', ?_⟩, falls hn⟩
    rw [en, take_snoc _ _ (by rw [rl]; omega), List.flatMap_append, erg, List.flatMap_cons, List.flatMap_nil, List.append_nil]
    exact r1'
  have ln : n.toNat = l := by omega
  rw [List.take_of_length_le (by omega), ln] at r1
  rw [ln, ← rl]
  have A4 : DiskF h4 (fun b => col b = 5) d T.disk := X.dk.no f34
  have bl : Wc.Bl h4 (fun b => col b = 5) la (rsOf r.ps T.written) := by
    refine ⟨r1.s.cells, fun p e => ?_, fun q hq => ?_⟩
    · subst e
      obtain ⟨_, _, k, o, _⟩ := r1.s
      refine ⟨o.lt, fun y => ?_⟩
      have y : col p.block = 5 := y
      have := X.nrm p.block (by have := (r1.ge _ k).1; omega)
      omega
    · obtain ⟨i, hi, rfl⟩ := List.mem_map.mp hq
      obtain ⟨v, ev, mv⟩ := mem i hi
      show StrAt h4 ((aget r.ps i).getD _).1.a _ _ ∧ _
      rw [ev]
      have bk := X.pok _ mv
      refine ⟨StrAt.fr f34 bk.s fun _ _ x => x, fun p e => ⟨by have := (bk.at_ p e).1; omega, fun y => ?_⟩⟩
      have y : col p.block = 5 := y
      have := (bk.at_ p e).2
      omega
  refine os ⟨_, rda ((f34.rd X.own.lt fun x => x).trans X.cell) rfl, Wc.Commit_spec (G.no f34) A4 bl (by omega) hq ht fun h7 D7 f7 g7 A7 => ⟨_, rfl, ?_⟩⟩
  rw [rs_blocks X] at A7 ⊢
  have f07 : Fr (fun b => col b = 5) h h7 := (f34.mono fun _ _ x => x.elim).trans f7 fun _ _ x => x
  have s1 := X.sc
  have tl := X.own.lt
  have nt : ¬ col r.tb = 5 := by omega
  refine txn_Txn_end.okD (end_body (f07.own tl nt X.own) ((f07.rd tl nt).trans X.cell) fun h8 d8 => ?_)
  obtain ⟨F', f, g, y⟩ := X.shut hF f07 ⟨fun b hb => g7.old b (by omega), g7.lt⟩ A7 d8
  exact hK h8 F' f g y
end Go.Proofs.YtjdcbblgaoogmaaGreatDoor.Tm
namespace Go.Proofs.YtjdcbblgaoogmaaGreatDoor.Tm
open Go Go.Proofs Wx Hp W Ad
theorem col_disk {h h' : Heap} {col : Nat → Nat} {D : Nat → Prop} (g : Gw h (fun b => col b = 5) h' D) (hs : h.size ≤ h'.size) (nrm : ∀ b, h.size ≤ b → col b = 0) :
    ∃ col' : Nat → Nat, Ag h.size col col' ∧ (∀ b, h'.size ≤ b → col' b = 0) ∧ (∀ b, col' b = 5 ↔ D b) ∧ ∀ b, h.size ≤ b → col' b = 0 ∨ col' b = 5 := by
  obtain ⟨col', k1, k2⟩ : ∃ col' : Nat → Nat, (∀ b, D b → col' b = 5) ∧ ∀ b, ¬ D b → col' b = if b < h.size ∧ col b ≠ 5 then col b else 0 :=
    ⟨fun b => @ite _ (D b) (Classical.propDecidable _) 5 (if b < h.size ∧ col b ≠ 5 then col b else 0), fun b x => if_pos x, fun b x => if_neg x⟩
  have old : ∀ b, b < h.size → col' b = col b := fun b hb => by
    by_cases x : D b
    · rw [k1 b x]; exact ((g.old b hb).mp x).symm
    · have : col b ≠ 5 := fun e => x ((g.old b hb).mpr e)
      rw [k2 b x, if_pos ⟨hb, this⟩]
  refine ⟨col', old, fun b hb => ?_, fun b => ⟨fun e => ?_, k1 b⟩, fun b hb => ?_⟩
  · have x : ¬ D b := fun x => by have := g.lt b x; omega
    rw [k2 b x, if_neg (by omega)]
  · by_cases x : D b
    · exact x
    · rw [k2 b x] at e
      split at e
      · rename_i y; exact absurd e y.2
      · exact absurd e (by decide)
  · by_cases x : D b
    · exact .inr (k1 b x)
    · rw [k2 b x, if_neg (by omega)]; exact .inl rfl
theorem TxC.onDisk {h h' : Heap} {col : Nat → Nat} {d : Option Addr} {r : TR} {T : TM} {S : RD} {D : Nat → Prop} (X : TxC h col d r T) (f : Fr (fun b => col b = 5) h h') (g : Gw h (fun b => col b = 5) h' D) (A : DiskF h' D d S) (hN : S.lasts.length = T.N) :
    ∃ col', Ag h.size col col' ∧ (∀ b, h.size ≤ b → col' b = 0 ∨ col' b = 5) ∧ (∀ b, h'.size ≤ b → col' b = 0) ∧ (∀ b, col' b = 5 ↔ D b) ∧ TxC h' col' d r { T with disk := S } := by
  obtain ⟨col', old, big, five, new⟩ := col_disk g f.size X.nrm
  have s1 := X.sc
  have s2 := X.mc
  have tl := X.own.lt
  have ml := map_lt X.map
  have k4 : ∀ b, b < h.size → col b = 4 → ¬ col b = 5 := fun b _ e => by omega
  refine ⟨col', old, new, big, five, ⟨big, (old _ tl).trans s1, f.own tl (by omega) X.own, (f.rd tl (by omega)).trans X.cell, (old _ ml).trans s2, map_fr X.map f (by omega), ?_,
    fun p hp => (X.pok p hp).keep f old k4, fun u hu => (X.uok u hu).keep f old k4, X.put, X.undo, X.live, A.iff five, fun p hp => ?_, fun u hu => ?_⟩⟩
  · have s' := Hp.Sl.fr f X.un (fun b hb hk => by have hk : col b = 3 := hk; omega)
    obtain ⟨h1, h2⟩ := s'
    refine ⟨h1, ?_⟩
    have ul := X.un
    revert h2 ul
    cases r.ua with
    | none => intro h2 _; exact h2
    | some p => intro h2 ul; obtain ⟨a1, a2, a3, a4⟩ := h2; exact ⟨a1, (old _ ul.lt).trans a2, a3, a4⟩
  · have := X.pk p hp
    exact ⟨this.1, by show p.1 < (S.lasts.length : Int); rw [hN]; exact this.2⟩
  · have := X.ui u hu
    exact ⟨this.1, by show u.i < (S.lasts.length : Int); rw [hN]; exact this.2⟩
theorem TxO.onDisk {h h' : Heap} {col : Nat → Nat} {d : Option Addr} {tb : Nat} {T : TM} {S : RD} {D : Nat → Prop} (X : TxO h col d tb T) (f : Fr (fun b => col b = 5) h h') (g : Gw h (fun b => col b = 5) h' D) (A : DiskF h' D d S) :
    ∃ col', Ag h.size col col' ∧ (∀ b, h.size ≤ b → col' b = 0 ∨ col' b = 5) ∧ (∀ b, h'.size ≤ b → col' b = 0) ∧ (∀ b, col' b = 5 ↔ D b) ∧ TxO h' col' d tb { T with disk := S } := by
  obtain ⟨col', old, big, five, new⟩ := col_disk g f.size X.nrm
  have s1 := X.sc
  have tl := X.own.lt
  exact ⟨col', old, new, big, five, ⟨big, (old _ tl).trans s1, f.own tl (by omega) X.own, (f.rd tl (by omega)).trans X.cell, X.gone, X.over, A.iff five⟩⟩
theorem Tx.onDisk {h : Heap} {F : Nat → Prop} {t d : Option Addr} {T : TM} (x : Tx h F t d T) : ∃ D, DiskF h D d T.disk ∧ (∀ b, D b → F b) ∧
    ∀ h' D' S, Fr D h h' → Gw h D h' D' → DiskF h' D' d S → S.lasts.length = T.N → ∃ F', Gw h F h' F' ∧ Tx h' F' t d { T with disk := S } := by
  rcases x with ⟨col, r, e, X, hF⟩ | ⟨col, tb, e, X, hF⟩
  · refine ⟨_, X.dk, fun b y => (hF b).mpr (by have y : col b = 5 := y; omega), fun h' D' S f g A hN => ?_⟩
    obtain ⟨col', old, new, big, five, X'⟩ := X.onDisk f g A hN
    refine ⟨fun b => 1 ≤ col' b ∧ col' b ≤ 5, ⟨fun b hb => by rw [old b hb]; exact (hF b).symm, fun b hb => ?_⟩, .inl ⟨col', r, e, X', fun b => Iff.rfl⟩⟩
    rcases Nat.lt_or_ge b h'.size with y | y
    · exact y
    · rw [big b y] at hb; omega
  · refine ⟨_, X.dk, fun b y => (hF b).mpr (by have y : col b = 5 := y; omega), fun h' D' S f g A hN => ?_⟩
    obtain ⟨col', old, new, big, five, X'⟩ := X.onDisk f g A
    refine ⟨fun b => 1 ≤ col' b ∧ col' b ≤ 5, ⟨fun b hb => by rw [old b hb]; exact (hF b).symm, fun b hb => ?_⟩, .inr ⟨col', tb, e, X', fun b => Iff.rfl⟩⟩
    rcases Nat.lt_or_ge b h'.size with y | y
    · exact y
    · rw [big b y] at hb; omega
end Go.Proofs.YtjdcbblgaoogmaaGreatDoor.Tm
namespace Go.Proofs.YtjdcbblgaoogmaaGreatDoor.Rx
open Go Go.Proofs Wx Hp W Ad Tm Spc Re
theorem col_dk {h h' : Heap} {k : Nat} {col : Nat → Nat} {D : Nat → Prop} (hk : k ≠ 0) (g : Gw h (fun b => col b = k) h' D) (nrm : ∀ b, h.size ≤ b → col b = 0) :
    ∃ col' : Nat → Nat, Ag h.size col col' ∧ (∀ b, h'.size ≤ b → h.size ≤ h'.size → col' b = 0) ∧ (∀ b, col' b = k ↔ D b) ∧ ∀ b, h.size ≤ b → col' b = 0 ∨ col' b = k := by
  obtain ⟨col', k1, k2⟩ : ∃ col' : Nat → Nat, (∀ b, D b → col' b = k) ∧ ∀ b, ¬ D b → col' b = if b < h.size ∧ col b ≠ k then col b else 0 :=
    ⟨fun b => @ite _ (D b) (Classical.propDecidable _) k (if b < h.size ∧ col b ≠ k then col b else 0), fun b x => if_pos x, fun b x => if_neg x⟩
  have old : ∀ b, b < h.size → col' b = col b := fun b hb => by
    by_cases x : D b
    · rw [k1 b x]; exact ((g.old b hb).mp x).symm
    · have : col b ≠ k := fun e => x ((g.old b hb).mpr e)
      rw [k2 b x, if_pos ⟨hb, this⟩]
  refine ⟨col', old, fun b hb hs => ?_, fun b => ⟨fun e => ?_, k1 b⟩, fun b hb => ?_⟩
  · have x : ¬ D b := fun x => by have := g.lt b x; omega
    rw [k2 b x, if_neg (by omega)]
  · by_cases x : D b
    · exact x
    · rw [k2 b x] at e
      split at e
      · rename_i y; exact absurd e y.2
      · exact absurd e.symm hk
  · by_cases x : D b
    · exact .inr (k1 b x)
    · rw [k2 b x, if_neg (by omega)]; exact .inl rfl
theorem RxC.onDisk {h h' : Heap} {col : Nat → Nat} {R : RR} {M : RM} {S : RD} {D : Nat → Prop} (X : RxC h col R M) (f : Fr (fun b => col b = 3) h h') (g : Gw h (fun b => col b = 3) h' D) (A : Rf.RfS h' D R.q S) :
    ∃ col', Ag h.size col col' ∧ (∀ b, h.size ≤ b → col' b = 0 ∨ col' b = 3) ∧ (∀ b, h'.size ≤ b → col' b = 0) ∧ RxC h' col' R { M with disk := S } := by
  obtain ⟨col', old, big, three, new⟩ := col_dk (k := 3) (by decide) g X.nrm
  have s1 := X.rc
  have tl := X.ro.lt
  have hs := f.size
  refine ⟨col', old, new, fun b hb => big b hb hs, fun b hb => big b hb hs, (old _ tl).trans s1, f.own tl (by omega) X.ro, (f.rd tl (by omega)).trans X.rr, iffS A three, ?_, X.rm⟩
  refine (sl_rng (X.row.fr f fun b _ hk y => by have hk : col b = 4 := hk; omega)).mono fun b hb => ?_
  have h1 : col b = 4 := hb.1
  show col' b = 4
  rcases Nat.lt_or_ge b h.size with y | y
  · rw [old b y]; exact h1
  · have := X.nrm b y; omega
theorem RxC.gw {h h' : Heap} {F : Nat → Prop} {col col' : Nat → Nat} (hF : ∀ b, F b ↔ 1 ≤ col b ∧ col b ≤ 4) (old : Ag h.size col col') (big : ∀ b, h'.size ≤ b → col' b = 0) : Gw h F h' fun b => 1 ≤ col' b ∧ col' b ≤ 4 := by
  refine ⟨fun b hb => by rw [old b hb]; exact (hF b).symm, fun b hb => ?_⟩
  rcases Nat.lt_or_ge b h'.size with y | y
  · exact y
  · rw [big b y] at hb; omega
theorem RxC.ended {h h' : Heap} {col : Nat → Nat} {R : RR} {M : RM} (X : RxC h col R M) (d : Did R.rb h h' [.pointer R.q, .slice R.ra M.row.length R.rc, .bool true]) : RxC h' col R { M with ends := true } := by
  have s1 := X.rc
  have z := d.size
  refine ⟨fun b hb => X.nrm b (by omega), s1, d.own, d.rd, X.dk.fr d.fr fun b y e => ?_, X.row.fr d.fr fun b _ y e => ?_, X.rm⟩
  · have y : col b = 3 := y; have e : b = R.rb := e; rw [e] at y; omega
  · have y : col b = 4 := y; have e : b = R.rb := e; rw [e] at y; omega
theorem RxS.begin_ {h : Heap} {D : Nat → Prop} {q : Option Addr} {S : RD} {K : Value → Heap → Prop} (x : Rf.RfS h D q S)
    (hK : ∀ F h', Fr No h h' → RxS h' F (some ⟨h.size, 0, none⟩) q ⟨S, [], [], false⟩ → (∀ b, F b ↔ D b ∨ b = h.size) → K (.pointer (some ⟨h.size, 0, none⟩)) h') : C.boleref06_Begin q h K :=
  Begin_spec x fun F h' f x' e => hK F h' f ⟨_, sim_new S, x'⟩ e
theorem RxS.fields {h : Heap} {F : Nat → Prop} {r e : Option Addr} {T : TM} (x : RxS h F r e T) : ∃ b ra rl rc, r = some ⟨b, 0, none⟩ ∧ F b ∧ Own h b ∧ rd h b = [.pointer e, .slice ra rl rc, .bool T.over] := by
  obtain ⟨M, s, col, R, rfl, rfl, X, hF⟩ := x
  have s1 := X.rc
  exact ⟨R.rb, _, _, _, rfl, (hF _).mpr (by omega), X.ro, by rw [X.rr, s.ends]⟩
theorem RxS.onDisk {h : Heap} {F : Nat → Prop} {r e : Option Addr} {T : TM} (x : RxS h F r e T) : ∃ D, Rf.RfS h D e T.disk ∧ (∀ b, D b → F b) ∧
    ∀ h' D' S, Fr D h h' → Gw h D h' D' → Rf.RfS h' D' e S → S.lasts.length = T.N → ∃ F', Gw h F h' F' ∧ RxS h' F' r e { T with disk := S } := by
  obtain ⟨M, s, col, R, rfl, rfl, X, hF⟩ := x
  refine ⟨_, by rw [← s.dk]; exact X.dk, fun b y => (hF b).mpr (by have y : col b = 3 := y; omega), fun h' D' S f g A hN => ?_⟩
  obtain ⟨col', old, new, big, X'⟩ := X.onDisk f g A
  exact ⟨_, RxC.gw hF old big, _, s.onDisk hN, col', R, rfl, rfl, X', fun b => Iff.rfl⟩
theorem Abort6_spec {h : Heap} {F : Nat → Prop} {r e : Option Addr} {T : TM} {K : Value → Heap → Prop} (x : RxS h F r e T)
    (hK : ∀ h', Fr F h h' → RxS h' F r e (TM.ended T.disk) → K (.tuple #[]) h') : C.boleref06_Txn_Abort r h K := by
  obtain ⟨M, s, col, R, rfl, rfl, X, hF⟩ := x
  have s1 := X.rc
  refine boleref06_Txn_Abort.ok (os (Put.add X.ro (by rw [X.rr]; show 0 + 2 < 3; omega) fun h2 d2 => ?_))
  rw [X.rr] at d2
  have X2 := X.ended d2
  have s2 := s.over (S := T.disk) rfl
  rw [← s.dk] at s2
  refine hK h2 (d2.fr.mono fun b _ y => (hF b).mpr (by have y : b = R.rb := y; rw [y]; omega)) ⟨_, ?_, col, R, rfl, rfl, X2, hF⟩
  rw [← s.dk]
  exact s2
theorem Sim.keys {T : TM} {M : RM} (s : Sim T M) (hl : T.over = false) {i : Int} (hi : i ∈ M.written) : ∃ b, lget M.row i = some b ∧ (i, b) ∈ M.row := by
  unfold RM.written at hi
  rw [s.ends, hl, if_neg (by simp), mem_keysTo] at hi
  cases e : lget M.row i with
  | none => rw [e] at hi; exact absurd hi.2.2 (by simp)
  | some b => exact ⟨b, rfl, lget_mem rfl e⟩
theorem Sim.commit {T : TM} {M : RM} (s : Sim T M) (hl : T.over = false) : T.commit = (TM.ended (Wc.wal T.disk T.blocks).1, (Wc.wal T.disk T.blocks).2) := by
  unfold TM.commit
  rw [hl, if_neg (by simp)]
  split
  · rename_i e
    have hw : T.written = [] := by unfold TM.written; rw [e]; exact List.mergeSort_nil
    have : T.blocks = [] := by unfold TM.blocks; rw [hw]; rfl
    rw [this]
    have : Wc.wal T.disk [] = (T.disk, 0) := if_pos rfl
    rw [this]
  · rfl
theorem Sim.may {T : TM} {M : RM} (s : Sim T M) (hl : T.over = false) : Wc.mayW T.blocks (T.N : Int) = true := by
  have hw : (T.written).Pairwise (· < ·) := by rw [s.written]; unfold RM.written; rw [s.ends, hl, if_neg (by simp)]; exact keysTo_lt _ _
  have hr : ∀ x ∈ T.written, 97 < x ∧ x < T.N := fun x hx => by
    rw [s.written] at hx
    obtain ⟨b, _, hb⟩ := s.keys hl hx
    have := s.rr _ hb
    simp only at this
    omega
  have fst : T.blocks.map (·.1) = T.written := by
    unfold TM.blocks; rw [List.map_map]
    exact List.map_id'' (fun _ => rfl) _
  have len : T.blocks.length = T.put.length := by
    unfold TM.blocks TM.written
    rw [List.length_map, sortZ_length, List.length_map]
  unfold Wc.mayW
  rw [fst, okGo_of T.written 97 hw hr, len, decide_eq_true (by have := s.most hl; omega)]; rfl
theorem Sim.block {T : TM} {M : RM} (s : Sim T M) (hl : T.over = false) : T.blocks = M.written.map fun i => (i, (lget M.row i).getD []) := by
  unfold TM.blocks
  rw [s.written]
  exact List.map_congr_left fun i _ => by rw [s.now hl]
theorem Commit_spec {h : Heap} {F : Nat → Prop} {r e : Option Addr} {T : TM} {K : Value → Heap → Prop} (x : RxS h F r e T) (ht : T.disk.tape.length < 100000000) (hW : (Wc.wal T.disk T.blocks).1.lasts.length = T.N)
    (hK : ∀ h' F', Fr F h h' → Gw h F h' F' → RxS h' F' r e T.commit.1 → K (.int .i64 T.commit.2) h') : C.boleref06_Txn_Commit r h K := by
  have hlt := fun b hb => x.lt (b := b) hb
  obtain ⟨M, s, col, R, rfl, rfl, X, hF⟩ := x
  have s1 := X.rc
  refine boleref06_Txn_Commit.ok (os ⟨_, rda X.rr rfl, ?_⟩)
  cases hl : T.over with
  | true =>
    have e0 : T.commit = (T, 61) := by unfold TM.commit; rw [hl, if_pos rfl]
    rw [e0] at hK
    rw [s.ends, hl]
    exact ct rfl (hK h F (Fr.refl _ _) (Gw.refl (Nat.le_refl _) hlt) ⟨M, s, col, R, rfl, rfl, X, hF⟩)
  | false =>
  rw [s.commit hl] at hK
  rw [s.ends, hl]
  refine cf rfl (Written_xspec X fun wa wc h2 f2 sw => ⟨_, _, _, rfl, ?_⟩)
  have z2 := f2.size
  have X2 := X.keep f2 fun _ _ _ _ y => y
  have wl96 : M.written.length ≤ 96 := by rw [s.many]; exact s.most hl
  have rm := X.rm
  refine ⟨fun la ll lc m hh => ∃ (rs : Wc.Rs) (G : Nat → Prop), m = (List.length rs : Int) ∧ rs.length ≤ M.written.length ∧ rs.length = ll ∧ Fr No h2 hh ∧ Wc.Row h2.size hh G 2 la rs.length lc (rs.flatMap Wc.cellsR) ∧ Wc.nb rs = (M.written.take rs.length).map (fun i => (i, (lget M.row i).getD [])) ∧
      ∀ r ∈ rs, StrAt hh r.2.1.a r.2.1.l r.2.2 ∧ ∀ p, r.2.1.a = some p → h2.size ≤ p.block ∧ p.block < hh.size ∧ ¬ G p.block, fun _ _ _ m _ => ((M.written.length : Int) - m).toNat,
    ⟨[], No, rfl, Nat.zero_le _, rfl, Fr.refl _ _, Wc.Row.nil _ _ _, rfl, fun r hr => by cases hr⟩, ?_⟩
  rintro la _ lc _ h3 ⟨rs, G, rfl, hi, rfl, f3, RG, en, ok⟩
  have z3 := f3.size
  refine cd (fun hlt => ?_) fun hlt => ?_
  · have hi' : rs.length < M.written.length := by omega
    obtain ⟨p, ep, cp⟩ := Hd.ints_get (ns := M.written) (SlCells.fr f3 sw.cells fun _ _ y => y) hi'
    obtain ⟨b, eb, mb⟩ := s.keys hl (List.getElem_mem hi')
    have hb := (s.rr _ mb).2.2
    have hb : b.length = 512 := hb
    have X3 := X2.keep f3 fun _ _ _ _ y => y
    rw [Int.toNat_natCast, wrap_i64 (n := (rs.length : Int) + 1) (by omega) (by omega)]
    refine ⟨⟨by omega, hlt⟩, Rz.oe ep ⟨_, cp, os ⟨_, _, _, rda X3.rr rfl, put_spec X3 fun n3 ha => ⟨_, rfl, rda X3.rr rfl, ?_⟩⟩⟩⟩
    rcases ha with ⟨_, y⟩ | ⟨k, hk, rfl, ek⟩
    · rw [eb] at y; cases y
    have ebk : M.row[k].2 = b := by rw [eb] at ek; exact (Option.some.inj ek).symm
    obtain ⟨p2, ep2, cc2⟩ := X3.dcell hk
    rw [Int.toNat_natCast]
    refine ⟨⟨by omega, by omega⟩, Rz.oe ep2 ⟨_, Cells.cell cc2 (i := 1) rfl, ?_⟩⟩
    rw [ebk]
    refine newS_intro fun cap h5 f5 s5 => ⟨rfl, ?_⟩
    have z5 : h3.size < h5.size := s5.lt
    have R5 := RG.keep f5 fun _ _ y => y
    refine Wc.row_app R5 (vs := Wc.cellsR (M.written[rs.length], ⟨some ⟨h3.size, 0, none⟩, b.length, cap⟩, b)) rfl (Wc.cellsR_one _) rfl rfl (by decide) (by omega) (by omega) fun la' lc' h7 G7 f7 g7 R7 => ?_
    have z7 := f7.size
    have el : (rs ++ [((M.written[rs.length] : Int), (⟨some ⟨h3.size, 0, none⟩, b.length, cap⟩ : Tm.Sc), b)] : Wc.Rs).length = rs.length + 1 := by rw [List.length_append]; rfl
    have nG : ∀ {p : Addr}, h2.size ≤ p.block → p.block < h5.size → ¬ G p.block → ¬ G7 p.block := fun {p} _ h2' h3' y => by
      rcases g7 _ y with w | w
      · exact h3' w
      · omega
    refine ⟨⟨rs ++ [((M.written[rs.length] : Int), (⟨some ⟨h3.size, 0, none⟩, b.length, cap⟩ : Tm.Sc), b)], G7, by rw [el]; rfl, by omega, el, (f3.no f5).trans f7 fun x hx y => by have := (R5.ge x y).1; omega, ?_, ?_, fun r hr => ?_⟩, falls hlt⟩
    · rw [el, List.flatMap_append]
      simp only [List.flatMap_cons, List.flatMap_nil, List.append_nil]
      exact R7
    · rw [el, take_snoc _ _ hi', List.map_append, ← en]
      unfold Wc.nb
      rw [List.map_append, List.map_cons, List.map_nil, List.map_cons, List.map_nil, eb]; rfl
    · rcases List.mem_append.mp hr with hr | hr
      · obtain ⟨B, O⟩ := ok r hr
        refine ⟨StrAt.fr f7 (StrAt.fr f5 B fun _ _ y => y) fun p e => (O p e).2.2, fun p e => ?_⟩
        obtain ⟨o1, o2, o3⟩ := O p e
        exact ⟨o1, by omega, nG o1 (by omega) o3⟩
      · rw [List.mem_singleton.mp hr]
        have o3 : ¬ G h3.size := fun y => by have := (RG.ge _ y).2; omega
        refine ⟨StrAt.fr f7 s5.str fun p e => by cases e; exact o3, fun p e => ?_⟩
        cases e
        exact ⟨z3, by show h3.size < h7.size; omega, nG (p := ⟨h3.size, 0, none⟩) z3 z5 o3⟩
  · have ei : rs.length = M.written.length := by omega
    rw [ei, List.take_length, ← s.block hl] at en
    have X3 := X2.keep f3 fun _ _ _ _ y => y
    refine os (Put.add X3.ro (by rw [X3.rr]; show 0 + 2 < 3; omega) fun h8 d8 => ?_)
    rw [X3.rr] at d8
    have X8 := X3.ended d8
    have z8 := d8.size
    have nr : ∀ {p : Addr}, h2.size ≤ p.block → ¬ p.block = R.rb := fun {p} hp y => by have := X.ro.lt; omega
    have b8 : Wd.Bx h8 la rs := ⟨SlCells.fr d8.fr RG.s.cells fun p e => by
      have sg := RG.s
      subst e
      exact nr (RG.ge _ sg.2.2.1).1, fun r hr => StrAt.fr d8.fr (ok r hr).1 fun p e => nr ((ok r hr).2 p e).1⟩
    have h5 : ∀ r ∈ rs, r.2.2.length = 512 ∧ 98 ≤ r.1 ∧ r.1 < T.N := fun r hr => by
      have hm : (r.1, r.2.2) ∈ Wc.nb rs := List.mem_map.mpr ⟨r, hr, rfl⟩
      rw [en, s.block hl] at hm
      obtain ⟨i, hi, ei⟩ := List.mem_map.mp hm
      obtain ⟨b, eb, mb⟩ := s.keys hl hi
      rw [eb] at ei
      have := s.rr _ mb
      simp only [Prod.mk.injEq, Option.getD_some] at ei this
      rw [← ei.1, ← ei.2]
      exact ⟨this.2.2, this.1, this.2.1⟩
    have hmax := X.max
    rw [s.N] at hmax
    have mayE : Wc.mayW (Wc.nb rs) (M.disk.lasts.length : Int) = true := by
      rw [en, s.dk]; exact s.may hl
    refine os ⟨_, rda d8.rd rfl, Wd.Commit6_spec X8.dk b8 (fun r hr p e _ y => ?_) (fun _ => mayE) (fun r hr => (h5 r hr).1) (fun r hr => by have := (h5 r hr).2; omega) (by show M.disk.tape.length < _; rw [s.dk]; exact ht) fun h9 E9 f9 g9 x9 => ⟨_, rfl, ?_⟩⟩
    · have y : col p.block = 3 := y
      have := X.nrm p.block (by have := ((ok r hr).2 p e).1; omega)
      omega
    have x9 : Rf.RfS h9 E9 R.q (Wc.wal M.disk (Wc.nb rs)).1 := x9
    show K (.int .i64 (Wc.wal M.disk (Wc.nb rs)).2) h9
    rw [en, s.dk] at x9 ⊢
    obtain ⟨col', old, new, big, X9⟩ := X8.onDisk f9 g9 x9
    have f8 : Fr F h h8 := (((f2.no f3).mono fun _ _ y => y.elim).trans d8.fr fun b _ y => (hF b).mpr (by have y : b = R.rb := y; rw [y]; omega))
    refine hK h9 _ (f8.trans f9 fun b _ y => (hF b).mpr (by have y : col b = 3 := y; omega)) (RxC.gw hF (fun b hb => old b (by omega)) big) ⟨_, s.over hW, col', R, rfl, rfl, X9, fun b => Iff.rfl⟩
end Go.Proofs.YtjdcbblgaoogmaaGreatDoor.Rx
namespace Go.Proofs.YtjdcbblgaoogmaaGreatDoor.Wc
open Go Go.Proofs Wx Hp W Ad
def Stp.ent : Stp → Int × Int × List UInt8
  | .w i b => (1, i, b)
  | .f => (2, 0, [])
theorem step_quiet {S : RD} {f : RD → RD} (hl : S.left = 0) : S.step f = (f S, 0) := by
  unfold RD.step; rw [hl, if_neg (by omega)]
theorem on_quiet {S : RD} (q : Quiet S) (s : Stp) (h : (s.on S).2 = 0) : (s.on S).1.tape = S.tape ++ [s.ent] ∧ Quiet (s.on S).1 := by
  cases s with
  | w i b =>
    have h : (S.write i b).2 = 0 := h
    show (S.write i b).1.tape = _ ∧ Quiet (S.write i b).1
    unfold RD.write at h ⊢
    rw [q.down, if_neg (by simp)] at h ⊢
    split at h
    · have h : (31 : Int) = 0 := h; exact absurd h (by decide)
    · rename_i h1
      rw [if_neg h1]
      split at h
      · have h : (32 : Int) = 0 := h; exact absurd h (by decide)
      · rename_i h2
        rw [if_neg h2, step_quiet (S := S.putW i b) q.left]
        exact ⟨rfl, ⟨q.down, q.left⟩⟩
  | f =>
    show S.flush.1.tape = _ ∧ Quiet S.flush.1
    rw [flush_quiet q]
    exact ⟨rfl, ⟨q.down, q.left⟩⟩
theorem run_tape : ∀ (xs : List Stp) (S S' : RD), Quiet S → runS xs S = (S', 0) → S'.tape = S.tape ++ xs.map Stp.ent
  | [], S, S', _, h => by
    have h : S = S' := congrArg Prod.fst h
    rw [← h]; simp
  | s :: r, S, S', q, h => by
    have h : (if (s.on S).2 = 0 then runS r (s.on S).1 else s.on S) = (S', 0) := h
    split at h
    · rename_i h0
      obtain ⟨a, b⟩ := on_quiet q s h0
      rw [run_tape r _ S' b h, a, List.map_cons, List.append_assoc]; rfl
    · rename_i h0
      rw [h] at h0; exact absurd rfl h0
theorem nums_zeros (n : Int) : Hd.numsM (Hd.zeros 512) n = ([], 0) := by
  unfold Hd.numsM
  rw [if_neg (fun x => x (Hd.zeros_length 512)), if_pos (Hd.zeros_allZero 512)]
theorem set_same {ls : List (List UInt8)} {i : Nat} {y : List UInt8} (h : ls[i]? = some y) : ls.set i y = ls := by
  apply List.ext_getElem?
  intro j
  rw [List.getElem?_set]
  by_cases e : i = j
  · subst e
    have := (List.getElem?_eq_some_iff.mp h).1
    rw [if_pos rfl, if_pos this, h]
  · rw [if_neg e]
theorem home_run {S : RD} {l : Nb} (q : Quiet S) (hp : S.pend = []) (hw : 0 ≤ S.writes ∧ S.writes ≤ 1000000) (hf : 0 ≤ S.flushes ∧ S.flushes ≤ 1000000) (hn : 98 ≤ S.lasts.length) (hin : InDisk S l) (hl : l.length ≤ 96) :
    ∃ S2, runS (homeS l) S = (S2, 0) ∧ Quiet S2 ∧ S2.lasts = applyTo (applyTo S.lasts l) [(1, Hd.zeros 512)] ∧ S2.pend = [] ∧ S2.writes = S.writes + l.length + 1 ∧ S2.flushes = S.flushes + 2 ∧ S2.tape = S.tape ++ (homeS l).map Stp.ent ∧ S2.keep = S.keep := by
  obtain ⟨S1, P1, e1⟩ := run_ph l S q hin hw.1 (by omega) hf.1 (by omega)
  have n1 := P1.n
  have w1 := P1.writes
  have f1 := P1.flushes
  obtain ⟨S2, P2, e2⟩ := run_ph [(1, Hd.zeros 512)] S1 P1.q (fun p hp => by rw [List.mem_singleton.mp hp]; exact ⟨by simp, by simp only; omega, Hd.zeros_length 512⟩) (by omega) (by rw [List.length_singleton]; omega) (by omega) (by omega)
  have ee : homeS l = ws l ++ Stp.f :: (ws [(1, Hd.zeros 512)] ++ Stp.f :: []) := by
    unfold homeS; rfl
  have er : runS (homeS l) S = (S2, 0) := by rw [ee, e1, e2]; rfl
  have w2 := P2.writes
  rw [List.length_singleton] at w2
  refine ⟨S2, er, P2.q, ?_, P2.pend, by omega, by rw [P2.flushes]; omega, run_tape _ _ _ q er, by rw [P2.keep, P1.keep]⟩
  rw [P2.lasts, P1.lasts, P1.pend, hp, List.nil_append, List.nil_append]
structure Clean (S : RD) : Prop where
  q : Quiet S
  pend : S.pend = []
  n : 98 ≤ S.lasts.length
  log : S.lasts[1]? = some (Hd.zeros 512)
theorem Clean.held {S : RD} (c : Clean S) : heldM S = ([], 0) := by
  have e1 : readAt S 1 = Hd.zeros 512 := by rw [read_quiet c.pend, List.getD_eq_getElem?_getD, c.log]; rfl
  have eN : heldN S = ([], 0) := by unfold heldN; rw [e1, nums_zeros]
  unfold heldM
  have := c.n
  rw [c.q.down, if_neg (by simp), if_neg (by omega), eN, if_neg (fun x => x rfl), if_pos (.inl rfl)]; rfl
end Go.Proofs.YtjdcbblgaoogmaaGreatDoor.Wc
namespace Go.Proofs.YtjdcbblgaoogmaaGreatDoor.Wc
open Go Go.Proofs Wx Hp W Ad Pn
theorem diskImage {h : Heap} {D : Nat → Prop} {d : Option Addr} {S : RD} {K : Value → Heap → Prop} (A : DiskF h D d S) (hK : ∀ a c h', Fr No h h' → Sl h' 1 a (S.lasts.length * 512) c (S.lasts.flatten.map bv) (From h.size) → K (.slice a (S.lasts.length * 512) c) h') : C.adisk_Disk_Image d h K := by
  obtain ⟨col, A, _⟩ := A
  exact Image_spec A hK
theorem diskSteps {h : Heap} {D : Nat → Prop} {d : Option Addr} {S : RD} {K : Value → Heap → Prop} (A : DiskF h D d S) (hK : K (.tuple #[.int .i64 S.writes, .int .i64 S.flushes]) h) : C.adisk_Disk_Steps d h K := by
  obtain ⟨col, A, _⟩ := A
  exact Steps_spec A hK
theorem flat_get : ∀ {ls : List (List UInt8)} (_ : ∀ x ∈ ls, x.length = 512) (i : Nat) {j : Nat} (_ : j < 512), ls.flatten[i * 512 + j]? = (ls[i]?).bind fun b => b[j]?
  | [], _, _, _, _ => by simp
  | a :: r, h, i, j, hj => by
    have ha := h a (List.mem_cons_self ..)
    rw [List.flatten_cons]
    cases i with
    | zero => rw [Nat.zero_mul, Nat.zero_add, List.getElem?_append_left (by omega)]; rfl
    | succ i =>
      rw [List.getElem?_append_right (by omega), show (i + 1) * 512 + j - a.length = i * 512 + j by omega, flat_get (fun x hx => h x (List.mem_cons_of_mem _ hx)) i hj]; rfl
theorem byte_at {hh : Heap} {a : Option Addr} {l : Nat} {bs : List UInt8} {k : Nat} {y : UInt8} {Q : Addr → Prop} (B : StrAt hh a l bs) (hk : bs[k]? = some y) (hQ : ∀ p, cellOf hh (Addr.add p k) = some (bv y) → Q p) : onSome a Q := by
  obtain ⟨h1, h2⟩ := B
  cases a with
  | none =>
    have h2 : bs.map bv = [] := h2
    rw [List.map_eq_nil_iff.mp h2] at hk; cases hk
  | some p => exact os (hQ p (h2 k (bv y) (by rw [List.getElem?_map, hk]; rfl)))
def modI (v n : Int) : Int := if Int.tmod v n < 0 then Int.tmod v n + n else Int.tmod v n
theorem modI_range {v n : Int} (h : 0 < n) : 0 ≤ modI v n ∧ modI v n < n := by
  unfold modI
  have h1 := Int.tmod_lt_of_pos v h
  have h2 : -n < Int.tmod v n := by
    have h3 := Int.tmod_lt_of_pos (-v) h
    rw [Int.neg_tmod] at h3; omega
  split <;> omega
end Go.Proofs.YtjdcbblgaoogmaaGreatDoor.Wc
namespace Go.Proofs.YtjdcbblgaoogmaaGreatDoor.Wd
open Go Go.Proofs Wx Hp W Ad Wc Rf
open L3 (Tt)
variable {h1 hh h' : Heap} {c c' : Nat → Nat} {pb : Nat} {q1 q2 ta wa : Option Addr} {tc wc : Nat} {is : List Sc} {cs bs : List (List UInt8)} {zs : List (Nat × List Value)}
variable {D1 D2 D1' D2' : RD} {E1 E2 E1' E2' : Nat → Prop}
open Classical in
theorem DiskF.armS {h : Heap} {D : Nat → Prop} {d : Option Addr} {S : RD} {n : Int} {ka : Option Addr} {kl kc : Nat} {keep : List Bool} {K : Value → Heap → Prop} (A : DiskF h D d S) (hn : n ≤ 9223372036854775807) (hkl : keep.length = kl) (hk : SlCells h ka (keep.map .bool)) (hl : kl ≤ 140737488355328)
    (hK : ∀ h' D', Fr D h h' → Gw h D h' D' → DiskF h' D' d (S.arm n keep).1 → K (.int .i64 (S.arm n keep).2) h') : C.adisk_Disk_Arm d [.int .i64 n, .slice ka kl kc] h K := by
  obtain ⟨col, A, hz, hD⟩ := A
  refine Ad.Arm_spec A hn hkl hk hl fun h' col' f g A' => ?_
  obtain ⟨D', g', a', _⟩ := DiskF.gw hD g f.size A'
  exact hK h' D' (f.mono fun b _ x => (hD b).mpr x) g' a'
end Go.Proofs.YtjdcbblgaoogmaaGreatDoor.Wd
