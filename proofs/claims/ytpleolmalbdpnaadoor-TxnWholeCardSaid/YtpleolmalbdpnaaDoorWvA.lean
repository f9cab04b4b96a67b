/-
  RECOVERY: what the log holds.
-/
import Derived.Test.YtpleolmalbdpnaaDoorWcB
import Derived.Test.YtpleolmalbdpnaaDoorPnA
import Derived.Test.YtpleolmalbdpnaaDoorHdB
namespace Go.Proofs.YtpleolmalbdpnaaDoor.Wc
open Go Go.Proofs Go.Proofs.YtpleolmalbdpnaaDoor.Wx Go.Proofs.YtpleolmalbdpnaaDoor.Hp Go.Proofs.YtpleolmalbdpnaaDoor.W Go.Proofs.YtpleolmalbdpnaaDoor.Ad Go.Proofs.YtpleolmalbdpnaaDoor.Pn

def heldN (S : RD) : List Int × Int := Hd.numsM (readAt S 1) S.lasts.length
def heldL (S : RD) (n : Nat) : Nb := (List.range n).map fun k : Nat => ((heldN S).1.getD k 0, readAt S (2 + k))
theorem heldL_length (S : RD) (n : Nat) : (heldL S n).length = n := by unfold heldL; rw [List.length_map, List.length_range]
theorem heldL_succ (S : RD) (n : Nat) : heldL S (n + 1) = heldL S n ++ [((heldN S).1.getD n 0, readAt S (2 + n))] := by unfold heldL; rw [List.range_succ, List.map_append]; rfl
/-- the blocks that the log holds, or why there are none -/
def heldM (S : RD) : Nb × Int :=
  if S.down = true then ([], 30) else if (S.lasts.length : Int) < 98 then ([], 31) else if (heldN S).2 ≠ 0 then ([], 41)
  else if (heldN S).1 = [] ∨ Hd.goodM (readAt S 1) S.lasts.length ((heldL S (heldN S).1.length).map (·.2)) = true then (heldL S (heldN S).1.length, 0) else ([], 41)
theorem numsM_lim {hd : List UInt8} {n : Int} (h : (Hd.numsM hd n).2 = 0) : (Hd.numsM hd n).1.length ≤ 96 := by
  unfold Hd.numsM at h ⊢
  split
  · exact Nat.zero_le _
  · rename_i c0
    rw [if_neg c0] at h
    split
    · exact Nat.zero_le _
    · rename_i c1
      rw [if_neg c1] at h
      split
      · exact Nat.zero_le _
      · rename_i c2
        rw [if_neg c2] at h
        split
        · exact Nat.zero_le _
        · rename_i c3
          rw [if_neg c3] at h
          split
          · exact Nat.zero_le _
          · rename_i c4
            rw [if_neg c4] at h
            split
            · exact Nat.zero_le _
            · rename_i c5
              rw [if_neg c5] at h
              split
              · exact Nat.zero_le _
              · rw [Hd.numsL_length]; omega
theorem read_ok {h : Heap} {D : Nat → Prop} {d : Option Addr} {S : RD} {i : Int} {K KP : Value → Heap → Prop} (A : DiskF h D d S) (hd : S.down = false) (h0 : 0 ≤ i) (h1 : i < S.lasts.length)
    (hK : ∀ b h', Fr No h h' → Sl h' 1 (some ⟨b, 0, none⟩) 512 512 ((readAt S i.toNat).map bv) (From h.size) → (readAt S i.toNat).length = 512 → K (.slice (some ⟨b, 0, none⟩) 512 512) h') : C.wal_read d i h K KP := by
  refine wal_read.ok (DiskF.read A (fun x => absurd (hd.symm.trans x) (by simp)) (fun _ x => absurd ⟨h0, h1⟩ x) fun _ _ _ b h' f s l => ⟨_, _, _, _, rfl, ?_⟩)
  exact must_true ⟨rfl, hK b h' f s l⟩
theorem held_spec {h : Heap} {D : Nat → Prop} {d : Option Addr} {S : RD} {K KP : Value → Heap → Prop} (G : Re.Glo h) (A : DiskF h D d S)
    (h1 : ∀ e, heldM S = ([], e) → e ≠ 0 → ∀ h', Fr No h h' → KP (guV e) h')
    (h2 : ∀ l, heldM S = (l, 0) → ∀ a c h' rs, Fr No h h' → nb rs = l → rs.length ≤ 96 → Bl h' (fun b => b < h.size) a rs → K (.slice a rs.length c) h') : C.wal_held d h K KP := by
  unfold heldM at h1 h2
  refine wal_held.ok (DiskF.down A ⟨_, rfl, ?_⟩)
  cases hd : S.down with
  | true =>
    rw [hd, if_pos rfl] at h1
    exact must_false (h1 30 rfl (by decide) h (Fr.refl _ _))
  | false =>
    rw [hd, if_neg (by simp)] at h1 h2
    refine must_true ⟨rfl, DiskF.blocks A ⟨_, rfl, ?_⟩⟩
    by_cases hn : (S.lasts.length : Int) < 98
    · rw [if_pos hn] at h1
      rw [decide_eq_false (by omega)]
      exact must_false (h1 31 rfl (by decide) h (Fr.refl _ _))
    rw [if_neg hn] at h1 h2
    rw [decide_eq_true (by omega)]
    refine must_true ⟨rfl, read_ok A hd (by decide) (by omega) fun b h6 f6 s6 l6 => ⟨_, _, _, rfl, DiskF.blocks (A.no f6) ⟨_, rfl, ?_⟩⟩⟩
    have e1 : (1 : Int).toNat = 1 := rfl
    rw [e1] at s6 l6
    refine Hd.Nums_spec (n := S.lasts.length) (G.no f6) s6.str (Nat.le_refl _) (by omega) fun na nl nc h8 f8 enl s8 => ⟨_, _, _, _, rfl, ?_⟩
    have f68 := f6.no f8
    have z8 := f68.size
    have z6 := f6.size
    have eN : Hd.numsM (readAt S 1) S.lasts.length = heldN S := rfl
    rw [eN] at s8 enl ⊢
    by_cases he : (heldN S).2 = 0
    rotate_left
    · rw [if_pos he] at h1
      rw [beq_eq_false_iff_ne.mpr he]
      exact must_false (h1 41 rfl (by decide) h8 f68)
    rw [if_neg (fun x => x he)] at h1 h2
    rw [beq_iff_eq.mpr he]
    have lim : (heldN S).1.length ≤ 96 := numsM_lim he
    subst enl
    refine must_true ⟨rfl, ?_⟩
    refine ⟨fun la ll lc da dl dc n hh => 0 ≤ n ∧ n ≤ (heldN S).1.length ∧ ll = n.toNat ∧ dl = n.toNat ∧ Fr No h8 hh ∧ ∃ (rs : Rs) (F1 F2 : Nat → Prop), nb rs = heldL S n.toNat ∧ rs.length = n.toNat ∧
        Row h8.size hh F1 2 la ll lc (rs.flatMap cellsR) ∧ Row h8.size hh F2 1 da dl dc (rs.map fun r => (hsc r).v) ∧ (∀ b, F1 b → ¬ F2 b) ∧ (∀ r ∈ rs, StrAt hh r.2.1.a r.2.1.l r.2.2 ∧ ∀ p, r.2.1.a = some p → (h8.size ≤ p.block ∧ p.block < hh.size) ∧ ¬ F1 p.block ∧ ¬ F2 p.block),
      fun _ _ _ _ _ _ n _ => (((heldN S).1.length : Int) - n).toNat, ⟨by omega, by omega, rfl, rfl, Fr.refl _ _, [], No, No, rfl, rfl, Row.nil _ _ _, Row.nil _ _ _, fun b x => x.elim, fun r hr => absurd hr List.not_mem_nil⟩, ?_⟩
    rintro la ll lc da dl dc n h10 ⟨n0, n1, rfl, rfl, f10, rs, F1, F2, er, lr, r1, r2, dj, ok⟩
    have z10 := f10.size
    refine cd (fun hlt => ?_) fun hlt => ?_
    · have hn' : n.toNat < (heldN S).1.length := by omega
      obtain ⟨p, rfl, cp⟩ := Hd.ints_get (SlCells.fr f10 s8.cells fun _ _ x => x) hn'
      rw [wrap_i64 (n := 2 + n) (by omega) (by omega)]
      refine ⟨⟨n0, hlt⟩, os ⟨_, cp, read_ok (A.no (f68.no f10)) hd (by omega) (by omega) fun b h11 f11 s11 l11 => ⟨_, _, _, rfl, rfl, ?_⟩⟩⟩
      have z11 := f11.size
      have e2 : (2 + n).toNat = 2 + n.toNat := by omega
      rw [e2] at s11 l11
      have bl : b < h11.size := by obtain ⟨_, _, _, o, _⟩ := s11; exact o.lt
      have bg : h10.size ≤ b := by obtain ⟨_, _, g, _⟩ := s11; exact g
      have r1' := r1.keep f11 fun _ _ x => x
      have r2' := r2.keep f11 fun _ _ x => x
      refine row_app (vs := [.int .i64 (heldN S).1[n.toNat], .slice (some ⟨b, 0, none⟩) 512 512]) r1' rfl (cellsR_one ((heldN S).1[n.toNat], ⟨some ⟨b, 0, none⟩, 512, 512⟩, [])) rfl rfl (Nat.le_of_ble_eq_true rfl) (by omega) (by omega) fun la' lc' h13 F1' f13 g13 r1'' => ?_
      have z13 := f13.size
      have r2'' := r2'.keep f13 fun x y w => dj x w y
      refine row_app (vs := [.slice (some ⟨b, 0, none⟩) 512 512]) r2'' rfl (fun v hv => by rw [List.mem_singleton.mp hv]; rfl) rfl rfl (Nat.le_of_ble_eq_true rfl) (by omega) (by omega) fun da' dc' h15 F2' f15 g15 r2''' => ?_
      have z15 := f15.size
      rw [wrap_i64 (by omega) (by omega)]
      have en : (n + 1).toNat = n.toNat + 1 := by omega
      have nb1 : ¬ F1 b := fun x => by have := (r1.ge b x).2; omega
      have nb2 : ¬ F2 b := fun x => by have := (r2.ge b x).2; omega
      have out1 : ∀ x, x < h11.size → ¬ F1 x → ¬ F1' x := fun x hx y w => (g13 x w).elim y fun q => by omega
      have out2 : ∀ x, x < h11.size → ¬ F2 x → ¬ F2' x := fun x hx y w => (g15 x w).elim y fun q => by omega
      have f1015 : Fr No h8 h15 := ((f10.no f11).trans f13 fun x hx y => by have := r1.ge x y; omega).trans f15 fun x hx y => by have := r2.ge x y; omega
      refine ⟨⟨by omega, by omega, en.symm, en.symm, f1015, rs ++ [((heldN S).1[n.toNat], ⟨some ⟨b, 0, none⟩, 512, 512⟩, readAt S (2 + n.toNat))], F1', F2', ?_, by rw [List.length_append, lr, en]; rfl, ?_, ?_, ?_, ?_⟩, falls hlt⟩
      · rw [en, heldL_succ]
        unfold nb at er ⊢
        rw [List.map_append, er, List.getD_eq_getElem?_getD, List.getElem?_eq_getElem hn']; rfl
      · have q := r1''.keep f15 fun x y w => by
          rcases g13 x y with k | k
          · exact dj x k w
          · have := (r2.ge x w).2; omega
        rw [List.flatMap_append]; exact q
      · rw [List.map_append]; exact r2'''
      · intro x y w
        rcases g15 x w with k | k
        · rcases g13 x y with k' | k'
          · exact dj x k' k
          · have := (r2.ge x k).2; omega
        · have := (r1''.ge x y).2; omega
      · intro r hr
        rcases List.mem_append.mp hr with hr | hr
        · obtain ⟨o1, o2⟩ := ok r hr
          refine ⟨StrAt.fr f15 (StrAt.fr ((f11.mono (G := F1) fun _ _ x => x.elim).trans f13 fun x _ y => y) o1 fun p e => (o2 p e).2.1) fun p e => (o2 p e).2.2, fun p e => ?_⟩
          obtain ⟨q1, q2, q3⟩ := o2 p e
          exact ⟨by omega, out1 _ (by omega) q2, out2 _ (by omega) q3⟩
        · rw [List.mem_singleton.mp hr]
          refine ⟨StrAt.fr f15 (StrAt.fr f13 s11.str fun p e => by cases e; exact nb1) fun p e => by cases e; exact nb2, fun p e => ?_⟩
          cases e
          exact ⟨⟨by show h8.size ≤ b; omega, by show b < h15.size; omega⟩, out1 b bl nb1, out2 b bl nb2⟩
    have en : n.toNat = (heldN S).1.length := by omega
    rw [en] at er lr
    have fin := f68.no f10
    have bl : Bl h10 (fun b => b < h.size) la rs := by
      refine ⟨r1.s.cells, fun p e => ?_, fun r hr => ⟨(ok r hr).1, fun p e => ?_⟩⟩
      · subst e
        obtain ⟨_, _, k, o, _⟩ := r1.s
        exact ⟨o.lt, fun x => by have x : p.block < h.size := x; have := (r1.ge _ k).1; omega⟩
      · have := ((ok r hr).2 p e).1
        exact ⟨this.2, fun x => by have x : p.block < h.size := x; omega⟩
    rw [en, ← lr]
    refine ce (fun h0 => ?_) fun h0 => ?_
    · have e0 : (heldN S).1 = [] := List.eq_nil_of_length_eq_zero (by omega)
      rw [if_pos (.inl e0)] at h2
      exact must_true ⟨rfl, h2 _ rfl la lc h10 rs fin er (by omega) bl⟩
    · have Dt : Hd.Dat h10 da n.toNat (rs.map hsc) (rs.map (·.2.2)) := by
        refine ⟨?_, by rw [List.length_map]; omega, by rw [List.length_map, List.length_map], fun i g1 g2 => ?_⟩
        · rw [List.map_map]; exact r2.s.cells
        · rw [List.getElem_map, List.getElem_map]
          rw [List.length_map] at g1
          exact (ok _ (List.getElem_mem g1)).1
      have ed : rs.map (·.2.2) = (heldL S (heldN S).1.length).map (·.2) := by
        rw [← er]
        unfold nb
        rw [List.map_map]; rfl
      have hne : (heldN S).1 ≠ [] := fun e => by rw [e] at lr; have lr : rs.length = 0 := lr; omega
      have lnr : n.toNat = rs.length := by omega
      rw [lnr] at Dt
      refine DiskF.blocks (A.no fin) ⟨_, rfl, Hd.Good_spec (n := S.lasts.length) (G.no fin) (StrAt.fr (f8.no f10) s6.str fun _ _ x => x) (Nat.le_refl _) (by omega) Dt (by omega) fun h20 f20 => ⟨_, rfl, ?_⟩⟩
      rw [ed]
      cases hg : Hd.goodM (readAt S 1) S.lasts.length ((heldL S (heldN S).1.length).map (·.2)) with
      | true =>
        rw [if_pos (.inr hg)] at h2
        exact must_true ⟨rfl, h2 _ rfl la lc h20 rs (fin.no f20) er (by omega) (bl.no f20)⟩
      | false =>
        rw [if_neg (fun x => x.elim hne fun y => by rw [hg] at y; cases y)] at h1
        exact must_false (h1 41 rfl (by decide) h20 (fin.no f20))
end Go.Proofs.YtpleolmalbdpnaaDoor.Wc
