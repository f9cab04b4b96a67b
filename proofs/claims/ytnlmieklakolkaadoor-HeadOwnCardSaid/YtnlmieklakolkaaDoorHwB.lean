/-
  HeadOwn: what holds between its loops.
-/
import Derived.Test.YtnlmieklakolkaaDoorHwA
namespace Go.Proofs.YtnlmieklakolkaaDoor.Hd
open Go Go.Proofs Go.Proofs.YtnlmieklakolkaaDoor.Wx Go.Proofs.YtnlmieklakolkaaDoor.Hp Go.Proofs.YtnlmieklakolkaaDoor.W Go.Proofs.YtnlmieklakolkaaDoor.Su Go.Proofs.YtnlmieklakolkaaDoor.Re

theorem numsF_length : ∀ (xs : List Int) (a : Int), (numsF a xs).length = xs.length := by
  intro xs
  induction xs with
  | nil => intro a; rfl
  | cons x r ih => intro a; rw [numsF, List.length_cons, List.length_cons, ih]
theorem made_len (steps : List Int) (seed : List UInt8) : (madeN steps).length = (madeD steps seed).length := by
  unfold madeN madeD
  by_cases h : steps = []
  · rw [if_pos h, if_pos h]; rfl
  · rw [if_neg h, if_neg h, numsF_length, dsF, List.length_map, List.length_range, List.length_take, Nat.min_comm]
/-- blocks that are read and never written again -/
structure Dz (h : Heap) (col : Nat → Nat) (a : Option Addr) (l : Nat) (ss : List Sc) (ds : List (List UInt8)) : Prop where
  row : Fz h col a (ss.map Sc.v)
  num : ss.length = l
  len : ss.length = ds.length
  at_ : ∀ i (h1 : i < ss.length) (h2 : i < ds.length), ds[i].length = ss[i].l ∧ Fz h col ss[i].a (ds[i].map bv)
theorem Dz.keep {h h' : Heap} {col col' : Nat → Nat} {a : Option Addr} {l : Nat} {ss : List Sc} {ds : List (List UInt8)} {F : Nat → Prop} (d : Dz h col a l ss ds) (f : Fr F h h') (g : Ag h.size col col') (hF : ∀ b, b < h.size → col b = 0 → ¬ F b) : Dz h' col' a l ss ds :=
  ⟨d.row.keep f g hF, d.num, d.len, fun i h1 h2 => ⟨(d.at_ i h1 h2).1, (d.at_ i h1 h2).2.keep f g hF⟩⟩
theorem Dz.dat {h : Heap} {col : Nat → Nat} {a : Option Addr} {l : Nat} {ss : List Sc} {ds : List (List UInt8)} (d : Dz h col a l ss ds) : Dat h a l ss ds :=
  ⟨d.row.1, d.num, d.len, fun i h1 h2 => ⟨(d.at_ i h1 h2).1, (d.at_ i h1 h2).2.1⟩⟩
/-- the rows: heads, lists, and both with more behind each -/
structure HD where
  hA : Option Addr
  hC : Nat
  hs : List Sc
  vs : List (List Value)
  lA : Option Addr
  lC : Nat
  ls : List Sc
  ws : List (List Value)
  gA : Option Addr
  gC : Nat
  gs : List Sc
  gv : List (List Value)
  oA : Option Addr
  oC : Nat
  os : List Sc
  ov : List (List Value)
structure Hs (h0 hh : Heap) (col : Nat → Nat) (d : HD) (wA : Option Addr) (wC : Nat) (wl : List Value) (na : Option Addr) (ns : List Int) (ba : Option Addr) (bl : Nat) (ss : List Sc) (ds : List (List UInt8)) : Prop where
  fr : Fr No h0 hh
  low : ∀ b, b < h0.size → col b = 0
  n6 : d.hs.length = 6
  n3 : d.ls.length = 3
  g6 : d.gs.length ≤ 6
  o3 : d.os.length ≤ 3
  heads : Rw hh col 1 10 d.hA d.hs.length d.hC d.hs d.vs
  lists : Rw hh col 2 20 d.lA d.ls.length d.lC d.ls d.ws
  longs : Rw hh col 4 10 d.gA d.gs.length d.gC d.gs d.gv
  longer : Rw hh col 5 20 d.oA d.os.length d.oC d.os d.ov
  was : Sl hh 1 wA wl.length wC wl (On col 3)
  nums : Fz hh col na (ints ns)
  data : Dz hh col ba bl ss ds
variable {h0 hh h' : Heap} {col : Nat → Nat} {d : HD} {wA na ba : Option Addr} {wC bl : Nat} {wl : List Value} {ns : List Int} {ss : List Sc} {ds : List (List UInt8)}
theorem Hs.quiet (s : Hs h0 hh col d wA wC wl na ns ba bl ss ds) (f : Fr No hh h') : Hs h0 h' (upd col hh.size 0) d wA wC wl na ns ba bl ss ds := by
  have g : Ag hh.size col (upd col hh.size 0) := ag_upd _ _ _
  have hz := s.fr.size
  exact ⟨s.fr.no f, fun b hb => (g b (by omega)).trans (s.low b hb), s.n6, s.n3, s.g6, s.o3, s.heads.keep f g fun _ _ _ x => x, s.lists.keep f g fun _ _ _ x => x, s.longs.keep f g fun _ _ _ x => x, s.longer.keep f g fun _ _ _ x => x, Sl.keep' s.was f g fun _ _ _ x => x, s.nums.keep f g fun _ _ _ x => x, s.data.keep f g fun _ _ _ x => x⟩
/-- head i is written -/
theorem Hs.head (s : Hs h0 hh col d wA wC wl na ns ba bl ss ds) (hg : d.gs = []) {i : Nat} (hi : i < d.hs.length) {ys : List Value} (f : Fr (On col (10 + i)) hh h') (w : Sl h' 1 d.hs[i].a d.hs[i].l d.hs[i].c ys (On col (10 + i))) :
    Hs h0 h' col { d with vs := d.vs.set i ys } wA wC wl na ns ba bl ss ds := by
  have g : Ag hh.size col col := Ag.refl _ _
  have n6 := s.n6
  have n3 := s.n3
  have g6 := s.g6
  have o3 := s.o3
  refine ⟨s.fr.trans f fun b hb hF => ?_, s.low, s.n6, s.n3, s.g6, s.o3, s.heads.write hi (Or.inl (by omega)) f w, s.lists.keep f g fun b _ h1 h2 => ?_, s.longs.keep f g fun b _ h1 h2 => ?_, s.longer.keep f g fun b _ h1 h2 => ?_, Sl.keep' s.was f g fun b _ h1 h2 => ?_, s.nums.keep f g fun b _ h1 h2 => ?_, s.data.keep f g fun b _ h1 h2 => ?_⟩
  · have hF : col b = 10 + i := hF; rw [s.low b hb] at hF; omega
  · have h2 : col b = 10 + i := h2; omega
  · have h2 : col b = 10 + i := h2; rw [hg, List.length_nil] at h1; omega
  · have h2 : col b = 10 + i := h2; omega
  · have h2 : col b = 10 + i := h2; omega
  · have h2 : col b = 10 + i := h2; omega
  · have h2 : col b = 10 + i := h2; omega
theorem Hs.list (s : Hs h0 hh col d wA wC wl na ns ba bl ss ds) (hg : d.os = []) {i : Nat} (hi : i < d.ls.length) {ys : List Value} (f : Fr (On col (20 + i)) hh h') (w : Sl h' 1 d.ls[i].a d.ls[i].l d.ls[i].c ys (On col (20 + i))) :
    Hs h0 h' col { d with ws := d.ws.set i ys } wA wC wl na ns ba bl ss ds := by
  have g : Ag hh.size col col := Ag.refl _ _
  have n6 := s.n6
  have n3 := s.n3
  have g6 := s.g6
  have o3 := s.o3
  refine ⟨s.fr.trans f fun b hb hF => ?_, s.low, s.n6, s.n3, s.g6, s.o3, s.heads.keep f g fun b _ h1 h2 => ?_, s.lists.write hi (Or.inl (by omega)) f w, s.longs.keep f g fun b _ h1 h2 => ?_, s.longer.keep f g fun b _ h1 h2 => ?_, Sl.keep' s.was f g fun b _ h1 h2 => ?_, s.nums.keep f g fun b _ h1 h2 => ?_, s.data.keep f g fun b _ h1 h2 => ?_⟩
  · have hF : col b = 20 + i := hF; rw [s.low b hb] at hF; omega
  · have h2 : col b = 20 + i := h2; omega
  · have h2 : col b = 20 + i := h2; omega
  · have h2 : col b = 20 + i := h2; rw [hg, List.length_nil] at h1; omega
  · have h2 : col b = 20 + i := h2; omega
  · have h2 : col b = 20 + i := h2; omega
  · have h2 : col b = 20 + i := h2; omega
/-- a row's slice i has been appended to; what it held stays -/
theorem Rw.app {k m l c i : Nat} {a : Option Addr} {qs : List Sc} {vs : List (List Value)} (r : Rw hh col k m a l c qs vs) (hi : i < qs.length) (hv : i < vs.length) (hk : k < m ∨ m + qs.length ≤ k) (f : Fr (On col (m + i)) hh h')
    (w : Sl h' 1 qs[i].a qs[i].l qs[i].c vs[i] (On col (m + i))) : Rw h' (upd col hh.size (m + i)) k m a l c qs vs := by
  have g : Ag hh.size col (upd col hh.size (m + i)) := ag_upd _ _ _
  refine ⟨Sl.keep' r.row f g fun b _ hb hF => by have hF : col b = m + i := hF; omega, r.num, r.len, fun j h1 h2 => ?_⟩
  by_cases e : i = j
  · subst e
    refine w.mono fun b hb => ?_
    have hb : col b = m + i := hb
    show upd col hh.size (m + i) b = m + i
    unfold upd
    split
    · exact hb
    · rfl
  · exact Sl.keep' (r.at_ j h1 h2) f g fun b _ hb hF => by have hF : col b = m + i := hF; omega
theorem Hs.happ (s : Hs h0 hh col d wA wC wl na ns ba bl ss ds) {i : Nat} (hi : i < d.hs.length) (hv : i < d.vs.length) (hgi : d.gs.length ≤ i) (f : Fr (On col (10 + i)) hh h') (w : Sl h' 1 d.hs[i].a d.hs[i].l d.hs[i].c d.vs[i] (On col (10 + i))) :
    Hs h0 h' (upd col hh.size (10 + i)) d wA wC wl na ns ba bl ss ds := by
  have g : Ag hh.size col (upd col hh.size (10 + i)) := ag_upd _ _ _
  have n6 := s.n6
  have n3 := s.n3
  have g6 := s.g6
  have o3 := s.o3
  have hz := s.fr.size
  refine ⟨s.fr.trans f fun b hb hF => ?_, fun b hb => (g b (by omega)).trans (s.low b hb), s.n6, s.n3, s.g6, s.o3, Rw.app s.heads hi hv (Or.inl (by omega)) f w, s.lists.keep f g fun b _ h1 h2 => ?_, s.longs.keep f g fun b _ h1 h2 => ?_, s.longer.keep f g fun b _ h1 h2 => ?_, Sl.keep' s.was f g fun b _ h1 h2 => ?_, s.nums.keep f g fun b _ h1 h2 => ?_, s.data.keep f g fun b _ h1 h2 => ?_⟩
  · have hF : col b = 10 + i := hF; rw [s.low b hb] at hF; omega
  · have h2 : col b = 10 + i := h2; omega
  · have h2 : col b = 10 + i := h2; omega
  · have h2 : col b = 10 + i := h2; omega
  · have h2 : col b = 10 + i := h2; omega
  · have h2 : col b = 10 + i := h2; omega
  · have h2 : col b = 10 + i := h2; omega
theorem Hs.lapp (s : Hs h0 hh col d wA wC wl na ns ba bl ss ds) {i : Nat} (hi : i < d.ls.length) (hv : i < d.ws.length) (hgi : d.os.length ≤ i) (f : Fr (On col (20 + i)) hh h') (w : Sl h' 1 d.ls[i].a d.ls[i].l d.ls[i].c d.ws[i] (On col (20 + i))) :
    Hs h0 h' (upd col hh.size (20 + i)) d wA wC wl na ns ba bl ss ds := by
  have g : Ag hh.size col (upd col hh.size (20 + i)) := ag_upd _ _ _
  have n6 := s.n6
  have n3 := s.n3
  have g6 := s.g6
  have o3 := s.o3
  have hz := s.fr.size
  refine ⟨s.fr.trans f fun b hb hF => ?_, fun b hb => (g b (by omega)).trans (s.low b hb), s.n6, s.n3, s.g6, s.o3, s.heads.keep f g fun b _ h1 h2 => ?_, Rw.app s.lists hi hv (Or.inl (by omega)) f w, s.longs.keep f g fun b _ h1 h2 => ?_, s.longer.keep f g fun b _ h1 h2 => ?_, Sl.keep' s.was f g fun b _ h1 h2 => ?_, s.nums.keep f g fun b _ h1 h2 => ?_, s.data.keep f g fun b _ h1 h2 => ?_⟩
  · have hF : col b = 20 + i := hF; rw [s.low b hb] at hF; omega
  · have h2 : col b = 20 + i := h2; omega
  · have h2 : col b = 20 + i := h2; omega
  · have h2 : col b = 20 + i := h2; omega
  · have h2 : col b = 20 + i := h2; omega
  · have h2 : col b = 20 + i := h2; omega
  · have h2 : col b = 20 + i := h2; omega
/-- a longer head is put behind its row -/
theorem Hs.gpush (s : Hs h0 hh col d wA wC wl na ns ba bl ss ds) (hl : d.gs.length < 6) {x : Sc} {xv : List Value} {a' : Option Addr} {c' : Nat} (f : Fr (On col 4) hh h') (r : Sl h' 1 a' (d.gs.length + 1) c' (d.gs.map Sc.v ++ [x.v]) (On (upd col hh.size 4) 4)) (it : Sl hh 1 x.a x.l x.c xv (On col (10 + d.gs.length))) :
    Hs h0 h' (upd col hh.size 4) { d with gA := a', gC := c', gs := d.gs ++ [x], gv := d.gv ++ [xv] } wA wC wl na ns ba bl ss ds := by
  have g : Ag hh.size col (upd col hh.size 4) := ag_upd _ _ _
  have n6 := s.n6
  have n3 := s.n3
  have g6 := s.g6
  have o3 := s.o3
  have hz := s.fr.size
  have lg := Rw.push (new := [x]) (nvs := [xv]) s.longs (Or.inl (by omega)) f r rfl fun i h1 h2 => by
    have : i = 0 := by have : i < 1 := h1; omega
    subst this
    exact it
  refine ⟨s.fr.trans f fun b hb hF => ?_, fun b hb => (g b (by omega)).trans (s.low b hb), s.n6, s.n3, by rw [List.length_append, List.length_singleton]; omega, s.o3, s.heads.keep f g fun b _ h1 h2 => ?_, s.lists.keep f g fun b _ h1 h2 => ?_, ?_, s.longer.keep f g fun b _ h1 h2 => ?_, Sl.keep' s.was f g fun b _ h1 h2 => ?_, s.nums.keep f g fun b _ h1 h2 => ?_, s.data.keep f g fun b _ h1 h2 => ?_⟩
  · have hF : col b = 4 := hF; rw [s.low b hb] at hF; omega
  · have h2 : col b = 4 := h2; omega
  · have h2 : col b = 4 := h2; omega
  · rw [List.length_append, List.length_singleton]; exact lg
  · have h2 : col b = 4 := h2; omega
  · have h2 : col b = 4 := h2; omega
  · have h2 : col b = 4 := h2; omega
  · have h2 : col b = 4 := h2; omega
theorem Hs.opush (s : Hs h0 hh col d wA wC wl na ns ba bl ss ds) (hl : d.os.length < 3) {x : Sc} {xv : List Value} {a' : Option Addr} {c' : Nat} (f : Fr (On col 5) hh h') (r : Sl h' 1 a' (d.os.length + 1) c' (d.os.map Sc.v ++ [x.v]) (On (upd col hh.size 5) 5)) (it : Sl hh 1 x.a x.l x.c xv (On col (20 + d.os.length))) :
    Hs h0 h' (upd col hh.size 5) { d with oA := a', oC := c', os := d.os ++ [x], ov := d.ov ++ [xv] } wA wC wl na ns ba bl ss ds := by
  have g : Ag hh.size col (upd col hh.size 5) := ag_upd _ _ _
  have n6 := s.n6
  have n3 := s.n3
  have g6 := s.g6
  have o3 := s.o3
  have hz := s.fr.size
  have lg := Rw.push (new := [x]) (nvs := [xv]) s.longer (Or.inl (by omega)) f r rfl fun i h1 h2 => by
    have : i = 0 := by have : i < 1 := h1; omega
    subst this
    exact it
  refine ⟨s.fr.trans f fun b hb hF => ?_, fun b hb => (g b (by omega)).trans (s.low b hb), s.n6, s.n3, s.g6, by rw [List.length_append, List.length_singleton]; omega, s.heads.keep f g fun b _ h1 h2 => ?_, s.lists.keep f g fun b _ h1 h2 => ?_, s.longs.keep f g fun b _ h1 h2 => ?_, ?_, Sl.keep' s.was f g fun b _ h1 h2 => ?_, s.nums.keep f g fun b _ h1 h2 => ?_, s.data.keep f g fun b _ h1 h2 => ?_⟩
  · have hF : col b = 5 := hF; rw [s.low b hb] at hF; omega
  · have h2 : col b = 5 := h2; omega
  · have h2 : col b = 5 := h2; omega
  · have h2 : col b = 5 := h2; omega
  · rw [List.length_append, List.length_singleton]; exact lg
  · have h2 : col b = 5 := h2; omega
  · have h2 : col b = 5 := h2; omega
  · have h2 : col b = 5 := h2; omega
end Go.Proofs.YtnlmieklakolkaaDoor.Hd
