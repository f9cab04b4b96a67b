import Derived.Test.YtnbfaokpaiiojaaHpE
import Derived.Test.YtnbfaokpaiiojaaForms
/-
  THE DISK of package adisk: what it holds, and what its calls do.
-/
namespace Go.Proofs.Ytnbfaokpaiiojaa.Ad
open Go Go.Proofs Go.Proofs.Ytnbfaokpaiiojaa.Wx Go.Proofs.Ytnbfaokpaiiojaa.Hp Go.Proofs.Ytnbfaokpaiiojaa.W

structure RD where
  lasts : List (List UInt8)
  pend : List (Int × List UInt8)
  left : Int
  keep : List Bool
  down : Bool
  writes : Int
  flushes : Int
  tape : List (Int × Int × List UInt8)

def blk (b : List UInt8) : List Value := b.map bv
def pcell (p : Int × List UInt8) : List Value := .int .i64 p.1 :: p.2.map bv
structure Ent where
  kind : Int
  at_ : Int
  a : Option Addr
  l : Nat
  c : Nat
def Ent.cells (e : Ent) : List Value := [.int .i64 e.kind, .int .i64 e.at_, .slice e.a e.l e.c]
/-- entries of a tape with their bytes, in blocks of colour k -/
def Ents (h : Heap) (col : Nat → Nat) (k : Nat) : List Ent → List (Int × Int × List UInt8) → Prop
  | [], [] => True
  | e :: r, t :: s => e.kind = t.1 ∧ e.at_ = t.2.1 ∧ StrAt h e.a e.l t.2.2 ∧ (∀ p, e.a = some p → p.block < h.size ∧ col p.block = k) ∧ Ents h col k r s
  | _, _ => False
theorem Ents.keep {h h' : Heap} {col col' : Nat → Nat} {k : Nat} {F : Nat → Prop} (f : Fr F h h') (g : Ag h.size col col') (hF : ∀ b, col b = k → ¬ F b) :
    ∀ {es : List Ent} {ts : List (Int × Int × List UInt8)}, Ents h col k es ts → Ents h' col' k es ts := by
  intro es
  induction es with
  | nil => intro ts e; cases ts with
    | nil => trivial
    | cons _ _ => exact e.elim
  | cons x r ih => intro ts e; cases ts with
    | nil => exact e.elim
    | cons t s =>
      obtain ⟨h1, h2, h3, h4, h5⟩ := e
      exact ⟨h1, h2, StrAt.fr f h3 (fun p hp => hF _ (h4 p hp).2), fun p hp => ⟨Nat.lt_of_lt_of_le (h4 p hp).1 f.size, (g _ (h4 p hp).1).trans (h4 p hp).2⟩, ih h5⟩
theorem Ents.length {h : Heap} {col : Nat → Nat} {k : Nat} : ∀ {es : List Ent} {ts : List (Int × Int × List UInt8)}, Ents h col k es ts → es.length = ts.length := by
  intro es
  induction es with
  | nil => intro ts e; cases ts with
    | nil => rfl
    | cons _ _ => exact e.elim
  | cons x r ih => intro ts e; cases ts with
    | nil => exact e.elim
    | cons t s => simp [ih e.2.2.2.2]

/-- the cells of a disk's struct -/
structure Raw where
  la : Option Addr
  ln : Nat
  lc : Nat
  pa : Option Addr
  pn : Nat
  pc : Nat
  left : Int
  ka : Option Addr
  kn : Nat
  kc : Nat
  down : Bool
  writes : Int
  flushes : Int
  ta : Option Addr
  tn : Nat
  tc : Nat
def Raw.cells (r : Raw) : List Value :=
  [.slice r.la r.ln r.lc, .slice r.pa r.pn r.pc, .int .i64 r.left, .slice r.ka r.kn r.kc, .bool r.down, .int .i64 r.writes, .int .i64 r.flushes, .slice r.ta r.tn r.tc]
/-- what the cells of a disk lead to, in colours m+1 .. m+5 -/
structure Parts (h : Heap) (S : RD) (col : Nat → Nat) (m : Nat) (r : Raw) (es : List Ent) : Prop where
  left : r.left = S.left
  leftb : 0 ≤ S.left ∧ S.left ≤ 9223372036854775807
  down : r.down = S.down
  writes : r.writes = S.writes
  flushes : r.flushes = S.flushes
  l : Sl h 512 r.la r.ln r.lc (S.lasts.flatMap blk) (On col (m + 1))
  lw : ∀ x ∈ S.lasts, x.length = 512
  ln : r.ln = S.lasts.length
  lmax : S.lasts.length ≤ 16384
  p : Sl h 513 r.pa r.pn r.pc (S.pend.flatMap pcell) (On col (m + 2))
  pw : ∀ x ∈ S.pend, x.2.length = 512
  pn : r.pn = S.pend.length
  pi : ∀ x ∈ S.pend, 0 ≤ x.1 ∧ x.1 < S.lasts.length
  pmax : S.pend.length ≤ 140737488355328
  k : Sl h 1 r.ka r.kn r.kc (S.keep.map .bool) (On col (m + 3))
  kn : r.kn = S.keep.length
  t : Sl h 3 r.ta r.tn r.tc (es.flatMap Ent.cells) (On col (m + 4))
  tn : r.tn = es.length
  tmax : es.length ≤ 140737488355328
  ts : Ents h col (m + 5) es S.tape
/-- a disk stands at block b, in colour m -/
structure Disk (h : Heap) (b : Nat) (S : RD) (col : Nat → Nat) (m : Nat) (r : Raw) (es : List Ent) : Prop extends Parts h S col m r es where
  sc : col b = m
  so : Own h b
  sr : rd h b = r.cells
def DiskAt (h : Heap) (d : Option Addr) (S : RD) (col : Nat → Nat) (m : Nat) : Prop := ∃ b r es, d = some ⟨b, 0, none⟩ ∧ Disk h b S col m r es

theorem Parts.keep {h h' : Heap} {S : RD} {col col' : Nat → Nat} {m : Nat} {r : Raw} {es : List Ent} {F : Nat → Prop} (d : Parts h S col m r es) (f : Fr F h h') (g : Ag h.size col col')
    (hF : ∀ b, m + 1 ≤ col b → col b ≤ m + 5 → ¬ F b) : Parts h' S col' m r es :=
  ⟨d.left, d.leftb, d.down, d.writes, d.flushes, d.l.keep f g (fun b e => hF b (by omega) (by omega)), d.lw, d.ln, d.lmax,
    d.p.keep f g (fun b e => hF b (by omega) (by omega)), d.pw, d.pn, d.pi, d.pmax, d.k.keep f g (fun b e => hF b (by omega) (by omega)), d.kn, d.t.keep f g (fun b e => hF b (by omega) (by omega)), d.tn, d.tmax,
    Ents.keep f g (fun b e => hF b (by omega) (by omega)) d.ts⟩
theorem Disk.keep' {h h' : Heap} {b : Nat} {S : RD} {col col' : Nat → Nat} {m : Nat} {r : Raw} {es : List Ent} {F : Nat → Prop} (d : Disk h b S col m r es) (f : Fr F h h') (g : Ag h.size col col')
    (hF : ∀ b, m ≤ col b → col b ≤ m + 5 → ¬ F b) : Disk h' b S col' m r es := by
  have hb := d.so.lt
  have hs : ¬ F b := hF b (by have := d.sc; omega) (by have := d.sc; omega)
  exact ⟨d.toParts.keep f g (fun b h1 h2 => hF b (by omega) h2), (g _ hb).trans d.sc, f.own hb hs d.so, (f.rd hb hs).trans d.sr⟩
/-- the struct is written -/
theorem Disk.re {h h' : Heap} {b : Nat} {S : RD} {col : Nat → Nat} {m : Nat} {r : Raw} {es : List Ent} (P : Parts h S col m r es) (sc : col b = m) (D : Did b h h' r.cells) : Disk h' b S col m r es :=
  ⟨P.keep D.fr (Ag.refl _ _) (fun x h1 _ e => by rw [e] at h1; omega), sc, D.own, D.rd⟩
theorem DiskAt.keep {h h' : Heap} {d : Option Addr} {S : RD} {col col' : Nat → Nat} {m : Nat} {F : Nat → Prop} (D : DiskAt h d S col m) (f : Fr F h h') (g : Ag h.size col col')
    (hF : ∀ b, m ≤ col b → col b ≤ m + 5 → ¬ F b) : DiskAt h' d S col' m := by
  obtain ⟨b, r, es, e, D⟩ := D; exact ⟨b, r, es, e, D.keep' f g hF⟩

def fresh (ls : List (List UInt8)) : RD := ⟨ls, [], 0, [], false, 0, 0, []⟩
def zeroBlk : List UInt8 := List.replicate 512 0

theorem repCells_zero (z : List Value) (hz : z = List.replicate 512 (.int .u8 0)) (n : Nat) : repCells z n = (List.replicate n zeroBlk).flatMap blk := by
  rw [repCells_eq, List.flatMap_replicate]
  subst hz
  have : blk zeroBlk = List.replicate 512 (.int .u8 0) := by simp only [blk, zeroBlk, List.map_replicate]; rfl
  rw [this]

theorem New_spec {n : Int} {h : Heap} {K : Value → Heap → Prop} (col : Nat → Nat) (m : Nat)
    (h1 : n < 1 ∨ 16384 < n → K (.tuple #[.pointer none, .int .i64 32]) h)
    (h2 : 1 ≤ n → n ≤ 16384 → ∀ q h' col', Fr No h h' → Ag h.size col col' → DiskAt h' (some q) (fresh (List.replicate n.toNat zeroBlk)) col' m → K (.tuple #[.pointer (some q), .int .i64 0]) h') :
    C.adisk_New n h K := by
  refine adisk_New.ok ?_
  refine cd (fun a => h1 (Or.inl a)) fun a => cd (fun b => h1 (Or.inr b)) fun b => ⟨by omega, ?_⟩
  refine New.intro fun h2' n2 => New.intro fun h3 n3 => ?_
  refine h2 (by omega) (by omega) _ _ (upd (upd col h.size (m + 1)) (h.size + 1) m) (n2.fr.new n3) ((ag_upd _ _ _).trans (ag_upd _ _ _) (by omega)) ?_
  refine ⟨_, ⟨some ⟨h.size, 0, none⟩, n.toNat, n.toNat, none, 0, 0, 0, none, 0, 0, false, 0, 0, none, 0, 0⟩, [], rfl, ?_⟩
  have hl := flat_length blk 512 (List.replicate n.toNat zeroBlk) (by intro x hx; rw [List.eq_of_mem_replicate hx]; simp only [blk, zeroBlk, List.length_map, List.length_replicate])
  rw [List.length_replicate] at hl
  have e2 : rd h2' h.size = (List.replicate n.toNat zeroBlk).flatMap blk := n2.rd.trans (repCells_zero _ rfl _)
  refine ⟨⟨rfl, ⟨by simp [fresh], by simp [fresh]⟩, rfl, rfl, rfl, ?_, ?_, ?_, ?_, Sl.nil _ _ _, ?_, rfl, ?_, by simp [fresh], Sl.nil _ _ _, rfl, Sl.nil _ _ _, rfl, by simp, trivial⟩, upd_ge (by rw [n2.size]; omega), n3.own, n3.rd⟩
  · refine ⟨hl, rfl, ?_, n3.ow n2.own, Nat.le_refl _, ?_, ?_⟩
    · show upd (upd col h.size (m + 1)) (h.size + 1) m h.size = m + 1
      rw [upd_lt (by omega), upd_ge (Nat.le_refl _)]
    · show ((rd h3 h.size).drop 0).take _ = _
      rw [n3.at_ n2.own.lt, e2, List.drop_zero]; exact List.take_length
    · show 0 + n.toNat * 512 ≤ (rd h3 h.size).length
      rw [n3.at_ n2.own.lt, e2, hl]; omega
  · intro x hx; rw [List.eq_of_mem_replicate hx]; simp only [zeroBlk, List.length_replicate]
  · simp [fresh]
  · simp only [fresh, List.length_replicate]; omega
  · intro x hx; simp [fresh] at hx
  · intro x hx; simp [fresh] at hx
end Go.Proofs.Ytnbfaokpaiiojaa.Ad
/-
  THE DISK of package adisk: reads, and the image.
-/
namespace Go.Proofs.Ytnbfaokpaiiojaa.Ad
open Go Go.Proofs Go.Proofs.Ytnbfaokpaiiojaa.Wx Go.Proofs.Ytnbfaokpaiiojaa.Hp Go.Proofs.Ytnbfaokpaiiojaa.W

theorem Disk.field {h : Heap} {b : Nat} {S : RD} {col : Nat → Nat} {m : Nat} {r : Raw} {es : List Ent} (d : Disk h b S col m r es) (k : Nat) : cellOf h (Addr.add ⟨b, 0, none⟩ k) = r.cells[k]? := by
  rw [add_mk, cellOf_rd, d.sr, Nat.zero_add]

theorem has_spec {d : Option Addr} {i : Int} {h : Heap} {K : Value → Heap → Prop} {S : RD} {col : Nat → Nat} {m : Nat} (D : DiskAt h d S col m)
    (hK : K (.bool (decide (0 ≤ i ∧ i < S.lasts.length))) h) : C.adisk_Disk_has d i h K := by
  obtain ⟨b, r, es, rfl, D⟩ := D
  refine adisk_Disk_has.ok (cd (fun a => ⟨_, _, _, D.field 0, ?_⟩) fun a => ?_)
  · rw [D.ln]
    have e : (0 ≤ i ∧ i < S.lasts.length) = (i < S.lasts.length) := by rw [eq_true (show 0 ≤ i from a), true_and]
    simpa only [e] using hK
  · have : ¬ (0 ≤ i ∧ i < S.lasts.length) := by omega
    simpa only [this, decide_false] using hK
theorem Blocks_spec {d : Option Addr} {h : Heap} {K : Value → Heap → Prop} {S : RD} {col : Nat → Nat} {m : Nat} (D : DiskAt h d S col m)
    (hK : K (.int .i64 S.lasts.length) h) : C.adisk_Disk_Blocks d h K := by
  obtain ⟨b, r, es, rfl, D⟩ := D
  refine adisk_Disk_Blocks.ok ⟨_, _, _, D.field 0, ?_⟩
  rw [D.ln]; exact hK

/-- what a read of block i finds -/
def readFrom (b : List UInt8) (i : Int) (ps : List (Int × List UInt8)) : List UInt8 := ps.foldl (fun b p => if p.1 = i then p.2 else b) b
def readAt (S : RD) (i : Nat) : List UInt8 := readFrom (S.lasts.getD i []) i S.pend
theorem pcell_len {p : Int × List UInt8} (h : p.2.length = 512) : (pcell p).length = 513 := by simp only [pcell, List.length_cons, List.length_map, h]
theorem blk_len {b : List UInt8} (h : b.length = 512) : (blk b).length = 512 := by simp only [blk, List.length_map, h]
theorem pcell_data (p : Int × List UInt8) : ((pcell p).drop (0 + 1)).take (blk p.2).length = blk p.2 := by
  simp only [pcell, blk, Nat.zero_add, List.drop_succ_cons, List.drop_zero]; exact List.take_length
theorem pcell_one (p : Int × List UInt8) : ∀ v ∈ pcell p, v.oneCell' = true := by
  intro v hv
  rcases List.mem_cons.mp hv with rfl | hv
  · rfl
  · exact bv_one _ v hv
theorem Disk.pendCells {h : Heap} {b : Nat} {S : RD} {col : Nat → Nat} {m : Nat} {r : Raw} {es : List Ent} (d : Disk h b S col m r es) {h' : Heap} {col' : Nat → Nat} {i : Nat} (hi : i < S.pend.length)
    (s : Sl h' 513 r.pa r.pn r.pc (S.pend.flatMap pcell) (On col' (m + 2))) : ∃ p, r.pa = some p ∧ Cells h' (p.add (i * 513)) (pcell S.pend[i]) := by
  obtain ⟨p, e, c⟩ := s.get (by rw [d.pn]; omega)
  refine ⟨p, e, ?_⟩
  have := Cells.part c (i * 513) 513
  rw [flat_part pcell 513 S.pend (fun x hx => pcell_len (d.pw x hx)) i hi] at this
  exact this
theorem Disk.lastCells {h : Heap} {b : Nat} {S : RD} {col : Nat → Nat} {m : Nat} {r : Raw} {es : List Ent} (d : Disk h b S col m r es) {h' : Heap} {col' : Nat → Nat} {i : Nat} (hi : i < S.lasts.length)
    (s : Sl h' 512 r.la r.ln r.lc (S.lasts.flatMap blk) (On col' (m + 1))) : ∃ p, r.la = some p ∧ Cells h' (p.add (i * 512)) (blk S.lasts[i]) := by
  obtain ⟨p, e, c⟩ := s.get (by rw [d.ln]; omega)
  refine ⟨p, e, ?_⟩
  have := Cells.part c (i * 512) 512
  rw [flat_part blk 512 S.lasts (fun x hx => blk_len (d.lw x hx)) i hi] at this
  exact this
theorem readFrom_take {b : List UInt8} {i : Int} {ps : List (Int × List UInt8)} {n : Nat} (hn : n < ps.length) : readFrom b i (ps.take (n + 1)) = if ps[n].1 = i then ps[n].2 else readFrom b i (ps.take n) := by
  rw [readFrom, List.take_add_one, List.foldl_append, List.getElem?_eq_getElem hn]; rfl

theorem Read_spec {d : Option Addr} {i : Int} {h : Heap} {K : Value → Heap → Prop} {S : RD} {col : Nat → Nat} {m : Nat} (D : DiskAt h d S col m)
    (h1 : S.down = true → K (.tuple #[.slice none 0 0, .int .i64 30]) h)
    (h2 : S.down = false → ¬ (0 ≤ i ∧ i < S.lasts.length) → K (.tuple #[.slice none 0 0, .int .i64 31]) h)
    (h3 : S.down = false → 0 ≤ i → i < S.lasts.length → ∀ b h', Fr No h h' → h.size ≤ b → Own h' b → rd h' b = (readAt S i.toNat).map bv → (readAt S i.toNat).length = 512 →
      K (.tuple #[.slice (some ⟨b, 0, none⟩) 512 512, .int .i64 0]) h') :
    C.adisk_Disk_Read d i h K := by
  have D0 := D
  obtain ⟨b, r, es, rfl, D⟩ := D
  refine adisk_Disk_Read.ok ⟨_, D.field 4, ?_⟩
  rw [D.down]
  refine cs h1 fun hd => has_spec D0 ⟨_, rfl, cnot (cd (fun a => ?_) (h2 hd))⟩
  have hi : i.toNat < S.lasts.length := by omega
  obtain ⟨p, e, c⟩ := D.lastCells hi D.l
  refine ⟨_, _, _, D.field 0, ⟨a.1, by rw [D.ln]; exact a.2⟩, ?_⟩
  rw [e]
  have hlen := blk_len (D.lw _ (List.getElem_mem hi))
  refine ⟨_, hlen, c, NewRow.intro hlen (bv_one _) List.length_replicate fun h4 n4 => ?_⟩
  have D4 := D.keep' n4.fr (Ag.refl _ _) (fun _ _ _ x => x)
  refine ⟨_, _, _, D4.field 1, ?_⟩
  refine ⟨fun n hh => 0 ≤ n ∧ n ≤ S.pend.length ∧ Fr No h hh ∧ Own hh h.size ∧ rd hh h.size = (readFrom S.lasts[i.toNat] i (S.pend.take n.toNat)).map bv ∧ (readFrom S.lasts[i.toNat] i (S.pend.take n.toNat)).length = 512,
    fun n _ => (S.pend.length - n).toNat, ⟨by omega, by omega, n4.fr, n4.own, n4.rd, D.lw _ (List.getElem_mem hi)⟩, ?_⟩
  rintro n h5 ⟨n0, n1, f5, o5, r5, l5⟩
  have D5 := D.keep' f5 (Ag.refl _ _) (fun _ _ _ x => x)
  rw [D.pn]
  refine cd (fun hn => ?_) fun hn => ?_
  rotate_left
  · have : readAt S i.toNat = readFrom S.lasts[i.toNat] i (S.pend.take n.toNat) := by
      rw [List.take_of_length_le (by omega), readAt, List.getD_eq_getElem?_getD, List.getElem?_eq_getElem hi, Option.getD_some, Int.toNat_of_nonneg a.1]
    exact h3 hd a.1 a.2 _ _ f5 (Nat.le_refl _) o5 (by rw [this]; exact r5) (by rw [this]; exact l5)
  have hn' : n.toNat < S.pend.length := by omega
  obtain ⟨q, e', c'⟩ := D5.pendCells hn' D5.p
  refine ⟨⟨n0, hn⟩, ?_⟩
  rw [e']
  have hp2 := D.pw _ (List.getElem_mem hn')
  have hpl := pcell_len hp2
  refine ⟨_, hpl, c', NewRow.intro hpl (pcell_one _) (List.length_cons.trans (congrArg (· + 1) List.length_replicate)) fun h7 n7 => ?_⟩
  have f7 := f5.new n7
  have hs5 := f5.size
  have hw : IntKind.wrap .i64 (n + 1) = n + 1 := wrap_i64 (by omega) (by have := D.pmax; omega)
  have ht : (n + 1).toNat = n.toNat + 1 := by omega
  refine ⟨_, rda n7.rd rfl, ?_⟩
  rw [hw]
  refine ce (fun hq => ?_) fun hq => ?_
  · have hb := blk_len hp2
    have r7 := n7.at_ o5.lt
    refine ⟨_, hb, cellsa n7.rd (pcell_data _), PutRow.intro (n7.ow o5) hb (bv_one _) (by rw [r7, r5, List.length_map, l5]; omega) fun h8 n8 => ⟨⟨by omega, by omega, f7.did n8 (fun x => by omega), n8.own, ?_, ?_⟩, falls hn⟩⟩
    · rw [n8.rd, r7, r5, put_all _ _ (by rw [hb, List.length_map, l5]), ht, readFrom_take hn', if_pos hq]; rfl
    · rw [ht, readFrom_take hn', if_pos hq]; exact hp2
  · refine ⟨⟨by omega, by omega, f7, n7.ow o5, ?_, ?_⟩, falls hn⟩
    · rw [n7.at_ o5.lt, r5, ht, readFrom_take hn', if_neg hq]
    · rw [ht, readFrom_take hn', if_neg hq]; exact l5
end Go.Proofs.Ytnbfaokpaiiojaa.Ad
/-
  THE DISK of package adisk: its image, and a disk of an image.
-/
namespace Go.Proofs.Ytnbfaokpaiiojaa.Ad
open Go Go.Proofs Go.Proofs.Ytnbfaokpaiiojaa.Wx Go.Proofs.Ytnbfaokpaiiojaa.Hp Go.Proofs.Ytnbfaokpaiiojaa.W

theorem Disk.putLast {h h' : Heap} {b : Nat} {S : RD} {col : Nat → Nat} {m : Nat} {r : Raw} {es : List Ent} (d : Disk h b S col m r es) {lb lo i : Nat} {y : List UInt8} (hi : i < S.lasts.length) (hy : y.length = 512)
    (e : r.la = some ⟨lb, lo, none⟩) (D : Did lb h h' (put (rd h lb) (lo + i * 512) (blk y))) : Disk h' b { S with lasts := S.lasts.set i y } col m r es := by
  have L := d.l
  rw [e] at L
  have hc : col lb = m + 1 := L.2.2.1
  have K := d.keep' (F := fun x => x = lb ∧ False) (h' := h) ⟨Nat.le_refl _, fun _ _ _ => rfl⟩ (Ag.refl _ _) (fun _ _ _ x => x.2)
  have hs : b ≠ lb := by intro x; have := d.sc; rw [x] at this; omega
  have g : Ag h.size col col := Ag.refl _ _
  have hk : ∀ k, k ≠ m + 1 → ∀ x, col x = k → ¬ (x = lb) := by intro k hk x hx e; rw [e] at hx; omega
  exact ⟨⟨d.left, d.leftb, d.down, d.writes, d.flushes, by rw [e]; exact L.putPart (fun x hx => blk_len (d.lw x hx)) hi (blk_len hy) D,
    fun x hx => by rcases List.mem_or_eq_of_mem_set hx with hx | rfl; exact d.lw x hx; exact hy, by simp only [List.length_set]; exact d.ln, by simp only [List.length_set]; exact d.lmax,
    d.p.keep D.fr g (hk _ (by omega)), d.pw, d.pn, by simp only [List.length_set]; exact d.pi, d.pmax, d.k.keep D.fr g (hk _ (by omega)), d.kn, d.t.keep D.fr g (hk _ (by omega)), d.tn, d.tmax, Ents.keep D.fr g (hk _ (by omega)) d.ts⟩, d.sc, D.ow d.so, (D.at_ d.so.lt hs).trans d.sr⟩

theorem take_snoc {α : Type} (xs : List α) (n : Nat) (h : n < xs.length) : xs.take (n + 1) = xs.take n ++ [xs[n]] := by
  rw [List.take_add_one, List.getElem?_eq_getElem h]; rfl
def chunks (bs : List UInt8) : List (List UInt8) := (List.range (bs.length / 512)).map fun i => (bs.drop (i * 512)).take 512
theorem chunks_length (bs : List UInt8) : (chunks bs).length = bs.length / 512 := by simp only [chunks, List.length_map, List.length_range]
theorem chunks_get (bs : List UInt8) {i : Nat} (h : i < (chunks bs).length) : (chunks bs)[i] = (bs.drop (i * 512)).take 512 := by simp only [chunks, List.getElem_map, List.getElem_range]
theorem chunks_len (bs : List UInt8) : ∀ x ∈ chunks bs, x.length = 512 := by
  intro x hx
  obtain ⟨i, hi, rfl⟩ := List.getElem_of_mem hx
  rw [chunks_length] at hi
  rw [chunks_get, List.length_take, List.length_drop]; omega
theorem flatten_parts (bs : List UInt8) : ∀ n, ((List.range n).map fun i => (bs.drop (i * 512)).take 512).flatten = bs.take (n * 512) := by
  intro n
  induction n with
  | zero => simp
  | succ n ih =>
    rw [List.range_succ, List.map_append, List.flatten_append, ih, Nat.add_mul, Nat.one_mul, List.take_add]
    simp
theorem chunks_join {bs : List UInt8} (h : bs.length % 512 = 0) : (chunks bs).flatten = bs := by
  rw [chunks, flatten_parts, List.take_of_length_le]; omega

theorem Open_spec {a : Option Addr} {l c : Nat} {bs : List UInt8} {h : Heap} {K : Value → Heap → Prop} (col : Nat → Nat) (m : Nat) (hf : Free h col m) (B : StrAt h a l bs) (hlc : l ≤ c) (hl : l ≤ 140737488355328)
    (h1 : l % 512 ≠ 0 ∨ l = 0 ∨ 16384 < l / 512 → K (.tuple #[.pointer none, .int .i64 32]) h)
    (h2 : l % 512 = 0 → 0 < l → l / 512 ≤ 16384 → ∀ q h' col', Fr No h h' → Ag h.size col col' → DiskAt h' (some q) (fresh (chunks bs)) col' m → K (.tuple #[.pointer (some q), .int .i64 0]) h') :
    C.adisk_Open a l c h K := by
  have hbl := B.1
  have hd : Int.tdiv (l : Int) 512 = ((l / 512 : Nat) : Int) := by rw [Int.tdiv_eq_ediv_of_nonneg (by omega)]; omega
  have hmd : Int.tmod (l : Int) 512 = ((l % 512 : Nat) : Int) := by rw [Int.tmod_eq_emod_of_nonneg (by omega)]; omega
  have hw : IntKind.wrap .i64 (Int.tdiv (l : Int) 512) = ((l / 512 : Nat) : Int) := by rw [hd]; exact wrap_i64 (by omega) (by omega)
  refine adisk_Open.ok (cn (fun x => h1 (Or.inl (by omega))) fun x => ?_)
  rw [hw]
  refine New_spec col m (fun y => ⟨_, _, rfl, cn (fun _ => h1 (by omega)) (fun z => absurd z (by omega))⟩) fun y1 y2 q h' col' f1 g1 D1 => ⟨_, _, rfl, cn (fun z => absurd rfl z) fun _ => ?_⟩
  obtain ⟨b, r, es, hq, D1⟩ := D1
  have hq : q = ⟨b, 0, none⟩ := by simpa using hq
  subst hq
  rw [Int.toNat_natCast] at D1
  have hN := D1.ln
  simp only [fresh, List.length_replicate] at hN
  refine ⟨_, _, _, D1.field 0, ?_⟩
  refine ⟨fun n hh => 0 ≤ n ∧ n ≤ (l / 512 : Nat) ∧ Fr No h hh ∧ Disk hh b (fresh ((chunks bs).take n.toNat ++ List.replicate (l / 512 - n.toNat) zeroBlk)) col' m r es, fun n _ => ((l / 512 : Nat) - n).toNat,
    ⟨by omega, by omega, f1, by rw [show (0 : Int).toNat = 0 from rfl, List.take_zero, List.nil_append, Nat.sub_zero]; exact D1⟩, ?_⟩
  rintro n h3 ⟨n0, n1, f3, D3⟩
  rw [hN]
  have hcl := chunks_length bs
  refine cd (fun hn => ?_) fun hn => ?_
  rotate_left
  · have e : n.toNat = l / 512 := by omega
    rw [e, List.take_of_length_le (by rw [hcl, hbl]; omega), Nat.sub_self, List.replicate_zero, List.append_nil] at D3
    exact h2 (by omega) (by omega) (by omega) _ _ _ f3 g1 ⟨b, r, es, rfl, D3⟩
  have hn' : n.toNat < l / 512 := by omega
  refine ⟨_, _, _, D3.field 0, ⟨n0, by rw [hN]; exact hn⟩, ?_⟩
  obtain ⟨p, e, _⟩ := D3.l.get (by rw [hN]; omega)
  rw [e]
  have L := D3.l
  rw [e] at L
  obtain ⟨lb, lo, sp⟩ := p
  have hsp : sp = none := L.2.1
  subst hsp
  have hw3 : IntKind.wrap .i64 (n * 512) = ((n.toNat * 512 : Nat) : Int) := by rw [wrap_i64 (by omega) (by omega)]; omega
  have hw2 : IntKind.wrap .i64 (n + 1) = n + 1 := wrap_i64 (by omega) (by omega)
  simp only [hw3, hw2, Int.toNat_natCast]
  refine ⟨by omega, ?_⟩
  rw [if_neg (by omega), add_mk]
  have B3 := StrAt.take (StrAt.drop (StrAt.fr f3 B (fun _ _ x => x)) (n.toNat * 512)) (n := 512) (by omega)
  obtain ⟨w1, w2⟩ := L.wr
  rw [hN] at w2
  have hy : ((bs.drop (n.toNat * 512)).take 512).length = 512 := B3.1
  have hm : min (l - n.toNat * 512) 512 = 512 := by omega
  refine CopyP.intro (new := blk ((bs.drop (n.toNat * 512)).take 512)) (by rw [blk_len hy, hm]; rfl) B3.2 (bv_one _) w1 (by rw [blk_len hy]; omega) fun h4 d4 => ?_
  have hi : n.toNat < ((chunks bs).take n.toNat ++ List.replicate (l / 512 - n.toNat) zeroBlk).length := by rw [List.length_append, List.length_take, List.length_replicate, hcl, hbl]; omega
  have D4 := D3.putLast (i := n.toNat) hi hy e d4
  refine ⟨⟨by omega, by omega, ?_, ?_⟩, falls hn⟩
  · refine f3.did d4 fun x => ?_
    have hc : col' lb = m + 1 := L.2.2.1
    have := hf.new g1 (b := lb) (by omega) (by omega)
    omega
  · have ht : (n + 1).toNat = n.toNat + 1 := by omega
    have hx : n.toNat < (chunks bs).length := by rw [hcl, hbl]; omega
    have e1 : ((chunks bs).take n.toNat ++ List.replicate (l / 512 - n.toNat) zeroBlk).set n.toNat ((bs.drop (n.toNat * 512)).take 512) = (chunks bs).take (n + 1).toNat ++ List.replicate (l / 512 - (n + 1).toNat) zeroBlk := by
      have h1 : ((chunks bs).take n.toNat).length = n.toNat := by rw [List.length_take]; omega
      rw [List.set_append_right _ _ (by omega), h1, Nat.sub_self, show l / 512 - n.toNat = (l / 512 - (n + 1).toNat) + 1 by omega, List.replicate_succ, List.set_cons_zero, ht, take_snoc _ _ hx, chunks_get, List.append_assoc]; rfl
    rw [← e1]; exact D4
end Go.Proofs.Ytnbfaokpaiiojaa.Ad
namespace Go.Proofs.Ytnbfaokpaiiojaa.Ad
open Go Go.Proofs Go.Proofs.Ytnbfaokpaiiojaa.Wx Go.Proofs.Ytnbfaokpaiiojaa.Hp Go.Proofs.Ytnbfaokpaiiojaa.W

theorem Clone_spec {a : Option Addr} {l c : Nat} {bs : List UInt8} {h : Heap} {K : Value → Heap → Prop} (B : StrAt h a l bs) (hl : l ≤ 140737488355328)
    (hK : ∀ a' c' h', Fr No h h' → Sl h' 1 a' l c' (bs.map bv) (From h.size) → K (.slice a' l c') h') : C.slices_Clone_byte_byte a l c h K := by
  have hbl := B.1
  refine slices_Clone_byte_byte.ok (cs (fun e => ?_) fun _ => New.intro fun h2 n2 => ?_)
  · cases a with
    | none =>
      have e1 := B.2
      have e2 : bs.map bv = [] := e1
      have e2 : bs = [] := List.map_eq_nil_iff.mp e2
      subst e2
      have : l = 0 := hbl.symm
      subst this
      exact hK none 0 h (Fr.refl _ _) (Sl.nil _ _ _)
    | some p => simp at e
  · obtain ⟨s1, s2, s3⟩ := StrAt.src (StrAt.fr n2.fr B (fun _ _ x => x))
    refine ⟨_, s1, s2, s3, ?_⟩
    refine append_own (xs := []) (F := From h.size) (Sl.made n2 rfl (Nat.le_refl _) rfl (Nat.le_refl _) rfl) s1 rfl (by show (0 + l) * 1 ≤ _; omega) (by omega) fun a' c' h' f s => ?_
    rw [Nat.zero_add, List.nil_append] at s
    rw [Nat.zero_add]
    have := n2.size
    exact hK a' c' h' (n2.fr.trans f fun b hb e => by have : h.size ≤ b := e; omega) (s.mono fun b hb => by rcases hb with hb | hb; exact hb; show h.size ≤ b; omega)
end Go.Proofs.Ytnbfaokpaiiojaa.Ad
