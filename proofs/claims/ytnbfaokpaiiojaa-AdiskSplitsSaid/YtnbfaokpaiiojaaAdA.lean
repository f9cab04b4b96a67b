/-
  THE DISK of package adisk: what it holds, and what its calls do.
-/
import Derived.Test.YtnbfaokpaiiojaaHpE
import Derived.Test.YtnbfaokpaiiojaaForms
namespace Go.Proofs.Ytnbfaokpaiiojaa.Ad
open Go Go.Proofs Go.Proofs.Ytnbfaokpaiiojaa.Wx Go.Proofs.Ytnbfaokpaiiojaa.Hp Go.Proofs.Ytnbfaokpaiiojaa.W

structure RD where
  lasts : List (List UInt8)
  pend : List (Int × List UInt8)
  left : Int
  keep : List Bool
  down : Bool
  writes : Int
  flushes : Int
  tape : List (Int × Int × List UInt8)

def blk (b : List UInt8) : List Value := b.map bv
def pcell (p : Int × List UInt8) : List Value := .int .i64 p.1 :: p.2.map bv
structure Ent where
  kind : Int
  at_ : Int
  a : Option Addr
  l : Nat
  c : Nat
def Ent.cells (e : Ent) : List Value := [.int .i64 e.kind, .int .i64 e.at_, .slice e.a e.l e.c]
/-- entries of a tape with their bytes, in blocks of colour k -/
def Ents (h : Heap) (col : Nat → Nat) (k : Nat) : List Ent → List (Int × Int × List UInt8) → Prop
  | [], [] => True
  | e :: r, t :: s => e.kind = t.1 ∧ e.at_ = t.2.1 ∧ StrAt h e.a e.l t.2.2 ∧ (∀ p, e.a = some p → p.block < h.size ∧ col p.block = k) ∧ Ents h col k r s
  | _, _ => False
theorem Ents.keep {h h' : Heap} {col col' : Nat → Nat} {k : Nat} {F : Nat → Prop} (f : Fr F h h') (g : Ag h.size col col') (hF : ∀ b, col b = k → ¬ F b) :
    ∀ {es : List Ent} {ts : List (Int × Int × List UInt8)}, Ents h col k es ts → Ents h' col' k es ts := by
  intro es
  induction es with
  | nil => intro ts e; cases ts with
    | nil => trivial
    | cons _ _ => exact e.elim
  | cons x r ih => intro ts e; cases ts with
    | nil => exact e.elim
    | cons t s =>
      obtain ⟨h1, h2, h3, h4, h5⟩ := e
      exact ⟨h1, h2, StrAt.fr f h3 (fun p hp => hF _ (h4 p hp).2), fun p hp => ⟨Nat.lt_of_lt_of_le (h4 p hp).1 f.size, (g _ (h4 p hp).1).trans (h4 p hp).2⟩, ih h5⟩
theorem Ents.length {h : Heap} {col : Nat → Nat} {k : Nat} : ∀ {es : List Ent} {ts : List (Int × Int × List UInt8)}, Ents h col k es ts → es.length = ts.length := by
  intro es
  induction es with
  | nil => intro ts e; cases ts with
    | nil => rfl
    | cons _ _ => exact e.elim
  | cons x r ih => intro ts e; cases ts with
    | nil => exact e.elim
    | cons t s => simp [ih e.2.2.2.2]

/-- the cells of a disk's struct -/
structure Raw where
  la : Option Addr
  ln : Nat
  lc : Nat
  pa : Option Addr
  pn : Nat
  pc : Nat
  left : Int
  ka : Option Addr
  kn : Nat
  kc : Nat
  down : Bool
  writes : Int
  flushes : Int
  ta : Option Addr
  tn : Nat
  tc : Nat
def Raw.cells (r : Raw) : List Value :=
  [.slice r.la r.ln r.lc, .slice r.pa r.pn r.pc, .int .i64 r.left, .slice r.ka r.kn r.kc, .bool r.down, .int .i64 r.writes, .int .i64 r.flushes, .slice r.ta r.tn r.tc]
/-- what the cells of a disk lead to, in colours m+1 .. m+5 -/
structure Parts (h : Heap) (S : RD) (col : Nat → Nat) (m : Nat) (r : Raw) (es : List Ent) : Prop where
  left : r.left = S.left
  leftb : 0 ≤ S.left ∧ S.left ≤ 9223372036854775807
  down : r.down = S.down
  writes : r.writes = S.writes
  flushes : r.flushes = S.flushes
  l : Sl h 512 r.la r.ln r.lc (S.lasts.flatMap blk) (On col (m + 1))
  lw : ∀ x ∈ S.lasts, x.length = 512
  ln : r.ln = S.lasts.length
  lmax : S.lasts.length ≤ 16384
  p : Sl h 513 r.pa r.pn r.pc (S.pend.flatMap pcell) (On col (m + 2))
  pw : ∀ x ∈ S.pend, x.2.length = 512
  pn : r.pn = S.pend.length
  pi : ∀ x ∈ S.pend, 0 ≤ x.1 ∧ x.1 < S.lasts.length
  pmax : S.pend.length ≤ 140737488355328
  k : Sl h 1 r.ka r.kn r.kc (S.keep.map .bool) (On col (m + 3))
  kn : r.kn = S.keep.length
  t : Sl h 3 r.ta r.tn r.tc (es.flatMap Ent.cells) (On col (m + 4))
  tn : r.tn = es.length
  tmax : es.length ≤ 140737488355328
  ts : Ents h col (m + 5) es S.tape
/-- a disk stands at block b, in colour m -/
structure Disk (h : Heap) (b : Nat) (S : RD) (col : Nat → Nat) (m : Nat) (r : Raw) (es : List Ent) : Prop extends Parts h S col m r es where
  sc : col b = m
  so : Own h b
  sr : rd h b = r.cells
def DiskAt (h : Heap) (d : Option Addr) (S : RD) (col : Nat → Nat) (m : Nat) : Prop := ∃ b r es, d = some ⟨b, 0, none⟩ ∧ Disk h b S col m r es

theorem Parts.keep {h h' : Heap} {S : RD} {col col' : Nat → Nat} {m : Nat} {r : Raw} {es : List Ent} {F : Nat → Prop} (d : Parts h S col m r es) (f : Fr F h h') (g : Ag h.size col col')
    (hF : ∀ b, m + 1 ≤ col b → col b ≤ m + 5 → ¬ F b) : Parts h' S col' m r es :=
  ⟨d.left, d.leftb, d.down, d.writes, d.flushes, d.l.keep f g (fun b e => hF b (by omega) (by omega)), d.lw, d.ln, d.lmax,
    d.p.keep f g (fun b e => hF b (by omega) (by omega)), d.pw, d.pn, d.pi, d.pmax, d.k.keep f g (fun b e => hF b (by omega) (by omega)), d.kn, d.t.keep f g (fun b e => hF b (by omega) (by omega)), d.tn, d.tmax,
    Ents.keep f g (fun b e => hF b (by omega) (by omega)) d.ts⟩
theorem Disk.keep' {h h' : Heap} {b : Nat} {S : RD} {col col' : Nat → Nat} {m : Nat} {r : Raw} {es : List Ent} {F : Nat → Prop} (d : Disk h b S col m r es) (f : Fr F h h') (g : Ag h.size col col')
    (hF : ∀ b, m ≤ col b → col b ≤ m + 5 → ¬ F b) : Disk h' b S col' m r es := by
  have hb := d.so.lt
  have hs : ¬ F b := hF b (by have := d.sc; omega) (by have := d.sc; omega)
  exact ⟨d.toParts.keep f g (fun b h1 h2 => hF b (by omega) h2), (g _ hb).trans d.sc, f.own hb hs d.so, (f.rd hb hs).trans d.sr⟩
/-- the struct is written -/
theorem Disk.re {h h' : Heap} {b : Nat} {S : RD} {col : Nat → Nat} {m : Nat} {r : Raw} {es : List Ent} (P : Parts h S col m r es) (sc : col b = m) (D : Did b h h' r.cells) : Disk h' b S col m r es :=
  ⟨P.keep D.fr (Ag.refl _ _) (fun x h1 _ e => by rw [e] at h1; omega), sc, D.own, D.rd⟩
theorem DiskAt.keep {h h' : Heap} {d : Option Addr} {S : RD} {col col' : Nat → Nat} {m : Nat} {F : Nat → Prop} (D : DiskAt h d S col m) (f : Fr F h h') (g : Ag h.size col col')
    (hF : ∀ b, m ≤ col b → col b ≤ m + 5 → ¬ F b) : DiskAt h' d S col' m := by
  obtain ⟨b, r, es, e, D⟩ := D; exact ⟨b, r, es, e, D.keep' f g hF⟩

def fresh (ls : List (List UInt8)) : RD := ⟨ls, [], 0, [], false, 0, 0, []⟩
def zeroBlk : List UInt8 := List.replicate 512 0

theorem repCells_zero (z : List Value) (hz : z = List.replicate 512 (.int .u8 0)) (n : Nat) : repCells z n = (List.replicate n zeroBlk).flatMap blk := by
  rw [repCells_eq, List.flatMap_replicate]
  subst hz
  have : blk zeroBlk = List.replicate 512 (.int .u8 0) := by simp only [blk, zeroBlk, List.map_replicate]; rfl
  rw [this]

theorem New_spec {n : Int} {h : Heap} {K : Value → Heap → Prop} (col : Nat → Nat) (m : Nat)
    (h1 : n < 1 ∨ 16384 < n → K (.tuple #[.pointer none, .int .i64 32]) h)
    (h2 : 1 ≤ n → n ≤ 16384 → ∀ q h' col', Fr No h h' → Ag h.size col col' → DiskAt h' (some q) (fresh (List.replicate n.toNat zeroBlk)) col' m → K (.tuple #[.pointer (some q), .int .i64 0]) h') :
    C.adisk_New n h K := by
  refine adisk_New.ok ?_
  refine cd (fun a => h1 (Or.inl a)) fun a => cd (fun b => h1 (Or.inr b)) fun b => ⟨by omega, ?_⟩
  refine New.intro fun h2' n2 => New.intro fun h3 n3 => ?_
  refine h2 (by omega) (by omega) _ _ (upd (upd col h.size (m + 1)) (h.size + 1) m) (n2.fr.new n3) ((ag_upd _ _ _).trans (ag_upd _ _ _) (by omega)) ?_
  refine ⟨_, ⟨some ⟨h.size, 0, none⟩, n.toNat, n.toNat, none, 0, 0, 0, none, 0, 0, false, 0, 0, none, 0, 0⟩, [], rfl, ?_⟩
  have hl := flat_length blk 512 (List.replicate n.toNat zeroBlk) (by intro x hx; rw [List.eq_of_mem_replicate hx]; simp only [blk, zeroBlk, List.length_map, List.length_replicate])
  rw [List.length_replicate] at hl
  have e2 : rd h2' h.size = (List.replicate n.toNat zeroBlk).flatMap blk := n2.rd.trans (repCells_zero _ rfl _)
  refine ⟨⟨rfl, ⟨by simp [fresh], by simp [fresh]⟩, rfl, rfl, rfl, ?_, ?_, ?_, ?_, Sl.nil _ _ _, ?_, rfl, ?_, by simp [fresh], Sl.nil _ _ _, rfl, Sl.nil _ _ _, rfl, by simp, trivial⟩, upd_ge (by rw [n2.size]; omega), n3.own, n3.rd⟩
  · refine ⟨hl, rfl, ?_, n3.ow n2.own, Nat.le_refl _, ?_, ?_⟩
    · show upd (upd col h.size (m + 1)) (h.size + 1) m h.size = m + 1
      rw [upd_lt (by omega), upd_ge (Nat.le_refl _)]
    · show ((rd h3 h.size).drop 0).take _ = _
      rw [n3.at_ n2.own.lt, e2, List.drop_zero]; exact List.take_length
    · show 0 + n.toNat * 512 ≤ (rd h3 h.size).length
      rw [n3.at_ n2.own.lt, e2, hl]; omega
  · intro x hx; rw [List.eq_of_mem_replicate hx]; simp only [zeroBlk, List.length_replicate]
  · simp [fresh]
  · simp only [fresh, List.length_replicate]; omega
  · intro x hx; simp [fresh] at hx
  · intro x hx; simp [fresh] at hx
end Go.Proofs.Ytnbfaokpaiiojaa.Ad
