/-
  THE DISK of package boleref03: what it holds; a disk of an image.
-/
import Derived.Test.YtnbfaokpaiiojaaAdD
namespace Go.Proofs.Ytnbfaokpaiiojaa.Rf
open Go Go.Proofs Go.Proofs.Ytnbfaokpaiiojaa.Wx Go.Proofs.Ytnbfaokpaiiojaa.Hp Go.Proofs.Ytnbfaokpaiiojaa.W Go.Proofs.Ytnbfaokpaiiojaa.Ad

structure FD where
  first : List UInt8
  acts : List (Int × Int × List UInt8)
  keep : List Bool
  left : Int
  out : Bool
  writes : Int
  flushes : Int
structure FRaw where
  fa : Option Addr
  fn : Nat
  fc : Nat
  aa : Option Addr
  an : Nat
  ac : Nat
  ka : Option Addr
  kn : Nat
  kc : Nat
  left : Int
  out : Bool
  writes : Int
  flushes : Int
def FRaw.cells (r : FRaw) : List Value :=
  [.slice r.fa r.fn r.fc, .slice r.aa r.an r.ac, .slice r.ka r.kn r.kc, .int .i64 r.left, .bool r.out, .int .i64 r.writes, .int .i64 r.flushes]
/-- stands at block b, in colours m .. m+4 -/
structure Ref (h : Heap) (b : Nat) (S : FD) (col : Nat → Nat) (m : Nat) (r : FRaw) (es : List Ent) : Prop where
  sc : col b = m
  so : Own h b
  sr : rd h b = r.cells
  left : r.left = S.left
  out : r.out = S.out
  writes : r.writes = S.writes
  flushes : r.flushes = S.flushes
  f : Sl h 1 r.fa r.fn r.fc (S.first.map bv) (On col (m + 1))
  fn : r.fn = S.first.length
  fmax : S.first.length ≤ 8388608
  a : Sl h 3 r.aa r.an r.ac (es.flatMap Ent.cells) (On col (m + 2))
  an : r.an = es.length
  amax : es.length ≤ 140737488355328
  ts : Ents h col (m + 3) es S.acts
  k : Sl h 1 r.ka r.kn r.kc (S.keep.map .bool) (On col (m + 4))
  kn : r.kn = S.keep.length
def RefAt (h : Heap) (d : Option Addr) (S : FD) (col : Nat → Nat) (m : Nat) : Prop := ∃ b r es, d = some ⟨b, 0, none⟩ ∧ Ref h b S col m r es

theorem Ref.keep' {h h' : Heap} {b : Nat} {S : FD} {col col' : Nat → Nat} {m : Nat} {r : FRaw} {es : List Ent} {F : Nat → Prop} (d : Ref h b S col m r es) (f : Fr F h h') (g : Ag h.size col col')
    (hF : ∀ b, m ≤ col b → col b ≤ m + 5 → ¬ F b) : Ref h' b S col' m r es := by
  have hb := d.so.lt
  have hs : ¬ F b := hF b (by have := d.sc; omega) (by have := d.sc; omega)
  exact ⟨(g _ hb).trans d.sc, f.own hb hs d.so, (f.rd hb hs).trans d.sr, d.left, d.out, d.writes, d.flushes, d.f.keep f g (fun b e => hF b (by omega) (by omega)), d.fn, d.fmax,
    d.a.keep f g (fun b e => hF b (by omega) (by omega)), d.an, d.amax, Ents.keep f g (fun b e => hF b (by omega) (by omega)) d.ts, d.k.keep f g (fun b e => hF b (by omega) (by omega)), d.kn⟩
theorem RefAt.keep {h h' : Heap} {d : Option Addr} {S : FD} {col col' : Nat → Nat} {m : Nat} {F : Nat → Prop} (D : RefAt h d S col m) (f : Fr F h h') (g : Ag h.size col col')
    (hF : ∀ b, m ≤ col b → col b ≤ m + 5 → ¬ F b) : RefAt h' d S col' m := by
  obtain ⟨b, r, es, e, D⟩ := D; exact ⟨b, r, es, e, D.keep' f g hF⟩
theorem Ref.field {h : Heap} {b : Nat} {S : FD} {col : Nat → Nat} {m : Nat} {r : FRaw} {es : List Ent} (d : Ref h b S col m r es) (k : Nat) : cellOf h (Addr.add ⟨b, 0, none⟩ k) = r.cells[k]? := by
  rw [add_mk, cellOf_rd, d.sr, Nat.zero_add]
def freshR (bs : List UInt8) : FD := ⟨bs, [], [], 0, false, 0, 0⟩

theorem copied_spec {a : Option Addr} {l c : Nat} {bs : List UInt8} {h : Heap} {K : Value → Heap → Prop} (B : StrAt h a l bs) (hl : l ≤ 140737488355328)
    (hK : ∀ a' c' h', Fr No h h' → Sl h' 1 a' l c' (bs.map bv) (From h.size) → K (.slice a' l c') h') : C.boleref03_copied a l c h K := by
  obtain ⟨s1, s2, s3⟩ := StrAt.src B
  refine boleref03_copied.ok ⟨_, s1, s2, s3, append_nil s1 rfl (by show l * 1 ≤ _; omega) hl hK⟩
theorem Of_spec {a : Option Addr} {l c : Nat} {bs : List UInt8} {h : Heap} {K : Value → Heap → Prop} (col : Nat → Nat) (m : Nat) (B : StrAt h a l bs) (hl : l ≤ 140737488355328)
    (h1 : l % 512 ≠ 0 ∨ l = 0 ∨ 16384 < l / 512 → K (.tuple #[.pointer none, .int .i64 32]) h)
    (h2 : l % 512 = 0 → 0 < l → l / 512 ≤ 16384 → ∀ q h' col', Fr No h h' → Ag h.size col col' → RefAt h' (some q) (freshR bs) col' m → K (.tuple #[.pointer (some q), .int .i64 0]) h') :
    C.boleref03_Of a l c h K := by
  have hbl := B.1
  have hd : Int.tdiv (l : Int) 512 = ((l / 512 : Nat) : Int) := by rw [Int.tdiv_eq_ediv_of_nonneg (by omega)]; omega
  have hmd : Int.tmod (l : Int) 512 = ((l % 512 : Nat) : Int) := by rw [Int.tmod_eq_emod_of_nonneg (by omega)]; omega
  have hw : IntKind.wrap .i64 (Int.tdiv (l : Int) 512) = ((l / 512 : Nat) : Int) := by rw [hd]; exact wrap_i64 (by omega) (by omega)
  refine boleref03_Of.ok (ce (fun x => h1 (Or.inr (Or.inl (by omega)))) fun x => cn (fun y => h1 (Or.inl (by omega))) fun y => ?_)
  rw [hw]
  refine cd (fun z => h1 (Or.inr (Or.inr (by omega)))) fun z => copied_spec B hl fun a' c' h3 f3 s3 => ⟨_, _, _, rfl, New.intro fun h4 n4 => ?_⟩
  refine h2 (by omega) (by omega) (by omega) _ _ (upd (upd col h.size (m + 1)) h3.size m) (f3.new n4) ((ag_upd _ _ _).trans (ag_upd _ _ _) f3.size) ?_
  refine ⟨_, ⟨a', l, c', none, 0, 0, none, 0, 0, 0, false, 0, 0⟩, [], rfl, upd_ge (Nat.le_refl _), n4.own, n4.rd, rfl, rfl, rfl, rfl, ?_, hbl.symm, ?_, Sl.nil _ _ _, rfl, by simp, trivial, Sl.nil _ _ _, rfl⟩
  · have s : Sl h3 1 a' l c' (bs.map bv) (On (upd col h.size (m + 1)) (m + 1)) := s3.mono fun b hb => upd_ge hb
    exact s.keep n4.fr (ag_upd _ _ _) (fun _ _ x => x)
  · show bs.length ≤ 8388608
    omega
theorem Blocks_spec {d : Option Addr} {h : Heap} {K : Value → Heap → Prop} {S : FD} {col : Nat → Nat} {m : Nat} (D : RefAt h d S col m)
    (hK : K (.int .i64 (S.first.length / 512 : Nat)) h) : C.boleref03_Disk_Blocks d h K := by
  obtain ⟨b, r, es, rfl, D⟩ := D
  refine boleref03_Disk_Blocks.ok ⟨_, _, _, D.field 0, ?_⟩
  have hm := D.fmax
  have hd : Int.tdiv (r.fn : Int) 512 = ((S.first.length / 512 : Nat) : Int) := by rw [D.fn, Int.tdiv_eq_ediv_of_nonneg (by omega)]; omega
  have hw : IntKind.wrap .i64 (Int.tdiv (r.fn : Int) 512) = ((S.first.length / 512 : Nat) : Int) := by rw [hd]; exact wrap_i64 (by omega) (by omega)
  rw [hw]; exact hK
end Go.Proofs.Ytnbfaokpaiiojaa.Rf
