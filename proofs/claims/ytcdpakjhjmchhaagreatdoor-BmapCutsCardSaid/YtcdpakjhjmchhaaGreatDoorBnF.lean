/-
  bolelaw10: BmapFull.
-/
import Derived.Test.YtcdpakjhjmchhaaGreatDoorBnD
import Derived.Test.YtcdpakjhjmchhaaGreatDoorWtA
namespace Go.Proofs.YtcdpakjhjmchhaaGreatDoor.Bm
open Go Go.Proofs Go.Proofs.YtcdpakjhjmchhaaGreatDoor.Wx Go.Proofs.YtcdpakjhjmchhaaGreatDoor.Hp Go.Proofs.YtcdpakjhjmchhaaGreatDoor.W Go.Proofs.YtcdpakjhjmchhaaGreatDoor.Ad Go.Proofs.YtcdpakjhjmchhaaGreatDoor.Tm Go.Proofs.YtcdpakjhjmchhaaGreatDoor.Bt Go.Proofs.YtcdpakjhjmchhaaGreatDoor.Spc Go.Proofs.YtcdpakjhjmchhaaGreatDoor.Re Go.Proofs.YtcdpakjhjmchhaaGreatDoor.Av Go.Proofs.YtcdpakjhjmchhaaGreatDoor.Rm
open Go.Proofs.YtcdpakjhjmchhaaGreatDoor.Hd (ints)
open Go.Proofs.YtcdpakjhjmchhaaGreatDoor.In (Glo ints_length ints_one)

/-! indices that step on -/
/-- the blocks of a record were put -/
def PutS (Z : Nat → Txt) (R : List Int) (T : TM) : Prop := ∀ s, s < nS → num Z R s ≠ 0 → ((num Z R s : Nat) : Int) ∈ ks T
theorem PutS.add {n k : Nat} {Z Z' : Nat → Txt} {R R' : List Int} {T T' : TM} (p : PutS Z R T) (a : Added n Z R none (path k) Z' R') (h1 : ∀ x ∈ ks T, x ∈ ks T') (h2 : ∀ s ∈ path k, num Z R s = 0 → ((num Z' R' s : Nat) : Int) ∈ ks T') : PutS Z' R' T' := by
  intro s hs h0
  by_cases hp : s ∈ path k
  · by_cases hz : num Z R s = 0
    · exact h2 s hp hz
    · rw [a.old s hp hz]; exact h1 _ (p s hs hz)
  · rw [a.off s hs hp] at h0 ⊢; exact h1 _ (p s hs h0)
/-! a transaction and a record under way -/
structure Fx (n : Nat) (h1 : Heap) (gb xb : Nat) (t d : Option Addr) (hh : Heap) (F : Nat → Prop) (T : TM) (R : List Int) : Prop where
  fr : Fr No h1 hh
  lo : h1.size ≤ gb
  rg : rd hh gb = (geoN n).v
  rx : rd hh xb = ints R
  ox : Own hh xb
  ne : gb < xb
  x : Tx hh F t d T
  nf : ¬ F gb ∧ ¬ F xb
  fl : ∀ b, F b → h1.size ≤ b
  rl : R.length = 15
theorem Fx.lt {n : Nat} {h1 hh : Heap} {gb xb : Nat} {t d : Option Addr} {F : Nat → Prop} {T : TM} {R : List Int} (c : Fx n h1 gb xb t d hh F T R) : gb < hh.size ∧ xb < hh.size := ⟨rd_lt (o := 0) (v := .int .i64 (geoN n).blocks) (by rw [c.rg]; rfl), c.ox.lt⟩
theorem Fx.no {n : Nat} {h1 hh h' : Heap} {gb xb : Nat} {t d : Option Addr} {F : Nat → Prop} {T : TM} {R : List Int} (c : Fx n h1 gb xb t d hh F T R) (f : Fr No hh h') : Fx n h1 gb xb t d h' F T R := by
  obtain ⟨l1, l2⟩ := c.lt
  exact { c with fr := c.fr.no f, rg := (f.rd l1 fun y => y).trans c.rg, rx := (f.rd l2 fun y => y).trans c.rx, ox := f.own l2 (fun y => y) c.ox, x := c.x.no f }
theorem Fx.call {n : Nat} {h1 hh h' : Heap} {gb xb : Nat} {t d : Option Addr} {F F' : Nat → Prop} {T T' : TM} {R : List Int} (c : Fx n h1 gb xb t d hh F T R) (f : Fr F hh h') (g : Gw hh F h' F') (x : Tx h' F' t d T') : Fx n h1 gb xb t d h' F' T' R := by
  obtain ⟨l1, l2⟩ := c.lt
  obtain ⟨n1, n2⟩ := c.nf
  have s := c.fr.size
  refine ⟨c.fr.trans f fun b hb y => by have := c.fl b y; omega, c.lo, (f.rd l1 n1).trans c.rg, (f.rd l2 n2).trans c.rx, f.own l2 n2 c.ox, c.ne, x, ⟨fun y => n1 ((g.old _ l1).mp y), fun y => n2 ((g.old _ l2).mp y)⟩, fun b y => ?_, c.rl⟩
  rcases g.new y with y | y
  · exact c.fl b y
  · omega
/-- the record is written -/
theorem Fx.put {n : Nat} {h1 hh h' : Heap} {gb xb : Nat} {t d : Option Addr} {F : Nat → Prop} {T : TM} {R R' : List Int} (c : Fx n h1 gb xb t d hh F T R) (dd : Did xb hh h' (put (rd hh xb) 0 (ints R'))) (hl : R'.length = 15) : Fx n h1 gb xb t d h' F T R' := by
  obtain ⟨l1, l2⟩ := c.lt
  have ne := c.ne
  have lo := c.lo
  have s := c.fr.size
  refine ⟨c.fr.did dd fun hb => by omega, lo, (dd.at_ l1 (by omega)).trans c.rg, ?_, dd.own, ne, c.x.fr dd.fr fun b hb y => c.nf.2 (by have y : b = xb := y; rw [← y]; exact hb), c.nf, c.fl, hl⟩
  rw [dd.rd, c.rx]; exact put_all _ _ (by rw [ints_length, ints_length, hl, c.rl])
/-- what is below the transaction's blocks, and what is no block of it -/
theorem Fx.keep {n ec l c' : Nat} {h1 hh h' h0 : Heap} {gb xb : Nat} {t d : Option Addr} {F F0 : Nat → Prop} {T : TM} {R : List Int} {a : Option Addr} {xs : List Value} {Q : Nat → Prop} (_ : Fx n h1 gb xb t d hh F T R) (f : Fr F hh h') (s : Sl hh ec a l c' xs Q) (hF : ∀ b, F b → b < h0.size → F0 b) (hQ : ∀ b, Q b → h0.size ≤ b ∧ ¬ F b) : Sl h' ec a l c' xs Q :=
  s.fr f fun b _ hb y => (hQ b hb).2 y
end Go.Proofs.YtcdpakjhjmchhaaGreatDoor.Bm
