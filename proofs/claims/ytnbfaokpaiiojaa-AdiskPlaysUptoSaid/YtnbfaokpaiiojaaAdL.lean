import Derived.Test.YtnbfaokpaiiojaaAdJ
/-
  THE DISK of package adisk: other colours.
-/
namespace Go.Proofs.Ytnbfaokpaiiojaa.Ad
open Go Go.Proofs Go.Proofs.Ytnbfaokpaiiojaa.Wx Go.Proofs.Ytnbfaokpaiiojaa.Hp Go.Proofs.Ytnbfaokpaiiojaa.W

theorem Ents.recol {h : Heap} {col col' : Nat → Nat} {k : Nat} (hr : ∀ b, col b = k → col' b = k) : ∀ {es : List Ent} {ts : List (Int × Int × List UInt8)}, Ents h col k es ts → Ents h col' k es ts := by
  intro es
  induction es with
  | nil => intro ts e; cases ts with
    | nil => trivial
    | cons _ _ => exact e.elim
  | cons x r ih => intro ts e; cases ts with
    | nil => exact e.elim
    | cons t s => exact ⟨e.1, e.2.1, e.2.2.1, fun p hp => ⟨(e.2.2.2.1 p hp).1, hr _ (e.2.2.2.1 p hp).2⟩, ih e.2.2.2.2⟩
theorem DiskAt.recol {h : Heap} {d : Option Addr} {S : RD} {col col' : Nat → Nat} {m : Nat} (D : DiskAt h d S col m) (hr : ∀ b, m ≤ col b → col b ≤ m + 5 → col' b = col b) : DiskAt h d S col' m := by
  obtain ⟨b, r, es, e, D⟩ := D
  have q : ∀ k, m ≤ k → k ≤ m + 5 → ∀ b, col b = k → col' b = k := fun k h1 h2 b hb => (hr b (by omega) (by omega)).trans hb
  exact ⟨b, r, es, e, ⟨⟨D.left, D.leftb, D.down, D.writes, D.flushes, D.l.mono (q _ (by omega) (by omega)), D.lw, D.ln, D.lmax, D.p.mono (q _ (by omega) (by omega)), D.pw, D.pn, D.pi, D.pmax, D.k.mono (q _ (by omega) (by omega)), D.kn,
    D.t.mono (q _ (by omega) (by omega)), D.tn, D.tmax, Ents.recol (q _ (by omega) (by omega)) D.ts⟩, q m (Nat.le_refl _) (by omega) b D.sc, D.so, D.sr⟩⟩
end Go.Proofs.Ytnbfaokpaiiojaa.Ad
