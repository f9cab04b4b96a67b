/-
  TRANSACTIONS: end, Abort.
-/
import Derived.Test.YtcdpakjhjmchhaaDoorTmC
namespace Go.Proofs.YtcdpakjhjmchhaaDoor.Tm
open Go Go.Proofs Go.Proofs.YtcdpakjhjmchhaaDoor.Wx Go.Proofs.YtcdpakjhjmchhaaDoor.Hp Go.Proofs.YtcdpakjhjmchhaaDoor.W Go.Proofs.YtcdpakjhjmchhaaDoor.Ad

def TM.ended (S : RD) : TM := ⟨S, [], [], true⟩
theorem end_body {h : Heap} {b : Nat} {q x y z : Value} {K : Value → Heap → Prop} (o : Own h b) (e : rd h b = [q, x, y, z]) (hK : ∀ h', Did b h h' [q, .map none, .slice none 0 0, .bool true] → K (.tuple #[]) h') : txn_Txn_end (some ⟨b, 0, none⟩) K h := by
  refine os (Put.add o (by rw [e]; show 1 < 4; omega) fun h2 d2 => ?_)
  rw [e] at d2
  refine os (Put.add d2.own (by rw [d2.rd]; show 2 < 4; omega) fun h3 d3 => ?_)
  rw [d2.rd] at d3
  refine os (Put.add d3.own (by rw [d3.rd]; show 3 < 4; omega) fun h4 d4 => ?_)
  rw [d3.rd] at d4
  exact hK h4 ⟨by rw [d4.size, d3.size, d2.size], (d2.fr.trans d3.fr fun _ _ x => x).trans d4.fr fun _ _ x => x, d4.own, d4.rd⟩
/-- a transaction lets go of what it holds -/
theorem TxC.shut {h h7 h8 : Heap} {F : Nat → Prop} {col : Nat → Nat} {d : Option Addr} {r : TR} {T : TM} {S : RD} {D : Nat → Prop} (X : TxC h col d r T) (hF : ∀ b, F b ↔ 1 ≤ col b ∧ col b ≤ 5) (f : Fr (fun b => col b = 5) h h7) (g : Gw h (fun b => col b = 5) h7 D) (A : DiskF h7 D d S)
    (d8 : Did r.tb h7 h8 [.pointer d, .map none, .slice none 0 0, .bool true]) : ∃ F', Fr F h h8 ∧ Gw h F h8 F' ∧ Tx h8 F' (some ⟨r.tb, 0, none⟩) d (TM.ended S) := by
  have tl := X.own.lt
  have s1 := X.sc
  have z7 := f.size
  have z8 := d8.size
  obtain ⟨col', k1, k2⟩ : ∃ col' : Nat → Nat, (∀ b, D b → col' b = 5) ∧ ∀ b, ¬ D b → col' b = if b < h.size ∧ col b ≠ 5 then col b else 0 :=
    ⟨fun b => @ite _ (D b) (Classical.propDecidable _) 5 (if b < h.size ∧ col b ≠ 5 then col b else 0), fun b x => if_pos x, fun b x => if_neg x⟩
  have old : ∀ b, b < h.size → col' b = col b := fun b hb => by
    by_cases x : D b
    · rw [k1 b x]; exact ((g.old b hb).mp x).symm
    · have : col b ≠ 5 := fun e => x ((g.old b hb).mpr e)
      rw [k2 b x, if_pos ⟨hb, this⟩]
  have five : ∀ b, col' b = 5 ↔ D b := fun b => ⟨fun e => by
    by_cases x : D b
    · exact x
    · rw [k2 b x] at e
      split at e
      · rename_i y; exact absurd e y.2
      · exact absurd e (by decide), k1 b⟩
  have big : ∀ b, h8.size ≤ b → col' b = 0 := fun b hb => by
    have x : ¬ D b := fun x => by have := A.lt x; omega
    rw [k2 b x, if_neg (by omega)]
  refine ⟨fun b => 1 ≤ col' b ∧ col' b ≤ 5, ?_, ⟨fun b hb => by rw [old b hb]; exact (hF b).symm, fun b hb => ?_⟩, .inr ⟨col', r.tb, rfl, ⟨big, (old _ tl).trans s1, d8.own, d8.rd, ⟨rfl, rfl⟩, rfl, ?_⟩, fun b => Iff.rfl⟩⟩
  · refine (f.mono fun b _ e => (hF b).mpr ?_).trans d8.fr fun b _ e => (hF b).mpr ?_
    · have e : col b = 5 := e; omega
    · have e : b = r.tb := e; subst e; omega
  · rcases Nat.lt_or_ge b h8.size with x | x
    · exact x
    · rw [big b x] at hb; omega
  · refine (A.fr d8.fr fun b hb e => ?_).iff five
    have e : b = r.tb := e
    subst e
    have := (g.old _ tl).mp hb
    have this : col r.tb = 5 := this
    omega
theorem Abort_spec {h : Heap} {F : Nat → Prop} {t d : Option Addr} {T : TM} {K : Value → Heap → Prop} (x : Tx h F t d T) (hK : ∀ h' F', Fr F h h' → Gw h F h' F' → Tx h' F' t d (TM.ended T.disk) → K (.tuple #[]) h') : C.txn_Txn_Abort t h K := by
  have hlt := fun b hb => x.lt (b := b) hb
  rcases x with ⟨col, r, rfl, X, hF⟩ | ⟨col, tb, rfl, X, hF⟩
  · refine txn_Txn_Abort.ok (txn_Txn_end.ok (end_body X.own X.cell fun h2 d2 => ⟨rfl, ?_⟩))
    obtain ⟨F', f, g, y⟩ := X.shut hF (Fr.refl _ _) (Gw.refl (Nat.le_refl _) fun b hb => X.dk.lt hb) X.dk d2
    exact hK h2 F' f g y
  · refine txn_Txn_Abort.ok (txn_Txn_end.ok (end_body X.own X.cell fun h2 d2 => ⟨rfl, ?_⟩))
    have s1 := X.sc
    have f2 : Fr F h h2 := d2.fr.mono fun b _ e => by have e : b = tb := e; subst e; exact (hF _).mpr (by omega)
    have z2 := d2.size
    exact hK h2 F f2 (Gw.refl f2.size hlt) (.inr ⟨col, tb, rfl, ⟨fun b hb => X.nrm b (by omega), s1, d2.own, d2.rd, ⟨rfl, rfl⟩, rfl, X.dk.fr d2.fr fun b hb e => by
      have e : b = tb := e
      subst e
      have hb : col b = 5 := hb
      omega⟩, hF⟩)
end Go.Proofs.YtcdpakjhjmchhaaDoor.Tm
