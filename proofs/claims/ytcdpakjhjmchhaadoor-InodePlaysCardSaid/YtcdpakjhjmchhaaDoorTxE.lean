/-
  TRANSACTIONS: the disk beneath one changes.
-/
import Derived.Test.YtcdpakjhjmchhaaDoorTmC
namespace Go.Proofs.YtcdpakjhjmchhaaDoor.Tm
open Go Go.Proofs Go.Proofs.YtcdpakjhjmchhaaDoor.Wx Go.Proofs.YtcdpakjhjmchhaaDoor.Hp Go.Proofs.YtcdpakjhjmchhaaDoor.W Go.Proofs.YtcdpakjhjmchhaaDoor.Ad

theorem col_disk {h h' : Heap} {col : Nat → Nat} {D : Nat → Prop} (g : Gw h (fun b => col b = 5) h' D) (hs : h.size ≤ h'.size) (nrm : ∀ b, h.size ≤ b → col b = 0) :
    ∃ col' : Nat → Nat, Ag h.size col col' ∧ (∀ b, h'.size ≤ b → col' b = 0) ∧ (∀ b, col' b = 5 ↔ D b) ∧ ∀ b, h.size ≤ b → col' b = 0 ∨ col' b = 5 := by
  obtain ⟨col', k1, k2⟩ : ∃ col' : Nat → Nat, (∀ b, D b → col' b = 5) ∧ ∀ b, ¬ D b → col' b = if b < h.size ∧ col b ≠ 5 then col b else 0 :=
    ⟨fun b => @ite _ (D b) (Classical.propDecidable _) 5 (if b < h.size ∧ col b ≠ 5 then col b else 0), fun b x => if_pos x, fun b x => if_neg x⟩
  have old : ∀ b, b < h.size → col' b = col b := fun b hb => by
    by_cases x : D b
    · rw [k1 b x]; exact ((g.old b hb).mp x).symm
    · have : col b ≠ 5 := fun e => x ((g.old b hb).mpr e)
      rw [k2 b x, if_pos ⟨hb, this⟩]
  refine ⟨col', old, fun b hb => ?_, fun b => ⟨fun e => ?_, k1 b⟩, fun b hb => ?_⟩
  · have x : ¬ D b := fun x => by have := g.lt b x; omega
    rw [k2 b x, if_neg (by omega)]
  · by_cases x : D b
    · exact x
    · rw [k2 b x] at e
      split at e
      · rename_i y; exact absurd e y.2
      · exact absurd e (by decide)
  · by_cases x : D b
    · exact .inr (k1 b x)
    · rw [k2 b x, if_neg (by omega)]; exact .inl rfl
theorem TxC.onDisk {h h' : Heap} {col : Nat → Nat} {d : Option Addr} {r : TR} {T : TM} {S : RD} {D : Nat → Prop} (X : TxC h col d r T) (f : Fr (fun b => col b = 5) h h') (g : Gw h (fun b => col b = 5) h' D) (A : DiskF h' D d S) (hN : S.lasts.length = T.N) :
    ∃ col', Ag h.size col col' ∧ (∀ b, h.size ≤ b → col' b = 0 ∨ col' b = 5) ∧ (∀ b, h'.size ≤ b → col' b = 0) ∧ (∀ b, col' b = 5 ↔ D b) ∧ TxC h' col' d r { T with disk := S } := by
  obtain ⟨col', old, big, five, new⟩ := col_disk g f.size X.nrm
  have s1 := X.sc
  have s2 := X.mc
  have tl := X.own.lt
  have ml := map_lt X.map
  have k4 : ∀ b, b < h.size → col b = 4 → ¬ col b = 5 := fun b _ e => by omega
  refine ⟨col', old, new, big, five, ⟨big, (old _ tl).trans s1, f.own tl (by omega) X.own, (f.rd tl (by omega)).trans X.cell, (old _ ml).trans s2, map_fr X.map f (by omega), ?_,
    fun p hp => (X.pok p hp).keep f old k4, fun u hu => (X.uok u hu).keep f old k4, X.put, X.undo, X.live, A.iff five, fun p hp => ?_, fun u hu => ?_⟩⟩
  · have s' := Hp.Sl.fr f X.un (fun b hb hk => by have hk : col b = 3 := hk; omega)
    obtain ⟨h1, h2⟩ := s'
    refine ⟨h1, ?_⟩
    have ul := X.un
    revert h2 ul
    cases r.ua with
    | none => intro h2 _; exact h2
    | some p => intro h2 ul; obtain ⟨a1, a2, a3, a4⟩ := h2; exact ⟨a1, (old _ ul.lt).trans a2, a3, a4⟩
  · have := X.pk p hp
    exact ⟨this.1, by show p.1 < (S.lasts.length : Int); rw [hN]; exact this.2⟩
  · have := X.ui u hu
    exact ⟨this.1, by show u.i < (S.lasts.length : Int); rw [hN]; exact this.2⟩
theorem TxO.onDisk {h h' : Heap} {col : Nat → Nat} {d : Option Addr} {tb : Nat} {T : TM} {S : RD} {D : Nat → Prop} (X : TxO h col d tb T) (f : Fr (fun b => col b = 5) h h') (g : Gw h (fun b => col b = 5) h' D) (A : DiskF h' D d S) :
    ∃ col', Ag h.size col col' ∧ (∀ b, h.size ≤ b → col' b = 0 ∨ col' b = 5) ∧ (∀ b, h'.size ≤ b → col' b = 0) ∧ (∀ b, col' b = 5 ↔ D b) ∧ TxO h' col' d tb { T with disk := S } := by
  obtain ⟨col', old, big, five, new⟩ := col_disk g f.size X.nrm
  have s1 := X.sc
  have tl := X.own.lt
  exact ⟨col', old, new, big, five, ⟨big, (old _ tl).trans s1, f.own tl (by omega) X.own, (f.rd tl (by omega)).trans X.cell, X.gone, X.over, A.iff five⟩⟩
/-- a transaction whose disk is handed out, and comes back changed -/
theorem Tx.onDisk {h : Heap} {F : Nat → Prop} {t d : Option Addr} {T : TM} (x : Tx h F t d T) : ∃ D, DiskF h D d T.disk ∧ (∀ b, D b → F b) ∧
    ∀ h' D' S, Fr D h h' → Gw h D h' D' → DiskF h' D' d S → S.lasts.length = T.N → ∃ F', Gw h F h' F' ∧ Tx h' F' t d { T with disk := S } := by
  rcases x with ⟨col, r, e, X, hF⟩ | ⟨col, tb, e, X, hF⟩
  · refine ⟨_, X.dk, fun b y => (hF b).mpr (by have y : col b = 5 := y; omega), fun h' D' S f g A hN => ?_⟩
    obtain ⟨col', old, new, big, five, X'⟩ := X.onDisk f g A hN
    refine ⟨fun b => 1 ≤ col' b ∧ col' b ≤ 5, ⟨fun b hb => by rw [old b hb]; exact (hF b).symm, fun b hb => ?_⟩, .inl ⟨col', r, e, X', fun b => Iff.rfl⟩⟩
    rcases Nat.lt_or_ge b h'.size with y | y
    · exact y
    · rw [big b y] at hb; omega
  · refine ⟨_, X.dk, fun b y => (hF b).mpr (by have y : col b = 5 := y; omega), fun h' D' S f g A hN => ?_⟩
    obtain ⟨col', old, new, big, five, X'⟩ := X.onDisk f g A
    refine ⟨fun b => 1 ≤ col' b ∧ col' b ≤ 5, ⟨fun b hb => by rw [old b hb]; exact (hF b).symm, fun b hb => ?_⟩, .inr ⟨col', tb, e, X', fun b => Iff.rfl⟩⟩
    rcases Nat.lt_or_ge b h'.size with y | y
    · exact y
    · rw [big b y] at hb; omega
end Go.Proofs.YtcdpakjhjmchhaaDoor.Tm
