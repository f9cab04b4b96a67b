/-
  DISKS, each with the blocks that it stands on.
-/
import Derived.Test.YtcdpakjhjmchhaaGreatDoorAdM
namespace Go.Proofs.YtcdpakjhjmchhaaGreatDoor.Ad
open Go Go.Proofs Go.Proofs.YtcdpakjhjmchhaaGreatDoor.Wx Go.Proofs.YtcdpakjhjmchhaaGreatDoor.Hp Go.Proofs.YtcdpakjhjmchhaaGreatDoor.W

/-- what a thing stands on has grown: of the old blocks it has the same -/
structure Gw (h : Heap) (D : Nat → Prop) (h' : Heap) (D' : Nat → Prop) : Prop where
  old : ∀ b, b < h.size → (D' b ↔ D b)
  lt : ∀ b, D' b → b < h'.size
theorem Gw.refl {h h' : Heap} {D : Nat → Prop} (hs : h.size ≤ h'.size) (hD : ∀ b, D b → b < h.size) : Gw h D h' D := ⟨fun _ _ => Iff.rfl, fun b hb => Nat.lt_of_lt_of_le (hD b hb) hs⟩
theorem Gw.trans {h h' h'' : Heap} {D D' D'' : Nat → Prop} (g : Gw h D h' D') (g' : Gw h' D' h'' D'') (hs : h.size ≤ h'.size) : Gw h D h'' D'' :=
  ⟨fun b hb => (g'.old b (by omega)).trans (g.old b hb), g'.lt⟩
theorem Gw.new {h h' : Heap} {D D' : Nat → Prop} (g : Gw h D h' D') {b : Nat} (hb : D' b) : D b ∨ h.size ≤ b := by
  rcases Nat.lt_or_ge b h.size with h1 | h1
  · exact .inl ((g.old b h1).mp hb)
  · exact .inr h1
def trim (col : Nat → Nat) (n : Nat) : Nat → Nat := fun b => if b < n then col b else 0
theorem trim_lt {col : Nat → Nat} {n b : Nat} (h : b < n) : trim col n b = col b := if_pos h
theorem trim_ge {col : Nat → Nat} {n b : Nat} (h : n ≤ b) : trim col n b = 0 := if_neg (by omega)
theorem ag_trim (col : Nat → Nat) (n : Nat) : Ag n col (trim col n) := fun _ hb => if_pos hb
def DiskF (h : Heap) (D : Nat → Prop) (d : Option Addr) (S : RD) : Prop := ∃ col, DiskAt h d S col 1 ∧ (∀ b, h.size ≤ b → col b = 0) ∧ ∀ b, D b ↔ 1 ≤ col b ∧ col b ≤ 6
theorem DiskF.mk {h : Heap} {d : Option Addr} {S : RD} {col : Nat → Nat} (a : DiskAt h d S col 1) : DiskF h (fun b => b < h.size ∧ 1 ≤ col b ∧ col b ≤ 6) d S := by
  refine ⟨trim col h.size, a.keep (F := No) (Fr.refl _ h) (ag_trim _ _) fun _ _ _ x => x, fun b hb => trim_ge hb, fun b => ⟨fun hb => by rw [trim_lt hb.1]; exact hb.2, fun hb => ?_⟩⟩
  rcases Nat.lt_or_ge b h.size with h1 | h1
  · rw [trim_lt h1] at hb; exact ⟨h1, hb⟩
  · rw [trim_ge h1] at hb; omega
theorem DiskF.lt {h : Heap} {D : Nat → Prop} {d : Option Addr} {S : RD} (a : DiskF h D d S) {b : Nat} (hb : D b) : b < h.size := by
  obtain ⟨col, _, hz, hD⟩ := a
  rcases Nat.lt_or_ge b h.size with h1 | h1
  · exact h1
  · have := (hD b).mp hb; rw [hz b h1] at this; omega
theorem DiskF.fr {h h' : Heap} {D F : Nat → Prop} {d : Option Addr} {S : RD} (a : DiskF h D d S) (f : Fr F h h') (hF : ∀ b, D b → ¬ F b) : DiskF h' D d S := by
  obtain ⟨col, a, hz, hD⟩ := a
  have := f.size
  exact ⟨col, a.keep f (Ag.refl _ _) fun b h1 h2 => hF b ((hD b).mpr ⟨h1, h2⟩), fun b hb => hz b (by omega), hD⟩
theorem DiskF.no {h h' : Heap} {D : Nat → Prop} {d : Option Addr} {S : RD} (a : DiskF h D d S) (f : Fr No h h') : DiskF h' D d S := a.fr f fun _ _ x => x
theorem DiskF.iff {h : Heap} {D D' : Nat → Prop} {d : Option Addr} {S : RD} (a : DiskF h D d S) (e : ∀ b, D' b ↔ D b) : DiskF h D' d S := by
  obtain ⟨col, a, hz, hD⟩ := a
  exact ⟨col, a, hz, fun b => (e b).trans (hD b)⟩
/-- a contract in colours, as one in blocks -/
theorem DiskF.gw {h h' : Heap} {D : Nat → Prop} {d : Option Addr} {S' : RD} {col col' : Nat → Nat} (hD : ∀ b, D b ↔ 1 ≤ col b ∧ col b ≤ 6) (g : Ag h.size col col') (hs : h.size ≤ h'.size) (a : DiskAt h' d S' col' 1) :
    ∃ D', Gw h D h' D' ∧ DiskF h' D' d S' ∧ ∀ b, D' b ↔ b < h'.size ∧ 1 ≤ col' b ∧ col' b ≤ 6 :=
  ⟨_, ⟨fun b hb => by rw [hD b, g b hb]; exact ⟨fun x => x.2, fun x => ⟨by omega, x⟩⟩, fun b hb => hb.1⟩, DiskF.mk a, fun _ => Iff.rfl⟩
theorem DiskF.blocks {h : Heap} {D : Nat → Prop} {d : Option Addr} {S : RD} {K : Value → Heap → Prop} (a : DiskF h D d S) (hK : K (.int .i64 S.lasts.length) h) : C.adisk_Disk_Blocks d h K := by
  obtain ⟨col, a, _⟩ := a
  exact Blocks_spec a hK
theorem DiskF.max {h : Heap} {D : Nat → Prop} {d : Option Addr} {S : RD} (a : DiskF h D d S) : S.lasts.length ≤ 16384 ∧ ∀ x ∈ S.lasts, x.length = 512 := by
  obtain ⟨col, ⟨b, r, es, _, D⟩, _⟩ := a
  exact ⟨D.lmax, D.lw⟩
theorem DiskF.read {h : Heap} {D : Nat → Prop} {d : Option Addr} {S : RD} {i : Int} {K : Value → Heap → Prop} (a : DiskF h D d S)
    (h1 : S.down = true → K (.tuple #[.slice none 0 0, .int .i64 30]) h)
    (h2 : S.down = false → ¬ (0 ≤ i ∧ i < S.lasts.length) → K (.tuple #[.slice none 0 0, .int .i64 31]) h)
    (h3 : S.down = false → 0 ≤ i → i < S.lasts.length → ∀ b h', Fr No h h' → Sl h' 1 (some ⟨b, 0, none⟩) 512 512 ((readAt S i.toNat).map bv) (From h.size) → (readAt S i.toNat).length = 512 →
      K (.tuple #[.slice (some ⟨b, 0, none⟩) 512 512, .int .i64 0]) h') :
    C.adisk_Disk_Read d i h K := by
  obtain ⟨col, a, _⟩ := a
  refine Read_spec a h1 h2 fun e i0 i1 b h' f hb o r l => h3 e i0 i1 b h' f ⟨by rw [List.length_map, l], rfl, hb, o, Nat.le_refl _, ?_, ?_⟩ l
  · show ((rd h' b).drop 0).take _ = _
    rw [r, List.drop_zero, List.take_length]
  · show 0 + 512 * 1 ≤ (rd h' b).length
    rw [r, List.length_map, l]; exact Nat.le_refl _
theorem openF_spec {a : Option Addr} {l c : Nat} {bs : List UInt8} {h : Heap} {K : Value → Heap → Prop} (B : StrAt h a l bs) (hlc : l ≤ c) (hl : l ≤ 140737488355328)
    (h1 : l % 512 ≠ 0 ∨ l = 0 ∨ 16384 < l / 512 → K (.tuple #[.pointer none, .int .i64 32]) h)
    (h2 : l % 512 = 0 → 0 < l → l / 512 ≤ 16384 → ∀ q h' D, Fr No h h' → (∀ b, D b → h.size ≤ b) → DiskF h' D (some q) (fresh (chunks bs)) → K (.tuple #[.pointer (some q), .int .i64 0]) h') :
    C.adisk_Open a l c h K := by
  refine Open_spec (fun _ => 0) 1 (fun _ _ h1 _ => absurd h1 (by show ¬ (1 ≤ 0); omega)) B hlc hl h1 fun y1 y2 y3 q h' col' f g a => ?_
  refine h2 y1 y2 y3 q h' _ f (fun b hb => ?_) (DiskF.mk a)
  rcases Nat.lt_or_ge b h.size with h1 | h1
  · have e : col' b = 0 := g b h1
    omega
  · exact h1
end Go.Proofs.YtcdpakjhjmchhaaGreatDoor.Ad
