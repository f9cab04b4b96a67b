/-
  SPACE: bits of blocks in a transaction: Bit, Used, set, Give.
-/
import Derived.Test.YtcdpakjhjmchhaaGreatDoorTmD
import Derived.Test.YtcdpakjhjmchhaaGreatDoorBtA
namespace Go.Proofs.YtcdpakjhjmchhaaGreatDoor.Spc
open Go Go.Proofs Go.Proofs.YtcdpakjhjmchhaaGreatDoor.Wx Go.Proofs.YtcdpakjhjmchhaaGreatDoor.Hp Go.Proofs.YtcdpakjhjmchhaaGreatDoor.W Go.Proofs.YtcdpakjhjmchhaaGreatDoor.Ad Go.Proofs.YtcdpakjhjmchhaaGreatDoor.Tm Go.Proofs.YtcdpakjhjmchhaaGreatDoor.Bt

/-- where the regions lie -/
structure G where
  blocks : Nat
  bitmap : Nat
  inodes : Nat
  data : Nat
  count : Nat
def G.v (g : G) : List Value := [.int .i64 g.blocks, .int .i64 g.bitmap, .int .i64 g.inodes, .int .i64 g.data, .int .i64 g.count]
structure G.ok (g : G) : Prop where
  b : g.blocks ≤ 1099511627776
  m : g.bitmap ≤ 1099511627776
  i : g.inodes ≤ 1099511627776
  d : g.data ≤ 1099511627776
theorem geo_Bit_spec {g : G} {i : Int} {h : Heap} {K : Value → Heap → Prop} (ok : g.ok) (h1 : ¬ (0 ≤ i ∧ i < g.blocks) → ∀ h', Fr No h h' → K (.tuple #[.int .i64 0, .int .i64 0, .int .i64 31]) h')
    (h2 : 0 ≤ i → i < g.blocks → ∀ h', Fr No h h' → K (.tuple #[.int .i64 (g.bitmap + i.toNat / 4096 : Nat), .int .i64 (i.toNat % 4096 : Nat), .int .i64 0]) h') : C.geo_Bit g.v i h K := by
  have b1 := ok.b
  have b2 := ok.m
  refine geo_Bit.ok (New.intro fun h3 n3 => ?_)
  refine cd (fun hn => h1 (by omega) h3 n3.fr) fun h0 => ⟨_, rda n3.rd rfl, cd (fun hn => h1 (by omega) h3 n3.fr) fun hb => ⟨_, rda n3.rd rfl, ?_⟩⟩
  obtain ⟨n, rfl⟩ := Int.eq_ofNat_of_zero_le (show 0 ≤ i by omega)
  have e1 : Int.tdiv (n : Int) 4096 = ((n / 4096 : Nat) : Int) := rfl
  have e2 : Int.tmod (n : Int) 4096 = ((n % 4096 : Nat) : Int) := rfl
  have h2 := h2 (by omega) (by omega) h3 n3.fr
  rw [e1, e2, wrap_i64 (n := ((n / 4096 : Nat) : Int)) (by omega) (by omega), wrap_i64 (by omega) (by omega)]
  rw [show ((n : Int)).toNat = n from rfl] at h2
  rw [show ((g.bitmap + n / 4096 : Nat) : Int) = (g.bitmap : Int) + ((n / 4096 : Nat) : Int) by omega] at h2
  exact h2
/-! the bits of blocks -/
def G.at_ (g : G) (i : Nat) : Int := (g.bitmap + i / 4096 : Nat)
def setBit (T : TM) (g : G) (i : Nat) (on : Bool) : TM × Int :=
  if (T.read (g.at_ i)).2 ≠ 0 then (T, (T.read (g.at_ i)).2) else T.write (g.at_ i) (putBit (T.read (g.at_ i)).1 (i % 4096) on)
def give (T : TM) (g : G) (i : Int) : TM × Int :=
  if i < g.data ∨ i ≥ g.blocks then (T, 91) else if (T.read (g.at_ i.toNat)).2 ≠ 0 then (T, (T.read (g.at_ i.toNat)).2) else
    if bitAt (T.read (g.at_ i.toNat)).1 (i.toNat % 4096) = false then (T, 91) else setBit T g i.toNat false
theorem bit_spec {h : Heap} {F : Nat → Prop} {t d : Option Addr} {T : TM} {g : G} {i : Int} {K : Value → Heap → Prop} (x : Tx h F t d T) (ok : g.ok)
    (h1 : ¬ (0 ≤ i ∧ i < g.blocks) → ∀ h', Fr No h h' → K (.tuple #[.int .i64 0, .slice none 0 0, .int .i64 0, .int .i64 31]) h')
    (h2 : 0 ≤ i → i < g.blocks → ∀ a l c h', Fr No h h' → l = (T.read (g.at_ i.toNat)).1.length → Sl h' 1 a l c ((T.read (g.at_ i.toNat)).1.map bv) (From h.size) →
      K (.tuple #[.int .i64 (g.at_ i.toNat), .slice a l c, .int .i64 (i.toNat % 4096 : Nat), .int .i64 (T.read (g.at_ i.toNat)).2]) h') : C.space_bit t g.v i h K := by
  refine space_bit.ok (New.intro fun h3 n3 => ⟨g.v, rfl, cellsAll n3.rd, ?_⟩)
  refine geo_Bit_spec ok (fun hb h4 f4 => ⟨_, _, _, rfl, ct rfl (h1 hb h4 (n3.fr.no f4))⟩) fun h0 hb h4 f4 => ⟨_, _, _, rfl, cf rfl ?_⟩
  have f := n3.fr.no f4
  refine Read_spec (x.no f) fun a l c h5 f5 hl s => ⟨_, _, _, _, rfl, ?_⟩
  exact h2 h0 hb a l c h5 (f.no f5) hl (s.mono fun b hb => Nat.le_trans f.size hb)
theorem Used_spec {h : Heap} {F : Nat → Prop} {t d : Option Addr} {T : TM} {g : G} {i : Int} {K : Value → Heap → Prop} (x : Tx h F t d T) (ok : g.ok)
    (h1 : ¬ (0 ≤ i ∧ i < g.blocks) → ∀ h', Fr No h h' → K (.tuple #[.bool false, .int .i64 31]) h')
    (h2 : 0 ≤ i → i < g.blocks → (T.read (g.at_ i.toNat)).2 ≠ 0 → ∀ h', Fr No h h' → K (.tuple #[.bool false, .int .i64 (T.read (g.at_ i.toNat)).2]) h')
    (h3 : 0 ≤ i → i < g.blocks → (T.read (g.at_ i.toNat)).2 = 0 → ∀ h', Fr No h h' → K (.tuple #[.bool (bitAt (T.read (g.at_ i.toNat)).1 (i.toNat % 4096)), .int .i64 0]) h') : C.space_Used t g.v i h K := by
  refine space_Used.ok (New.intro fun h4 n4 => ⟨g.v, rfl, cellsAll n4.rd, ?_⟩)
  refine bit_spec (x.no n4.fr) ok (fun hb h5 f5 => ⟨_, _, _, _, _, _, rfl, ct rfl (h1 hb h5 (n4.fr.no f5))⟩) fun h0 hb a l c h5 f5 hl s => ⟨_, _, _, _, _, _, rfl, cn (fun he => h2 h0 hb he h5 (n4.fr.no f5)) fun he => ?_⟩
  have hlen := Tx.readLen x he
  refine Get_spec s.str (by omega) (fun hn => absurd ⟨by omega, by omega⟩ hn) fun _ _ => ⟨_, _, rfl, ?_⟩
  exact h3 h0 hb he h5 (n4.fr.no f5)
theorem set_spec {h : Heap} {F : Nat → Prop} {t d : Option Addr} {T : TM} {g : G} {i : Int} {on : Bool} {K : Value → Heap → Prop} (x : Tx h F t d T) (ok : g.ok) (h0 : 0 ≤ i) (h1 : i < g.blocks) (hu : T.undo.length < 1000000000)
    (hK : ∀ h' F', Fr F h h' → Gw h F h' F' → Tx h' F' t d (setBit T g i.toNat on).1 → K (.int .i64 (setBit T g i.toNat on).2) h') : C.space_set t g.v i on h K := by
  refine space_set.ok (New.intro fun h4 n4 => ⟨g.v, rfl, cellsAll n4.rd, ?_⟩)
  have x4 := x.no n4.fr
  refine bit_spec x4 ok (fun hb => absurd ⟨h0, h1⟩ hb) fun _ _ a l c h5 f5 hl s => ⟨_, _, _, _, _, _, rfl, cn (fun he => ?_) fun he => ?_⟩
  · have e : setBit T g i.toNat on = (T, (T.read (g.at_ i.toNat)).2) := by unfold setBit; rw [if_pos he]
    rw [e] at hK
    have f := n4.fr.no f5
    exact hK h5 F (f.mono fun _ _ y => y.elim) (Gw.refl f.size fun b hb => x.lt hb) (x.no f)
  · have hlen := Tx.readLen x he
    have e : setBit T g i.toNat on = T.write (g.at_ i.toNat) (putBit (T.read (g.at_ i.toNat)).1 (i.toNat % 4096) on) := by unfold setBit; rw [if_neg (by rw [he]; simp)]
    rw [e] at hK
    obtain ⟨p, ep, _⟩ := s.get (by omega)
    subst ep
    obtain ⟨pb, po, sp⟩ := p
    have esp : sp = none := s.2.1
    subst esp
    refine Put_spec s (by omega) (fun hn => absurd ⟨by omega, by omega⟩ hn) fun _ _ h6 f6 z6 s6 => ⟨_, rfl, cf rfl ?_⟩
    have f := n4.fr.no f5
    have hfrom : h4.size ≤ pb := s.2.2.1
    have f6' : Fr No h h6 := f.trans f6 fun b hb e => by have := n4.size; omega
    have e2 : ((i.toNat % 4096 : Nat) : Int).toNat = i.toNat % 4096 := rfl
    rw [e2] at s6
    refine Write_spec (x.no f6') s6.str (by omega) (fun q eq y => ?_) hu fun h7 F7 f7 g7 x7 => ⟨_, rfl, hK h7 F7 ?_ ?_ x7⟩
    · cases eq
      have y : F pb := y
      have := x.lt y
      have := n4.size
      omega
    · exact (f6'.mono fun _ _ y => y.elim).trans f7 fun _ _ y => y
    · exact (Gw.refl f6'.size fun b hb => x.lt hb).trans g7 f6'.size
theorem Give_spec {h : Heap} {F : Nat → Prop} {t d : Option Addr} {T : TM} {g : G} {i : Int} {K : Value → Heap → Prop} (x : Tx h F t d T) (ok : g.ok) (hu : T.undo.length < 1000000000)
    (hK : ∀ h' F', Fr F h h' → Gw h F h' F' → Tx h' F' t d (give T g i).1 → K (.int .i64 (give T g i).2) h') : C.space_Give t g.v i h K := by
  refine space_Give.ok (New.intro fun h4 n4 => ⟨_, rda n4.rd rfl, ?_⟩)
  have same : ∀ e h5, Fr No h h5 → give T g i = (T, e) → K (.int .i64 e) h5 := fun e h5 f e0 => by
    rw [e0] at hK
    exact hK h5 F (f.mono fun _ _ y => y.elim) (Gw.refl f.size fun b hb => x.lt hb) (x.no f)
  refine cd (fun hn => same 91 h4 n4.fr (by unfold give; rw [if_pos (.inl hn)])) fun h0 => ⟨_, rda n4.rd rfl, cd (fun hn => same 91 h4 n4.fr (by unfold give; rw [if_pos (.inr hn)])) fun hb => ?_⟩
  have hr : ¬ (i < g.data ∨ i ≥ g.blocks) := by omega
  refine ⟨g.v, rfl, cellsAll n4.rd, Used_spec (x.no n4.fr) ok (fun hn => absurd ⟨by omega, by omega⟩ hn) (fun _ _ he h5 f5 => ⟨_, _, rfl, cn (fun _ => ?_) fun e => absurd e he⟩) fun _ _ he h5 f5 => ⟨_, _, rfl, cf rfl (cnot (cs (fun hon => ?_) fun hoff => ?_))⟩⟩
  · exact same _ h5 (n4.fr.no f5) (by unfold give; rw [if_neg hr, if_pos he])
  · have e0 : give T g i = setBit T g i.toNat false := by unfold give; rw [if_neg hr, if_neg (by rw [he]; simp), if_neg (by rw [hon]; simp)]
    rw [e0] at hK
    have f := n4.fr.no f5
    refine ⟨g.v, rfl, Cells.fr f5 (cellsAll n4.rd) (fun y => y), set_spec (x.no f) ok (by omega) (by omega) hu fun h6 F6 f6 g6 x6 => ⟨_, rfl, hK h6 F6 ?_ ?_ x6⟩⟩
    · exact (f.mono fun _ _ y => y.elim).trans f6 fun _ _ y => y
    · exact (Gw.refl f.size fun b hb => x.lt hb).trans g6 f.size
  · exact same _ h5 (n4.fr.no f5) (by unfold give; rw [if_neg hr, if_neg (by rw [he]; simp), if_pos hoff])
end Go.Proofs.YtcdpakjhjmchhaaGreatDoor.Spc
