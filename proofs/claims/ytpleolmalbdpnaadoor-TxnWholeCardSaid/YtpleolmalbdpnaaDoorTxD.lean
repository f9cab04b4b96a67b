/-
  TRANSACTIONS: known; TxnReads.
-/
import Derived.Test.YtpleolmalbdpnaaDoorTxC
namespace Go.Proofs.YtpleolmalbdpnaaDoor.Txl
open Go Go.Proofs Go.Proofs.YtpleolmalbdpnaaDoor.Wx Go.Proofs.YtpleolmalbdpnaaDoor.Hp Go.Proofs.YtpleolmalbdpnaaDoor.W Go.Proofs.YtpleolmalbdpnaaDoor.Ad Go.Proofs.YtpleolmalbdpnaaDoor.Tm Go.Proofs.YtpleolmalbdpnaaDoor.Spc

/-- a transaction in memory that was not there at h0 -/
structure Tz (h0 hh : Heap) (F : Nat → Prop) (t d : Option Addr) (T : TM) : Prop where
  f : Fr No h0 hh
  x : Tx hh F t d T
  nf : ∀ b, F b → h0.size ≤ b
theorem Tz.no {h0 hh hh' : Heap} {F : Nat → Prop} {t d : Option Addr} {T : TM} (a : Tz h0 hh F t d T) (f : Fr No hh hh') : Tz h0 hh' F t d T := ⟨a.f.no f, a.x.no f, a.nf⟩
theorem Tz.call {h0 hh hh' : Heap} {F F' : Nat → Prop} {t d : Option Addr} {T T' : TM} (a : Tz h0 hh F t d T) (f : Fr F hh hh') (g : Gw hh F hh' F') (x : Tx hh' F' t d T') : Tz h0 hh' F' t d T' := by
  have z := a.f.size
  exact ⟨a.f.trans f fun b hb y => by have := a.nf b y; omega, x, fun b y => (g.new y).elim (a.nf b) fun q => by omega⟩
theorem Tz.stay {h0 hh hh' : Heap} {F : Nat → Prop} {t d : Option Addr} {T T' : TM} (a : Tz h0 hh F t d T) (f : Fr F hh hh') (x : Tx hh' F t d T') : Tz h0 hh' F t d T' := a.call f (Gw.refl f.size fun b y => a.x.lt y) x
theorem Tz.cells {h0 hh : Heap} {F : Nat → Prop} {t d : Option Addr} {T : TM} {a : Option Addr} {xs : List Value} (z : Tz h0 hh F t d T) (P : SlCells h0 a xs) : ∀ h', Fr F hh h' → SlCells h' a xs := fun h' f =>
  SlCells.fr (z.f.trans f fun b hb y => by have := z.nf b y; omega) P fun _ _ y => y
theorem dread {h : Heap} {F : Nat → Prop} {t d : Option Addr} {T : TM} {i : Int} {x : Txt} {K : Value → Heap → Prop} (a : Tx h F t d T) (hd : T.disk.down = false) (h0 : 0 ≤ i) (h1 : i < T.N) (e : readAt T.disk i.toNat = x)
    (hK : ∀ a l c h', Fr No h h' → StrAt h' a l x → K (.tuple #[.slice a l c, .int .i64 0]) h') : C.adisk_Disk_Read d i h K := by
  obtain ⟨D, A, _⟩ := a.dk
  refine DiskF.read A (fun y => absurd (hd.symm.trans y) (by simp)) (fun _ y => absurd ⟨h0, h1⟩ y) fun _ _ _ b h' f s _ => ?_
  rw [e] at s
  exact hK _ _ _ _ f s.str
theorem dsteps {h : Heap} {F : Nat → Prop} {t d : Option Addr} {T : TM} {K : Value → Heap → Prop} (a : Tx h F t d T) (hK : K (.tuple #[.int .i64 T.disk.writes, .int .i64 T.disk.flushes]) h) : C.adisk_Disk_Steps d h K := by
  obtain ⟨D, A, _⟩ := a.dk
  exact DiskF.steps A hK
theorem blk_eq {hh : Heap} {a b : Option Addr} {l m : Nat} {x : Txt} {y : UInt8} {P Q : Prop} (A : StrAt hh a l x) (B : StrAt hh b m (blk1 y)) (h : x = blk1 y) (k : P) :
    StrAt hh a l (ByteArray.toList (mkStr x)) ∧ ∃ bs2 : List UInt8, StrAt hh b m bs2 ∧ (bif (!((mkStr x).toList == (mkStr bs2).toList)) then Q else P) := by
  refine ⟨by rw [toList_mkStr]; exact A, _, B, ?_⟩
  rw [toList_mkStr, toList_mkStr, h, beq_self_eq_true]; exact k
theorem blk_eq' {hh : Heap} {a b : Option Addr} {l m : Nat} {x : Txt} {y : UInt8} {P Q : Prop} (A : StrAt hh a l x) (B : StrAt hh b m (blk1 y)) (h : x = blk1 y) (k : P) :
    StrAt hh a l (ByteArray.toList (mkStr x)) ∧ ∃ bs2 : List UInt8, StrAt hh b m bs2 ∧ (bif ((mkStr x).toList == (mkStr bs2).toList) then P else Q) := by
  refine ⟨by rw [toList_mkStr]; exact A, _, B, ?_⟩
  rw [toList_mkStr, toList_mkStr, h, beq_self_eq_true]; exact k
theorem begun_N (n : Nat) : (begun n).N = n := freshL_length n
theorem known_good : Tm.Good { begun 120 with put := aput (begun 120).put 98 (blk1 65), undo := (begun 120).undo ++ [(98, aget (begun 120).put 98)] } := by
  refine ⟨rfl, ?_, fun p hp => ?_, fun p hp => ?_, by show (1 : Nat) ≤ 96; decide, ⟨rfl, rfl⟩, rfl, ?_, ⟨Int.le_refl 0, by show (0 : Int) ≤ 100000000; decide⟩, ⟨Int.le_refl 0, by show (0 : Int) ≤ 100000000; decide⟩⟩
  · show [(98 : Int)].Nodup; simp
  · have hp : p ∈ [((98 : Int), blk1 65)] := hp
    rw [List.mem_singleton.mp hp]
    have : (begun 120).N = 120 := begun_N 120
    show (98 : Int) ≤ 98 ∧ (98 : Int) < ((begun 120).N : Int)
    rw [this]; exact ⟨by omega, by omega⟩
  · have hp : p ∈ [((98 : Int), blk1 65)] := hp
    rw [List.mem_singleton.mp hp]; exact blk1_length _
  · show 98 ≤ (begun 120).N
    rw [begun_N]; decide
theorem known_spec {h : Heap} {K : Value → Heap → Prop} (G : Re.Glo h) (hK : ∀ h', Fr No h h' → K (.bool true) h') : C.bolelaw06_known h K := by
  refine bolelaw06_known.ok (fresh_spec (N := 120) (by decide) (by decide) fun q h2 D f2 hD A => ⟨_, rfl, cf rfl ?_⟩)
  refine Begin_spec A fun tb h3 F f3 g3 x3 => ⟨_, rfl, cf rfl ?_⟩
  have Z3 : Tz h h3 F (some ⟨tb, 0, none⟩) (some q) (begun 120) := ⟨f2.no f3, x3, fun b y => by
    have z2 := f2.size
    rcases g3.new y with w | w
    · exact hD b w
    · omega⟩
  refine bl_spec (x := 65) fun b4 h4 f4 hb4 s4 => ⟨_, _, _, rfl, ?_⟩
  have Z4 := Z3.no f4
  have hb4' : ∀ p, (some (⟨b4, 0, none⟩ : Addr)) = some p → ¬ F p.block := fun p e y => by cases e; have y : F b4 := y; have := x3.lt y; omega
  have hN : (begun 120).N = 120 := begun_N 120
  have wr : (begun 120).write 98 (blk1 65) = ({ begun 120 with put := aput (begun 120).put 98 (blk1 65), undo := (begun 120).undo ++ [(98, aget (begun 120).put 98)] }, 0) :=
    TM.write_get rfl (by omega) (by rw [hN]; decide) (blk1_length _) (by rintro ⟨_, y⟩; exact absurd y (by decide))
  have e2 : ((begun 120).write 98 (blk1 65)).2 = 0 := by rw [wr]
  have rr := TM.read_write e2 98
  rw [if_pos rfl, wr] at rr
  refine Tm.Write_spec Z4.x s4.str (by omega) hb4' (by show 0 < 1000000000; omega) fun h5 F5 f5 g5 x5 => ⟨0, congrArg (fun r : TM × Int => Value.int .i64 r.2) wr, ?_⟩
  have x5 := Eq.mp (congrArg (fun r : TM × Int => Tx h5 F5 (some ⟨tb, 0, none⟩) (some q) r.1) wr) x5
  have kg := known_good
  have Z5 := Z4.call f5 g5 x5
  have k1 : ({ begun 120 with put := aput (begun 120).put 98 (blk1 65), undo := (begun 120).undo ++ [(98, aget (begun 120).put 98)] } : TM).put.length = 1 := rfl
  have k2 : ({ begun 120 with put := aput (begun 120).put 98 (blk1 65), undo := (begun 120).undo ++ [(98, aget (begun 120).put 98)] } : TM).disk = fresh (freshL 120) := rfl
  have k3 : ({ begun 120 with put := aput (begun 120).put 98 (blk1 65), undo := (begun 120).undo ++ [(98, aget (begun 120).put 98)] } : TM).N = 120 := hN
  clear x5 wr e2
  generalize ({ begun 120 with put := aput (begun 120).put 98 (blk1 65), undo := (begun 120).undo ++ [(98, aget (begun 120).put 98)] } : TM) = T1 at Z5 kg rr k1 k2 k3
  have hne : T1.put ≠ [] := fun e => by rw [e] at k1; cases k1
  obtain ⟨S, ec, kp⟩ := commit_good kg hne
  refine cn (fun y => absurd rfl y) fun _ => ?_
  unfold bolelaw06_known.k1
  refine tread Z5.x (by rw [rr]) fun a7 l7 c7 h7 f7 s7 => ⟨_, _, _, _, rfl, cn (fun y => absurd rfl y) fun _ => ⟨_, s7, ?_⟩⟩
  have Z7 := Z5.no f7
  refine bl_spec (x := 65) fun b8 h8 f8 hb8 s8 => ⟨_, _, _, rfl, blk_eq (StrAt.fr f8 s7 fun _ _ y => y) s8.str (by rw [rr]) ?_⟩
  have Z8 := Z7.no f8
  refine Tm.Commit_spec (G.no Z8.f) Z8.x (by rw [k1]; decide) (by rw [k2]; show 0 < 100000000; decide) (by rw [k2]; show 0 < 100000000; decide) fun h9 F9 f9 g9 x9 => ⟨0, congrArg (fun r : TM × Int => Value.int .i64 r.2) ec, ?_⟩
  have x9 := Eq.mp (congrArg (fun r : TM × Int => Tx h9 F9 (some ⟨tb, 0, none⟩) (some q) r.1) ec) x9
  have Z9 := Z8.call f9 g9 x9
  refine cn (fun y => absurd rfl y) fun _ => Over_spec Z9.x ⟨_, rfl, cf rfl ?_⟩
  unfold bolelaw06_known.k2
  have e98 : readAt S 98 = blk1 65 := by
    have := kp.read 98 (by decide) (by rw [k3]; decide)
    rw [this]
    show (T1.read 98).1 = _
    rw [rr]
  refine dread (x := blk1 65) Z9.x kp.q.down (by decide) (by show (98 : Int) < S.lasts.length; rw [kp.n, k3]; decide) e98 fun a12 l12 c12 h12 f12 s12 => ⟨_, _, _, _, rfl, ?_⟩
  have Z12 := Z9.no f12
  refine dsteps Z12.x ⟨_, _, rfl, ce (fun _ => ⟨_, s12, ?_⟩) fun y => absurd rfl y⟩
  refine bl_spec (x := 65) fun b14 h14 f14 hb14 s14 => ⟨_, _, _, rfl, blk_eq' (StrAt.fr f14 s12 fun _ _ y => y) s14.str rfl ?_⟩
  have ew : S.writes = 4 := by rw [kp.w, k2, k1]; rfl
  have ef : S.flushes = 4 := by rw [kp.f, k2]; rfl
  show bif (S.writes == 4) then K (.bool (S.flushes == 4)) h14 else K (.bool false) h14
  rw [ew, ef]
  exact hK h14 (Z12.f.no f14)
theorem sameInts_spec {a b : Option Addr} {c e : Nat} {ns : List Int} {h : Heap} {K : Value → Heap → Prop} (A : SlCells h a (Hd.ints ns)) (B : SlCells h b (Hd.ints ns)) (hl : ns.length < 1000000) (hK : K (.bool true) h) : C.bolelaw06_sameInts a ns.length c b ns.length e h K := by
  refine bolelaw06_sameInts.ok (cn (fun y => absurd rfl y) fun _ => ?_)
  refine ⟨fun n hh => ∃ k : Nat, n = k ∧ k ≤ ns.length ∧ hh = h, fun n _ => ((ns.length : Int) - n).toNat, ⟨0, rfl, Nat.zero_le _, rfl⟩, ?_⟩
  rintro n h2 ⟨k, en, hk, rfl⟩
  refine cd (fun hn => ?_) fun hn => hK
  have hk' : k < ns.length := by omega
  have et : Int.toNat n = k := by omega
  rw [et]
  obtain ⟨p, rfl, cp⟩ := Hd.ints_get A hk'
  obtain ⟨r, rfl, cr⟩ := Hd.ints_get B hk'
  refine ⟨⟨by omega, hn⟩, os ⟨_, cp, ⟨by omega, hn⟩, os ⟨_, cr, cn (fun y => absurd rfl y) fun _ => ?_⟩⟩⟩
  rw [wrap_i64 (by omega) (by omega)]
  exact ⟨⟨k + 1, by omega, by omega, rfl⟩, falls hn⟩
end Go.Proofs.YtpleolmalbdpnaaDoor.Txl
