/-
  SPACE: the law SpaceFills, walked.
-/
import Derived.Test.YtpleolmalbdpnaaSpcH
namespace Go.Proofs.Ytpleolmalbdpnaa.Spc
open Go Go.Proofs Go.Proofs.Ytpleolmalbdpnaa.Wx Go.Proofs.Ytpleolmalbdpnaa.Hp Go.Proofs.Ytpleolmalbdpnaa.W Go.Proofs.Ytpleolmalbdpnaa.Ad Go.Proofs.Ytpleolmalbdpnaa.Tm Go.Proofs.Ytpleolmalbdpnaa.Bt Go.Proofs.Ytpleolmalbdpnaa.Rg

/-- a transaction in a law's loop; the blocks P are as they were in hb -/
structure Gp (n0 : Nat) (P : Nat → Prop) (F : Nat → Prop) (t d : Option Addr) (T : TM) (hb hh : Heap) : Prop where
  x : Tx hh F t d T
  nF : ∀ b, F b → n0 ≤ b ∧ ¬ P b
  f : Fr (fun b => n0 ≤ b ∧ ¬ P b) hb hh
  lt : ∀ b, P b → b < hb.size
  n0 : n0 ≤ hb.size
theorem Gp.no {n0 : Nat} {P F : Nat → Prop} {t d : Option Addr} {T : TM} {hb hh hh' : Heap} (w : Gp n0 P F t d T hb hh) (f : Fr No hh hh') : Gp n0 P F t d T hb hh' := ⟨w.x.no f, w.nF, w.f.no f, w.lt, w.n0⟩
theorem Gp.call {n0 : Nat} {P F F' : Nat → Prop} {t d : Option Addr} {T T' : TM} {hb hh hh' : Heap} (w : Gp n0 P F t d T hb hh) (f : Fr F hh hh') (gw : Gw hh F hh' F') (x : Tx hh' F' t d T') : Gp n0 P F' t d T' hb hh' := by
  have s := w.f.size
  have h0 := w.n0
  refine ⟨x, fun b hb => ?_, w.f.trans f fun b _ y => w.nF b y, w.lt, w.n0⟩
  rcases gw.new hb with y | y
  · exact w.nF b y
  · exact ⟨by omega, fun hp => by have := w.lt b hp; omega⟩
theorem Gp.rd {n0 : Nat} {P F : Nat → Prop} {t d : Option Addr} {T : TM} {hb hh : Heap} (w : Gp n0 P F t d T hb hh) {b : Nat} (hp : P b) : Hp.rd hh b = Hp.rd hb b := w.f.rd (w.lt b hp) fun y => y.2 hp
theorem Gp.sl {n0 : Nat} {P F : Nat → Prop} {t d : Option Addr} {T : TM} {hb hh : Heap} (w : Gp n0 P F t d T hb hh) {ec l c : Nat} {a : Option Addr} {xs : List Value} (s : Sl hb ec a l c xs P) : Sl hh ec a l c xs P := s.fr w.f fun b _ hp y => y.2 hp
/-- Take, of what the law turns -/
theorem take_low {n u k : Nat} {U0 w V : Nat → Bool} {Z : Nat → Txt} {ks : List Int} {h : Heap} {F : Nat → Prop} {t d : Option Addr} {T : TM} {K : Value → Heap → Prop} (hn : 128 ≤ n ∧ n < 192) (x : Tx h F t d T) (s : St n V Z ks u T) (hu : u < 1000) (a : Vw n U0 w V) (hk : k < (frees n U0).length) (hw : w k = false) (hlow : ∀ i, i < k → w i = true)
    (hK : ∀ h' F', Fr F h h' → Gw h F h' F' → Tx h' F' t d (takeAt T (geoN n) (frees n U0)[k]).1 → K (.tuple #[.int .i64 (takeAt T (geoN n) (frees n U0)[k]).2.1, .int .i64 (takeAt T (geoN n) (frees n U0)[k]).2.2]) h') : C.space_Take t (geoN n).v h K := by
  obtain ⟨e1, e2, e3, e4⟩ := data101 hn
  have hg := frees_get hk
  have hf := (s.pU hn (m := (frees n U0)[k]) (by omega)).mpr (a.free.mpr ⟨k, hk, rfl, hw⟩)
  have hu2 := s.undo
  refine Take_spec x (geoN_ok (by omega)) (by omega) (by omega) (by omega) (fun i h1 h2 _ he => absurd (s.ok i (by omega)).1 he) (fun hno _ _ => absurd hf (hno _ (by omega))) fun m hm hfm hmin _ h' F' f g x' => ?_
  have hm : m < 4096 := by omega
  obtain ⟨i, hi, ei, wi⟩ := a.free.mp ((s.pU hn hm).mp hfm)
  have hik : ¬ i < k := fun y => by rw [hlow i y] at wi; cases wi
  have hle : m ≤ (frees n U0)[k] := by
    rcases Nat.lt_or_ge (frees n U0)[k] m with h2 | h2
    · exact absurd hf (hmin _ h2)
    · exact h2
  have em : m = (frees n U0)[k] := by
    rcases Nat.lt_or_ge k i with h2 | h2
    · have := frees_lt h2 hi; omega
    · have : i = k := by omega
      subst this; exact ei.symm
  subst em
  exact hK h' F' f g x'
theorem take_none {n u : Nat} {U0 w V : Nat → Bool} {Z : Nat → Txt} {ks : List Int} {h : Heap} {F : Nat → Prop} {t d : Option Addr} {T : TM} {K : Value → Heap → Prop} (hn : 128 ≤ n ∧ n < 192) (x : Tx h F t d T) (s : St n V Z ks u T) (hu : u < 1000) (a : Vw n U0 w V) (hw : ∀ i, i < (frees n U0).length → w i = true)
    (hK : ∀ h', Fr No h h' → K (.tuple #[.int .i64 0, .int .i64 90]) h') : C.space_Take t (geoN n).v h K := by
  obtain ⟨e1, e2, e3, e4⟩ := data101 hn
  have hu2 := s.undo
  refine Take_spec x (geoN_ok (by omega)) (by omega) (by omega) (by omega) (fun i h1 h2 _ he => absurd (s.ok i (by omega)).1 he) (fun _ h' f => hK h' f) fun m hm hfm _ _ _ _ _ _ _ => ?_
  obtain ⟨i, hi, ei, wi⟩ := a.free.mp ((s.pU hn (by omega)).mp hfm)
  rw [hw i hi] at wi; cases wi
theorem free_cnt {n u : Nat} {V : Nat → Bool} {Z : Nat → Txt} {ks : List Int} {h : Heap} {F : Nat → Prop} {t d : Option Addr} {T : TM} {K : Value → Heap → Prop} (hn : 128 ≤ n ∧ n < 192) (x : Tx h F t d T) (s : St n V Z ks u T)
    (hK : ∀ h', Fr No h h' → K (.tuple #[.int .i64 (cntP (pU n V) 4096 : Nat), .int .i64 0]) h') : C.space_Free t (geoN n).v h K := by
  obtain ⟨e1, e2, e3, e4⟩ := data101 hn
  refine Free_spec x (geoN_ok (by omega)) (by omega) (fun i h1 h2 he => absurd (s.ok i (by omega)).1 he) fun h' f => ?_
  rw [show 4096 * ((geoN n).inodes - (geoN n).bitmap) = 4096 by rw [e2, e3], s.cnt hn 4096 (Nat.le_refl _)]
  exact hK h' f
/-- which blocks the law may put -/
def keysN (n : Nat) (U0 : Nat → Bool) : List Int := bm n ++ (frees n U0).map fun (j : Nat) => (j : Int)
theorem keysN_len {n : Nat} {U0 : Nat → Bool} (hn : 128 ≤ n ∧ n ≤ 187) : (keysN n U0).length ≤ 96 := by
  have h1 := bm_len (n := n) (by omega)
  have h2 := frees_le (n := n) (U := U0) (by omega)
  unfold keysN
  rw [List.length_append, List.length_map]; omega
theorem keysN_at {n : Nat} {U0 : Nat → Bool} (hn : 128 ≤ n ∧ n < 192) {i : Nat} (hi : i < 4096) : (geoN n).at_ i ∈ keysN n U0 := List.mem_append_left _ (bm_mem (by rw [(data101 hn).2.1]; omega))
theorem keysN_mem {n : Nat} {U0 : Nat → Bool} {i : Nat} (hi : i < (frees n U0).length) : (((frees n U0)[i] : Nat) : Int) ∈ keysN n U0 := List.mem_append_right _ (List.mem_map.mpr ⟨_, List.getElem_mem hi, rfl⟩)
/-- the second loop: k are taken -/
structure S2 (n k : Nat) (U0 : Nat → Bool) (V : Nat → Bool) (Z : Nat → Txt) (T : TM) : Prop where
  s : St n V Z (keysN n U0) (2 * k) T
  v : Vw n U0 (fun i => decide (i < k)) V
  cnt : cntP (pU n V) 4096 + k = (frees n U0).length
  len : T.put.length = k + min k 1
  bmp : aget T.put (98 : Int) = none ↔ k = 0
  new : ∀ (i : Nat) (h : i < (frees n U0).length), k ≤ i → aget T.put (((frees n U0)[i] : Nat) : Int) = none
theorem S2.step {n k : Nat} {U0 V : Nat → Bool} {Z : Nat → Txt} {T : TM} (hn : 128 ≤ n ∧ n ≤ 187) (a : S2 n k U0 V Z T) (hk : k < (frees n U0).length) :
    (takeAt T (geoN n) (frees n U0)[k]).2 = (((frees n U0)[k] : Int), 0) ∧ S2 n (k + 1) U0 (updB V (frees n U0)[k] true) (updZ Z (frees n U0)[k] zeros512) (takeAt T (geoN n) (frees n U0)[k]).1 := by
  obtain ⟨e1, e2, e3, e4⟩ := data101 (n := n) (by omega)
  have hg := frees_get hk
  have e98 : (geoN n).at_ (frees n U0)[k] = (98 : Int) := by
    unfold G.at_
    rw [e3, show (frees n U0)[k] / 4096 = 0 by omega]; rfl
  obtain ⟨t1, t2⟩ := a.s.take (m := (frees n U0)[k]) (by omega) (by omega) hg.2.1 (keysN_at (by omega) (by omega)) (keysN_mem hk) (keysN_len hn)
  refine ⟨t1, ?_⟩
  obtain ⟨B, ep⟩ := take_put (by rw [t1])
  rw [e98] at ep
  have hne : ¬ ((frees n U0)[k] : Int) = 98 := by omega
  refine ⟨?_, (a.v.upd hk true).congr fun i hi => ?_, ?_, ?_, ?_, fun i hi hki => ?_⟩
  · have : 2 * (k + 1) = 2 * k + 2 := by omega
    rw [this]; exact t2
  · unfold updB
    by_cases e : i = k
    · rw [if_pos e, decide_eq_true (by omega)]
    · rw [if_neg e]; exact decide_eq_decide.mpr (by omega)
  · have h1 := cnt_off (by omega) a.v hk (by rw [decide_eq_false (by omega)])
    have h2 := a.cnt
    omega
  · rw [ep, aput_length, aget_aput, if_neg hne, if_pos (a.new k hk (Nat.le_refl _)), aput_length]
    have h1 := a.len
    by_cases h0 : k = 0
    · rw [if_pos (a.bmp.mpr h0), h1]; subst h0; rfl
    · rw [if_neg fun x => h0 (a.bmp.mp x), h1]; omega
  · rw [ep, aget_aput, if_neg (fun x => hne x.symm), aget_aput, if_pos rfl]
    exact ⟨fun x => (by cases x), fun x => by omega⟩
  · have h2 := frees_lt (show k < i by omega) hi
    have h3 := frees_get hi
    rw [ep, aget_aput, if_neg (by omega), aget_aput, if_neg (by omega)]
    exact a.new i hi (by omega)
end Go.Proofs.Ytpleolmalbdpnaa.Spc
