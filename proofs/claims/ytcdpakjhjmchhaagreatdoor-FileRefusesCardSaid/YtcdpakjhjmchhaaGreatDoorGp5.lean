/-
  TEXTS FOR fileRefuses_card: BmY BmF BmI InT FiA WtA BmK BmR BmU FiC BwL FiB FiD.
-/
import Derived.Shelf.SlIterI.Sorted
import Derived.Shelf.SortM.Plain
import Derived.Shelf.SortM.SortNone
import Derived.Test.YtcdpakjhjmchhaaGreatDoorProg
import Derived.Shelf.Spec.BuilderWrite
import Derived.Ground.NamesProg
import Derived.Test.YtcdpakjhjmchhaaGreatDoorGp4
namespace Go.Proofs.YtcdpakjhjmchhaaGreatDoor.Bm
open Go Go.Proofs Go.Proofs.YtcdpakjhjmchhaaGreatDoor.Wx Go.Proofs.YtcdpakjhjmchhaaGreatDoor.Hp Go.Proofs.YtcdpakjhjmchhaaGreatDoor.W Go.Proofs.YtcdpakjhjmchhaaGreatDoor.Ad Go.Proofs.YtcdpakjhjmchhaaGreatDoor.Tm Go.Proofs.YtcdpakjhjmchhaaGreatDoor.Spc Go.Proofs.YtcdpakjhjmchhaaGreatDoor.Re Go.Proofs.YtcdpakjhjmchhaaGreatDoor.Av
open Go.Proofs.YtcdpakjhjmchhaaGreatDoor.Hd (ints wrap_u64)
open Go.Proofs.YtcdpakjhjmchhaaGreatDoor.In (Glo ints_length ints_one)
def stV (s : Nat × Nat) : List Value := [.int .i64 s.1, .int .i64 s.2]
def fileV (t : Option Addr) (g : G) (R : List Int) : List Value := .pointer t :: (g.v ++ ints R)
theorem fileV_get {t : Option Addr} {g : G} {R : List Int} {i : Nat} (hi : i < R.length) : (fileV t g R)[6 + i]? = some (.int .i64 (R.getD i 0)) := by
  rw [Nat.add_comm 6 i]
  show (ints R)[i]? = _
  rw [ints, List.getElem?_map, List.getD_eq_getElem?_getD, List.getElem?_eq_getElem hi]; rfl
theorem fileV_set (t : Option Addr) (g : G) (R : List Int) (i : Nat) (v : Int) : (fileV t g R).set (6 + i) (.int .i64 v) = fileV t g (R.set i v) := by
  rw [Nat.add_comm 6 i]
  show .pointer t :: .int .i64 g.blocks :: .int .i64 g.bitmap :: .int .i64 g.inodes :: .int .i64 g.data :: .int .i64 g.count :: (ints R).set i (.int .i64 v) = _
  have e : ints (R.set i v) = (ints R).set i (.int .i64 v) := by rw [ints, ints, List.map_set]
  unfold fileV; rw [e]; rfl
theorem fileV_len {t : Option Addr} {g : G} {R : List Int} (h : R.length = 15) : (fileV t g R).length = 21 := by
  unfold fileV; rw [List.length_cons, List.length_append, ints_length, h]; rfl
theorem cell2 {h : Heap} {b i j : Nat} {xs : List Value} {v : Value} (e : rd h b = xs) (hv : xs[i + j]? = some v) : cellOf h (Addr.add (Addr.add ⟨b, 0, none⟩ i) j) = some v := by
  rw [add_mk, add_mk, cellOf_rd, e, Nat.zero_add]; exact hv
theorem look_spec {h : Heap} {fb : Nat} {t : Option Addr} {g : G} {R : List Int} {v : Int} {K : Value → Heap → Prop} (e : rd h fb = fileV t g R) (hK : K (.int .i64 (lookM g v)) h) : C.bmap_file_look (some ⟨fb, 0, none⟩) v h K := by
  refine bmap_file_look.ok (os ⟨g.data, cell2 e rfl, cd (fun y => ?_) fun y => os ⟨g.blocks, cell2 e rfl, cd (fun y2 => ?_) fun y2 => ?_⟩⟩)
  · have : lookM g v = 100 := by unfold lookM; rw [if_pos (.inl y)]
    rw [this] at hK; exact hK
  · have : lookM g v = 100 := by unfold lookM; rw [if_pos (.inr y2)]
    rw [this] at hK; exact hK
  · have : lookM g v = 0 := by unfold lookM; rw [if_neg (by omega)]
    rw [this] at hK; exact hK
theorem way_spec {k : Int} {h : Heap} {K : Value → Heap → Prop} (h0 : 0 ≤ k) (h1 : k < 16522)
    (hK : ∀ h', Fr No h h' → h.size < h'.size → rd h' h.size = (wayM k.toNat).flatMap stV → K (.slice (some ⟨h.size, 0, none⟩) (wayM k.toNat).length (wayM k.toNat).length) h') : C.bmap_way k h K := by
  have cast : ((k.toNat : Nat) : Int) = k := by omega
  refine bmap_way.ok (cd (fun y => ⟨rfl, New.intro fun h2 n2 => ?_⟩) fun y => cd (fun y2 => ⟨rfl, rfl, New.intro fun h2 n2 => ?_⟩) fun y2 => ⟨rfl, rfl, rfl, New.intro fun h2 n2 => ?_⟩)
  · have e : wayM k.toNat = [(0, k.toNat)] := by unfold wayM; rw [if_pos (by omega)]
    rw [e] at hK
    refine hK h2 n2.fr n2.own.lt (n2.rd.trans ?_)
    show _ = [Value.int .i64 ((0 : Nat) : Int), .int .i64 ((k.toNat : Nat) : Int)]
    rw [cast]; rfl
  · have e : wayM k.toNat = [(1, 0), (3, k.toNat - 10)] := by unfold wayM; rw [if_neg (by omega), if_pos (by omega)]
    rw [e] at hK
    refine hK h2 n2.fr n2.own.lt (n2.rd.trans ?_)
    show _ = [Value.int .i64 ((1 : Nat) : Int), .int .i64 ((0 : Nat) : Int), .int .i64 ((3 : Nat) : Int), .int .i64 ((k.toNat - 10 : Nat) : Int)]
    rw [wrap_i64 (by omega) (by omega), show ((k.toNat - 10 : Nat) : Int) = k - 10 by omega]; rfl
  · have e : wayM k.toNat = [(2, 0), (3, (k.toNat - 138) / 128), (3, (k.toNat - 138) % 128)] := by unfold wayM; rw [if_neg (by omega), if_neg (by omega)]
    rw [e] at hK
    refine hK h2 n2.fr n2.own.lt (n2.rd.trans ?_)
    show _ = [Value.int .i64 ((2 : Nat) : Int), .int .i64 ((0 : Nat) : Int), .int .i64 ((3 : Nat) : Int), .int .i64 (((k.toNat - 138) / 128 : Nat) : Int), .int .i64 ((3 : Nat) : Int), .int .i64 (((k.toNat - 138) % 128 : Nat) : Int)]
    have e1 : Int.tdiv (k - 138) 128 = (((k.toNat - 138) / 128 : Nat) : Int) := by rw [Int.tdiv_eq_ediv_of_nonneg (by omega)]; omega
    have e2 : Int.tmod (k - 138) 128 = (((k.toNat - 138) % 128 : Nat) : Int) := by rw [Int.tmod_eq_emod_of_nonneg (by omega)]; omega
    rw [wrap_i64 (n := k - 138) (by omega) (by omega), e1, e2, wrap_i64 (by omega) (by omega)]; rfl
/-- a step that may be -/
def StOk (s : Nat × Nat) : Prop := s.1 = 0 ∧ s.2 < 10 ∨ s.1 = 1 ∨ s.1 = 2 ∨ s.1 = 3 ∧ s.2 < 128
theorem wayM_ok {k : Nat} (h : k < 16522) : ∀ s ∈ wayM k, StOk s := by
  unfold wayM StOk
  intro s hs
  split at hs
  · simp at hs; subst hs; exact .inl ⟨rfl, by assumption⟩
  · split at hs
    · simp at hs; rcases hs with rfl | rfl
      · exact .inr (.inl rfl)
      · exact .inr (.inr (.inr ⟨rfl, by simp only; omega⟩))
    · simp at hs; rcases hs with rfl | rfl | rfl
      · exact .inr (.inr (.inl rfl))
      · exact .inr (.inr (.inr ⟨rfl, by simp only; omega⟩))
      · exact .inr (.inr (.inr ⟨rfl, by simp only; omega⟩))
def ownI (s : Nat × Nat) : Nat := if s.1 = 0 then 3 + s.2 else if s.1 = 1 then 13 else 14
theorem ownI_lt {s : Nat × Nat} (hs : StOk s) : ownI s < 15 := by
  unfold ownI
  rcases hs with ⟨h1, h2⟩ | h1 | h1 | ⟨h1, _⟩
  · rw [if_pos h1]; omega
  · rw [if_neg (by omega), if_pos h1]; decide
  · rw [if_neg (by omega), if_neg (by omega)]; decide
  · rw [if_neg (by omega), if_neg (by omega)]; decide
theorem own_spec {h : Heap} {fb : Nat} {s : Nat × Nat} {K : Value → Heap → Prop} (hs : StOk s) (hK : ∀ h', Fr No h h' → K (.pointer (some ⟨fb, 6 + ownI s, none⟩)) h') : C.bmap_file_own (some ⟨fb, 0, none⟩) (stV s) h K := by
  refine bmap_file_own.ok (New.intro fun h2 n2 => ⟨_, rda n2.rd rfl, ce (fun y => ⟨_, rda n2.rd rfl, os ⟨⟨by omega, ?_⟩, ?_⟩⟩) fun y => ce (fun y2 => os ?_) fun y2 => os ?_⟩)
  · rcases hs with ⟨_, h2⟩ | h1 | h1 | ⟨h1, _⟩ <;> omega
  · have e : ownI s = 3 + s.2 := by unfold ownI; rw [if_pos (by omega)]
    have hK := hK h2 n2.fr
    rw [add_mk, add_mk, add_mk, Int.toNat_natCast]
    rw [e] at hK
    rw [show 0 + 6 + 3 + s.2 = 6 + (3 + s.2) by omega]; exact hK
  · have e : ownI s = 13 := by unfold ownI; rw [if_neg (by omega), if_pos (by omega)]
    have hK := hK h2 n2.fr
    rw [e] at hK
    rw [add_mk, add_mk]; exact hK
  · have e : ownI s = 14 := by unfold ownI; rw [if_neg (by omega), if_neg (by omega)]
    have hK := hK h2 n2.fr
    rw [e] at hK
    rw [add_mk, add_mk]; exact hK
theorem numM_own {T : TM} {R : List Int} {s : Nat × Nat} {a : Int} (hs : StOk s) (h : s.1 ≠ 3) : numM T R s a = (R.getD (ownI s) 0, [], 0) := by
  unfold numM ownI
  rcases hs with ⟨h1, _⟩ | h1 | h1 | ⟨h1, _⟩
  · rw [if_pos h1, if_pos h1]
  · rw [if_neg (by omega), if_pos h1, if_neg (by omega), if_pos h1]
  · rw [if_neg (by omega), if_neg (by omega), if_pos h1, if_neg (by omega), if_neg (by omega)]
  · exact absurd h1 h
theorem numM_t {T : TM} {R : List Int} {s : Nat × Nat} {a : Int} (h : s.1 = 3) : numM T R s a = if (T.read a).2 ≠ 0 then ((0 : Int), ([] : Txt), (T.read a).2) else (((num4 (T.read a).1 s.2 : Nat) : Int), (T.read a).1, (0 : Int)) := by
  unfold numM
  rw [if_neg (by omega), if_neg (by omega), if_neg (by omega)]
theorem number_spec {h : Heap} {F : Nat → Prop} {t d : Option Addr} {T : TM} {g : G} {R : List Int} {fb : Nat} {s : Nat × Nat} {a : Int} {K : Value → Heap → Prop} (gl : Glo h) (x : Tx h F t d T) (e : rd h fb = fileV t g R) (hR : R.length = 15) (hs : StOk s)
    (hK : ∀ sa sl sc h', Fr No h h' → sl = (numM T R s a).2.1.length → Sl h' 1 sa sl sc ((numM T R s a).2.1.map bv) (From h.size) → K (.tuple #[.int .i64 (numM T R s a).1, .slice sa sl sc, .int .i64 (numM T R s a).2.2]) h') : C.bmap_file_number (some ⟨fb, 0, none⟩) (stV s) a h K := by
  have fl : fb < h.size := rd_lt (o := 0) (by rw [e]; rfl)
  refine bmap_file_number.ok (New.intro fun h2 n2 => ⟨_, rda n2.rd rfl, cn (fun y => ⟨stV s, rfl, cellsAll n2.rd, own_spec hs fun h3 f3 => ⟨_, rfl, os ?_⟩⟩) fun y => os ?_⟩)
  · rw [numM_own hs (by omega)] at hK
    have F3 := n2.fr.no f3
    refine ⟨_, rdc ((F3.rd fl fun y => y).trans e) (fileV_get (by rw [hR]; exact ownI_lt hs)), hK none 0 0 h3 F3 rfl (Sl.nil _ _ _)⟩
  · have hs3 : s.1 = 3 := by omega
    have hs2 : s.2 < 128 := by rcases hs with ⟨h1, _⟩ | h1 | h1 | ⟨_, h2⟩ <;> omega
    rw [numM_t hs3] at hK
    refine ⟨t, rda ((n2.at_ fl).trans e) rfl, Tm.Read_spec (x.no n2.fr) fun sa sl sc h4 f4 el s4 => ⟨_, _, _, _, rfl, cn (fun he => ?_) fun he => ?_⟩⟩
    · rw [if_pos he] at hK
      exact hK none 0 0 h4 (n2.fr.no f4) rfl (Sl.nil _ _ _)
    · rw [if_neg (fun y => y he)] at hK
      have hlen : (T.read a).1.length = 512 := Tx.readLen x he
      have F4 := n2.fr.no f4
      have z2 := n2.size
      refine ⟨_, rda ((f4.rd n2.own.lt fun y => y).trans n2.rd) rfl, ?_⟩
      rw [wrap_i64 (n := 4 * (s.2 : Int)) (by omega) (by omega)]
      refine In.Get_w (gl.no F4) s4.str (by omega) (.inr (.inr (.inl rfl))) (by omega) (by omega) ⟨_, _, rfl, ?_⟩
      have en : leN (((T.read a).1.drop (4 * (s.2 : Int)).toNat).take (Int.toNat 4)) = num4 (T.read a).1 s.2 := by
        unfold num4
        rw [show (4 * (s.2 : Int)).toNat = 4 * s.2 by omega]; rfl
      rw [en]
      have lt := num4_lt (T.read a).1 s.2
      rw [wrap_i64 (by omega) (by omega)]
      exact hK sa sl sc h4 F4 el (s4.mono fun b hb => by have : h2.size ≤ b := hb; show h.size ≤ b; omega)
theorem setM_own {T : TM} {R : List Int} {s : Nat × Nat} {a v : Int} {b : Txt} (hs : StOk s) (h : s.1 ≠ 3) : setM T R s a b v = ((T, R.set (ownI s) v), 0) := by
  unfold setM ownI
  rcases hs with ⟨h1, _⟩ | h1 | h1 | ⟨h1, _⟩
  · rw [if_pos h1, if_pos h1]
  · rw [if_neg (by omega), if_pos h1, if_neg (by omega), if_pos h1]
  · rw [if_neg (by omega), if_neg (by omega), if_pos h1, if_neg (by omega), if_neg (by omega)]
  · exact absurd h1 h
theorem setM_t {T : TM} {R : List Int} {s : Nat × Nat} {a v : Int} {b : Txt} (h : s.1 = 3) : setM T R s a b v = (((T.write a (set4 b s.2 v.toNat)).1, R), (T.write a (set4 b s.2 v.toNat)).2) := by
  unfold setM
  rw [if_neg (by omega), if_neg (by omega), if_neg (by omega)]
theorem setM_len {T : TM} {R : List Int} {s : Nat × Nat} {a v : Int} {b : Txt} (hs : StOk s) (hR : R.length = 15) : (setM T R s a b v).1.2.length = 15 := by
  by_cases h : s.1 = 3
  · rw [setM_t h]; exact hR
  · rw [setM_own hs h]; show (R.set _ _).length = 15; rw [List.length_set]; exact hR
theorem sl_rngB {h : Heap} {ec l c : Nat} {a : Option Addr} {xs : List Value} {F : Nat → Prop} (s : Sl h ec a l c xs F) : Sl h ec a l c xs (fun b => F b ∧ b < h.size) := by
  obtain ⟨h1, h2⟩ := s
  refine ⟨h1, ?_⟩
  cases a with
  | none => exact h2
  | some p => exact ⟨h2.1, ⟨h2.2.1, h2.2.2.1.lt⟩, h2.2.2.1, h2.2.2.2.1, h2.2.2.2.2⟩
theorem write_un (T : TM) (i : Int) (bs : Txt) : (T.write i bs).1.undo.length ≤ T.undo.length + 1 := by
  by_cases h : (T.write i bs).2 = 0
  · obtain ⟨_, _, _, _, _, ew⟩ := TM.write_ok h
    rw [ew]
    show (T.undo ++ [_]).length ≤ _
    rw [List.length_append]; exact Nat.le_refl _
  · rw [TM.write_bad h]; exact Nat.le_add_right _ _
theorem setM_un {T : TM} {R : List Int} {s : Nat × Nat} {a v : Int} {b : Txt} (hs : StOk s) : (setM T R s a b v).1.1.undo.length ≤ T.undo.length + 1 := by
  by_cases h : s.1 = 3
  · rw [setM_t h]; exact write_un _ _ _
  · rw [setM_own hs h]; exact Nat.le_add_right _ _
theorem setBit_un (T : TM) (g : G) (i : Nat) (on : Bool) : (setBit T g i on).1.undo.length ≤ T.undo.length + 1 := by
  unfold setBit
  split
  · exact Nat.le_add_right _ _
  · exact write_un _ _ _
theorem takeM_un (T : TM) (g : G) : (takeM T g).1.undo.length ≤ T.undo.length + 2 := by
  unfold takeM
  split
  · unfold takeAt
    split
    · exact Nat.le_add_right _ _
    · split
      · exact Nat.le_add_right _ _
      · exact Nat.le_trans (write_un _ _ _) (Nat.succ_le_succ (setBit_un _ _ _ _))
  · exact Nat.le_add_right _ _
theorem takeM_rng (T : TM) (g : G) : 0 ≤ (takeM T g).2.1 ∧ ((takeM T g).2.1 = 0 ∨ (takeM T g).2.1 < g.blocks) := by
  unfold takeM
  split
  · rename_i m hm
    have hm := List.mem_of_find?_eq_some hm
    rw [List.mem_range] at hm
    unfold takeAt
    split
    · exact ⟨Int.le_refl _, .inl rfl⟩
    · split
      · exact ⟨Int.le_refl _, .inl rfl⟩
      · exact ⟨Int.natCast_nonneg _, .inr (by show (m : Int) < _; omega)⟩
  · exact ⟨Int.le_refl _, .inl rfl⟩
theorem set_spec {h : Heap} {F : Nat → Prop} {t d : Option Addr} {T : TM} {g : G} {R : List Int} {fb lo : Nat} {s : Nat × Nat} {a v : Int} {sa : Option Addr} {sl sc : Nat} {b : Txt} {K : Value → Heap → Prop} (gl : Glo h) (x : Tx h F t d T) (e : rd h fb = fileV t g R) (fo : Own h fb) (hR : R.length = 15) (hs : StOk s)
    (hf : ¬ F fb) (hu : T.undo.length < 1000000000) (hv : 0 ≤ v ∧ v < 4294967296) (hb : s.1 = 3 → b.length = 512 ∧ Sl h 1 sa sl sc (b.map bv) (fun y => lo ≤ y ∧ ¬ F y ∧ y ≠ fb))
    (hK : ∀ h' F', Fr (fun y => F y ∨ y = fb ∨ lo ≤ y) h h' → Gw h F h' F' → Tx h' F' t d (setM T R s a b v).1.1 → rd h' fb = fileV t g (setM T R s a b v).1.2 → Own h' fb → K (.int .i64 (setM T R s a b v).2) h') : C.bmap_file_set (some ⟨fb, 0, none⟩) (stV s) a sa sl sc v h K := by
  have fl := fo.lt
  have Flt := fun y (hy : F y) => x.lt hy
  refine bmap_file_set.ok (New.intro fun h2 n2 => ⟨_, rda n2.rd rfl, cn (fun y => ⟨stV s, rfl, cellsAll n2.rd, own_spec hs fun h3 f3 => ⟨_, rfl, os ?_⟩⟩) fun y => ?_⟩)
  · rw [setM_own hs (by omega)] at hK
    have F3 := n2.fr.no f3
    have r3 : rd h3 fb = _ := (F3.rd fl fun y => y).trans e
    have hi := ownI_lt hs
    refine Put.intro (F3.own fl (fun y => y) fo) (by rw [r3, fileV_len hR]; omega) fun h4 d4 => ?_
    rw [r3, fileV_set] at d4
    have F4 : Fr (fun y => F y ∨ y = fb ∨ lo ≤ y) h h4 := (F3.mono fun _ _ y => y.elim).did d4 fun _ => .inr (.inl rfl)
    exact hK h4 F F4 (Gw.refl F4.size Flt) ((x.no F3).fr d4.fr fun c hc y => hf (by have y : c = fb := y; rw [← y]; exact hc)) d4.rd d4.own
  · have hs3 : s.1 = 3 := by omega
    have hs2 : s.2 < 128 := by rcases hs with ⟨h1, _⟩ | h1 | h1 | ⟨_, h2⟩ <;> omega
    rw [setM_t hs3] at hK
    obtain ⟨lb, S⟩ := hb hs3
    have z2 := n2.size
    have ll : sl = 512 := by have := S.1; rw [List.length_map] at this; omega
    subst ll
    obtain ⟨⟨pb, po, sp⟩, ep, _⟩ := S.get (by decide)
    subst ep
    have esp : sp = none := S.2.1
    subst esp
    have k1 := S.2.2.1
    have k1 : lo ≤ pb ∧ ¬ F pb ∧ pb ≠ fb := k1
    have pl := S.lt
    have pl : pb < h.size := pl
    refine ⟨_, rda n2.rd rfl, ?_⟩
    rw [wrap_i64 (n := 4 * (s.2 : Int)) (by omega) (by omega), wrap_u64 (n := v) hv.1 (by omega), show v = ((v.toNat : Nat) : Int) by omega]
    refine In.Put_w (gl.no n2.fr) (S.fr n2.fr fun _ _ _ y => y) (by decide) (.inr (.inr rfl)) (by omega) (by omega) (by show _ < 256 ^ 4; omega) fun h5 f5 s5 => ⟨_, rfl, os ?_⟩
    have z5 := f5.size
    have e5 : putU b (4 * (s.2 : Int)).toNat (leBs (Int.toNat 4) v.toNat) = set4 b s.2 v.toNat := by
      unfold set4
      rw [show (4 * (s.2 : Int)).toNat = 4 * s.2 by omega]; rfl
    rw [e5] at s5
    have F5 : Fr (fun y => y = pb) h h5 := (n2.fr.mono fun _ _ y => y.elim).trans f5 fun _ _ y => y
    have r5 : rd h5 fb = _ := (F5.rd fl fun y => k1.2.2 y.symm).trans e
    have x5 : Tx h5 F t d T := x.fr F5 fun c hc y => k1.2.1 (by have y : c = pb := y; rw [← y]; exact hc)
    refine ⟨t, rda r5 rfl, Tm.Write_spec x5 s5.str (by decide) (fun p e y => ?_) hu fun h6 F' f6 g6 x6 => ⟨_, rfl, ?_⟩⟩
    · cases e; exact k1.2.1 y
    · refine hK h6 F' ((F5.mono fun c _ y => ?_).trans f6 fun c _ y => .inl y) ((Gw.refl F5.size Flt).trans g6 F5.size) x6 ((f6.rd (by omega) hf).trans r5) (f6.own (by omega) hf (F5.own fl (fun y => k1.2.2 y.symm) fo))
      have y : c = pb := y
      rw [y]; exact .inr (.inr k1.1)
theorem Find_c1_spec {s : List Value} {a : Int} {sa : Option Addr} {sl sc : Nat} {h : Heap} {K : Value → Heap → Prop} (hK : ∀ h', Fr No h h' → K (.tuple #[.int .i64 0, .int .i64 0]) h') : C.bmap_Find_c1 s a sa sl sc h K :=
  bmap_Find_c1.ok (New.intro fun h2 n2 => hK h2 n2.fr)
theorem st_cells {h : Heap} {b : Nat} {l : List (Nat × Nat)} (e : rd h b = l.flatMap stV) {j : Nat} (hj : j < l.length) : Cells h (Addr.add ⟨b, 0, none⟩ (j * 2)) (stV l[j]) := by
  have c : Cells h ⟨b, 0, none⟩ (l.flatMap stV) := cellsAll e
  have := Cells.take (Cells.drop c (j * 2)) 2
  rw [flat_part stV 2 l (fun _ _ => rfl) j hj] at this
  exact this
theorem drop_cons {α : Type} {l : List α} {j : Nat} (h : j < l.length) : l.drop j = l[j] :: l.drop (j + 1) := List.drop_eq_getElem_cons h
theorem walkF_cons (T : TM) (g : G) (R : List Int) (s : Nat × Nat) (r : List (Nat × Nat)) (a : Int) : walkF T g R (s :: r) a = if (numM T R s a).2.2 ≠ 0 then (0, (numM T R s a).2.2) else if (numM T R s a).1 = 0 then (0, 0) else
      if lookM g (numM T R s a).1 ≠ 0 then (0, lookM g (numM T R s a).1) else walkF T g R r (numM T R s a).1 := rfl
theorem one_st (s : Nat × Nat) : ∀ v ∈ stV s, v.oneCell' = true := one2 rfl rfl
theorem walkF_spec {h : Heap} {F : Nat → Prop} {t d : Option Addr} {T : TM} {g : G} {R : List Int} {fb : Nat} {k : Int} {K : Value → Heap → Prop} (gl : Glo h) (x : Tx h F t d T) (e : rd h fb = fileV t g R) (hR : R.length = 15) (h0 : 0 ≤ k) (h1 : k < 16522)
    (hK : ∀ h', Fr No h h' → K (.tuple #[.int .i64 (walkF T g R (wayM k.toNat) 0).1, .int .i64 (walkF T g R (wayM k.toNat) 0).2]) h') : C.bmap_file_walk (some ⟨fb, 0, none⟩) k (Value.func (.func 66) #[] ⟨[]⟩) h K := by
  have fl : fb < h.size := rd_lt (o := 0) (by rw [e]; rfl)
  refine bmap_file_walk.ok (way_spec h0 h1 fun h2 f2 l2 rw2 => ⟨_, _, _, rfl, ?_⟩)
  have hok := wayM_ok (k := k.toNat) (by omega)
  have hwl : (wayM k.toNat).length ≤ 3 := by
    unfold wayM
    split
    · simp
    · split <;> simp
  generalize wayM k.toNat = w at hK rw2 hok hwl
  refine ⟨fun a i hh => ∃ j : Nat, i = j ∧ j ≤ w.length ∧ Fr No h2 hh ∧ walkF T g R (w.drop j) a = walkF T g R w 0, fun _ i _ => ((w.length : Int) - i).toNat, ⟨0, rfl, Nat.zero_le _, Fr.refl _ _, by rw [List.drop_zero]⟩, ?_⟩
  rintro a i h3 ⟨j, rfl, hj, f3, ew⟩
  refine cd (fun hl => ?_) fun hl => ?_
  · have hj' : j < w.length := by omega
    rw [drop_cons hj', walkF_cons] at ew
    have F3 := f2.no f3
    have hs := hok _ (List.getElem_mem hj')
    have z3 := f3.size
    rw [Int.toNat_natCast]
    refine ⟨⟨by omega, hl⟩, os ⟨stV w[j], rfl, st_cells ((f3.rd l2 fun y => y).trans rw2) hj', NewRow.intro rfl (one_st _) rfl fun h5 n5 => ⟨stV w[j], rfl, cellsAll n5.rd, ?_⟩⟩⟩
    have F5 := F3.new n5
    refine number_spec (gl.no F5) (x.no F5) ((F5.rd fl fun y => y).trans e) hR hs fun sa sl sc h6 f6 el s6 => ⟨_, _, _, _, _, rfl, ?_⟩
    have F6 := F5.no f6
    have z5 := n5.size
    have z6 := f6.size
    have wr : IntKind.wrap .i64 ((j : Int) + 1) = ((j + 1 : Nat) : Int) := by rw [wrap_i64 (by omega) (by omega)]; omega
    have go : ∀ h8, Fr No h3 h8 → ∀ (nu er : Int), (if er ≠ 0 then ((0 : Int), er) else if nu = 0 then (0, 0) else if lookM g nu ≠ 0 then (0, lookM g nu) else walkF T g R (w.drop (j + 1)) nu) = walkF T g R w 0 →
        bmap_file_walk.k1 (some ⟨fb, 0, none⟩) a (j : Int) h3 (fun a i hh => ∃ j : Nat, i = j ∧ j ≤ w.length ∧ Fr No h2 hh ∧ walkF T g R (w.drop j) a = walkF T g R w 0) (fun _ i _ => ((w.length : Int) - i).toNat) nu er h8 K := fun h8 f8 nu er e8 => by
      have F8 := F3.no f8
      unfold bmap_file_walk.k1
      refine cn (fun y => ?_) fun y => ce (fun y2 => ?_) fun y2 => ?_
      · rw [if_pos y] at e8; rw [← e8] at hK; exact hK h8 F8
      · rw [if_neg (fun z => z y), if_pos y2] at e8; rw [← e8] at hK; exact hK h8 F8
      · rw [if_neg (fun z => z y), if_neg y2] at e8
        refine look_spec ((F8.rd fl fun y => y).trans e) ⟨_, rfl, cn (fun y3 => ?_) fun y3 => ?_⟩
        · rw [if_pos y3] at e8; rw [← e8] at hK; exact hK h8 F8
        · rw [if_neg (fun z => z y3)] at e8
          rw [wr]
          exact ⟨⟨j + 1, rfl, hj', f3.no f8, e8⟩, by show ((w.length : Int) - ((j + 1 : Nat) : Int)).toNat < ((w.length : Int) - (j : Int)).toNat; omega⟩
    have F36 : Fr No h3 h6 := n5.fr.no f6
    refine ce (fun y => ce (fun y2 => ?_) fun y2 => go h6 F36 _ _ ew) fun y => go h6 F36 _ _ ew
    rw [if_neg (fun z => z y), if_pos y2] at ew
    refine ⟨stV w[j], rfl, cellsAll ((f6.rd n5.own.lt fun y => y).trans n5.rd), Find_c1_spec fun h7 f7 => ⟨_, _, rfl, go h7 (F36.no f7) 0 0 ?_⟩⟩
    rw [if_neg (fun z => z rfl), if_pos rfl]; exact ew
  · have ej : j = w.length := by omega
    subst ej
    rw [List.drop_length] at ew
    have ew : (a, (0 : Int)) = walkF T g R w 0 := ew
    rw [← ew] at hK
    exact hK h3 (f2.no f3)
theorem Find_spec {h : Heap} {F : Nat → Prop} {t d : Option Addr} {T : TM} {g : G} {R : List Int} {k : Int} {K : Value → Heap → Prop} (gl : Glo h) (x : Tx h F t d T) (hR : R.length = 15)
    (hK : ∀ h', Fr No h h' → K (.tuple #[.int .i64 (findM T g R k).1, .int .i64 (findM T g R k).2]) h') : C.bmap_Find t g.v (ints R) k h K := by
  refine bmap_Find.ok (New.intro fun h2 n2 => New.intro fun h3 n3 => cd (fun y => ?_) fun y => cd (fun y2 => ?_) fun y2 => ?_)
  · have e : findM T g R k = (0, 101) := by unfold findM; rw [if_pos (.inl y)]
    rw [e] at hK; exact hK h3 (n2.fr.new n3)
  · have e : findM T g R k = (0, 101) := by unfold findM; rw [if_pos (.inr y2)]
    rw [e] at hK; exact hK h3 (n2.fr.new n3)
  · have e : findM T g R k = walkF T g R (wayM k.toNat) 0 := by unfold findM; rw [if_neg (by omega)]
    rw [e] at hK
    unfold bmap_Find.k1
    refine ⟨g.v, rfl, cellsAll ((n3.at_ n2.own.lt).trans n2.rd), ints R, by rw [ints_length, hR], cellsAll n3.rd, rfl, by rw [ints_length, hR], New.intro fun h4 n4 => ?_⟩
    have F4 := (n2.fr.new n3).new n4
    exact walkF_spec (gl.no F4) (x.no F4) n4.rd hR (by omega) (by omega) fun h5 f5 => ⟨_, _, rfl, hK h5 (F4.no f5)⟩
end Go.Proofs.YtcdpakjhjmchhaaGreatDoor.Bm
namespace Go.Proofs.YtcdpakjhjmchhaaGreatDoor.Bm
open Go Go.Proofs Go.Proofs.YtcdpakjhjmchhaaGreatDoor.Wx Go.Proofs.YtcdpakjhjmchhaaGreatDoor.Hp Go.Proofs.YtcdpakjhjmchhaaGreatDoor.W Go.Proofs.YtcdpakjhjmchhaaGreatDoor.Ad Go.Proofs.YtcdpakjhjmchhaaGreatDoor.Tm Go.Proofs.YtcdpakjhjmchhaaGreatDoor.Spc Go.Proofs.YtcdpakjhjmchhaaGreatDoor.Re Go.Proofs.YtcdpakjhjmchhaaGreatDoor.Av
open Go.Proofs.YtcdpakjhjmchhaaGreatDoor.Hd (ints wrap_u64)
open Go.Proofs.YtcdpakjhjmchhaaGreatDoor.In (Glo ints_length ints_one)
def holeM (T : TM) (g : G) (R : List Int) (s : Nat × Nat) (a : Int) (b : Txt) : (TM × List Int) × Int × Int :=
  if (takeM T g).2.2 ≠ 0 then (((takeM T g).1, R), 0, (takeM T g).2.2) else ((setM (takeM T g).1 R s a b (takeM T g).2.1).1, (takeM T g).2.1, (setM (takeM T g).1 R s a b (takeM T g).2.1).2)
/-- what is done with a number that a step has -/
def nextM (g : G) (TR : TM × List Int) (nu er : Int) (go : TM → List Int → Int → (TM × List Int) × Int × Int) : (TM × List Int) × Int × Int :=
  if er ≠ 0 then (TR, 0, er) else if nu = 0 then (TR, 0, 0) else if lookM g nu ≠ 0 then (TR, 0, lookM g nu) else go TR.1 TR.2 nu
theorem walkA_cons (g : G) (s : Nat × Nat) (r : List (Nat × Nat)) (T : TM) (R : List Int) (a : Int) : walkA g (s :: r) T R a =
    if (numM T R s a).2.2 = 0 ∧ (numM T R s a).1 = 0 then nextM g (holeM T g R s a (numM T R s a).2.1).1 (holeM T g R s a (numM T R s a).2.1).2.1 (holeM T g R s a (numM T R s a).2.1).2.2 (walkA g r)
      else nextM g (T, R) (numM T R s a).1 (numM T R s a).2.2 (walkA g r) := by
  by_cases h1 : (numM T R s a).2.2 = 0
  · by_cases h2 : (numM T R s a).1 = 0
    · by_cases h3 : (takeM T g).2.2 = 0
      · simp [walkA, nextM, holeM, h1, h2, h3]
      · simp [walkA, nextM, holeM, h1, h2, h3]
    · simp [walkA, nextM, h1, h2]
  · simp [walkA, nextM, h1]
theorem holeM_len {T : TM} {g : G} {R : List Int} {s : Nat × Nat} {a : Int} {b : Txt} (hs : StOk s) (hR : R.length = 15) : (holeM T g R s a b).1.2.length = 15 := by
  unfold holeM
  split
  · exact hR
  · exact setM_len hs hR
theorem holeM_un {T : TM} {g : G} {R : List Int} {s : Nat × Nat} {a : Int} {b : Txt} (hs : StOk s) : (holeM T g R s a b).1.1.undo.length ≤ T.undo.length + 3 := by
  have h2 := takeM_un T g
  unfold holeM
  split
  · exact Nat.le_succ_of_le h2
  · have := setM_un (T := (takeM T g).1) (R := R) (a := a) (v := (takeM T g).2.1) (b := b) hs
    exact Nat.le_trans this (by omega)
/-- what Add's closures hold -/
structure Cap (h : Heap) (tb gb pb fb : Nat) (t : Option Addr) (g : G) : Prop where
  t : rd h tb = [.pointer t]
  g : rd h gb = g.v
  p : rd h pb = [.pointer (some ⟨fb, 0, none⟩)]
theorem Cap.lt {h : Heap} {tb gb pb fb : Nat} {t : Option Addr} {g : G} (c : Cap h tb gb pb fb t g) : tb < h.size ∧ gb < h.size ∧ pb < h.size :=
  ⟨rd_lt (o := 0) (by rw [c.t]; rfl), rd_lt (o := 0) (by rw [c.g]; rfl), rd_lt (o := 0) (by rw [c.p]; rfl)⟩
theorem Cap.fr {h h' : Heap} {tb gb pb fb : Nat} {t : Option Addr} {g : G} {G' : Nat → Prop} (c : Cap h tb gb pb fb t g) (f : Fr G' h h') (h1 : ¬ G' tb) (h2 : ¬ G' gb) (h3 : ¬ G' pb) : Cap h' tb gb pb fb t g := by
  obtain ⟨l1, l2, l3⟩ := c.lt
  exact ⟨(f.rd l1 h1).trans c.t, (f.rd l2 h2).trans c.g, (f.rd l3 h3).trans c.p⟩
theorem hole_spec {h : Heap} {F : Nat → Prop} {t d : Option Addr} {T : TM} {n : Nat} {R : List Int} {fb tb gb pb lo : Nat} {s : Nat × Nat} {a : Int} {sa : Option Addr} {sl sc : Nat} {b : Txt} {K : Value → Heap → Prop} (gl : Glo h) (dm : Dim n) (x : Tx h F t d T) (e : rd h fb = fileV t (geoN n) R) (fo : Own h fb) (hR : R.length = 15) (hs : StOk s)
    (cp : Cap h tb gb pb fb t (geoN n)) (hf : ¬ F fb ∧ ¬ F tb ∧ ¬ F gb ∧ ¬ F pb) (g0 : ∀ b, b < 1 → ¬ F b) (hu : T.undo.length < 800000000) (hb : s.1 = 3 → b.length = 512 ∧ Sl h 1 sa sl sc (b.map bv) (fun y => lo ≤ y ∧ ¬ F y ∧ y ≠ fb))
    (hK : ∀ h' F', Fr (fun y => F y ∨ y = fb ∨ lo ≤ y) h h' → Gw h F h' F' → Tx h' F' t d (holeM T (geoN n) R s a b).1.1 → rd h' fb = fileV t (geoN n) (holeM T (geoN n) R s a b).1.2 → Own h' fb → K (.tuple #[.int .i64 (holeM T (geoN n) R s a b).2.1, .int .i64 (holeM T (geoN n) R s a b).2.2]) h') :
    C.bmap_Add_c2 (stV s) a sa sl sc (some ⟨tb, 0, none⟩) (some ⟨gb, 0, none⟩) (some ⟨pb, 0, none⟩) h K := by
  obtain ⟨l1, l2, l3⟩ := cp.lt
  have fl := fo.lt
  refine bmap_Add_c2.ok (New.intro fun h2 n2 => os ⟨t, rdc ((n2.at_ l1).trans cp.t) rfl, os ⟨(geoN n).v, rfl, cellsAll ((n2.at_ l2).trans cp.g), ?_⟩⟩)
  have z2 := n2.size
  refine Take_any (x.no n2.fr) dm (by omega) fun h3 F3 f3 g3 x3 => ⟨_, _, rfl, ?_⟩
  have F03 : Fr F h h3 := (n2.fr.mono fun _ _ y => y.elim).trans f3 fun _ _ y => y
  have G03 : Gw h F h3 F3 := (Gw.refl n2.fr.size fun b hb => x.lt hb).trans g3 n2.fr.size
  have z3 := f3.size
  have old : ∀ y, y < h.size → (F3 y ↔ F y) := G03.old
  have hf3 : ¬ F3 fb := fun y => hf.1 ((old _ fl).mp y)
  have tu := takeM_un T (geoN n)
  have tr := takeM_rng T (geoN n)
  refine cn (fun he => ?_) fun he => ?_
  · have eh : holeM T (geoN n) R s a b = (((takeM T (geoN n)).1, R), 0, (takeM T (geoN n)).2.2) := by unfold holeM; rw [if_pos he]
    rw [eh] at hK
    exact hK h3 F3 (F03.mono fun _ _ y => .inl y) G03 x3 ((F03.rd fl hf.1).trans e) (F03.own fl hf.1 fo)
  · have eh : holeM T (geoN n) R s a b = ((setM (takeM T (geoN n)).1 R s a b (takeM T (geoN n)).2.1).1, (takeM T (geoN n)).2.1, (setM (takeM T (geoN n)).1 R s a b (takeM T (geoN n)).2.1).2) := by unfold holeM; rw [if_neg (fun y => y he)]
    rw [eh] at hK
    have hbl : ((geoN n).blocks : Int) ≤ 16384 := by have := dm.hi; show (n : Int) ≤ _; omega
    have ns : ¬ F h.size := fun y => by have := x.lt y; omega
    refine os ⟨_, rdc ((F03.rd l3 hf.2.2.2).trans cp.p) rfl, stV s, rfl, cellsAll ((f3.rd n2.own.lt ns).trans n2.rd), ?_⟩
    refine set_spec (lo := lo) (b := b) (gl.fr F03 g0) x3 ((F03.rd fl hf.1).trans e) (F03.own fl hf.1 fo) hR hs hf3 (by omega) ⟨tr.1, by omega⟩ (fun h3' => ?_) fun h4 F4 f4 g4 x4 r4 o4 => ⟨_, rfl, ?_⟩
    · obtain ⟨lb, S⟩ := hb h3'
      exact ⟨lb, ((sl_rngB S).fr F03 fun y _ hy z => hy.1.2.1 z).mono fun y hy => ⟨hy.1.1, fun z => hy.1.2.1 ((old y hy.2).mp z), hy.1.2.2⟩⟩
    · refine hK h4 F4 ((F03.mono fun _ _ y => .inl y).trans f4 fun y hy z => ?_) (G03.trans g4 F03.size) x4 r4 o4
      rcases z with z | z
      · exact .inl ((old y hy).mp z)
      · exact .inr z
theorem walkA_spec {h : Heap} {F : Nat → Prop} {t d : Option Addr} {T : TM} {n : Nat} {R : List Int} {fb tb gb pb : Nat} {k : Int} {K : Value → Heap → Prop} (gl : Glo h) (dm : Dim n) (x : Tx h F t d T) (e : rd h fb = fileV t (geoN n) R) (fo : Own h fb) (hR : R.length = 15) (h0 : 0 ≤ k) (h1 : k < 16522)
    (cp : Cap h tb gb pb fb t (geoN n)) (hf : ¬ F fb ∧ ¬ F tb ∧ ¬ F gb ∧ ¬ F pb) (hne : tb ≠ fb ∧ gb ≠ fb ∧ pb ≠ fb) (g0 : ∀ b, b < 1 → ¬ F b ∧ b ≠ fb) (hu : T.undo.length < 700000000)
    (hK : ∀ h' F', Fr (fun y => F y ∨ y = fb) h h' → Gw h F h' F' → Tx h' F' t d (walkA (geoN n) (wayM k.toNat) T R 0).1.1 → rd h' fb = fileV t (geoN n) (walkA (geoN n) (wayM k.toNat) T R 0).1.2 → Own h' fb → (walkA (geoN n) (wayM k.toNat) T R 0).1.2.length = 15 → (walkA (geoN n) (wayM k.toNat) T R 0).1.1.undo.length ≤ T.undo.length + 9 →
      K (.tuple #[.int .i64 (walkA (geoN n) (wayM k.toNat) T R 0).2.1, .int .i64 (walkA (geoN n) (wayM k.toNat) T R 0).2.2]) h') :
    C.bmap_file_walk (some ⟨fb, 0, none⟩) k (Value.func (.func 73) #[] ⟨[.pointer (some ⟨tb, 0, none⟩), .pointer (some ⟨gb, 0, none⟩), .pointer (some ⟨pb, 0, none⟩)]⟩) h K := by
  have fl := fo.lt
  have Flt := fun y (hy : F y) => x.lt hy
  refine bmap_file_walk.ok (way_spec h0 h1 fun h2 f2 l2 rw2 => ⟨_, _, _, rfl, ?_⟩)
  have hok := wayM_ok (k := k.toNat) (by omega)
  have hwl : (wayM k.toNat).length ≤ 3 := by
    unfold wayM
    split
    · simp
    · split <;> simp
  generalize wayM k.toNat = w at hK rw2 hok hwl
  have z2 := f2.size
  refine ⟨fun a i hh => ∃ (j : Nat) (F' : Nat → Prop) (T' : TM) (R' : List Int), i = j ∧ j ≤ w.length ∧ Fr (fun y => F y ∨ y = fb) h2 hh ∧ Gw h2 F hh F' ∧ Tx hh F' t d T' ∧ rd hh fb = fileV t (geoN n) R' ∧ Own hh fb ∧ R'.length = 15 ∧ T'.undo.length ≤ T.undo.length + 3 * j ∧ walkA (geoN n) (w.drop j) T' R' a = walkA (geoN n) w T R 0, fun _ i _ => ((w.length : Int) - i).toNat,
    ⟨0, F, T, R, rfl, Nat.zero_le _, Fr.refl _ _, Gw.refl (Nat.le_refl _) (fun b hb => Nat.lt_of_lt_of_le (Flt b hb) z2), x.no f2, (f2.rd fl fun y => y).trans e, f2.own fl (fun y => y) fo, hR, Nat.le_refl _, by rw [List.drop_zero]⟩, ?_⟩
  rintro a i h3 ⟨j, F', T', R', rfl, hj, f3, g3, x3, r3, o3, R3, u3, ew⟩
  have z3 := f3.size
  have f03 : Fr (fun y => F y ∨ y = fb) h h3 := (f2.mono fun _ _ y => y.elim).trans f3 fun _ _ y => y
  have old3 : ∀ y, y < h2.size → (F' y ↔ F y) := g3.old
  have G2 : Gw h F h2 F := Gw.refl z2 Flt
  refine cd (fun hl => ?_) fun hl => ?_
  · have hj' : j < w.length := by omega
    rw [drop_cons hj', walkA_cons] at ew
    have hs := hok _ (List.getElem_mem hj')
    have nP : ¬ (F h.size ∨ h.size = fb) := by
      rintro (y | y)
      · have := Flt _ y; omega
      · omega
    rw [Int.toNat_natCast]
    refine ⟨⟨by omega, hl⟩, os ⟨stV w[j], rfl, st_cells ((f3.rd l2 nP).trans rw2) hj', NewRow.intro rfl (one_st _) rfl fun h5 n5 => ⟨stV w[j], rfl, cellsAll n5.rd, ?_⟩⟩⟩
    have z5 := n5.size
    have fl3 := o3.lt
    have gl5 : Glo h5 := (gl.fr f03 fun b hb y => by rcases y with y | y; exact (g0 b hb).1 y; exact (g0 b hb).2 y).no n5.fr
    refine number_spec gl5 (x3.no n5.fr) ((n5.at_ fl3).trans r3) R3 hs fun sa sl sc h6 f6 el s6 => ⟨_, _, _, _, _, rfl, ?_⟩
    have z6 := f6.size
    have F36 : Fr No h3 h6 := n5.fr.no f6
    have wr : IntKind.wrap .i64 ((j : Int) + 1) = ((j + 1 : Nat) : Int) := by rw [wrap_i64 (by omega) (by omega)]; omega
    -- what a number does, at h8
    have go : ∀ (h8 : Heap) (F8 : Nat → Prop) (TR : TM × List Int) (nu er : Int), Fr (fun y => F y ∨ y = fb) h2 h8 → Gw h2 F h8 F8 → Tx h8 F8 t d TR.1 → rd h8 fb = fileV t (geoN n) TR.2 → Own h8 fb → TR.2.length = 15 → TR.1.undo.length ≤ T.undo.length + 3 * (j + 1) →
        nextM (geoN n) TR nu er (walkA (geoN n) (w.drop (j + 1))) = walkA (geoN n) w T R 0 →
        bmap_file_walk.k1 (some ⟨fb, 0, none⟩) a (j : Int) h3 (fun a i hh => ∃ (j : Nat) (F' : Nat → Prop) (T' : TM) (R' : List Int), i = j ∧ j ≤ w.length ∧ Fr (fun y => F y ∨ y = fb) h2 hh ∧ Gw h2 F hh F' ∧ Tx hh F' t d T' ∧ rd hh fb = fileV t (geoN n) R' ∧ Own hh fb ∧ R'.length = 15 ∧ T'.undo.length ≤ T.undo.length + 3 * j ∧ walkA (geoN n) (w.drop j) T' R' a = walkA (geoN n) w T R 0) (fun _ i _ => ((w.length : Int) - i).toNat) nu er h8 K := fun h8 F8 TR nu er f8 g8 x8 r8 o8 R8 u8 e8 => by
      have f08 : Fr (fun y => F y ∨ y = fb) h h8 := (f2.mono fun _ _ y => y.elim).trans f8 fun _ _ y => y
      unfold nextM at e8
      unfold bmap_file_walk.k1
      refine cn (fun y => ?_) fun y => ce (fun y2 => ?_) fun y2 => ?_
      · rw [if_pos y] at e8; rw [← e8] at hK; exact hK h8 F8 f08 (G2.trans g8 z2) x8 r8 o8 R8 (by show TR.1.undo.length ≤ _; omega)
      · rw [if_neg (fun z => z y), if_pos y2] at e8; rw [← e8] at hK; exact hK h8 F8 f08 (G2.trans g8 z2) x8 r8 o8 R8 (by show TR.1.undo.length ≤ _; omega)
      · rw [if_neg (fun z => z y), if_neg y2] at e8
        refine look_spec r8 ⟨_, rfl, cn (fun y3 => ?_) fun y3 => ?_⟩
        · rw [if_pos y3] at e8; rw [← e8] at hK; exact hK h8 F8 f08 (G2.trans g8 z2) x8 r8 o8 R8 (by show TR.1.undo.length ≤ _; omega)
        · rw [if_neg (fun z => z y3)] at e8
          rw [wr]
          exact ⟨⟨j + 1, F8, TR.1, TR.2, rfl, hj', f8, g8, x8, r8, o8, R8, u8, e8⟩, by show ((w.length : Int) - ((j + 1 : Nat) : Int)).toNat < ((w.length : Int) - (j : Int)).toNat; omega⟩
    have f26 : Fr (fun y => F y ∨ y = fb) h2 h6 := f3.no F36
    have g36 : Gw h2 F h6 F' := ⟨g3.old, fun b hb => Nat.lt_of_lt_of_le (g3.lt b hb) F36.size⟩
    have x6 := x3.no F36
    have r6 : rd h6 fb = _ := (F36.rd fl3 fun y => y).trans r3
    have o6 := F36.own fl3 (fun y => y) o3
    have plain : ¬ ((numM T' R' w[j] a).2.2 = 0 ∧ (numM T' R' w[j] a).1 = 0) → bmap_file_walk.k1 (some ⟨fb, 0, none⟩) a (j : Int) h3 (fun a i hh => ∃ (j : Nat) (F' : Nat → Prop) (T' : TM) (R' : List Int), i = j ∧ j ≤ w.length ∧ Fr (fun y => F y ∨ y = fb) h2 hh ∧ Gw h2 F hh F' ∧ Tx hh F' t d T' ∧ rd hh fb = fileV t (geoN n) R' ∧ Own hh fb ∧ R'.length = 15 ∧ T'.undo.length ≤ T.undo.length + 3 * j ∧ walkA (geoN n) (w.drop j) T' R' a = walkA (geoN n) w T R 0) (fun _ i _ => ((w.length : Int) - i).toNat) (numM T' R' w[j] a).1 (numM T' R' w[j] a).2.2 h6 K := fun hno => by
      rw [if_neg hno] at ew
      exact go h6 F' (T', R') _ _ f26 g36 x6 r6 o6 R3 (by show T'.undo.length ≤ _; omega) ew
    refine ce (fun y => ce (fun y2 => ?_) fun y2 => plain fun z => y2 z.2) fun y => plain fun z => y z.1
    rw [if_pos ⟨y, y2⟩] at ew
    refine ⟨stV w[j], rfl, cellsAll ((f6.rd n5.own.lt fun y => y).trans n5.rd), ?_⟩
    have f06 : Fr (fun y => F y ∨ y = fb) h h6 := f03.no F36
    obtain ⟨c1, c2, c3⟩ := cp.lt
    have cp6 : Cap h6 tb gb pb fb t (geoN n) := cp.fr f06 (by rintro (y | y); exact hf.2.1 y; exact hne.1 y) (by rintro (y | y); exact hf.2.2.1 y; exact hne.2.1 y) (by rintro (y | y); exact hf.2.2.2 y; exact hne.2.2 y)
    have hb : w[j].1 = 3 → (numM T' R' w[j] a).2.1.length = 512 ∧ Sl h6 1 sa sl sc ((numM T' R' w[j] a).2.1.map bv) (fun y => h5.size ≤ y ∧ ¬ F' y ∧ y ≠ fb) := fun h3' => by
      refine ⟨?_, s6.mono fun y hy => ⟨hy, fun z => ?_, ?_⟩⟩
      · rw [numM_t h3'] at y ⊢
        by_cases hh : (T'.read a).2 ≠ 0
        · rw [if_pos hh] at y; exact absurd y hh
        · rw [if_neg hh]; exact Tx.readLen x3 (by omega)
      · have hy : h5.size ≤ y := hy
        have := x3.lt z; omega
      · have hy : h5.size ≤ y := hy
        omega
    refine hole_spec (lo := h5.size) (gl5.no f6) dm x6 r6 o6 R3 hs cp6 ⟨fun z => hf.1 ((old3 _ (by omega)).mp z), fun z => hf.2.1 ((old3 _ (by omega)).mp z), fun z => hf.2.2.1 ((old3 _ (by omega)).mp z), fun z => hf.2.2.2 ((old3 _ (by omega)).mp z)⟩ (fun b hb' z => ?_) (by omega) hb fun h7 F7 f7 g7 x7 r7 o7 => ⟨_, _, rfl, ?_⟩
    · exact (g0 b hb').1 ((old3 b (by omega)).mp z)
    · have z7 := f7.size
      have f27 : Fr (fun y => F y ∨ y = fb) h2 h7 := f26.trans f7 fun c hc z => ?_
      · have hl7 := holeM_un (T := T') (g := geoN n) (R := R') (a := a) (b := (numM T' R' w[j] a).2.1) hs
        exact go h7 F7 _ _ _ f27 (g36.trans g7 f26.size) x7 r7 o7 (holeM_len hs R3) (by omega) ew
      · rcases z with z | z | z
        · exact .inl ((old3 c hc).mp z)
        · exact .inr z
        · omega
  · have ej : j = w.length := by omega
    subst ej
    rw [List.drop_length] at ew
    have ew : ((T', R'), a, (0 : Int)) = walkA (geoN n) w T R 0 := ew
    rw [← ew] at hK
    exact hK h3 F' f03 (G2.trans g3 z2) x3 r3 o3 R3 (by show T'.undo.length ≤ _; omega)
end Go.Proofs.YtcdpakjhjmchhaaGreatDoor.Bm
namespace Go.Proofs.YtcdpakjhjmchhaaGreatDoor.Bm
open Go Go.Proofs Go.Proofs.YtcdpakjhjmchhaaGreatDoor.Wx Go.Proofs.YtcdpakjhjmchhaaGreatDoor.Hp Go.Proofs.YtcdpakjhjmchhaaGreatDoor.W Go.Proofs.YtcdpakjhjmchhaaGreatDoor.Ad Go.Proofs.YtcdpakjhjmchhaaGreatDoor.Tm Go.Proofs.YtcdpakjhjmchhaaGreatDoor.Spc Go.Proofs.YtcdpakjhjmchhaaGreatDoor.Re Go.Proofs.YtcdpakjhjmchhaaGreatDoor.Av
open Go.Proofs.YtcdpakjhjmchhaaGreatDoor.Hd (ints wrap_u64)
open Go.Proofs.YtcdpakjhjmchhaaGreatDoor.In (Glo ints_length ints_one)
/-- what guard's closure holds -/
structure Gd (h : Heap) (ob tb mb : Nat) (t : Option Addr) (m : Int × Int) : Prop where
  o : rd h ob = [.int .i64 m.2]
  t : rd h tb = [.pointer t]
  m : rd h mb = [.int .i64 m.1]
def gdV (ob tb mb : Nat) : Value := .func (.func 121) ⟨[]⟩ ⟨[.pointer (some ⟨ob, 0, none⟩), .pointer (some ⟨tb, 0, none⟩), .pointer (some ⟨mb, 0, none⟩)]⟩
theorem Gd.lt {h : Heap} {ob tb mb : Nat} {t : Option Addr} {m : Int × Int} (c : Gd h ob tb mb t m) : ob < h.size ∧ tb < h.size ∧ mb < h.size :=
  ⟨rd_lt (o := 0) (by rw [c.o]; rfl), rd_lt (o := 0) (by rw [c.t]; rfl), rd_lt (o := 0) (by rw [c.m]; rfl)⟩
theorem Gd.fr {h h' : Heap} {ob tb mb : Nat} {t : Option Addr} {m : Int × Int} {G : Nat → Prop} (c : Gd h ob tb mb t m) (f : Fr G h h') (h1 : ¬ G ob) (h2 : ¬ G tb) (h3 : ¬ G mb) : Gd h' ob tb mb t m := by
  obtain ⟨l1, l2, l3⟩ := c.lt
  exact ⟨(f.rd l1 h1).trans c.o, (f.rd l2 h2).trans c.t, (f.rd l3 h3).trans c.m⟩
theorem guard_spec {h : Heap} {F : Nat → Prop} {t d : Option Addr} {T : TM} {K : Value → Heap → Prop} (x : Tx h F t d T)
    (hK : ∀ ob tb mb h', Fr No h h' → h.size ≤ ob → h.size ≤ tb → h.size ≤ mb → Gd h' ob tb mb t T.mark → K (gdV ob tb mb) h') : C.bmap_guard t h K := by
  refine bmap_guard.ok (New.intro fun h2 n2 => ⟨t, rdc n2.rd rfl, Mark_spec (x.no n2.fr) ⟨_, _, rfl, New.intro fun h4 n4 => New.intro fun h5 n5 => ?_⟩⟩)
  have z2 := n2.size
  have z4 := n4.size
  have z5 := n5.size
  refine Put.intro (n5.ow n4.own) (by rw [n5.at_ n4.own.lt, n4.rd]; decide) fun h6 d6 => Put.intro (d6.ow n5.own) (by rw [d6.at_ n5.own.lt (by omega), n5.rd]; decide) fun h7 d7 => ?_
  have z6 := d6.size
  have F7 : Fr No h h7 := (((n2.fr.new n4).new n5).did d6 fun hl => by omega).did d7 fun hl => by omega
  refine hK h4.size h.size h2.size h7 F7 (by omega) (Nat.le_refl _) (by omega) ⟨?_, ?_, ?_⟩
  · rw [d7.rd, d6.at_ n5.own.lt (by omega), n5.rd]; rfl
  · exact (d7.at_ (by omega) (by omega)).trans ((d6.at_ (by omega) (by omega)).trans ((n5.at_ (by omega)).trans ((n4.at_ n2.own.lt).trans n2.rd)))
  · rw [d7.at_ (by omega) (by omega), d6.rd, n5.at_ n4.own.lt, n4.rd]; rfl
theorem guard_c1_spec {h : Heap} {F : Nat → Prop} {t d : Option Addr} {T : TM} {ob tb mb : Nat} {m : Int × Int} {e : Int} {K : Value → Heap → Prop} (x : Tx h F t d T) (c : Gd h ob tb mb t m) (hu : T.undo.length < 1000000000)
    (hK : ∀ h', Fr F h h' → Tx h' F t d (if e ≠ 0 ∧ m.2 = 0 then (T.back m.1).1 else T) → K (.tuple #[]) h') : HCallsV Tryz.prog (gdV ob tb mb) [.int .i64 e] h K := by
  show C.bmap_guard_c1 e (some ⟨ob, 0, none⟩) (some ⟨tb, 0, none⟩) (some ⟨mb, 0, none⟩) h K
  refine bmap_guard_c1.ok (cn (fun he => os ⟨_, rdc c.o rfl, ce (fun hm => os ⟨t, rdc c.t rfl, os ⟨_, rdc c.m rfl, Back_spec x hu fun h2 f2 x2 => ⟨_, rfl, ?_⟩⟩⟩) fun hm => ?_⟩) fun he => ?_)
  · rw [if_pos ⟨he, hm⟩] at hK; exact hK h2 f2 x2
  · rw [if_neg (fun y => hm y.2)] at hK; exact hK h (Fr.refl _ _) x
  · rw [if_neg (fun y => y.1 he)] at hK; exact hK h (Fr.refl _ _) x
theorem rep_one' (n : Nat) : repCells z3 n = List.replicate n (Value.int .i64 0) := rfl
theorem z15_one : ∀ v ∈ ints z15, v.oneCell' = true := ints_one z15
theorem Add_spec {h : Heap} {F : Nat → Prop} {t d : Option Addr} {T : TM} {n : Nat} {R : List Int} {k : Int} {K : Value → Heap → Prop} (gl : Glo h) (dm : Dim n) (x : Tx h F t d T) (live : T.over = false) (hR : R.length = 15) (g0 : ∀ b, b < 1 → ¬ F b) (hu : T.undo.length < 700000000)
    (hK : ∀ h' F', Fr F h h' → Gw h F h' F' → Tx h' F' t d (addM T (geoN n) R k).1 → K (.tuple #[.agg ⟨ints (addM T (geoN n) R k).2.1⟩, .int .i64 (addM T (geoN n) R k).2.2.1, .int .i64 (addM T (geoN n) R k).2.2.2]) h') :
    C.bmap_Add t (geoN n).v (ints R) k h K := by
  have Flt := fun y (hy : F y) => x.lt hy
  have gl1 := gl.lt
  refine bmap_Add.ok (New.intro fun h2 n2 => New.intro fun h3 n3 => New.intro fun h4 n4 => New.intro fun h5 n5 => New.intro fun h6 n6 => New.intro fun h7 n7 => ?_)
  have z2 := n2.size
  have z3 := n3.size
  have z4 := n4.size
  have z5 := n5.size
  have z6 := n6.size
  have z7 := n7.size
  have F7 : Fr No h h7 := ((((n2.fr.new n3).new n4).new n5).new n6).new n7
  have ry : rd h7 h4.size = ints z15 := (n7.at_ (by omega)).trans ((n6.at_ (by omega)).trans n5.rd)
  have oy : Own h7 h4.size := n7.ow (n6.ow n5.own)
  have rn : rd h7 h5.size = [.int .i64 0] := (n7.at_ (by omega)).trans n6.rd
  have on : Own h7 h5.size := n7.ow n6.own
  have re : rd h7 h6.size = [.int .i64 0] := n7.rd
  have oe' : Own h7 h6.size := n7.own
  by_cases hk : 0 ≤ k ∧ k < 16522
  rotate_left
  · have e0 : addM T (geoN n) R k = (T, z15, 0, 101) := by unfold addM; rw [if_pos (by omega)]
    rw [e0] at hK
    have far : PutRow ⟨h4.size, 0, none⟩ (ints z15) 15 h7 fun h8 => Put ⟨h5.size, 0, none⟩ (.int .i64 0) h8 fun h9 => Put ⟨h6.size, 0, none⟩ (.int .i64 101) h9 fun h10 =>
        ∃ res1 : List Value, List.length res1 = 15 ∧ Cells h10 ⟨h4.size, 0, none⟩ res1 ∧ ∃ (res2 : Int), cellOf h10 ⟨h5.size, 0, none⟩ = some (.int .i64 res2) ∧ ∃ (res3 : Int), cellOf h10 ⟨h6.size, 0, none⟩ = some (.int .i64 res3) ∧ K (.tuple #[.agg ⟨res1⟩, .int .i64 res2, .int .i64 res3]) h10 := by
      refine PutRow.intro oy rfl z15_one (by rw [ry]; exact Nat.le_refl _) fun h8 d8 => Put.intro (d8.ow on) (by rw [d8.at_ (by omega) (by omega), rn]; decide) fun h9 d9 => Put.intro (d9.ow (d8.ow oe')) (by rw [d9.at_ (by have := d8.size; omega) (by omega), d8.at_ (by omega) (by omega), re]; decide) fun h10 d10 => ?_
      have z8 := d8.size
      have z9 := d9.size
      have F10 : Fr No h h10 := ((F7.did d8 fun hl => by omega).did d9 fun hl => by omega).did d10 fun hl => by omega
      refine ⟨ints z15, rfl, cellsAll ?_, 0, rdc (xs := [.int .i64 0]) ?_ rfl, 101, rdc (xs := [.int .i64 101]) ?_ rfl, hK h10 F (F10.mono fun _ _ y => y.elim) (Gw.refl F10.size Flt) (x.no F10)⟩
      · rw [d10.at_ (by omega) (by omega), d9.at_ (by omega) (by omega), d8.rd, ry]; exact put_all _ _ rfl
      · rw [d10.at_ (by omega) (by omega), d9.rd, d8.at_ (by omega) (by omega), rn]; rfl
      · rw [d10.rd, d9.at_ (by omega) (by omega), d8.at_ (by omega) (by omega), re]; rfl
    exact cd (fun _ => far) fun y => cd (fun _ => far) fun y2 => by exfalso; omega
  refine cd (fun y => by exfalso; omega) fun _ => cd (fun y => by exfalso; omega) fun _ => ?_
  have rt : rd h7 h.size = [.pointer t] := (n7.at_ (by omega)).trans ((n6.at_ (by omega)).trans ((n5.at_ (by omega)).trans ((n4.at_ (by omega)).trans ((n3.at_ (by omega)).trans n2.rd))))
  have rg : rd h7 h2.size = (geoN n).v := (n7.at_ (by omega)).trans ((n6.at_ (by omega)).trans ((n5.at_ (by omega)).trans ((n4.at_ (by omega)).trans n3.rd)))
  have rx : rd h7 h3.size = ints R := (n7.at_ (by omega)).trans ((n6.at_ (by omega)).trans ((n5.at_ (by omega)).trans n4.rd))
  unfold bmap_Add.k1
  refine ⟨t, rdc rt rfl, guard_spec (x.no F7) fun ob tb mb h15 f15 b1 b2 b3 gd => ⟨_, _, _, rfl, New.intro fun h16 n16 => ?_⟩⟩
  have z15' := f15.size
  have z16 := n16.size
  obtain ⟨gl1', gl2', gl3'⟩ := gd.lt
  refine Put.intro n16.own (by rw [n16.rd]; decide) fun h17 d17 => ?_
  have z17 := d17.size
  have q17 : ∀ b, b < h15.size → rd h17 b = rd h15 b := fun b hb => (d17.at_ (by omega) (by omega)).trans (n16.at_ hb)
  have q7 : ∀ b, b < h7.size → rd h15 b = rd h7 b := fun b hb => f15.rd hb fun y => y
  refine ⟨t, rdc ((q17 _ (by omega)).trans ((q7 _ (by omega)).trans rt)) rfl, (geoN n).v, rfl, cellsAll ((q17 _ (by omega)).trans ((q7 _ (by omega)).trans rg)), ints R, by rw [ints_length, hR], cellsAll ((q17 _ (by omega)).trans ((q7 _ (by omega)).trans rx)), rfl, by rw [ints_length, hR], New.intro fun h18 n18 => New.intro fun h19 n19 => ?_⟩
  have z18 := n18.size
  have z19 := n19.size
  refine Put.intro n19.own (by rw [n19.rd]; decide) fun h20 d20 => ?_
  have z20 := d20.size
  have q20 : ∀ b, b < h17.size → rd h20 b = rd h17 b := fun b hb => (d20.at_ (by omega) (by omega)).trans ((n19.at_ (by omega)).trans (n18.at_ hb))
  have o20 : ∀ {b}, Own h17 b → Own h20 b := fun w => d20.ow (n19.ow (n18.ow w))
  have o17 : ∀ {b}, Own h7 b → Own h17 b := fun w => d17.ow (n16.ow (f15.own w.lt (fun y => y) w))
  have F17 : Fr No h h17 := ((F7.no f15).new n16).did d17 fun hl => by omega
  have F20 : Fr No h h20 := ((F17.new n18).new n19).did d20 fun hl => by omega
  have s7 := F7.size
  have notF : ∀ b, h.size ≤ b → ¬ F b := fun b hb y => by have := Flt b y; omega
  have rf20 : rd h20 h17.size = fileV t (geoN n) R := (d20.at_ (by omega) (by omega)).trans ((n19.at_ (by omega)).trans n18.rd)
  have rp20 : rd h20 h18.size = [.pointer (some ⟨h17.size, 0, none⟩)] := by rw [d20.rd, n19.rd]; rfl
  have cap : Cap h20 h.size h2.size h18.size h17.size t (geoN n) := ⟨(q20 _ (by omega)).trans ((q17 _ (by omega)).trans ((q7 _ (by omega)).trans rt)), (q20 _ (by omega)).trans ((q17 _ (by omega)).trans ((q7 _ (by omega)).trans rg)), rp20⟩
  refine ⟨_, rdc rp20 rfl, walkA_spec (gl.no F20) dm (x.no F20) rf20 (d20.ow (n19.ow n18.own)) hR hk.1 hk.2 cap ⟨notF _ (by omega), notF _ (by omega), notF _ (by omega), notF _ (by omega)⟩ ⟨by omega, by omega, by omega⟩ (fun b hb => ⟨g0 b hb, by omega⟩) hu fun h21 F' f21 g21 x21 r21 o21 l21 u21 => ⟨_, _, rfl, ?_⟩⟩
  have ea : addM T (geoN n) R k = if (walkA (geoN n) (wayM k.toNat) T R 0).2.2 ≠ 0 then (((walkA (geoN n) (wayM k.toNat) T R 0).1.1.back T.undo.length).1, z15, 0, (walkA (geoN n) (wayM k.toNat) T R 0).2.2)
      else ((walkA (geoN n) (wayM k.toNat) T R 0).1.1, (walkA (geoN n) (wayM k.toNat) T R 0).1.2, (walkA (geoN n) (wayM k.toNat) T R 0).2.1, 0) := by unfold addM; rw [if_neg (by omega)]
  rw [ea] at hK
  generalize walkA (geoN n) (wayM k.toNat) T R 0 = W at hK x21 r21 l21 u21
  obtain ⟨⟨T', R'⟩, n1, e1⟩ := W
  simp only at hK x21 r21 l21 u21
  have z21 := f21.size
  have q21 : ∀ b, h.size ≤ b → b < h20.size → b ≠ h17.size → rd h21 b = rd h20 b := fun b h1 h2 h3 => f21.rd h2 (by rintro (y | y); exact notF b h1 y; exact h3 y)
  have w21 : ∀ {b}, h.size ≤ b → b ≠ h17.size → Own h20 b → Own h21 b := fun h1 h3 w => f21.own w.lt (by rintro (y | y); exact notF _ h1 y; exact h3 y) w
  have rn21 : rd h21 h5.size = [.int .i64 0] := (q21 _ (by omega) (by omega) (by omega)).trans ((q20 _ (by omega)).trans ((q17 _ (by omega)).trans ((q7 _ (by omega)).trans rn)))
  have re21 : rd h21 h6.size = [.int .i64 0] := (q21 _ (by omega) (by omega) (by omega)).trans ((q20 _ (by omega)).trans ((q17 _ (by omega)).trans ((q7 _ (by omega)).trans re)))
  have ry21 : rd h21 h4.size = ints z15 := (q21 _ (by omega) (by omega) (by omega)).trans ((q20 _ (by omega)).trans ((q17 _ (by omega)).trans ((q7 _ (by omega)).trans ry)))
  have on21 : Own h21 h5.size := w21 (by omega) (by omega) (o20 (o17 on))
  have oe21 : Own h21 h6.size := w21 (by omega) (by omega) (o20 (o17 oe'))
  have oy21 : Own h21 h4.size := w21 (by omega) (by omega) (o20 (o17 oy))
  have rp21 : rd h21 h18.size = [.pointer (some ⟨h17.size, 0, none⟩)] := (q21 _ (by omega) (by omega) (by omega)).trans rp20
  have rb21 : rd h21 h15.size = [gdV ob tb mb] := (q21 _ (by omega) (by omega) (by omega)).trans ((q20 _ (by omega)).trans (by rw [d17.rd, n16.rd]; rfl))
  have F21 : Fr F h h21 := (F20.mono fun _ _ y => y.elim).trans f21 fun b hb y => by
    rcases y with y | y
    · exact y
    · omega
  have G21 : Gw h F h21 F' := (Gw.refl F20.size Flt).trans g21 F20.size
  have old : ∀ b, b < h20.size → (F' b ↔ F b) := g21.old
  have notF' : ∀ b, h.size ≤ b → b < h20.size → ¬ F' b := fun b h1 h2 y => notF b h1 ((old b h2).mp y)
  have gd21 : Gd h21 ob tb mb t T.mark := by
    have g17 : Gd h17 ob tb mb t T.mark := ⟨(q17 _ gl1').trans gd.o, (q17 _ gl2').trans gd.t, (q17 _ gl3').trans gd.m⟩
    have g20 : Gd h20 ob tb mb t T.mark := ⟨(q20 _ (by omega)).trans g17.o, (q20 _ (by omega)).trans g17.t, (q20 _ (by omega)).trans g17.m⟩
    exact ⟨(q21 _ (by omega) (by omega) (by omega)).trans g20.o, (q21 _ (by omega) (by omega) (by omega)).trans g20.t, (q21 _ (by omega) (by omega) (by omega)).trans g20.m⟩
  have lr : R'.length = 15 := l21
  refine Put.intro on21 (by rw [rn21]; decide) fun h22 d22 => Put.intro (d22.ow oe21) (by rw [d22.at_ (by omega) (by omega), re21]; decide) fun h23 d23 => ?_
  have z22 := d22.size
  have z23 := d23.size
  have q23 : ∀ b, b < h21.size → b ≠ h5.size → b ≠ h6.size → rd h23 b = rd h21 b := fun b hb h1 h2 => (d23.at_ (by omega) h2).trans (d22.at_ hb h1)
  have rn23 : rd h23 h5.size = [.int .i64 n1] := (d23.at_ (by omega) (by omega)).trans (by rw [d22.rd, rn21]; rfl)
  have re23 : rd h23 h6.size = [.int .i64 e1] := by rw [d23.rd, d22.at_ (by omega) (by omega), re21]; rfl
  have rf23 : rd h23 h17.size = fileV t (geoN n) R' := (q23 _ (by omega) (by omega) (by omega)).trans r21
  refine ⟨_, rdc ((q23 _ (by omega) (by omega) (by omega)).trans rp21) rfl, os ⟨ints R', by rw [ints_length, lr], cellsa rf23 ?_, n1, rdc rn23 rfl, e1, rdc re23 rfl, ?_⟩⟩
  · show (ints R').take _ = _
    exact List.take_of_length_le (Nat.le_refl _)
  refine PutRow.intro (d23.ow (d22.ow oy21)) (by rw [ints_length, lr]) (ints_one _) (by rw [q23 _ (by omega) (by omega) (by omega), ry21]; exact Nat.le_refl _) fun h24 d24 => ?_
  have z24 := d24.size
  have ry24 : rd h24 h4.size = ints R' := by rw [d24.rd, q23 _ (by omega) (by omega) (by omega), ry21]; exact put_all _ _ (by rw [ints_length, lr]; rfl)
  have rn24 : rd h24 h5.size = [.int .i64 n1] := (d24.at_ (by omega) (by omega)).trans rn23
  have re24 : rd h24 h6.size = [.int .i64 e1] := (d24.at_ (by omega) (by omega)).trans re23
  refine ⟨rdc rn24 rfl, rdc re24 rfl, Put.intro (d24.ow (d23.ow (d22.ow on21))) (by rw [rn24]; exact Nat.zero_lt_one) fun h25 d25 => ?_⟩
  have z25 := d25.size
  have re25 : rd h25 h6.size = [.int .i64 e1] := (d25.at_ (by omega) (by omega)).trans re24
  have oe25 : Own h25 h6.size := d25.ow (d24.ow (d23.ow (d22.ow oe21)))
  refine ⟨rdc re25 rfl, Put.intro oe25 (by rw [re25]; exact Nat.zero_lt_one) fun h26 d26 => ?_⟩
  have z26 := d26.size
  have q26 : ∀ b, b < h21.size → b ≠ h4.size → b ≠ h5.size → b ≠ h6.size → rd h26 b = rd h21 b := fun b hb h1 h2 h3 => (d26.at_ (by omega) h3).trans ((d25.at_ (by omega) h2).trans ((d24.at_ (by omega) h1).trans (q23 b hb h2 h3)))
  have re26 : rd h26 h6.size = [.int .i64 e1] := by rw [d26.rd, re25]; rfl
  have rn26 : rd h26 h5.size = [.int .i64 n1] := (d26.at_ (by omega) (by omega)).trans (by rw [d25.rd, rn24]; rfl)
  have ry26 : rd h26 h4.size = ints R' := (d26.at_ (by omega) (by omega)).trans ((d25.at_ (by omega) (by omega)).trans ry24)
  have oy26 : Own h26 h4.size := d26.ow (d25.ow d24.own)
  have on26 : Own h26 h5.size := d26.ow d25.own
  have f2126 : Fr (fun b => b = h4.size ∨ b = h5.size ∨ b = h6.size) h21 h26 := ((((Fr.refl _ _).did d22 fun _ => .inr (.inl rfl)).did d23 fun _ => .inr (.inr rfl)).did d24 fun _ => .inl rfl).did d25 (fun _ => .inr (.inl rfl)) |>.did d26 fun _ => .inr (.inr rfl)
  have x26 : Tx h26 F' t d T' := x21.fr f2126 fun b hb y => by
    rcases y with rfl | rfl | rfl
    · exact notF' _ (by omega) (by omega) hb
    · exact notF' _ (by omega) (by omega) hb
    · exact notF' _ (by omega) (by omega) hb
  have gd26 : Gd h26 ob tb mb t T.mark := gd21.fr f2126 (by rintro (y | y | y) <;> omega) (by rintro (y | y | y) <;> omega) (by rintro (y | y | y) <;> omega)
  have F26 : Fr F h h26 := F21.trans f2126 fun b hb y => by rcases y with y | y | y <;> omega
  have G26 : Gw h F h26 F' := ⟨G21.old, fun b hb => Nat.lt_of_lt_of_le (G21.lt b hb) f2126.size⟩
  have em : T.mark = ((T.undo.length : Int), 0) := by unfold TM.mark; rw [live, if_neg (by simp)]
  refine bmap_Add_c1.okD (os ⟨_, rdc ((q26 _ (by omega) (by omega) (by omega) (by omega)).trans rb21) rfl, os ⟨_, rdc re26 rfl, guard_c1_spec x26 gd26 (by omega) fun h27 f27 x27 => ⟨rfl, ?_⟩⟩⟩)
  have z27 := f27.size
  have q27 : ∀ b, h.size ≤ b → b < h20.size → rd h27 b = rd h26 b := fun b h1 h2 => f27.rd (by omega) (notF' b h1 h2)
  have F27 : Fr F h h27 := F26.trans f27 fun b hb y => (old b (by omega)).mp y
  have G27 : Gw h F h27 F' := ⟨G26.old, fun b hb => Nat.lt_of_lt_of_le (G26.lt b hb) f27.size⟩
  rw [em] at x27
  refine os ⟨_, rdc ((q27 _ (by omega) (by omega)).trans re26) rfl, cn (fun he => ?_) fun he => ?_⟩
  · rw [if_pos ⟨he, rfl⟩] at x27
    rw [if_pos he] at hK
    refine os (PutRow.intro (f27.own (by omega) (notF' _ (by omega) (by omega)) oy26) rfl z15_one (by rw [q27 _ (by omega) (by omega), ry26, ints_length, lr]; exact Nat.le_refl _) fun h28 d28 => os (Put.intro (d28.ow (f27.own (by omega) (notF' _ (by omega) (by omega)) on26)) (by rw [d28.at_ (by omega) (by omega), q27 _ (by omega) (by omega), rn26]; exact Nat.zero_lt_one) fun h29 d29 => ?_))
    have z28 := d28.size
    have z29 := d29.size
    have f2729 : Fr (fun b => b = h4.size ∨ b = h5.size) h27 h29 := ((Fr.refl _ _).did d28 fun _ => .inl rfl).did d29 fun _ => .inr rfl
    refine ⟨ints z15, rfl, cellsAll ?_, 0, rdc (xs := [.int .i64 0]) ?_ rfl, e1, rdc (xs := [.int .i64 e1]) ?_ rfl, hK h29 F' (F27.trans f2729 fun b hb y => by rcases y with y | y <;> omega) ⟨G27.old, fun b hb => Nat.lt_of_lt_of_le (G27.lt b hb) f2729.size⟩ (x27.fr f2729 fun b hb y => ?_)⟩
    · rw [d29.at_ (by omega) (by omega), d28.rd, q27 _ (by omega) (by omega), ry26]; exact put_all _ _ (by rw [ints_length, lr]; rfl)
    · rw [d29.rd, d28.at_ (by omega) (by omega), q27 _ (by omega) (by omega), rn26]; rfl
    · rw [d29.at_ (by omega) (by omega), d28.at_ (by omega) (by omega), q27 _ (by omega) (by omega), re26]
    · rcases y with rfl | rfl
      · exact notF' _ (by omega) (by omega) hb
      · exact notF' _ (by omega) (by omega) hb
  · rw [if_neg (fun y => y.1 he)] at x27
    rw [if_neg (fun y => y he)] at hK
    have he : e1 = 0 := he
    subst he
    exact ⟨ints R', by rw [ints_length, lr], cellsAll ((q27 _ (by omega) (by omega)).trans ry26), n1, rdc ((q27 _ (by omega) (by omega)).trans rn26) rfl, 0, rdc ((q27 _ (by omega) (by omega)).trans re26) rfl, hK h27 F' F27 G27 x27⟩
end Go.Proofs.YtcdpakjhjmchhaaGreatDoor.Bm
namespace Go.Proofs.YtcdpakjhjmchhaaGreatDoor.Bm
open Go Go.Proofs Go.Proofs.YtcdpakjhjmchhaaGreatDoor.Wx Go.Proofs.YtcdpakjhjmchhaaGreatDoor.Hp Go.Proofs.YtcdpakjhjmchhaaGreatDoor.W Go.Proofs.YtcdpakjhjmchhaaGreatDoor.Ad Go.Proofs.YtcdpakjhjmchhaaGreatDoor.Tm Go.Proofs.YtcdpakjhjmchhaaGreatDoor.Spc Go.Proofs.YtcdpakjhjmchhaaGreatDoor.Re Go.Proofs.YtcdpakjhjmchhaaGreatDoor.Av
open Go.Proofs.YtcdpakjhjmchhaaGreatDoor.Hd (ints wrap_u64)
open Go.Proofs.YtcdpakjhjmchhaaGreatDoor.In (Glo ints_length ints_one)
def giveF (T : TM) (g : G) (v : Int) : TM × Int := if lookM g v ≠ 0 then (T, lookM g v) else Spc.give T g v
def numsL (b : Txt) : List Int := (List.range 128).map fun i => ((num4 b i : Nat) : Int)
theorem numsL_len (b : Txt) : (numsL b).length = 128 := by unfold numsL; rw [List.length_map, List.length_range]
theorem numsL_get {b : Txt} {j : Nat} (h : j < (numsL b).length) : (numsL b)[j] = ((num4 b j : Nat) : Int) := by
  simp only [numsL, List.getElem_map, List.getElem_range]
abbrev DropM := TM → Nat → Int → TM × Bool × Int
structure CutS where
  T : TM
  b : Txt
  left : Bool
  turned : Bool
def cutGo (dM : DropM) (from_ : Int) : List Int → Nat → CutS → CutS × Int
  | [], _, S => (S, 0)
  | v :: r, i, S => if v = 0 then cutGo dM from_ r (i + 1) S else if (i : Int) < from_ then cutGo dM from_ r (i + 1) { S with left := true } else
      if (dM S.T i v).2.2 ≠ 0 then ({ S with T := (dM S.T i v).1 }, (dM S.T i v).2.2) else
      cutGo dM from_ r (i + 1) ⟨(dM S.T i v).1, if (dM S.T i v).2.1 = true then set4 S.b i 0 else S.b, S.left || !(dM S.T i v).2.1, S.turned || (dM S.T i v).2.1⟩
def cutEnd (g : G) (tab : Int) (C : CutS × Int) : TM × Bool × Int :=
  if C.2 ≠ 0 then (C.1.T, false, C.2) else if C.1.left = false then ((Spc.give C.1.T g tab).1, false, (Spc.give C.1.T g tab).2) else
    if C.1.turned = true then ((C.1.T.write tab C.1.b).1, true, (C.1.T.write tab C.1.b).2) else (C.1.T, true, 0)
def cutT (dM : DropM) (T : TM) (g : G) (tab from_ : Int) : TM × Bool × Int :=
  if lookM g tab ≠ 0 then (T, false, lookM g tab) else if (T.read tab).2 ≠ 0 then (T, false, (T.read tab).2) else
    cutEnd g tab (cutGo dM from_ (numsL (T.read tab).1) 0 ⟨T, (T.read tab).1, false, false⟩)
def leafD (g : G) : DropM := fun T _ v => ((giveF T g v).1, true, (giveF T g v).2)
def tabD (g : G) (first : Int) : DropM := fun T i v => ((cutT (leafD g) T g v (first - 128 * i)).1, !(cutT (leafD g) T g v (first - 128 * i)).2.1, (cutT (leafD g) T g v (first - 128 * i)).2.2)
theorem give_un (T : TM) (g : G) (i : Int) : (Spc.give T g i).1.undo.length ≤ T.undo.length + 1 := by
  unfold Spc.give
  split
  · exact Nat.le_add_right _ _
  · split
    · exact Nat.le_add_right _ _
    · split
      · exact Nat.le_add_right _ _
      · exact setBit_un _ _ _ _
theorem giveF_un (T : TM) (g : G) (v : Int) : (giveF T g v).1.undo.length ≤ T.undo.length + 1 := by
  unfold giveF
  split
  · exact Nat.le_add_right _ _
  · exact give_un _ _ _
theorem cutGo_un {dM : DropM} {from_ : Int} {u : Nat} (hd : ∀ T i v, (dM T i v).1.undo.length ≤ T.undo.length + u) : ∀ (l : List Int) (i : Nat) (S : CutS), (cutGo dM from_ l i S).1.T.undo.length ≤ S.T.undo.length + u * l.length
  | [], _, S => Nat.le_add_right _ _
  | v :: r, i, S => by
    rw [List.length_cons, Nat.mul_succ]
    unfold cutGo
    split
    · have := cutGo_un (from_ := from_) hd r (i + 1) S; omega
    · split
      · have := cutGo_un (from_ := from_) hd r (i + 1) { S with left := true }
        have this : (cutGo dM from_ r (i + 1) { S with left := true }).1.T.undo.length ≤ S.T.undo.length + u * r.length := this
        omega
      · have h1 := hd S.T i v
        split
        · show (dM S.T i v).1.undo.length ≤ _; omega
        · have := cutGo_un (from_ := from_) hd r (i + 1) ⟨(dM S.T i v).1, if (dM S.T i v).2.1 = true then set4 S.b i 0 else S.b, S.left || !(dM S.T i v).2.1, S.turned || (dM S.T i v).2.1⟩
          have this : _ ≤ (dM S.T i v).1.undo.length + u * r.length := this
          omega
theorem cutT_un {dM : DropM} {T : TM} {g : G} {tab from_ : Int} {u : Nat} (hd : ∀ T i v, (dM T i v).1.undo.length ≤ T.undo.length + u) : (cutT dM T g tab from_).1.undo.length ≤ T.undo.length + (u * 128 + 1) := by
  unfold cutT
  split
  · exact Nat.le_add_right _ _
  · split
    · exact Nat.le_add_right _ _
    · have h := cutGo_un (from_ := from_) hd (numsL (T.read tab).1) 0 ⟨T, (T.read tab).1, false, false⟩
      rw [numsL_len] at h
      have h : _ ≤ T.undo.length + u * 128 := h
      generalize cutGo dM from_ (numsL (T.read tab).1) 0 ⟨T, (T.read tab).1, false, false⟩ = C at h
      unfold cutEnd
      split
      · show C.1.T.undo.length ≤ _; omega
      · split
        · have := give_un C.1.T g tab
          show (Spc.give C.1.T g tab).1.undo.length ≤ _; omega
        · split
          · have := write_un C.1.T tab C.1.b
            show (C.1.T.write tab C.1.b).1.undo.length ≤ _; omega
          · show C.1.T.undo.length ≤ _; omega
theorem leafD_un (g : G) (T : TM) (i : Nat) (v : Int) : (leafD g T i v).1.undo.length ≤ T.undo.length + 1 := giveF_un T g v
theorem tabD_un (g : G) (first : Int) (T : TM) (i : Nat) (v : Int) : (tabD g first T i v).1.undo.length ≤ T.undo.length + 129 := cutT_un (leafD_un g)
theorem give_spec {h : Heap} {F : Nat → Prop} {t d : Option Addr} {T : TM} {g : G} {R : List Int} {fb : Nat} {v : Int} {K : Value → Heap → Prop} (x : Tx h F t d T) (ok : g.ok) (e : rd h fb = fileV t g R) (hu : T.undo.length < 1000000000)
    (hK : ∀ h' F', Fr F h h' → Gw h F h' F' → Tx h' F' t d (giveF T g v).1 → K (.int .i64 (giveF T g v).2) h') : C.bmap_file_give (some ⟨fb, 0, none⟩) v h K := by
  refine bmap_file_give.ok (look_spec e ⟨_, rfl, cn (fun y => ?_) fun y => os ⟨t, rda e rfl, os ⟨g.v, rfl, cellsa e rfl, Give_spec x ok hu fun h3 F3 f3 g3 x3 => ⟨_, rfl, ?_⟩⟩⟩⟩)
  · have e0 : giveF T g v = (T, lookM g v) := by unfold giveF; rw [if_pos y]
    rw [e0] at hK
    exact hK h F (Fr.refl _ _) (Gw.refl (Nat.le_refl _) fun b hb => x.lt hb) x
  · have e0 : giveF T g v = Spc.give T g v := by unfold giveF; rw [if_neg (fun z => z y)]
    rw [e0] at hK
    exact hK h3 F3 f3 g3 x3
theorem numbers_spec {h : Heap} {F : Nat → Prop} {t d : Option Addr} {T : TM} {g : G} {R : List Int} {fb : Nat} {tab : Int} {K : Value → Heap → Prop} (gl : Glo h) (x : Tx h F t d T) (e : rd h fb = fileV t g R)
    (hE : (lookM g tab ≠ 0 ∨ (T.read tab).2 ≠ 0) → ∀ h', Fr No h h' → K (.tuple #[.slice none 0 0, .slice none 0 0, .int .i64 (if lookM g tab ≠ 0 then lookM g tab else (T.read tab).2)]) h')
    (hK : lookM g tab = 0 → (T.read tab).2 = 0 → (T.read tab).1.length = 512 → ∀ sa sc lb h', Fr No h h' → h.size ≤ lb → Sl h' 1 sa 512 sc ((T.read tab).1.map bv) (fun y => h.size ≤ y ∧ y ≠ lb) → rd h' lb = ints (numsL (T.read tab).1) → Own h' lb →
      K (.tuple #[.slice sa 512 sc, .slice (some ⟨lb, 0, none⟩) 128 128, .int .i64 0]) h') : C.bmap_file_numbers (some ⟨fb, 0, none⟩) tab h K := by
  refine bmap_file_numbers.ok (look_spec e ⟨_, rfl, cn (fun y => ?_) fun y => os ⟨t, rda e rfl, Tm.Read_spec x fun sa sl sc h3 f3 el s3 => ⟨_, _, _, _, rfl, cn (fun y2 => ?_) fun y2 => ?_⟩⟩⟩)
  · have := hE (.inl y) h (Fr.refl _ _)
    rw [if_pos y] at this; exact this
  · have := hE (.inr y2) h3 f3
    rw [if_neg (fun z => z y)] at this; exact this
  have hlen : (T.read tab).1.length = 512 := Tx.readLen x y2
  have hK := hK y y2 hlen
  rw [hlen] at el
  subst el
  generalize (T.read tab).1 = b at hK hlen s3
  refine ⟨⟨by decide, by decide, by decide, by decide⟩, New.intro fun h4 n4 => ?_⟩
  have z3 := f3.size
  have z4 := n4.size
  have nl := numsL_len b
  have r4 : rd h4 h3.size = ints (List.replicate 128 0) := by
    rw [n4.rd, ints, List.map_replicate]; exact rep_one' 128
  have s4 := s3.fr n4.fr fun _ _ _ y => y
  have s4 : Sl h4 1 sa 512 sc (b.map bv) (fun y => h.size ≤ y ∧ y ≠ h3.size) := (sl_rngB s3).fr n4.fr (fun _ _ _ y => y) |>.mono fun y hy => ⟨hy.1, by have := hy.2; omega⟩
  refine ⟨fun i hh => ∃ j : Nat, i = j ∧ j ≤ 128 ∧ Fr (fun y => y = h3.size) h4 hh ∧ Own hh h3.size ∧ rd hh h3.size = ints ((numsL b).take j ++ List.replicate (128 - j) 0), fun i _ => ((128 : Int) - i).toNat, ⟨0, rfl, by decide, Fr.refl _ _, n4.own, r4⟩, ?_⟩
  intro i h5 hI
  obtain ⟨j, ei, hj, f5, o5, r5⟩ := hI
  have F5 : Fr No h h5 := ((f3.new n4).trans f5 fun c hc y => by have y : c = h3.size := y; omega)
  have s5 := s4.fr f5 fun c _ hc y => hc.2 y
  have c128 : ((Int.toNat 128 : Nat) : Int) = 128 := rfl
  rw [c128]
  refine cd (fun hl => ?_) fun hl => ?_
  · subst ei
    have hj' : j < (numsL b).length := by omega
    rw [wrap_i64 (n := 4 * (j : Int)) (by omega) (by omega)]
    refine In.Get_w (gl.no F5) s5.str (by decide) (.inr (.inr (.inl rfl))) (by omega) (by omega) ⟨_, _, rfl, ⟨by omega, hl⟩, ?_⟩
    have en : leN ((b.drop (4 * (j : Int)).toNat).take (Int.toNat 4)) = num4 b j := by
      unfold num4
      rw [show (4 * (j : Int)).toNat = 4 * j by omega]; rfl
    have lt := num4_lt b j
    rw [en, wrap_i64 (n := ((num4 b j : Nat) : Int)) (by omega) (by omega), wrap_i64 (n := (j : Int) + 1) (by omega) (by omega), Int.toNat_natCast]
    have ll : (ints ((numsL b).take j ++ List.replicate (128 - j) 0)).length = 128 := by rw [ints_length, List.length_append, List.length_take, List.length_replicate]; omega
    refine Put.add o5 (by rw [r5, ll]; omega) fun h6 d6 => ⟨⟨j + 1, by omega, by omega, f5.did d6 fun _ => rfl, d6.own, ?_⟩, by show ((128 : Int) - ((j : Int) + 1)).toNat < ((128 : Int) - (j : Int)).toNat; omega⟩
    rw [d6.rd, r5, Nat.zero_add, ints, ← List.map_set]
    show ints _ = ints _
    congr 1
    have lt' : ((numsL b).take j).length = j := by rw [List.length_take]; omega
    rw [List.set_append_right _ _ (by omega), lt', Nat.sub_self, take_snoc _ _ hj', numsL_get hj', show 128 - j = (128 - (j + 1)) + 1 by omega, List.replicate_succ, List.set_cons_zero, List.append_assoc]; rfl
  · have ej : j = 128 := by omega
    subst ej
    rw [Nat.sub_self, List.replicate_zero, List.append_nil, List.take_of_length_le (by omega)] at r5
    exact hK sa sc h3.size h5 F5 z3 s5 r5 o5
end Go.Proofs.YtcdpakjhjmchhaaGreatDoor.Bm
namespace Go.Proofs.YtcdpakjhjmchhaaGreatDoor.Bm
open Go Go.Proofs Go.Proofs.YtcdpakjhjmchhaaGreatDoor.Wx Go.Proofs.YtcdpakjhjmchhaaGreatDoor.Hp Go.Proofs.YtcdpakjhjmchhaaGreatDoor.W Go.Proofs.YtcdpakjhjmchhaaGreatDoor.Ad Go.Proofs.YtcdpakjhjmchhaaGreatDoor.Tm Go.Proofs.YtcdpakjhjmchhaaGreatDoor.Spc Go.Proofs.YtcdpakjhjmchhaaGreatDoor.Re Go.Proofs.YtcdpakjhjmchhaaGreatDoor.Av
open Go.Proofs.YtcdpakjhjmchhaaGreatDoor.Hd (ints wrap_u64)
open Go.Proofs.YtcdpakjhjmchhaaGreatDoor.In (Glo ints_length ints_one)
/-- a closure that drops a number, as dM says -/
def DropS (dv : Value) (dM : DropM) (h0 : Heap) (F0 : Nat → Prop) (t d : Option Addr) (lim : Nat) : Prop :=
  ∀ (hh : Heap) (F : Nat → Prop) (T : TM) (i : Nat) (v : Int) (K : Value → Heap → Prop), Fr F0 h0 hh → Gw h0 F0 hh F → Tx hh F t d T → T.undo.length < lim → i < 128 → 0 < v → v < 4294967296 →
    (∀ h' F', Fr F hh h' → Gw hh F h' F' → Tx h' F' t d (dM T i v).1 → K (.tuple #[.bool (dM T i v).2.1, .int .i64 (dM T i v).2.2]) h') → HCallsV Tryz.prog dv [.int .i64 (i : Int), .int .i64 v] hh K
def leafV (fb : Nat) : Value := .func (.func 80) ⟨[.pointer (some ⟨fb, 0, none⟩)]⟩ ⟨[]⟩
theorem leaf_drop {h : Heap} {F : Nat → Prop} {t d : Option Addr} {g : G} {R : List Int} {fb : Nat} (ok : g.ok) (e : rd h fb = fileV t g R) (hf : ¬ F fb) : DropS (leafV fb) (leafD g) h F t d 1000000000 := by
  intro hh F' T i v K f gw x hu _ _ _ hK
  show C.bmap_file_leaf (some ⟨fb, 0, none⟩) (i : Int) v hh K
  have fl : fb < h.size := rd_lt (o := 0) (by rw [e]; rfl)
  exact bmap_file_leaf.ok (give_spec x ok ((f.rd fl hf).trans e) hu fun h' F2 f2 g2 x2 => ⟨_, rfl, hK h' F2 f2 g2 x2⟩)
theorem cutGo_cons (dM : DropM) (from_ v : Int) (r : List Int) (i : Nat) (S : CutS) : cutGo dM from_ (v :: r) i S = if v = 0 then cutGo dM from_ r (i + 1) S else if (i : Int) < from_ then cutGo dM from_ r (i + 1) { S with left := true } else
      if (dM S.T i v).2.2 ≠ 0 then ({ S with T := (dM S.T i v).1 }, (dM S.T i v).2.2) else
      cutGo dM from_ r (i + 1) ⟨(dM S.T i v).1, if (dM S.T i v).2.1 = true then set4 S.b i 0 else S.b, S.left || !(dM S.T i v).2.1, S.turned || (dM S.T i v).2.1⟩ := rfl
theorem cut_spec {h : Heap} {F : Nat → Prop} {t d : Option Addr} {T : TM} {g : G} {R : List Int} {fb : Nat} {tab from_ : Int} {dv : Value} {dM : DropM} {u lim : Nat} {K : Value → Heap → Prop} (gl : Glo h) (x : Tx h F t d T) (ok : g.ok) (e : rd h fb = fileV t g R) (hf : ¬ F fb) (g0 : ∀ b, b < 1 → ¬ F b)
    (D : DropS dv dM h F t d lim) (hun : ∀ T i v, (dM T i v).1.undo.length ≤ T.undo.length + u) (hu : T.undo.length + (u * 128 + 1) < lim) (hlim : lim ≤ 1000000000)
    (hK : ∀ h' F', Fr F h h' → Gw h F h' F' → Tx h' F' t d (cutT dM T g tab from_).1 → K (.tuple #[.bool (cutT dM T g tab from_).2.1, .int .i64 (cutT dM T g tab from_).2.2]) h') :
    C.bmap_file_cut (some ⟨fb, 0, none⟩) tab from_ dv h K := by
  have fl : fb < h.size := rd_lt (o := 0) (by rw [e]; rfl)
  have gl1 := gl.lt
  have Flt := fun y (hy : F y) => x.lt hy
  refine bmap_file_cut.ok (numbers_spec gl x e (fun he h2 f2 => ⟨_, _, _, _, _, _, _, rfl, cn (fun _ => ?_) fun y => ?_⟩) fun y1 y2 hlen sa sc lb h2 f2 hlb s2 r2 o2 => ⟨_, _, _, _, _, _, _, rfl, cn (fun y => absurd rfl y) fun _ => ?_⟩)
  · have hK := hK h2 F (f2.mono fun _ _ y => y.elim) (Gw.refl f2.size Flt)
    unfold cutT at hK
    by_cases h1 : lookM g tab ≠ 0
    · rw [if_pos h1] at hK ⊢; exact hK (x.no f2)
    · rw [if_neg h1] at hK ⊢
      have h3 : (T.read tab).2 ≠ 0 := he.resolve_left h1
      rw [if_pos h3] at hK; exact hK (x.no f2)
  · exfalso
    by_cases h1 : lookM g tab ≠ 0
    · rw [if_pos h1] at y; exact h1 y
    · rw [if_neg h1] at y; exact (he.resolve_left h1) y
  have e0 : cutT dM T g tab from_ = cutEnd g tab (cutGo dM from_ (numsL (T.read tab).1) 0 ⟨T, (T.read tab).1, false, false⟩) := by unfold cutT; rw [if_neg (fun z => z y1), if_neg (fun z => z y2)]
  rw [e0] at hK
  have nl := numsL_len (T.read tab).1
  have nlt : ∀ j (hj : j < (numsL (T.read tab).1).length), 0 ≤ (numsL (T.read tab).1)[j] ∧ (numsL (T.read tab).1)[j] < 4294967296 := fun j hj => by
    rw [numsL_get hj]
    have := num4_lt (T.read tab).1 j
    omega
  generalize (T.read tab).1 = b0 at hK hlen s2 r2 nl nlt
  generalize numsL b0 = ns at hK r2 nl nlt
  have z2 := f2.size
  have G2 : Gw h F h2 F := Gw.refl z2 Flt
  obtain ⟨N, hN⟩ : ∃ N : Int, N = 128 := ⟨_, rfl⟩
  refine ⟨fun left turned i hh => ∃ (j : Nat) (F' : Nat → Prop) (T' : TM) (b' : Txt), i = j ∧ j ≤ 128 ∧ Fr (fun y => F y ∨ h.size ≤ y) h hh ∧ h2.size ≤ hh.size ∧ Gw h2 F hh F' ∧ Tx hh F' t d T' ∧ b'.length = 512 ∧ Sl hh 1 sa 512 sc (b'.map bv) (fun y => h.size ≤ y ∧ y ≠ lb ∧ y < h2.size) ∧ rd hh lb = ints ns ∧ T'.undo.length ≤ T.undo.length + u * j ∧
      cutGo dM from_ (ns.drop j) j ⟨T', b', left, turned⟩ = cutGo dM from_ ns 0 ⟨T, b0, false, false⟩, fun _ _ i _ => ((128 : Int) - i).toNat,
    ⟨0, F, T, b0, rfl, by decide, f2.mono (fun _ _ y => y.elim), Nat.le_refl _, Gw.refl (Nat.le_refl _) (fun b hb => Nat.lt_of_lt_of_le (Flt b hb) z2), x.no f2, hlen, (sl_rngB s2).mono fun y hy => ⟨hy.1.1, hy.1.2, hy.2⟩, r2, Nat.le_refl _, by rw [List.drop_zero]⟩, ?_⟩
  intro left turned i h3 hI
  obtain ⟨j, F', T', b', ei, hj, f3, zz, g3, x3, lb', s3, r3, u3, ew⟩ := hI
  have old3 : ∀ y, y < h2.size → (F' y ↔ F y) := g3.old
  have F3 : Fr F h h3 := f3.mono fun c hc y => y.resolve_right (by omega)
  have G3 : Gw h F h3 F' := G2.trans g3 z2
  have lbl : lb < h2.size := o2.lt
  have hju : u * j ≤ u * 128 := Nat.mul_le_mul_left _ hj
  refine cd (fun hl => ?_) fun hl => ?_
  · subst ei
    have hj' : j < ns.length := by omega
    have hjn : j < 128 := by omega
    rw [drop_cons hj', cutGo_cons] at ew
    have nj := nlt j hj'
    rw [Int.toNat_natCast]
    have cv : cellOf h3 (Addr.add ⟨lb, 0, none⟩ j) = some (.int .i64 ns[j]) := rda r3 (by rw [Nat.zero_add, ints, List.getElem?_map, List.getElem?_eq_getElem hj']; rfl)
    have wr : IntKind.wrap .i64 ((j : Int) + 1) = ((j + 1 : Nat) : Int) := by rw [wrap_i64 (by omega) (by omega)]; omega
    have me : ((128 : Int) - ((j + 1 : Nat) : Int)).toNat < ((128 : Int) - (j : Int)).toNat := by omega
    have hu1 : u * j ≤ u * (j + 1) := Nat.mul_le_mul_left _ (Nat.le_succ j)
    refine ⟨⟨by omega, hl⟩, os ⟨_, cv, ce (fun y => ?_) fun y => cd (fun y2 => ?_) fun y2 => ?_⟩⟩
    · rw [if_pos y] at ew
      rw [wr]
      exact ⟨⟨j + 1, F', T', b', rfl, hjn, f3, zz, g3, x3, lb', s3, r3, by omega, ew⟩, me⟩
    · rw [if_neg y, if_pos y2] at ew
      rw [wr]
      exact ⟨⟨j + 1, F', T', b', rfl, hjn, f3, zz, g3, x3, lb', s3, r3, by omega, ew⟩, me⟩
    rw [if_neg y, if_neg y2] at ew
    refine D h3 F' T' j (ns[j]'hj') _ F3 G3 x3 (by omega) hjn (by omega) nj.2 fun h4 F4 f4 g4 x4 => ⟨_, _, rfl, ?_⟩
    have hd := hun T' j (ns[j]'hj')
    have hm : u * (j + 1) = u * j + u := Nat.mul_succ u j
    generalize dM T' j (ns[j]'hj') = W at ew x4 hd
    obtain ⟨T4, gone, e4⟩ := W
    simp only at ew x4 hd
    have z4 := f4.size
    have F4' : Fr F h h4 := F3.trans f4 fun c hc y => (old3 c (by omega)).mp y
    have nF : ∀ c, h.size ≤ c → c < h2.size → ¬ F' c := fun c h1 h2' y => by have := Flt c ((old3 c h2').mp y); omega
    refine cn (fun he => ?_) fun he => ?_
    · rw [if_pos he] at ew
      rw [← ew] at hK
      have hK := hK h4 F4 F4' (G3.trans g4 F3.size)
      unfold cutEnd at hK
      rw [if_pos he] at hK
      exact hK x4
    rw [if_neg (fun z => z he)] at ew
    have s4 := s3.fr f4 fun c _ hc y => nF c hc.1 hc.2.2 y
    have r4 : rd h4 lb = ints ns := (f4.rd (by omega) (nF lb hlb lbl)).trans r3
    have g24 : Gw h2 F h4 F4 := g3.trans g4 zz
    have fr4 : Fr (fun y => F y ∨ h.size ≤ y) h h4 := F4'.mono fun _ _ y => .inl y
    -- behind the drop, at h6
    have go : ∀ (h6 : Heap) (b6 : Txt), Fr (fun y => F y ∨ h.size ≤ y) h h6 → h2.size ≤ h6.size → Gw h2 F h6 F4 → Tx h6 F4 t d T4 → b6.length = 512 → Sl h6 1 sa 512 sc (b6.map bv) (fun y => h.size ≤ y ∧ y ≠ lb ∧ y < h2.size) → rd h6 lb = ints ns →
        cutGo dM from_ (ns.drop (j + 1)) (j + 1) ⟨T4, b6, left || !gone, turned || gone⟩ = cutGo dM from_ ns 0 ⟨T, b0, false, false⟩ →
        bmap_file_cut.k1 left turned (j : Int) h3 (fun left turned i hh => ∃ (j : Nat) (F' : Nat → Prop) (T' : TM) (b' : Txt), i = j ∧ j ≤ 128 ∧ Fr (fun y => F y ∨ h.size ≤ y) h hh ∧ h2.size ≤ hh.size ∧ Gw h2 F hh F' ∧ Tx hh F' t d T' ∧ b'.length = 512 ∧ Sl hh 1 sa 512 sc (b'.map bv) (fun y => h.size ≤ y ∧ y ≠ lb ∧ y < h2.size) ∧ rd hh lb = ints ns ∧ T'.undo.length ≤ T.undo.length + u * j ∧
          cutGo dM from_ (ns.drop j) j ⟨T', b', left, turned⟩ = cutGo dM from_ ns 0 ⟨T, b0, false, false⟩) (fun _ _ i _ => ((128 : Int) - i).toNat) gone h6 K := fun h6 b6 a1 a2 a3 a4 a5 a6 a7 a8 => by
      unfold bmap_file_cut.k1
      rw [wr]
      cases left <;> cases turned <;> exact ⟨⟨j + 1, F4, T4, b6, rfl, hjn, a1, a2, a3, a4, a5, a6, a7, by omega, a8⟩, me⟩
    cases gone with
    | false => exact go h4 b' fr4 (by omega) g24 x4 lb' s4 r4 ew
    | true =>
      obtain ⟨⟨pb, po, sp⟩, ep, _⟩ := s4.get (by decide)
      subst ep
      have esp : sp = none := s4.2.1
      subst esp
      have k4 := s4.2.2.1
      have k4 : h.size ≤ pb ∧ pb ≠ lb ∧ pb < h2.size := k4
      have gl4 : Glo h4 := gl.fr F4' g0
      rw [wrap_i64 (n := 4 * (j : Int)) (by omega) (by omega)]
      refine In.Put_w (v := 0) gl4 s4 (by decide) (.inr (.inr rfl)) (by omega) (by omega) (by decide) fun h5 f5 s5 => ⟨_, rfl, ?_⟩
      have e5 : putU b' (4 * (j : Int)).toNat (leBs (Int.toNat 4) 0) = set4 b' j 0 := by
        unfold set4
        rw [show (4 * (j : Int)).toNat = 4 * j by omega]; rfl
      rw [e5] at s5
      have z5 := f5.size
      refine go h5 (set4 b' j 0) (fr4.trans f5 fun c hc y => ?_) (by omega) ⟨g24.old, fun b hb => Nat.lt_of_lt_of_le (g24.lt b hb) z5⟩ (x4.fr f5 fun c hc y => ?_) (set4_length lb' hjn) s5 ((f5.rd (by omega) fun y => k4.2.1 y.symm).trans r4) ew
      · have y : c = pb := y
        omega
      · have y : c = pb := y
        rw [y] at hc
        have := (g24.old pb k4.2.2).mp hc
        have := Flt _ this
        omega
  · have ej : j = 128 := by omega
    subst ej
    have ed : ns.drop 128 = [] := List.drop_eq_nil_of_le (by omega)
    rw [ed] at ew
    have ew : ((⟨T', b', left, turned⟩ : CutS), (0 : Int)) = cutGo dM from_ ns 0 ⟨T, b0, false, false⟩ := ew
    rw [← ew] at hK
    have rf : rd h3 fb = _ := (F3.rd fl hf).trans e
    unfold cutEnd at hK
    rw [if_neg (fun z => z rfl)] at hK
    cases left with
    | false =>
      rw [if_pos rfl] at hK
      refine ct rfl (os ⟨t, rda rf rfl, os ⟨g.v, rfl, cellsa rf rfl, Give_spec x3 ok (by omega) fun h7 F7 f7 g7 x7 => ⟨_, rfl, ?_⟩⟩⟩)
      exact hK h7 F7 (F3.trans f7 fun c hc y => (old3 c (by omega)).mp y) (G3.trans g7 F3.size) x7
    | true =>
      rw [if_neg (by simp)] at hK
      refine cf rfl ?_
      cases turned with
      | true =>
        rw [if_pos rfl] at hK
        refine ct rfl (os ⟨t, rda rf rfl, Tm.Write_spec x3 s3.str (by decide) (fun p ep y => ?_) (by omega) fun h8 F8 f8 g8 x8 => ⟨_, rfl, ?_⟩⟩)
        · have k3 : h.size ≤ p.block ∧ p.block ≠ lb ∧ p.block < h2.size := by
            rw [ep] at s3; exact s3.2.2.1
          have := Flt _ ((old3 _ k3.2.2).mp y)
          omega
        · exact hK h8 F8 (F3.trans f8 fun c hc y => (old3 c (by omega)).mp y) (G3.trans g8 F3.size) x8
      | false =>
        rw [if_neg (by simp)] at hK
        exact cf rfl (hK h3 F' F3 G3 x3)
end Go.Proofs.YtcdpakjhjmchhaaGreatDoor.Bm
namespace Go.Proofs.YtcdpakjhjmchhaaGreatDoor.Bm
open Go Go.Proofs Go.Proofs.YtcdpakjhjmchhaaGreatDoor.Wx Go.Proofs.YtcdpakjhjmchhaaGreatDoor.Hp Go.Proofs.YtcdpakjhjmchhaaGreatDoor.W Go.Proofs.YtcdpakjhjmchhaaGreatDoor.Ad Go.Proofs.YtcdpakjhjmchhaaGreatDoor.Tm Go.Proofs.YtcdpakjhjmchhaaGreatDoor.Spc Go.Proofs.YtcdpakjhjmchhaaGreatDoor.Re Go.Proofs.YtcdpakjhjmchhaaGreatDoor.Av
open Go.Proofs.YtcdpakjhjmchhaaGreatDoor.Hd (ints wrap_u64)
open Go.Proofs.YtcdpakjhjmchhaaGreatDoor.In (Glo ints_length ints_one)
def dirGo (g : G) : List Nat → TM → List Int → (TM × List Int) × Int
  | [], T, R => ((T, R), 0)
  | i :: r, T, R => if R.getD (3 + i) 0 = 0 then dirGo g r T R else if (giveF T g (R.getD (3 + i) 0)).2 ≠ 0 then (((giveF T g (R.getD (3 + i) 0)).1, R), (giveF T g (R.getD (3 + i) 0)).2) else
      dirGo g r (giveF T g (R.getD (3 + i) 0)).1 (R.set (3 + i) 0)
def rootEnd (i : Nat) (R : List Int) (C : TM × Bool × Int) : (TM × List Int) × Int := if C.2.2 ≠ 0 then ((C.1, R), C.2.2) else ((C.1, if C.2.1 = true then R else R.set i 0), 0)
def oneM (g : G) (k : Int) (T : TM) (R : List Int) : (TM × List Int) × Int := if k < 138 ∧ R.getD 13 0 ≠ 0 then rootEnd 13 R (cutT (leafD g) T g (R.getD 13 0) (k - 10)) else ((T, R), 0)
def firstM (k : Int) : Int := if k - 138 > 0 then k - 138 else 0
def twoM (g : G) (k : Int) (T : TM) (R : List Int) : (TM × List Int) × Int := if k < 16522 ∧ R.getD 14 0 ≠ 0 then rootEnd 14 R (cutT (tabD g (firstM k)) T g (R.getD 14 0) (firstM k / 128)) else ((T, R), 0)
def dirsM (k : Int) : List Nat := List.range' k.toNat (10 - k.toNat)
def cutS (g : G) (k : Int) (T : TM) (R : List Int) : (TM × List Int) × Int :=
  if (dirGo g (dirsM k) T R).2 ≠ 0 then dirGo g (dirsM k) T R else
  if (oneM g k (dirGo g (dirsM k) T R).1.1 (dirGo g (dirsM k) T R).1.2).2 ≠ 0 then oneM g k (dirGo g (dirsM k) T R).1.1 (dirGo g (dirsM k) T R).1.2 else
    twoM g k (oneM g k (dirGo g (dirsM k) T R).1.1 (dirGo g (dirsM k) T R).1.2).1.1 (oneM g k (dirGo g (dirsM k) T R).1.1 (dirGo g (dirsM k) T R).1.2).1.2
def cutM (T : TM) (g : G) (R : List Int) (k : Int) : TM × List Int × Int :=
  if k < 0 ∨ k > 16522 then (T, z15, 101) else if (cutS g k T R).2 ≠ 0 then (((cutS g k T R).1.1.back T.undo.length).1, z15, (cutS g k T R).2) else ((cutS g k T R).1.1, (cutS g k T R).1.2, 0)
structure Ids where
  yb : Nat
  eb : Nat
  ob : Nat
  tb : Nat
  mb : Nat
  bk : Nat
  fb : Nat
  pb : Nat
structure Ids.Ok (I : Ids) : Prop where
  a1 : I.yb < I.eb
  a2 : I.eb < I.ob
  a3 : I.eb < I.tb
  a4 : I.eb < I.mb
  a5 : I.ob < I.bk
  a6 : I.tb < I.bk
  a7 : I.mb < I.bk
  a8 : I.bk < I.fb
  a9 : I.fb < I.pb
structure CX (h : Heap) (F : Nat → Prop) (t d : Option Addr) (T0 : TM) (g : G) (I : Ids) (hh : Heap) (F' : Nat → Prop) (T' : TM) (R' : List Int) (u : Nat) : Prop where
  ok : I.Ok
  lo : h.size ≤ I.yb
  hi : I.pb < hh.size
  fr : Fr F h hh
  gw : Gw h F hh F'
  x : Tx hh F' t d T'
  un : T'.undo.length ≤ u
  len : R'.length = 15
  ry : rd hh I.yb = ints z15
  oy : Own hh I.yb
  re : rd hh I.eb = [.int .i64 0]
  oe : Own hh I.eb
  rb : rd hh I.bk = [gdV I.ob I.tb I.mb]
  rp : rd hh I.pb = [.pointer (some ⟨I.fb, 0, none⟩)]
  rf : rd hh I.fb = fileV t g R'
  of_ : Own hh I.fb
  gd : Gd hh I.ob I.tb I.mb t T0.mark
  nF : ∀ b, I.yb ≤ b → b ≤ I.pb → ¬ F' b
theorem CX.call {h hh h' : Heap} {F F' F'' : Nat → Prop} {t d : Option Addr} {T0 T' T'' : TM} {g : G} {I : Ids} {R' : List Int} {u u' : Nat} (c : CX h F t d T0 g I hh F' T' R' u) (f : Fr F' hh h') (gw : Gw hh F' h' F'') (x : Tx h' F'' t d T'') (un : T''.undo.length ≤ u') : CX h F t d T0 g I h' F'' T'' R' u' := by
  obtain ⟨a1, a2, a3, a4, a5, a6, a7, a8, a9⟩ := c.ok
  have hi := c.hi
  have z := f.size
  have q : ∀ b, I.yb ≤ b → b ≤ I.pb → rd h' b = rd hh b := fun b h1 h2 => f.rd (by omega) (c.nF b h1 h2)
  have w : ∀ b, I.yb ≤ b → b ≤ I.pb → Own hh b → Own h' b := fun b h1 h2 o => f.own (by omega) (c.nF b h1 h2) o
  have lo := c.lo
  exact ⟨c.ok, c.lo, by omega, c.fr.trans f fun b hb y => (c.gw.old b hb).mp y, c.gw.trans gw c.fr.size, x, un, c.len, (q _ (by omega) (by omega)).trans c.ry, w _ (by omega) (by omega) c.oy, (q _ (by omega) (by omega)).trans c.re, w _ (by omega) (by omega) c.oe,
    (q _ (by omega) (by omega)).trans c.rb, (q _ (by omega) (by omega)).trans c.rp, (q _ (by omega) (by omega)).trans c.rf, w _ (by omega) (by omega) c.of_,
    ⟨(q _ (by omega) (by omega)).trans c.gd.o, (q _ (by omega) (by omega)).trans c.gd.t, (q _ (by omega) (by omega)).trans c.gd.m⟩, fun b h1 h2 y => c.nF b h1 h2 ((gw.old b (by omega)).mp y)⟩
theorem CX.no {h hh h' : Heap} {F F' : Nat → Prop} {t d : Option Addr} {T0 T' : TM} {g : G} {I : Ids} {R' : List Int} {u : Nat} (c : CX h F t d T0 g I hh F' T' R' u) (f : Fr No hh h') : CX h F t d T0 g I h' F' T' R' u :=
  c.call (f.mono fun _ _ y => y.elim) (Gw.refl f.size fun b hb => c.x.lt hb) (c.x.no f) c.un
/-- the record is written -/
theorem CX.setR {h hh h' : Heap} {F F' : Nat → Prop} {t d : Option Addr} {T0 T' : TM} {g : G} {I : Ids} {R' R'' : List Int} {u : Nat} (c : CX h F t d T0 g I hh F' T' R' u) (dd : Did I.fb hh h' (fileV t g R'')) (hl : R''.length = 15) : CX h F t d T0 g I h' F' T' R'' u := by
  obtain ⟨a1, a2, a3, a4, a5, a6, a7, a8, a9⟩ := c.ok
  have hi := c.hi
  have lo := c.lo
  have z := dd.size
  have q : ∀ b, I.yb ≤ b → b ≤ I.pb → b ≠ I.fb → rd h' b = rd hh b := fun b h1 h2 h3 => dd.at_ (by omega) h3
  exact ⟨c.ok, c.lo, by omega, c.fr.did dd fun hl => by omega, ⟨c.gw.old, fun b hb => Nat.lt_of_lt_of_le (c.gw.lt b hb) dd.fr.size⟩, c.x.fr dd.fr fun b hb y => c.nF I.fb (by omega) (by omega) (by have y : b = I.fb := y; rw [← y]; exact hb), c.un, hl, (q _ (by omega) (by omega) (by omega)).trans c.ry, dd.ow c.oy, (q _ (by omega) (by omega) (by omega)).trans c.re, dd.ow c.oe,
    (q _ (by omega) (by omega) (by omega)).trans c.rb, (q _ (by omega) (by omega) (by omega)).trans c.rp, dd.rd, dd.own,
    ⟨(q _ (by omega) (by omega) (by omega)).trans c.gd.o, (q _ (by omega) (by omega) (by omega)).trans c.gd.t, (q _ (by omega) (by omega) (by omega)).trans c.gd.m⟩, c.nF⟩
/-- Cut ends -/
theorem CX.fin {h hh : Heap} {F F' : Nat → Prop} {t d : Option Addr} {T0 T' : TM} {g : G} {I : Ids} {R' Y : List Int} {u : Nat} {e : Int} {K : Value → Heap → Prop} (c : CX h F t d T0 g I hh F' T' R' u) (hu : u < 1000000000) (hY : Y.length = 15) (em : T0.mark = ((T0.undo.length : Int), 0))
    (hK : ∀ h' F', Fr F h h' → Gw h F h' F' → Tx h' F' t d (if e ≠ 0 then (T'.back T0.undo.length).1 else T') → K (.tuple #[.agg ⟨ints (if e ≠ 0 then z15 else Y)⟩, .int .i64 e]) h') :
    PutRow ⟨I.yb, 0, none⟩ (ints Y) 15 hh fun h1 => Put ⟨I.eb, 0, none⟩ (.int .i64 e) h1 fun h2 => D.bmap_Cut_c1 (some ⟨I.bk, 0, none⟩) (some ⟨I.eb, 0, none⟩) (some ⟨I.yb, 0, none⟩) h2 fun h3 =>
      ∃ res1 : List Value, List.length res1 = 15 ∧ Cells h3 ⟨I.yb, 0, none⟩ res1 ∧ ∃ (res2 : Int), cellOf h3 ⟨I.eb, 0, none⟩ = some (.int .i64 res2) ∧ K (.tuple #[.agg ⟨res1⟩, .int .i64 res2]) h3 := by
  obtain ⟨a1, a2, a3, a4, a5, a6, a7, a8, a9⟩ := c.ok
  have hi := c.hi
  have lo := c.lo
  refine PutRow.intro c.oy (by rw [ints_length, hY]) (ints_one _) (by rw [c.ry]; exact Nat.le_refl _) fun h1 d1 => Put.intro (d1.ow c.oe) (by rw [d1.at_ (by omega) (by omega), c.re]; exact Nat.zero_lt_one) fun h2 d2 => ?_
  have z1 := d1.size
  have z2 := d2.size
  have f2 : Fr (fun b => b = I.yb ∨ b = I.eb) hh h2 := ((Fr.refl _ _).did d1 fun _ => .inl rfl).did d2 fun _ => .inr rfl
  have ry : rd h2 I.yb = ints Y := by rw [d2.at_ (by omega) (by omega), d1.rd, c.ry]; exact put_all _ _ (by rw [ints_length, hY]; rfl)
  have re : rd h2 I.eb = [.int .i64 e] := by rw [d2.rd, d1.at_ (by omega) (by omega), c.re]; rfl
  have oy : Own h2 I.yb := d2.ow d1.own
  have x2 : Tx h2 F' t d T' := c.x.fr f2 fun b hb y => by
    rcases y with rfl | rfl
    · exact c.nF _ (by omega) (by omega) hb
    · exact c.nF _ (by omega) (by omega) hb
  have gd2 : Gd h2 I.ob I.tb I.mb t T0.mark := c.gd.fr f2 (by rintro (y | y) <;> omega) (by rintro (y | y) <;> omega) (by rintro (y | y) <;> omega)
  have rb : rd h2 I.bk = [gdV I.ob I.tb I.mb] := (f2.rd (by omega) (by rintro (y | y) <;> omega)).trans c.rb
  have un := c.un
  refine bmap_Cut_c1.okD (os ⟨_, rdc rb rfl, os ⟨_, rdc re rfl, guard_c1_spec x2 gd2 (by omega) fun h3 f3 x3 => ⟨rfl, ?_⟩⟩⟩)
  have z3 := f3.size
  have F3 : Fr F h h3 := (c.fr.trans f2 fun b hb y => by rcases y with y | y <;> omega).trans f3 fun b hb y => (c.gw.old b hb).mp y
  have G3 : Gw h F h3 F' := ⟨c.gw.old, fun b hb => Nat.lt_of_lt_of_le (c.gw.lt b hb) (by omega)⟩
  have re3 : rd h3 I.eb = [.int .i64 e] := (f3.rd (by omega) (c.nF _ (by omega) (by omega))).trans re
  have ry3 : rd h3 I.yb = ints Y := (f3.rd (by omega) (c.nF _ (by omega) (by omega))).trans ry
  rw [em] at x3
  refine os ⟨_, rdc re3 rfl, cn (fun he => ?_) fun he => ?_⟩
  · rw [if_pos ⟨he, rfl⟩] at x3
    rw [if_pos he, if_pos he] at hK
    refine os (PutRow.intro (f3.own (by omega) (c.nF _ (by omega) (by omega)) oy) rfl z15_one (by rw [ry3, ints_length, hY]; exact Nat.le_refl _) fun h4 d4 => ?_)
    have z4 := d4.size
    refine ⟨ints z15, rfl, cellsAll ?_, e, rdc (xs := [.int .i64 e]) ((d4.at_ (by omega) (by omega)).trans re3) rfl, hK h4 F' (F3.did d4 fun hl => by omega) ⟨G3.old, fun b hb => Nat.lt_of_lt_of_le (G3.lt b hb) d4.fr.size⟩ (x3.fr d4.fr fun b hb y => c.nF I.yb (by omega) (by omega) (by have y : b = I.yb := y; rw [← y]; exact hb))⟩
    rw [d4.rd, ry3]; exact put_all _ _ (by rw [ints_length, hY]; rfl)
  · rw [if_neg (fun y => y.1 he)] at x3
    rw [if_neg (fun y => y he), if_neg (fun y => y he)] at hK
    exact ⟨ints Y, by rw [ints_length, hY], cellsAll ry3, e, rdc re3 rfl, hK h3 F' F3 G3 x3⟩
end Go.Proofs.YtcdpakjhjmchhaaGreatDoor.Bm
namespace Go.Proofs.YtcdpakjhjmchhaaGreatDoor.Bm
open Go Go.Proofs Go.Proofs.YtcdpakjhjmchhaaGreatDoor.Wx Go.Proofs.YtcdpakjhjmchhaaGreatDoor.Hp Go.Proofs.YtcdpakjhjmchhaaGreatDoor.W Go.Proofs.YtcdpakjhjmchhaaGreatDoor.Ad Go.Proofs.YtcdpakjhjmchhaaGreatDoor.Tm Go.Proofs.YtcdpakjhjmchhaaGreatDoor.Spc Go.Proofs.YtcdpakjhjmchhaaGreatDoor.Re Go.Proofs.YtcdpakjhjmchhaaGreatDoor.Av
open Go.Proofs.YtcdpakjhjmchhaaGreatDoor.Hd (ints wrap_u64)
open Go.Proofs.YtcdpakjhjmchhaaGreatDoor.In (Glo ints_length ints_one)
def tabV (pb xb : Nat) : Value := .func (.func 81) #[] ⟨[.pointer (some ⟨pb, 0, none⟩), .pointer (some ⟨xb, 0, none⟩)]⟩
theorem tab_drop {h : Heap} {F : Nat → Prop} {t d : Option Addr} {g : G} {R : List Int} {fb pb xb : Nat} {first : Int} (gl : Glo h) (ok : g.ok) (e : rd h fb = fileV t g R) (hf : ¬ F fb ∧ ¬ F pb ∧ ¬ F xb) (g0 : ∀ b, b < 1 → ¬ F b) (rp : rd h pb = [.pointer (some ⟨fb, 0, none⟩)]) (rx : rd h xb = [.int .i64 first])
    (h0 : 0 ≤ first) (h1 : first < 100000) (Flt : ∀ b, F b → b < h.size) : DropS (tabV pb xb) (tabD g first) h F t d 999999000 := by
  intro hh F' T i v K f gw x hu hi _ _ hK
  show C.bmap_Cut_c2 (i : Int) v (some ⟨pb, 0, none⟩) (some ⟨xb, 0, none⟩) hh K
  have fl : fb < h.size := rd_lt (o := 0) (by rw [e]; rfl)
  have pl : pb < h.size := rd_lt (o := 0) (by rw [rp]; rfl)
  have xl : xb < h.size := rd_lt (o := 0) (by rw [rx]; rfl)
  have gl1 := gl.lt
  have ef : rd hh fb = fileV t g R := (f.rd fl hf.1).trans e
  have hf' : ¬ F' fb := fun y => hf.1 ((gw.old _ fl).mp y)
  have g0' : ∀ b, b < 1 → ¬ F' b := fun b hb y => g0 b hb ((gw.old b (by omega)).mp y)
  have rp' := (f.rd pl hf.2.1).trans rp
  refine bmap_Cut_c2.ok (os ⟨_, rdc rp' rfl, os ⟨_, rdc ((f.rd xl hf.2.2).trans rx) rfl, os ⟨_, rdc rp' rfl, ?_⟩⟩⟩)
  rw [wrap_i64 (n := (i : Int) * 128) (by omega) (by omega), wrap_i64 (n := first - (i : Int) * 128) (by omega) (by omega), show first - (i : Int) * 128 = first - 128 * (i : Int) by omega]
  exact cut_spec (gl.fr f g0) x ok ef hf' g0' (leaf_drop ok ef hf') (leafD_un g) (by omega) (Nat.le_refl _) fun h' F2 f2 g2 x2 => ⟨_, _, rfl, hK h' F2 f2 g2 x2⟩
theorem cell3 {h : Heap} {b i j k : Nat} {xs : List Value} {v : Value} (e : rd h b = xs) (hv : xs[i + (j + k)]? = some v) : cellOf h (Addr.add (Addr.add (Addr.add ⟨b, 0, none⟩ i) j) k) = some v := by
  rw [add_mk, add_mk, add_mk, cellOf_rd, e, show 0 + i + j + k = i + (j + k) by omega]; exact hv
/-- what is left to be shown of a Cut that has come so far: E is what becomes of it -/
def Goal (h : Heap) (F : Nat → Prop) (t d : Option Addr) (T : TM) (K : Value → Heap → Prop) (E : (TM × List Int) × Int) : Prop :=
  ∀ h' F', Fr F h h' → Gw h F h' F' → Tx h' F' t d (if E.2 ≠ 0 then (E.1.1.back T.undo.length).1 else E.1.1) → K (.tuple #[.agg ⟨ints (if E.2 ≠ 0 then z15 else E.1.2)⟩, .int .i64 E.2]) h'
theorem cellsR {h : Heap} {fb : Nat} {t : Option Addr} {g : G} {R : List Int} (e : rd h fb = fileV t g R) : Cells h (Addr.add ⟨fb, 0, none⟩ 6) (ints R) := by
  refine cellsa e ?_
  show (ints R).take _ = _
  exact List.take_of_length_le (Nat.le_refl _)
section
variable {h : Heap} {F : Nat → Prop} {t d : Option Addr} {T : TM} {g : G} {I : Ids} {K : Value → Heap → Prop} {k : Int}
theorem tail2 (gl : Glo h) (ok : g.ok) (g0 : ∀ b, b < 1 → ¬ F b) (em : T.mark = ((T.undo.length : Int), 0)) (h0 : 0 ≤ k) (h1 : k ≤ 16522) {h3 h4 h11 h14 hh : Heap} {F' : Nat → Prop} {T' : TM} {R' : List Int} {u : Nat} (c : CX h F t d T g I hh F' T' R' u) (hu : u < 999900000)
    (e1 : h3.size = I.yb) (e2 : h4.size = I.eb) (e3 : h11.size = I.bk) (e4 : h14.size = I.pb) (hK : Goal h F t d T K (twoM g k T' R')) : bmap_Cut.k2 k h3 h4 h11 h14 hh K := by
  obtain ⟨a1, a2, a3, a4, a5, a6, a7, a8, a9⟩ := c.ok
  have lo := c.lo
  have hi := c.hi
  have gl1 := gl.lt
  have g0' : ∀ b, b < 1 → ¬ F' b := fun b hb y => g0 b hb ((c.gw.old b (by omega)).mp y)
  have glh : Glo hh := gl.fr c.fr g0
  unfold bmap_Cut.k2
  rw [e1, e2, e3, e4]
  -- nothing to cut
  have none_ : twoM g k T' R' = ((T', R'), 0) → ∃ cs, List.length cs = 15 ∧ Cells hh (Addr.add ⟨I.fb, 0, none⟩ 6) cs ∧ PutRow ⟨I.yb, 0, none⟩ cs 15 hh fun h1 => Put ⟨I.eb, 0, none⟩ (.int .i64 0) h1 fun h2 => D.bmap_Cut_c1 (some ⟨I.bk, 0, none⟩) (some ⟨I.eb, 0, none⟩) (some ⟨I.yb, 0, none⟩) h2 fun h3 =>
      ∃ res1 : List Value, List.length res1 = 15 ∧ Cells h3 ⟨I.yb, 0, none⟩ res1 ∧ ∃ (res2 : Int), cellOf h3 ⟨I.eb, 0, none⟩ = some (.int .i64 res2) ∧ K (.tuple #[.agg ⟨res1⟩, .int .i64 res2]) h3 := fun e => by
    rw [e] at hK
    exact ⟨ints R', by rw [ints_length, c.len], cellsR c.rf, c.fin (e := 0) (by omega) c.len em hK⟩
  refine cd (fun y => ⟨_, rdc c.rp rfl, os ⟨_, cell2 c.rf (fileV_get (i := 14) (by rw [c.len]; decide)), cn (fun y2 => ?_) fun y2 => ?_⟩⟩) fun y => ⟨_, rdc c.rp rfl, os (none_ ?_)⟩
  · have e0 : twoM g k T' R' = rootEnd 14 R' (cutT (tabD g (firstM k)) T' g (R'.getD 14 0) (firstM k / 128)) := by unfold twoM; rw [if_pos ⟨y, y2⟩]
    rw [e0] at hK
    rw [wrap_i64 (n := k - 138) (by omega) (by omega)]
    have ef : (if k - 138 > 0 then k - 138 else 0) = firstM k := rfl
    rw [ef]
    have fr0 : 0 ≤ firstM k ∧ firstM k < 100000 := by unfold firstM; split <;> omega
    refine New.intro fun h29 n29 => Put.intro n29.own (by rw [n29.rd]; decide) fun h30 d30 => ?_
    have z29 := n29.size
    have z30 := d30.size
    have F30 : Fr No hh h30 := n29.fr.did d30 fun hl => by omega
    have c30 := c.no F30
    have rx : rd h30 hh.size = [.int .i64 (firstM k)] := by rw [d30.rd, n29.rd]; rfl
    have nx : ¬ F' hh.size := fun y => by have := c.x.lt y; omega
    refine ⟨_, rdc c30.rp rfl, _, rdc c30.rp rfl, os ⟨_, cell2 c30.rf (fileV_get (i := 14) (by rw [c.len]; decide)), _, rdc rx rfl, ?_⟩⟩
    have ed : Int.tdiv (firstM k) 128 = firstM k / 128 := Int.tdiv_eq_ediv_of_nonneg fr0.1
    rw [ed, wrap_i64 (n := firstM k / 128) (by omega) (by omega)]
    have un := c.un
    have nfb := c.nF I.fb (by omega) (by omega)
    refine cut_spec (u := 129) (lim := 999999000) (glh.no F30) c30.x ok c30.rf nfb g0' (tab_drop (glh.no F30) ok c30.rf ⟨nfb, c.nF I.pb (by omega) (by omega), nx⟩ g0' c30.rp rx fr0.1 fr0.2 fun b hb => c30.x.lt hb) (tabD_un g (firstM k)) (by omega) (by decide) fun h31 F31 f31 g31 x31 => ⟨_, _, rfl, ?_⟩
    have hun := cutT_un (T := T') (g := g) (tab := R'.getD 14 0) (from_ := firstM k / 128) (tabD_un g (firstM k))
    generalize cutT (tabD g (firstM k)) T' g (R'.getD 14 0) (firstM k / 128) = C at hK x31 hun
    obtain ⟨T3, left, er⟩ := C
    simp only at x31 hun
    have c31 := c30.call f31 g31 x31 (u' := u + 20000) (by omega)
    unfold rootEnd at hK
    refine cn (fun he => ?_) fun he => cnot ?_
    · rw [if_pos he] at hK
      exact ⟨ints z15, rfl, cellsAll c31.ry, c31.fin (Y := z15) (e := er) (by omega) rfl em (by
        intro h' F2 f2 g2 x2
        have := hK h' F2 f2 g2
        simp only at this
        rw [if_pos he] at x2 this
        rw [if_pos he]
        rw [if_pos he] at this
        exact this x2)⟩
    · have he : er = 0 := he
      rw [if_neg (fun z => z he)] at hK
      cases left with
      | true =>
        exact ct rfl ⟨_, rdc c31.rp rfl, os ⟨ints R', by rw [ints_length, c.len], cellsR c31.rf, c31.fin (e := 0) (by omega) c.len em hK⟩⟩
      | false =>
        refine cf rfl ⟨_, rdc c31.rp rfl, os ?_⟩
        rw [add_mk, add_mk]
        refine Put.intro c31.of_ (by rw [c31.rf, fileV_len c.len]; decide) fun h35 d35 => ?_
        have d35 : Did I.fb h31 h35 (fileV t g (R'.set 14 0)) := by
          have := d35
          rw [c31.rf, show 0 + 6 + 14 = 6 + 14 by rfl, fileV_set] at this; exact this
        have c35 := c31.setR d35 (by rw [List.length_set]; exact c.len)
        exact ⟨_, rdc c35.rp rfl, os ⟨ints (R'.set 14 0), by rw [ints_length, c35.len], cellsR c35.rf, c35.fin (e := 0) (by omega) c35.len em hK⟩⟩
  · refine ⟨_, rdc c.rp rfl, os (none_ ?_)⟩
    unfold twoM; rw [if_neg (fun z => z.2 y2)]
  · unfold twoM; rw [if_neg (fun z => y z.1)]
end
theorem Cut_spec {h : Heap} {F : Nat → Prop} {t d : Option Addr} {T : TM} {g : G} {R : List Int} {k : Int} {K : Value → Heap → Prop} (gl : Glo h) (ok : g.ok) (x : Tx h F t d T) (live : T.over = false) (hR : R.length = 15) (g0 : ∀ b, b < 1 → ¬ F b) (hu : T.undo.length < 900000000)
    (hK : ∀ h' F', Fr F h h' → Gw h F h' F' → Tx h' F' t d (cutM T g R k).1 → K (.tuple #[.agg ⟨ints (cutM T g R k).2.1⟩, .int .i64 (cutM T g R k).2.2]) h') : C.bmap_Cut t g.v (ints R) k h K := by
  have Flt := fun y (hy : F y) => x.lt hy
  have gl1 := gl.lt
  refine bmap_Cut.ok (New.intro fun h2 n2 => New.intro fun h3 n3 => New.intro fun h4 n4 => New.intro fun h5 n5 => ?_)
  have z2 := n2.size
  have z3 := n3.size
  have z4 := n4.size
  have z5 := n5.size
  have F5 : Fr No h h5 := ((n2.fr.new n3).new n4).new n5
  have ry : rd h5 h3.size = ints z15 := (n5.at_ (by omega)).trans n4.rd
  have oy : Own h5 h3.size := n5.ow n4.own
  have re : rd h5 h4.size = [.int .i64 0] := n5.rd
  have oe' : Own h5 h4.size := n5.own
  by_cases hk : 0 ≤ k ∧ k ≤ 16522
  rotate_left
  · have e0 : cutM T g R k = (T, z15, 101) := by unfold cutM; rw [if_pos (by omega)]
    rw [e0] at hK
    have far : PutRow ⟨h3.size, 0, none⟩ (ints z15) 15 h5 fun h8 => Put ⟨h4.size, 0, none⟩ (.int .i64 101) h8 fun h10 =>
        ∃ res1 : List Value, List.length res1 = 15 ∧ Cells h10 ⟨h3.size, 0, none⟩ res1 ∧ ∃ (res2 : Int), cellOf h10 ⟨h4.size, 0, none⟩ = some (.int .i64 res2) ∧ K (.tuple #[.agg ⟨res1⟩, .int .i64 res2]) h10 := by
      refine PutRow.intro oy rfl z15_one (by rw [ry]; exact Nat.le_refl _) fun h8 d8 => Put.intro (d8.ow oe') (by rw [d8.at_ (by omega) (by omega), re]; decide) fun h10 d10 => ?_
      have z8 := d8.size
      have F10 : Fr No h h10 := (F5.did d8 fun hl => by omega).did d10 fun hl => by omega
      refine ⟨ints z15, rfl, cellsAll ?_, 101, rdc (xs := [.int .i64 101]) ?_ rfl, hK h10 F (F10.mono fun _ _ y => y.elim) (Gw.refl F10.size Flt) (x.no F10)⟩
      · rw [d10.at_ (by omega) (by omega), d8.rd, ry]; exact put_all _ _ rfl
      · rw [d10.rd, d8.at_ (by omega) (by omega), re]; rfl
    exact cd (fun _ => far) fun y => cd (fun _ => far) fun y2 => by exfalso; omega
  refine cd (fun y => by exfalso; omega) fun _ => cd (fun y => by exfalso; omega) fun _ => ?_
  have rg : rd h5 h.size = g.v := (n5.at_ (by omega)).trans ((n4.at_ (by omega)).trans ((n3.at_ (by omega)).trans n2.rd))
  have rx : rd h5 h2.size = ints R := (n5.at_ (by omega)).trans ((n4.at_ (by omega)).trans n3.rd)
  unfold bmap_Cut.k1
  refine guard_spec (x.no F5) fun ob tb mb h11 f11 b1 b2 b3 gd => ⟨_, _, _, rfl, New.intro fun h12 n12 => ?_⟩
  have z11 := f11.size
  have z12 := n12.size
  obtain ⟨gl1', gl2', gl3'⟩ := gd.lt
  refine Put.intro n12.own (by rw [n12.rd]; decide) fun h13 d13 => ?_
  have z13 := d13.size
  have q13 : ∀ b, b < h11.size → rd h13 b = rd h11 b := fun b hb => (d13.at_ (by omega) (by omega)).trans (n12.at_ hb)
  have q5 : ∀ b, b < h5.size → rd h11 b = rd h5 b := fun b hb => f11.rd hb fun y => y
  refine ⟨g.v, rfl, cellsAll ((q13 _ (by omega)).trans ((q5 _ (by omega)).trans rg)), ints R, by rw [ints_length, hR], cellsAll ((q13 _ (by omega)).trans ((q5 _ (by omega)).trans rx)), rfl, by rw [ints_length, hR], New.intro fun h14 n14 => New.intro fun h15 n15 => ?_⟩
  have z14 := n14.size
  have z15' := n15.size
  refine Put.intro n15.own (by rw [n15.rd]; decide) fun h16 d16 => ?_
  have z16 := d16.size
  have q16 : ∀ b, b < h13.size → rd h16 b = rd h13 b := fun b hb => (d16.at_ (by omega) (by omega)).trans ((n15.at_ (by omega)).trans (n14.at_ hb))
  have o16 : ∀ {b}, Own h5 b → Own h16 b := fun w => d16.ow (n15.ow (n14.ow (d13.ow (n12.ow (f11.own w.lt (fun y => y) w)))))
  have F13 : Fr No h h13 := ((F5.no f11).new n12).did d13 fun hl => by omega
  have F16 : Fr No h h16 := ((F13.new n14).new n15).did d16 fun hl => by omega
  have s5 := F5.size
  have em : T.mark = ((T.undo.length : Int), 0) := by unfold TM.mark; rw [live, if_neg (by simp)]
  have c16 : CX h F t d T g ⟨h3.size, h4.size, ob, tb, mb, h11.size, h13.size, h14.size⟩ h16 F T R T.undo.length := by
    refine ⟨⟨by show h3.size < h4.size; omega, by show h4.size < ob; omega, by show h4.size < tb; omega, by show h4.size < mb; omega, gl1', gl2', gl3', by show h11.size < h13.size; omega, by show h13.size < h14.size; omega⟩, by show h.size ≤ h3.size; omega, by show h14.size < h16.size; omega, F16.mono fun _ _ y => y.elim, Gw.refl F16.size Flt, x.no F16, Nat.le_refl _, hR,
      (q16 h3.size (by omega)).trans ((q13 _ (by omega)).trans ((q5 _ (by omega)).trans ry)), o16 oy, (q16 h4.size (by omega)).trans ((q13 _ (by omega)).trans ((q5 _ (by omega)).trans re)), o16 oe', (q16 h11.size (by omega)).trans (by rw [d13.rd, n12.rd]; rfl), (show rd h16 h14.size = _ by rw [d16.rd, n15.rd]; rfl),
      (d16.at_ (c := h13.size) (by omega) (by omega)).trans ((n15.at_ (by omega)).trans n14.rd), d16.ow (n15.ow n14.own), ⟨(q16 ob (by omega)).trans ((q13 _ gl1').trans gd.o), (q16 tb (by omega)).trans ((q13 _ gl2').trans gd.t), (q16 mb (by omega)).trans ((q13 _ gl3').trans gd.m)⟩, fun b hb _ y => ?_⟩
    have hb : h3.size ≤ b := hb
    have := Flt b y
    omega
  obtain ⟨I, j1, j2, j3, j4, j5, c16⟩ : ∃ I : Ids, h3.size = I.yb ∧ h4.size = I.eb ∧ h11.size = I.bk ∧ h14.size = I.pb ∧ h13.size = I.fb ∧ CX h F t d T g I h16 F T R T.undo.length := ⟨_, rfl, rfl, rfl, rfl, rfl, c16⟩
  have ec : cutM T g R k = if (cutS g k T R).2 ≠ 0 then (((cutS g k T R).1.1.back T.undo.length).1, z15, (cutS g k T R).2) else ((cutS g k T R).1.1, (cutS g k T R).1.2, 0) := by unfold cutM; rw [if_neg (by omega)]
  have hG : Goal h F t d T K (cutS g k T R) := by
    intro h' F2 f2 g2 x2
    have := hK h' F2 f2 g2
    rw [ec] at this
    by_cases he : (cutS g k T R).2 ≠ 0
    · rw [if_pos he] at x2 this ⊢
      exact this x2
    · have he' : (cutS g k T R).2 = 0 := Decidable.byContradiction he
      rw [if_neg he] at x2 this ⊢
      rw [he']
      exact this x2
  clear hK ec
  refine ⟨fun i hh => ∃ (F' : Nat → Prop) (T' : TM) (R' : List Int), CX h F t d T g I hh F' T' R' (T.undo.length + (i - k).toNat) ∧ k ≤ i ∧ (i ≤ 10 ∨ i = k) ∧ dirGo g (List.range' i.toNat (10 - i.toNat)) T' R' = dirGo g (dirsM k) T R, fun i _ => ((10 : Int) - i).toNat,
    ⟨F, T, R, by rw [Int.sub_self]; exact c16, Int.le_refl _, .inr rfl, rfl⟩, ?_⟩
  rintro i h17 ⟨F', T', R', c, i0, i1, ed⟩
  obtain ⟨a1, a2, a3, a4, a5, a6, a7, a8, a9⟩ := c.ok
  have lo := c.lo
  have hi := c.hi
  have un := c.un
  have g0' : ∀ b, b < 1 → ¬ F' b := fun b hb y => g0 b hb ((c.gw.old b (by omega)).mp y)
  have glh : Glo h17 := gl.fr c.fr g0
  rw [j1, j2, j3, j4]
  refine cd (fun hl => ?_) fun hl => ?_
  · have el : List.range' i.toNat (10 - i.toNat) = i.toNat :: List.range' (i + 1).toNat (10 - (i + 1).toNat) := by
      rw [show 10 - i.toNat = (10 - (i + 1).toNat) + 1 by omega, List.range'_succ, show (i + 1).toNat = i.toNat + 1 by omega]
    rw [el] at ed
    have ed : (if R'.getD (3 + i.toNat) 0 = 0 then dirGo g (List.range' (i + 1).toNat (10 - (i + 1).toNat)) T' R' else if (giveF T' g (R'.getD (3 + i.toNat) 0)).2 ≠ 0 then (((giveF T' g (R'.getD (3 + i.toNat) 0)).1, R'), (giveF T' g (R'.getD (3 + i.toNat) 0)).2) else
      dirGo g (List.range' (i + 1).toNat (10 - (i + 1).toNat)) (giveF T' g (R'.getD (3 + i.toNat) 0)).1 (R'.set (3 + i.toNat) 0)) = dirGo g (dirsM k) T R := ed
    have cell := fileV_get (t := t) (g := g) (R := R') (i := 3 + i.toNat) (by rw [c.len]; omega)
    have wr : IntKind.wrap .i64 (i + 1) = i + 1 := wrap_i64 (by omega) (by omega)
    rw [wr]
    refine ⟨_, rdc c.rp rfl, os ⟨⟨by omega, hl⟩, _, cell3 c.rf cell, cn (fun y => ?_) fun y => ?_⟩⟩
    · rw [if_neg y] at ed
      refine ⟨_, rdc c.rp rfl, _, rdc c.rp rfl, os ⟨⟨by omega, hl⟩, _, cell3 c.rf cell, give_spec c.x ok c.rf (by omega) fun h18 F8 f8 g8 x8 => ⟨_, rfl, ?_⟩⟩⟩
      have gu := giveF_un T' g (R'.getD (3 + i.toNat) 0)
      generalize giveF T' g (R'.getD (3 + i.toNat) 0) = W at ed x8 gu
      obtain ⟨T8, e8⟩ := W
      simp only at ed x8 gu
      have c8 := c.call f8 g8 x8 (u' := T.undo.length + (i + 1 - k).toNat) (by omega)
      refine cn (fun he => ?_) fun he => ?_
      · rw [if_pos he] at ed
        have es : cutS g k T R = ((T8, R'), e8) := by unfold cutS; rw [← ed, if_pos he]
        rw [es] at hG
        refine ⟨ints z15, rfl, cellsAll c8.ry, c8.fin (Y := z15) (e := e8) (by omega) rfl em ?_⟩
        intro h' F2 f2 g2 x2
        have := hG h' F2 f2 g2
        simp only at this
        rw [if_pos he] at x2
        rw [if_pos he, if_pos he] at this
        rw [if_pos he]
        exact this x2
      · rw [if_neg (fun z => z he)] at ed
        refine ⟨_, rdc c8.rp rfl, os ⟨⟨by omega, hl⟩, ?_⟩⟩
        rw [add_mk, add_mk, add_mk]
        refine Put.intro c8.of_ (by rw [c8.rf, fileV_len c8.len]; omega) fun h22 d22 => ?_
        have d22 : Did I.fb h18 h22 (fileV t g (R'.set (3 + i.toNat) 0)) := by
          have := d22
          rw [c8.rf, show 0 + 6 + 3 + i.toNat = 6 + (3 + i.toNat) by omega, fileV_set] at this; exact this
        exact ⟨⟨F8, T8, _, c8.setR d22 (by rw [List.length_set]; exact c8.len), by omega, by omega, ed⟩, by show ((10 : Int) - (i + 1)).toNat < ((10 : Int) - i).toNat; omega⟩
    · rw [if_pos y] at ed
      exact ⟨⟨F', T', R', ⟨c.ok, c.lo, c.hi, c.fr, c.gw, c.x, by omega, c.len, c.ry, c.oy, c.re, c.oe, c.rb, c.rp, c.rf, c.of_, c.gd, c.nF⟩, by omega, by omega, ed⟩, by show ((10 : Int) - (i + 1)).toNat < ((10 : Int) - i).toNat; omega⟩
  · have el : List.range' i.toNat (10 - i.toNat) = [] := by rw [show 10 - i.toNat = 0 by omega]; rfl
    rw [el] at ed
    have ed : ((T', R'), (0 : Int)) = dirGo g (dirsM k) T R := ed
    have ubd : (i - k).toNat ≤ 10 := by omega
    have es : cutS g k T R = if (oneM g k T' R').2 ≠ 0 then oneM g k T' R' else twoM g k (oneM g k T' R').1.1 (oneM g k T' R').1.2 := by unfold cutS; rw [← ed, if_neg (fun z => z rfl)]
    rw [es] at hG
    have skip : oneM g k T' R' = ((T', R'), 0) → bmap_Cut.k2 k h3 h4 h11 h14 h17 K := fun e => by
      rw [e, if_neg (fun z => z rfl)] at hG
      exact tail2 gl ok g0 em hk.1 hk.2 c (by omega) j1 j2 j3 j4 hG
    refine cd (fun y => ⟨_, rdc c.rp rfl, os ⟨_, cell2 c.rf (fileV_get (i := 13) (by rw [c.len]; decide)), cn (fun y2 => ?_) fun y2 => skip ?_⟩⟩) fun y => skip ?_
    · have e0 : oneM g k T' R' = rootEnd 13 R' (cutT (leafD g) T' g (R'.getD 13 0) (k - 10)) := by unfold oneM; rw [if_pos ⟨y, y2⟩]
      rw [e0] at hG
      have nfb := c.nF I.fb (by omega) (by omega)
      refine ⟨_, rdc c.rp rfl, _, rdc c.rp rfl, os ⟨_, cell2 c.rf (fileV_get (i := 13) (by rw [c.len]; decide)), _, rdc c.rp rfl, ?_⟩⟩
      rw [wrap_i64 (n := k - 10) (by omega) (by omega)]
      refine cut_spec (u := 1) (lim := 1000000000) glh c.x ok c.rf nfb g0' (leaf_drop ok c.rf nfb) (leafD_un g) (by omega) (Nat.le_refl _) fun h23 F3 f3 g3 x3 => ⟨_, _, rfl, ?_⟩
      have hun := cutT_un (T := T') (g := g) (tab := R'.getD 13 0) (from_ := k - 10) (leafD_un g)
      generalize cutT (leafD g) T' g (R'.getD 13 0) (k - 10) = C at hG x3 hun
      obtain ⟨T3, left, er⟩ := C
      simp only at x3 hun
      have c23 := c.call f3 g3 x3 (u' := T.undo.length + 1000) (by omega)
      unfold rootEnd at hG
      refine cn (fun he => ?_) fun he => cnot ?_
      · simp only at hG
        rw [if_pos he, if_pos he] at hG
        refine ⟨ints z15, rfl, cellsAll c23.ry, c23.fin (Y := z15) (e := er) (by omega) rfl em ?_⟩
        intro h' F2 f2 g2 x2
        have := hG h' F2 f2 g2
        simp only at this
        rw [if_pos he] at x2
        rw [if_pos he, if_pos he] at this
        rw [if_pos he]
        exact this x2
      · have he : er = 0 := he
        simp only at hG
        rw [if_neg (show ¬ (er ≠ 0) from fun z => z he), if_neg (fun z => z rfl)] at hG
        cases left with
        | true => exact ct rfl (tail2 gl ok g0 em hk.1 hk.2 c23 (by omega) j1 j2 j3 j4 hG)
        | false =>
          refine cf rfl ⟨_, rdc c23.rp rfl, os ?_⟩
          rw [add_mk, add_mk]
          refine Put.intro c23.of_ (by rw [c23.rf, fileV_len c23.len]; decide) fun h27 d27 => ?_
          have d27 : Did I.fb h23 h27 (fileV t g (R'.set 13 0)) := by
            have := d27
            rw [c23.rf, show 0 + 6 + 13 = 6 + 13 by rfl, fileV_set] at this; exact this
          exact tail2 gl ok g0 em hk.1 hk.2 (c23.setR d27 (by rw [List.length_set]; exact c23.len)) (by omega) j1 j2 j3 j4 hG
    · unfold oneM; rw [if_neg (fun z => z.2 y2)]
    · unfold oneM; rw [if_neg (fun z => y z.1)]
end Go.Proofs.YtcdpakjhjmchhaaGreatDoor.Bm
namespace Go.Proofs.YtcdpakjhjmchhaaGreatDoor.Bm
open Go Go.Proofs Go.Proofs.YtcdpakjhjmchhaaGreatDoor.Wx Go.Proofs.YtcdpakjhjmchhaaGreatDoor.Hp Go.Proofs.YtcdpakjhjmchhaaGreatDoor.W Go.Proofs.YtcdpakjhjmchhaaGreatDoor.Ad Go.Proofs.YtcdpakjhjmchhaaGreatDoor.Tm Go.Proofs.YtcdpakjhjmchhaaGreatDoor.Spc Go.Proofs.YtcdpakjhjmchhaaGreatDoor.Re Go.Proofs.YtcdpakjhjmchhaaGreatDoor.Av
open Go.Proofs.YtcdpakjhjmchhaaGreatDoor.Hd (ints wrap_u64)
open Go.Proofs.YtcdpakjhjmchhaaGreatDoor.In (Glo ints_length ints_one)
structure AllS where
  L : List (Int × Int)
  M : List Int
def AllS.n (S : AllS) : Nat := S.L.length + S.M.length
abbrev DoM := AllS → Nat → Int → AllS × Int
def ownA (g : G) (S : AllS) (k v : Int) : AllS × Int := if v = 0 then (S, 0) else (⟨S.L ++ [(k, v)], S.M⟩, lookM g v)
def eachGo (dO : DoM) : List Int → Nat → AllS → AllS × Int
  | [], _, S => (S, 0)
  | v :: r, i, S => if (dO S i v).2 ≠ 0 then dO S i v else eachGo dO r (i + 1) (dO S i v).1
def eachM (T : TM) (g : G) (dO : DoM) (tab : Int) (S : AllS) : AllS × Int :=
  if tab = 0 then (S, 0) else if lookM g tab ≠ 0 then (⟨S.L, S.M ++ [tab]⟩, lookM g tab) else if (T.read tab).2 ≠ 0 then (⟨S.L, S.M ++ [tab]⟩, (T.read tab).2) else
    eachGo dO (numsL (T.read tab).1) 0 ⟨S.L, S.M ++ [tab]⟩
def dirD (g : G) : DoM := fun S i v => ownA g S i v
def oneD (g : G) : DoM := fun S i v => ownA g S (10 + i) v
def inD (g : G) (i : Nat) : DoM := fun S j v => ownA g S (138 + (i : Int) * 128 + j) v
def twoD (T : TM) (g : G) : DoM := fun S i tab => eachM T g (inD g i) tab S
def allS (T : TM) (g : G) (R : List Int) : AllS × Int :=
  if (eachGo (dirD g) ((R.drop 3).take 10) 0 ⟨[], []⟩).2 ≠ 0 then eachGo (dirD g) ((R.drop 3).take 10) 0 ⟨[], []⟩ else
  if (eachM T g (oneD g) (R.getD 13 0) (eachGo (dirD g) ((R.drop 3).take 10) 0 ⟨[], []⟩).1).2 ≠ 0 then eachM T g (oneD g) (R.getD 13 0) (eachGo (dirD g) ((R.drop 3).take 10) 0 ⟨[], []⟩).1 else
    eachM T g (twoD T g) (R.getD 14 0) (eachM T g (oneD g) (R.getD 13 0) (eachGo (dirD g) ((R.drop 3).take 10) 0 ⟨[], []⟩).1).1
def allM (T : TM) (g : G) (R : List Int) : List (Int × Int) × List Int × Int := if (allS T g R).2 ≠ 0 then ([], [], (allS T g R).2) else ((allS T g R).1.L, (allS T g R).1.M, 0)
theorem ownA_n (g : G) (S : AllS) (k v : Int) : (ownA g S k v).1.n ≤ S.n + 1 := by
  unfold ownA
  split
  · exact Nat.le_add_right _ _
  · unfold AllS.n; rw [List.length_append]; show S.L.length + 1 + S.M.length ≤ _; omega
theorem eachGo_n {dO : DoM} {w : Nat} (hd : ∀ S i v, (dO S i v).1.n ≤ S.n + w) : ∀ (l : List Int) (i : Nat) (S : AllS), (eachGo dO l i S).1.n ≤ S.n + w * l.length
  | [], _, S => Nat.le_add_right _ _
  | v :: r, i, S => by
    rw [List.length_cons, Nat.mul_succ]
    have h1 := hd S i v
    unfold eachGo
    split
    · omega
    · have := eachGo_n hd r (i + 1) (dO S i v).1; omega
theorem eachM_n {T : TM} {g : G} {dO : DoM} {tab : Int} {S : AllS} {w : Nat} (hd : ∀ S i v, (dO S i v).1.n ≤ S.n + w) : (eachM T g dO tab S).1.n ≤ S.n + (w * 128 + 1) := by
  have e : (⟨S.L, S.M ++ [tab]⟩ : AllS).n = S.n + 1 := by unfold AllS.n; rw [List.length_append]; show S.L.length + (S.M.length + 1) = _; omega
  unfold eachM
  split
  · exact Nat.le_add_right _ _
  · split
    · show (⟨S.L, S.M ++ [tab]⟩ : AllS).n ≤ _; omega
    · split
      · show (⟨S.L, S.M ++ [tab]⟩ : AllS).n ≤ _; omega
      · have := eachGo_n hd (numsL (T.read tab).1) 0 ⟨S.L, S.M ++ [tab]⟩
        rw [numsL_len] at this; omega
def pcellA (p : Int × Int) : List Value := [.int .i64 p.1, .int .i64 p.2]
structure AIds where
  fb : Nat
  fp : Nat
  bc : Nat
  tc : Nat
  oc : Nat
  ec : Nat
def ownV (I : AIds) : Value := .func (.func 83) #[] ⟨[.pointer (some ⟨I.bc, 0, none⟩), .pointer (some ⟨I.fp, 0, none⟩)]⟩
def eachV (I : AIds) : Value := .func (.func 85) #[] ⟨[.pointer (some ⟨I.fp, 0, none⟩), .pointer (some ⟨I.tc, 0, none⟩)]⟩
structure AH (F : Nat → Prop) (t d : Option Addr) (T : TM) (g : G) (R : List Int) (I : AIds) (hh : Heap) (Q : Nat → Prop) (S : AllS) : Prop where
  gl : Glo hh
  x : Tx hh F t d T
  rf : rd hh I.fb = fileV t g R
  rp : rd hh I.fp = [.pointer (some ⟨I.fb, 0, none⟩)]
  ro : rd hh I.oc = [ownV I]
  re : rd hh I.ec = [eachV I]
  ob : Own hh I.bc
  ot : Own hh I.tc
  ne : I.bc ≠ I.tc
  rows : ∃ P1 P2 a1 c1 a2 c2, rd hh I.bc = [.slice a1 S.L.length c1] ∧ rd hh I.tc = [.slice a2 S.M.length c2] ∧ Sl hh 2 a1 S.L.length c1 (S.L.flatMap pcellA) P1 ∧ Sl hh 1 a2 S.M.length c2 (S.M.map (.int .i64)) P2 ∧ (∀ b, P1 b → b ≠ I.bc ∧ b ≠ I.tc ∧ ¬ P2 b) ∧ (∀ b, P2 b → b ≠ I.bc ∧ b ≠ I.tc) ∧ ∀ b, Q b ↔ b = I.bc ∨ b = I.tc ∨ P1 b ∨ P2 b
  lt : ∀ b, Q b → b < hh.size
  nQ : ∀ b, Q b → ¬ F b ∧ b ≠ I.fb ∧ b ≠ I.fp ∧ b ≠ I.oc ∧ b ≠ I.ec ∧ 1 ≤ b
theorem AH.no {F : Nat → Prop} {t d : Option Addr} {T : TM} {g : G} {R : List Int} {I : AIds} {hh h' : Heap} {Q : Nat → Prop} {S : AllS} (a : AH F t d T g R I hh Q S) (f : Fr No hh h') : AH F t d T g R I h' Q S := by
  obtain ⟨P1, P2, a1, c1, a2, c2, r1, r2, s1, s2, k1, k2, k3⟩ := a.rows
  have q : ∀ {b xs v}, rd hh b = v :: xs → rd h' b = v :: xs := fun e => (f.rd (rd_lt (o := 0) (by rw [e]; rfl)) fun y => y).trans e
  exact ⟨a.gl.no f, a.x.no f, q a.rf, q a.rp, q a.ro, q a.re, f.own a.ob.lt (fun y => y) a.ob, f.own a.ot.lt (fun y => y) a.ot, a.ne, ⟨P1, P2, a1, c1, a2, c2, q r1, q r2, s1.fr f (fun _ _ _ y => y), s2.fr f (fun _ _ _ y => y), k1, k2, k3⟩, fun b hb => Nat.lt_of_lt_of_le (a.lt b hb) f.size, a.nQ⟩
/-- a closure that does a number, as dO says -/
def DoS (dv : Value) (dO : DoM) (h0 : Heap) (Q0 : Nat → Prop) (F : Nat → Prop) (t d : Option Addr) (T : TM) (g : G) (R : List Int) (I : AIds) (lim : Nat) : Prop :=
  ∀ (hh : Heap) (Q : Nat → Prop) (S : AllS) (i : Nat) (v : Int) (K : Value → Heap → Prop), Fr Q0 h0 hh → Gw h0 Q0 hh Q → AH F t d T g R I hh Q S → S.n < lim → i < 128 → -9223372036854775808 ≤ v → v ≤ 9223372036854775807 →
    (∀ h' Q', Fr Q hh h' → Gw hh Q h' Q' → AH F t d T g R I h' Q' (dO S i v).1 → K (.int .i64 (dO S i v).2) h') → HCallsV Tryz.prog dv [.int .i64 (i : Int), .int .i64 v] hh K
theorem own_spec' {F : Nat → Prop} {t d : Option Addr} {T : TM} {g : G} {R : List Int} {I : AIds} {hh : Heap} {Q : Nat → Prop} {S : AllS} {k v : Int} {K : Value → Heap → Prop} (a : AH F t d T g R I hh Q S) (hn : S.n < 1000000)
    (hK : ∀ h' Q', Fr Q hh h' → Gw hh Q h' Q' → AH F t d T g R I h' Q' (ownA g S k v).1 → K (.int .i64 (ownA g S k v).2) h') : HCallsV Tryz.prog (ownV I) [.int .i64 k, .int .i64 v] hh K := by
  show C.bmap_All_c1 k v (some ⟨I.bc, 0, none⟩) (some ⟨I.fp, 0, none⟩) hh K
  obtain ⟨P1, P2, a1, c1, a2, c2, r1, r2, s1, s2, k1, k2, k3⟩ := a.rows
  refine bmap_All_c1.ok (ce (fun y => ?_) fun y => os ⟨_, _, _, rdc r1 rfl, rfl, New.intro fun h2 n2 => ⟨pcellA (k, v), rfl, cellsAll n2.rd, one2 rfl rfl, ?_⟩⟩)
  · have e0 : ownA g S k v = (S, 0) := by unfold ownA; rw [if_pos y]
    rw [e0] at hK
    exact hK hh Q (Fr.refl _ _) (Gw.refl (Nat.le_refl _) a.lt) a
  have e0 : ownA g S k v = (⟨S.L ++ [(k, v)], S.M⟩, lookM g v) := by unfold ownA; rw [if_neg y]
  rw [e0] at hK
  have z2 := n2.size
  have hSn : S.L.length ≤ S.n := Nat.le_add_right _ _
  refine append_own (elem := ti56) ((sl_rngB s1).fr n2.fr fun _ _ _ y => y) rfl rfl (by show (_ + 1) * 16 ≤ _; omega) (by omega) fun a' c' h3 f3 s3 => ?_
  have z3 := f3.size
  have lb := a.ob.lt
  have ltc := a.ot.lt
  have q3 : ∀ b, b < hh.size → ¬ P1 b → rd h3 b = rd hh b := fun b hb hp => (f3.rd (by omega) fun y => hp y.1).trans (n2.at_ hb)
  have w3 : ∀ b, ¬ P1 b → Own hh b → Own h3 b := fun b hp o => f3.own (by have := o.lt; omega) (fun y => hp y.1) (n2.ow o)
  have nb : ¬ P1 I.bc := fun y => (k1 _ y).1 rfl
  have nt : ¬ P1 I.tc := fun y => (k1 _ y).2.1 rfl
  have r3 : rd h3 I.bc = _ := (q3 _ lb nb).trans r1
  refine os (Put.intro (w3 _ nb a.ob) (by rw [r3]; exact Nat.zero_lt_one) fun h4 d4 => ?_)
  have z4 := d4.size
  have nid : ∀ b, (b = I.fb ∨ b = I.fp ∨ b = I.oc ∨ b = I.ec ∨ b < 1 ∨ F b) → ¬ Q b := fun b hb y => by
    have n := a.nQ b y
    rcases hb with h | h | h | h | h | h
    · exact n.2.1 h
    · exact n.2.2.1 h
    · exact n.2.2.2.1 h
    · exact n.2.2.2.2.1 h
    · omega
    · exact n.1 h
  have F4 : Fr Q hh h4 := (((n2.fr.mono fun _ _ y => y.elim).trans f3 fun b _ y => (k3 b).mpr (.inr (.inr (.inl y.1)))).did d4 fun _ => (k3 _).mpr (.inl rfl))
  have idl : ∀ {b v}, rd hh b = [v] → (b = I.fb ∨ b = I.fp ∨ b = I.oc ∨ b = I.ec ∨ b < 1 ∨ F b) → rd h4 b = [v] := fun e hb => (F4.rd (rd_lt (o := 0) (by rw [e]; rfl)) (nid _ hb)).trans e
  have rf4 : rd h4 I.fb = fileV t g R := (F4.rd (rd_lt (o := 0) (by rw [a.rf]; rfl)) (nid _ (.inl rfl))).trans a.rf
  have rp4 := idl a.rp (.inr (.inl rfl))
  refine os ⟨_, rdc rp4 rfl, look_spec rf4 ⟨_, rfl, ?_⟩⟩
  have s3' := (sl_rngB s3).fr d4.fr fun b hb y e => by
    have e : b = I.bc := e
    have y := y.1
    rcases y with y | y
    · exact nb (e ▸ y.1)
    · rw [e] at y; omega
  have s24 : Sl h4 1 a2 S.M.length c2 (S.M.map (.int .i64)) (fun b => P2 b ∧ b < hh.size) := (((sl_rngB s2).fr n2.fr fun _ _ _ y => y).fr f3 fun b _ y z => (k1 b z.1).2.2 y.1).fr d4.fr fun b _ y e => (k2 b y.1).1 e
  have rt4 : rd h4 I.tc = [.slice a2 S.M.length c2] := (d4.at_ (by omega) a.ne.symm).trans ((q3 _ ltc nt).trans r2)
  refine hK h4 (fun b => b = I.bc ∨ b = I.tc ∨ ((P1 b ∧ b < hh.size ∨ h2.size ≤ b) ∧ b < h3.size) ∨ (P2 b ∧ b < hh.size)) F4 ⟨fun b hb => ?_, fun b hb => ?_⟩ ⟨a.gl.fr F4 (fun b hb => nid b (by omega)), a.x.fr F4 (fun b hb => nid b (by simp [hb])), rf4, rp4, idl a.ro (by simp), idl a.re (by simp), d4.own, d4.ow (w3 _ nt a.ot), a.ne,
    ⟨_, _, a', c', a2, c2, ?_, rt4, ?_, s24, fun b hb => ?_, fun b hb => k2 b hb.1, fun b => Iff.rfl⟩, fun b hb => ?_, fun b hb => ?_⟩
  · show _ ↔ Q b
    rw [k3 b]
    constructor
    · rintro (y | y | y | y)
      · exact .inl y
      · exact .inr (.inl y)
      · rcases y.1 with z | z
        · exact .inr (.inr (.inl z.1))
        · omega
      · exact .inr (.inr (.inr y.1))
    · rintro (y | y | y | y)
      · exact .inl y
      · exact .inr (.inl y)
      · exact .inr (.inr (.inl ⟨.inl ⟨y, hb⟩, by omega⟩))
      · exact .inr (.inr (.inr ⟨y, hb⟩))
  · rcases hb with y | y | y | y <;> omega
  · show rd h4 I.bc = [.slice a' (S.L ++ [(k, v)]).length c']
    rw [d4.rd, r3, List.length_append]; rfl
  · show Sl h4 2 a' (S.L ++ [(k, v)]).length c' ((S.L ++ [(k, v)]).flatMap pcellA) _
    rw [List.length_append, List.flatMap_append]
    exact s3'
  · rcases hb with ⟨y | y, z⟩
    · have := k1 b y.1
      exact ⟨this.1, this.2.1, fun w => this.2.2 w.1⟩
    · exact ⟨by omega, by omega, fun w => by omega⟩
  · rcases hb with y | y | y | y <;> omega
  · have new : h2.size ≤ b → ¬ F b ∧ b ≠ I.fb ∧ b ≠ I.fp ∧ b ≠ I.oc ∧ b ≠ I.ec ∧ 1 ≤ b := fun hl => by
      have l1 : I.fb < hh.size := rd_lt (o := 0) (by rw [a.rf]; rfl)
      have l2 : I.fp < hh.size := rd_lt (o := 0) (by rw [a.rp]; rfl)
      have l3 : I.oc < hh.size := rd_lt (o := 0) (by rw [a.ro]; rfl)
      have l4 : I.ec < hh.size := rd_lt (o := 0) (by rw [a.re]; rfl)
      exact ⟨fun y => by have := a.x.lt y; omega, by omega, by omega, by omega, by omega, by omega⟩
    rcases hb with y | y | y | y
    · exact a.nQ b ((k3 b).mpr (.inl y))
    · exact a.nQ b ((k3 b).mpr (.inr (.inl y)))
    · rcases y.1 with z | z
      · exact a.nQ b ((k3 b).mpr (.inr (.inr (.inl z.1))))
      · exact new z
    · exact a.nQ b ((k3 b).mpr (.inr (.inr (.inr y.1))))
end Go.Proofs.YtcdpakjhjmchhaaGreatDoor.Bm
namespace Go.Proofs.YtcdpakjhjmchhaaGreatDoor.Bm
open Go Go.Proofs Go.Proofs.YtcdpakjhjmchhaaGreatDoor.Wx Go.Proofs.YtcdpakjhjmchhaaGreatDoor.Hp Go.Proofs.YtcdpakjhjmchhaaGreatDoor.W Go.Proofs.YtcdpakjhjmchhaaGreatDoor.Ad Go.Proofs.YtcdpakjhjmchhaaGreatDoor.Tm Go.Proofs.YtcdpakjhjmchhaaGreatDoor.Spc Go.Proofs.YtcdpakjhjmchhaaGreatDoor.Re Go.Proofs.YtcdpakjhjmchhaaGreatDoor.Av
open Go.Proofs.YtcdpakjhjmchhaaGreatDoor.Hd (ints wrap_u64)
open Go.Proofs.YtcdpakjhjmchhaaGreatDoor.In (Glo ints_length ints_one)
theorem AH.pushM {F : Nat → Prop} {t d : Option Addr} {T : TM} {g : G} {R : List Int} {I : AIds} {hh : Heap} {Q : Nat → Prop} {S : AllS} {tab : Int} {X : Heap → Prop} (a : AH F t d T g R I hh Q S) (hn : S.n < 1000000)
    (hX : ∀ h' Q', Fr Q hh h' → Gw hh Q h' Q' → AH F t d T g R I h' Q' ⟨S.L, S.M ++ [tab]⟩ → X h') :
    ∃ (sA3 : Option Addr) (sL3 : Nat) (sC3 : Nat), cellOf hh ⟨I.tc, 0, none⟩ = some (.slice sA3 sL3 sC3) ∧ New [.int .i64 tab] 3 hh fun h3 =>
      ∃ new1 : List Value, List.length new1 = 1 * 1 ∧ SlCells h3 (some ⟨hh.size, 0, none⟩) new1 ∧ (∀ v ∈ new1, v.oneCell' = true) ∧ AppendP ti3 3 sA3 sL3 sC3 1 new1 h3 fun sA4 sL4 sC4 h4 => onSome (some (⟨I.tc, 0, none⟩ : Addr)) fun p3 => Put p3 (.slice sA4 sL4 sC4) h4 fun h5 => X h5 := by
  obtain ⟨P1, P2, a1, c1, a2, c2, r1, r2, s1, s2, k1, k2, k3⟩ := a.rows
  refine ⟨_, _, _, rdc r2 rfl, New.intro fun h2 n2 => ⟨[.int .i64 tab], rfl, cellsAll n2.rd, (fun v hv => by rw [List.mem_singleton.mp hv]; rfl), ?_⟩⟩
  have z2 := n2.size
  have hSn : S.M.length ≤ S.n := Nat.le_add_left _ _
  refine append_own (elem := ti3) ((sl_rngB s2).fr n2.fr fun _ _ _ y => y) rfl rfl (by show (_ + 1) * 8 ≤ _; omega) (by omega) fun a' c' h3 f3 s3 => ?_
  have z3 := f3.size
  have lb := a.ob.lt
  have ltc := a.ot.lt
  have q3 : ∀ b, b < hh.size → ¬ P2 b → rd h3 b = rd hh b := fun b hb hp => (f3.rd (by omega) fun y => hp y.1).trans (n2.at_ hb)
  have w3 : ∀ b, ¬ P2 b → Own hh b → Own h3 b := fun b hp o => f3.own (by have := o.lt; omega) (fun y => hp y.1) (n2.ow o)
  have nb : ¬ P2 I.bc := fun y => (k2 _ y).1 rfl
  have nt : ¬ P2 I.tc := fun y => (k2 _ y).2 rfl
  have r3 : rd h3 I.tc = _ := (q3 _ ltc nt).trans r2
  refine os (Put.intro (w3 _ nt a.ot) (by rw [r3]; exact Nat.zero_lt_one) fun h4 d4 => ?_)
  have z4 := d4.size
  have nid : ∀ b, (b = I.fb ∨ b = I.fp ∨ b = I.oc ∨ b = I.ec ∨ b < 1 ∨ F b) → ¬ Q b := fun b hb y => by
    have n := a.nQ b y
    rcases hb with h | h | h | h | h | h
    · exact n.2.1 h
    · exact n.2.2.1 h
    · exact n.2.2.2.1 h
    · exact n.2.2.2.2.1 h
    · omega
    · exact n.1 h
  have F4 : Fr Q hh h4 := (((n2.fr.mono fun _ _ y => y.elim).trans f3 fun b _ y => (k3 b).mpr (.inr (.inr (.inr y.1)))).did d4 fun _ => (k3 _).mpr (.inr (.inl rfl)))
  have idl : ∀ {b v}, rd hh b = [v] → (b = I.fb ∨ b = I.fp ∨ b = I.oc ∨ b = I.ec ∨ b < 1 ∨ F b) → rd h4 b = [v] := fun e hb => (F4.rd (rd_lt (o := 0) (by rw [e]; rfl)) (nid _ hb)).trans e
  have rf4 : rd h4 I.fb = fileV t g R := (F4.rd (rd_lt (o := 0) (by rw [a.rf]; rfl)) (nid _ (.inl rfl))).trans a.rf
  have rp4 := idl a.rp (.inr (.inl rfl))
  have s3' := (sl_rngB s3).fr d4.fr fun b hb y e => by
    have e : b = I.tc := e
    have y := y.1
    rcases y with y | y
    · exact nt (e ▸ y.1)
    · rw [e] at y; omega
  have s14 : Sl h4 2 a1 S.L.length c1 (S.L.flatMap pcellA) (fun b => P1 b ∧ b < hh.size) := (((sl_rngB s1).fr n2.fr fun _ _ _ y => y).fr f3 fun b _ y z => (k1 b y.1).2.2 z.1).fr d4.fr fun b _ y e => (k1 b y.1).2.1 e
  have rb4 : rd h4 I.bc = [.slice a1 S.L.length c1] := (d4.at_ (by omega) a.ne).trans ((q3 _ lb nb).trans r1)
  refine hX h4 (fun b => b = I.bc ∨ b = I.tc ∨ (P1 b ∧ b < hh.size) ∨ ((P2 b ∧ b < hh.size ∨ h2.size ≤ b) ∧ b < h3.size)) F4 ⟨fun b hb => ?_, fun b hb => ?_⟩ ⟨a.gl.fr F4 (fun b hb => nid b (by omega)), a.x.fr F4 (fun b hb => nid b (by simp [hb])), rf4, rp4, idl a.ro (by simp), idl a.re (by simp), d4.ow (w3 _ nb a.ob), d4.own, a.ne,
    ⟨_, _, a1, c1, a', c', rb4, ?_, s14, ?_, fun b hb => ?_, fun b hb => ?_, fun b => Iff.rfl⟩, fun b hb => ?_, fun b hb => ?_⟩
  · show _ ↔ Q b
    rw [k3 b]
    constructor
    · rintro (y | y | y | y)
      · exact .inl y
      · exact .inr (.inl y)
      · exact .inr (.inr (.inl y.1))
      · rcases y.1 with z | z
        · exact .inr (.inr (.inr z.1))
        · omega
    · rintro (y | y | y | y)
      · exact .inl y
      · exact .inr (.inl y)
      · exact .inr (.inr (.inl ⟨y, hb⟩))
      · exact .inr (.inr (.inr ⟨.inl ⟨y, hb⟩, by omega⟩))
  · rcases hb with y | y | y | y <;> omega
  · show rd h4 I.tc = [.slice a' (S.M ++ [tab]).length c']
    rw [d4.rd, r3, List.length_append]; rfl
  · show Sl h4 1 a' (S.M ++ [tab]).length c' ((S.M ++ [tab]).map (.int .i64)) _
    rw [List.length_append, List.map_append]
    exact s3'
  · have := k1 b hb.1
    refine ⟨this.1, this.2.1, fun w => ?_⟩
    rcases w with ⟨y | y, z⟩
    · exact this.2.2 y.1
    · have := hb.2; omega
  · rcases hb with ⟨y | y, z⟩
    · exact k2 b y.1
    · exact ⟨by omega, by omega⟩
  · rcases hb with y | y | y | y <;> omega
  · have new : h2.size ≤ b → ¬ F b ∧ b ≠ I.fb ∧ b ≠ I.fp ∧ b ≠ I.oc ∧ b ≠ I.ec ∧ 1 ≤ b := fun hl => by
      have l1 : I.fb < hh.size := rd_lt (o := 0) (by rw [a.rf]; rfl)
      have l2 : I.fp < hh.size := rd_lt (o := 0) (by rw [a.rp]; rfl)
      have l3 : I.oc < hh.size := rd_lt (o := 0) (by rw [a.ro]; rfl)
      have l4 : I.ec < hh.size := rd_lt (o := 0) (by rw [a.re]; rfl)
      exact ⟨fun y => by have := a.x.lt y; omega, by omega, by omega, by omega, by omega, by omega⟩
    rcases hb with y | y | y | y
    · exact a.nQ b ((k3 b).mpr (.inl y))
    · exact a.nQ b ((k3 b).mpr (.inr (.inl y)))
    · exact a.nQ b ((k3 b).mpr (.inr (.inr (.inl y.1))))
    · rcases y.1 with z | z
      · exact a.nQ b ((k3 b).mpr (.inr (.inr (.inr z.1))))
      · exact new z
theorem eachGo_cons (dO : DoM) (v : Int) (r : List Int) (i : Nat) (S : AllS) : eachGo dO (v :: r) i S = if (dO S i v).2 ≠ 0 then dO S i v else eachGo dO r (i + 1) (dO S i v).1 := rfl
theorem each_spec {F : Nat → Prop} {t d : Option Addr} {T : TM} {g : G} {R : List Int} {I : AIds} {hh : Heap} {Q : Nat → Prop} {S : AllS} {tab : Int} {dv : Value} {dO : DoM} {w lim : Nat} {K : Value → Heap → Prop} (a : AH F t d T g R I hh Q S) (D : DoS dv dO hh Q F t d T g R I lim) (hd : ∀ S i v, (dO S i v).1.n ≤ S.n + w) (hn : S.n + (w * 128 + 2) < lim) (hlim : lim ≤ 1000000)
    (hK : ∀ h' Q', Fr Q hh h' → Gw hh Q h' Q' → AH F t d T g R I h' Q' (eachM T g dO tab S).1 → K (.int .i64 (eachM T g dO tab S).2) h') : HCallsV Tryz.prog (eachV I) [.int .i64 tab, dv] hh K := by
  show C.bmap_All_c2 tab dv (some ⟨I.fp, 0, none⟩) (some ⟨I.tc, 0, none⟩) hh K
  refine bmap_All_c2.ok (ce (fun y => ?_) fun y => os ⟨_, rdc a.rp rfl, numbers_spec a.gl a.x a.rf (fun he h2 f2 => ⟨_, _, _, _, _, _, _, rfl, os ?_⟩) fun y1 y2 hlen sa sc lb h2 f2 hlb s2 r2 o2 => ⟨_, _, _, _, _, _, _, rfl, os ?_⟩⟩)
  · have e0 : eachM T g dO tab S = (S, 0) := by unfold eachM; rw [if_pos y]
    rw [e0] at hK
    exact hK hh Q (Fr.refl _ _) (Gw.refl (Nat.le_refl _) a.lt) a
  · have z2 := f2.size
    refine (a.no f2).pushM (by omega) fun h5 Q5 f5 g5 a5 => ?_
    have F5 : Fr Q hh h5 := (f2.mono fun _ _ y => y.elim).trans f5 fun _ _ y => y
    have G5 : Gw hh Q h5 Q5 := (Gw.refl z2 a.lt).trans g5 z2
    have hK := hK h5 Q5 F5 G5
    have e0 : eachM T g dO tab S = (⟨S.L, S.M ++ [tab]⟩, if lookM g tab ≠ 0 then lookM g tab else (T.read tab).2) := by
      unfold eachM
      rw [if_neg y]
      by_cases h1 : lookM g tab ≠ 0
      · rw [if_pos h1, if_pos h1]
      · rw [if_neg h1, if_neg h1, if_pos (he.resolve_left h1)]
    rw [e0] at hK
    refine ⟨fun e i h6 => e = (if lookM g tab ≠ 0 then lookM g tab else (T.read tab).2) ∧ i = 0 ∧ h6 = h5, fun _ _ _ => 0, ⟨rfl, rfl, rfl⟩, ?_⟩
    rintro e i h6 ⟨rfl, rfl, rfl⟩
    exact cd (fun z => absurd z (by decide)) fun _ => hK a5
  · have z2 := f2.size
    refine (a.no f2).pushM (by omega) fun h5 Q5 f5 g5 a5 => ?_
    have F5 : Fr Q hh h5 := (f2.mono fun _ _ y => y.elim).trans f5 fun _ _ y => y
    have G5 : Gw hh Q h5 Q5 := (Gw.refl z2 a.lt).trans g5 z2
    have z5 := f5.size
    have e0 : eachM T g dO tab S = eachGo dO (numsL (T.read tab).1) 0 ⟨S.L, S.M ++ [tab]⟩ := by unfold eachM; rw [if_neg y, if_neg (fun z => z y1), if_neg (fun z => z y2)]
    rw [e0] at hK
    have nl := numsL_len (T.read tab).1
    have nlt : ∀ j (hj : j < (numsL (T.read tab).1).length), 0 ≤ (numsL (T.read tab).1)[j] ∧ (numsL (T.read tab).1)[j] < 4294967296 := fun j hj => by
      rw [numsL_get hj]
      have := num4_lt (T.read tab).1 j
      omega
    generalize numsL (T.read tab).1 = ns at hK r2 nl nlt
    have lbl : lb < h2.size := o2.lt
    have nlb : ¬ Q lb := fun y => by have := a.lt lb y; omega
    have r5 : rd h5 lb = ints ns := (f5.rd lbl nlb).trans r2
    have n5 : (⟨S.L, S.M ++ [tab]⟩ : AllS).n = S.n + 1 := by unfold AllS.n; rw [List.length_append]; show S.L.length + (S.M.length + 1) = _; omega
    refine ⟨fun e i h6 => ∃ (j : Nat) (Q6 : Nat → Prop) (S6 : AllS), i = j ∧ j ≤ 128 ∧ Fr Q hh h6 ∧ Gw h2 Q h6 Q6 ∧ h2.size ≤ h6.size ∧ AH F t d T g R I h6 Q6 S6 ∧ rd h6 lb = ints ns ∧ S6.n ≤ S.n + 1 + w * j ∧
        ((e = 0 ∧ eachGo dO (ns.drop j) j S6 = eachGo dO ns 0 ⟨S.L, S.M ++ [tab]⟩) ∨ (e ≠ 0 ∧ (S6, e) = eachGo dO ns 0 ⟨S.L, S.M ++ [tab]⟩)), fun _ i _ => ((128 : Int) - i).toNat,
      ⟨0, Q5, _, rfl, by decide, F5, g5, z5, a5, r5, by rw [n5]; exact Nat.le_refl _, .inl ⟨rfl, by rw [List.drop_zero]⟩⟩, ?_⟩
    intro e i h6 hI
    obtain ⟨j, Q6, S6, ei, hj, f6, g6, zz, a6, r6, u6, hE⟩ := hI
    have G6 : Gw hh Q h6 Q6 := (Gw.refl z2 a.lt).trans g6 z2
    have fin : (S6, e) = eachGo dO ns 0 ⟨S.L, S.M ++ [tab]⟩ → K (.int .i64 e) h6 := fun ee => by rw [← ee] at hK; exact hK h6 Q6 f6 G6 a6
    refine cd (fun hl => ce (fun h0 => ?_) fun h0 => fin ?_) fun hl => fin ?_
    · subst ei
      have ew := (hE.resolve_right (fun z => z.1 h0)).2
      have hj' : j < ns.length := by omega
      have hjn : j < 128 := by omega
      rw [drop_cons hj', eachGo_cons] at ew
      have nj := nlt j hj'
      have cv : cellOf h6 (Addr.add ⟨lb, 0, none⟩ j) = some (.int .i64 (ns[j]'hj')) := rda r6 (by rw [Nat.zero_add, ints, List.getElem?_map, List.getElem?_eq_getElem hj']; rfl)
      have wr : IntKind.wrap .i64 ((j : Int) + 1) = ((j + 1 : Nat) : Int) := by rw [wrap_i64 (by omega) (by omega)]; omega
      have hju : w * j ≤ w * 128 := Nat.mul_le_mul_left _ hj
      have hm : w * (j + 1) = w * j + w := Nat.mul_succ w j
      unfold bmap_All_c2.k1
      rw [Int.toNat_natCast, wr]
      refine ⟨⟨by omega, hl⟩, os ⟨_, cv, D h6 Q6 S6 j (ns[j]'hj') _ f6 G6 a6 (by omega) hjn (by omega) (by omega) fun h7 Q7 f7 g7 a7 => ⟨_, rfl, ⟨j + 1, Q7, _, rfl, hjn, f6.trans f7 fun c hc y => (G6.old c hc).mp y, g6.trans g7 zz, by have := f7.size; omega, a7, (f7.rd (by omega) fun y => nlb ((g6.old lb lbl).mp y)).trans r6, ?_, ?_⟩, by show ((128 : Int) - ((j + 1 : Nat) : Int)).toNat < ((128 : Int) - (j : Int)).toNat; omega⟩⟩⟩
      · have := hd S6 j (ns[j]'hj'); omega
      · by_cases he : (dO S6 j (ns[j]'hj')).2 = 0
        · rw [if_neg (fun z => z he)] at ew
          exact .inl ⟨he, ew⟩
        · rw [if_pos he] at ew
          exact .inr ⟨he, ew⟩
    · exact (hE.resolve_left (fun z => h0 z.1)).2
    · rcases hE with ⟨h0, ew⟩ | ⟨_, ew⟩
      · have ej : j = 128 := by omega
        have ed : ns.drop j = [] := List.drop_eq_nil_of_le (by omega)
        rw [ed] at ew
        rw [h0]; exact ew
      · exact ew
def oneV (I : AIds) : Value := .func (.func 87) #[] ⟨[.pointer (some ⟨I.oc, 0, none⟩)]⟩
def twoV (I : AIds) : Value := .func (.func 88) #[] ⟨[.pointer (some ⟨I.ec, 0, none⟩), .pointer (some ⟨I.oc, 0, none⟩)]⟩
def inV (I : AIds) (ib : Nat) : Value := .func (.func 89) #[] ⟨[.pointer (some ⟨I.oc, 0, none⟩), .pointer (some ⟨ib, 0, none⟩)]⟩
theorem one_do {F : Nat → Prop} {t d : Option Addr} {T : TM} {g : G} {R : List Int} {I : AIds} {h0 : Heap} {Q0 : Nat → Prop} : DoS (oneV I) (oneD g) h0 Q0 F t d T g R I 1000000 := by
  intro hh Q S i v K _ _ a hn hi _ _ hK
  show C.bmap_All_c3 (i : Int) v (some ⟨I.oc, 0, none⟩) hh K
  refine bmap_All_c3.ok (os ⟨_, rdc a.ro rfl, ?_⟩)
  rw [wrap_i64 (by omega) (by omega)]
  exact own_spec' a hn fun h' Q' f gw a' => ⟨_, rfl, hK h' Q' f gw a'⟩
theorem in_do {F : Nat → Prop} {t d : Option Addr} {T : TM} {g : G} {R : List Int} {I : AIds} {h0 : Heap} {Q0 : Nat → Prop} {ib i : Nat} (hi : i < 128) (ri : rd h0 ib = [.int .i64 (i : Int)]) (hq : ¬ Q0 ib) : DoS (inV I ib) (inD g i) h0 Q0 F t d T g R I 1000000 := by
  intro hh Q S j v K f _ a hn hj _ _ hK
  show C.bmap_All_c4_c1 (j : Int) v (some ⟨I.oc, 0, none⟩) (some ⟨ib, 0, none⟩) hh K
  refine bmap_All_c4_c1.ok (os ⟨_, rdc a.ro rfl, os ⟨_, rdc ((f.rd (rd_lt (o := 0) (by rw [ri]; rfl)) hq).trans ri) rfl, ?_⟩⟩)
  rw [wrap_i64 (n := (i : Int) * 128) (by omega) (by omega), wrap_i64 (n := 138 + (i : Int) * 128) (by omega) (by omega), wrap_i64 (n := 138 + (i : Int) * 128 + j) (by omega) (by omega)]
  exact own_spec' a hn fun h' Q' f gw a' => ⟨_, rfl, hK h' Q' f gw a'⟩
theorem inD_n (g : G) (i : Nat) (S : AllS) (j : Nat) (v : Int) : (inD g i S j v).1.n ≤ S.n + 1 := ownA_n g S _ v
theorem two_do {F : Nat → Prop} {t d : Option Addr} {T : TM} {g : G} {R : List Int} {I : AIds} {h0 : Heap} {Q0 : Nat → Prop} : DoS (twoV I) (twoD T g) h0 Q0 F t d T g R I 999000 := by
  intro hh Q S i v K _ _ a hn hi _ _ hK
  show C.bmap_All_c4 (i : Int) v (some ⟨I.ec, 0, none⟩) (some ⟨I.oc, 0, none⟩) hh K
  refine bmap_All_c4.ok (New.intro fun h2 n2 => ?_)
  have a2 := a.no n2.fr
  have z2 := n2.size
  have nq : ¬ Q hh.size := fun y => by have := a.lt _ y; omega
  refine os ⟨_, rdc a2.re rfl, each_spec (w := 1) (lim := 1000000) a2 (in_do hi n2.rd nq) (inD_n g i) (by omega) (Nat.le_refl _) fun h3 Q3 f3 g3 a3 => ⟨_, rfl, hK h3 Q3 ((n2.fr.mono fun _ _ y => y.elim).trans f3 fun _ _ y => y) ((Gw.refl n2.fr.size a.lt).trans g3 n2.fr.size) a3⟩⟩
end Go.Proofs.YtcdpakjhjmchhaaGreatDoor.Bm
namespace Go.Proofs.YtcdpakjhjmchhaaGreatDoor.Bm
open Go Go.Proofs Go.Proofs.YtcdpakjhjmchhaaGreatDoor.Wx Go.Proofs.YtcdpakjhjmchhaaGreatDoor.Hp Go.Proofs.YtcdpakjhjmchhaaGreatDoor.W Go.Proofs.YtcdpakjhjmchhaaGreatDoor.Ad Go.Proofs.YtcdpakjhjmchhaaGreatDoor.Tm Go.Proofs.YtcdpakjhjmchhaaGreatDoor.Spc Go.Proofs.YtcdpakjhjmchhaaGreatDoor.Re Go.Proofs.YtcdpakjhjmchhaaGreatDoor.Av
open Go.Proofs.YtcdpakjhjmchhaaGreatDoor.Hd (ints wrap_u64)
open Go.Proofs.YtcdpakjhjmchhaaGreatDoor.In (Glo ints_length ints_one)
theorem oneD_n (g : G) (S : AllS) (j : Nat) (v : Int) : (oneD g S j v).1.n ≤ S.n + 1 := ownA_n g S _ v
theorem twoD_n (T : TM) (g : G) (S : AllS) (j : Nat) (v : Int) : (twoD T g S j v).1.n ≤ S.n + 129 := eachM_n (inD_n g j)
theorem All_spec {h : Heap} {F : Nat → Prop} {t d : Option Addr} {T : TM} {g : G} {R : List Int} {K : Value → Heap → Prop} (gl : Glo h) (x : Tx h F t d T) (hR : R.length = 15)
    (hK : ∀ P1 P2 a1 c1 a2 c2 h', Fr No h h' → Sl h' 2 a1 (allM T g R).1.length c1 ((allM T g R).1.flatMap pcellA) P1 → Sl h' 1 a2 (allM T g R).2.1.length c2 ((allM T g R).2.1.map (.int .i64)) P2 → (∀ b, P1 b → h.size ≤ b ∧ ¬ P2 b) → (∀ b, P2 b → h.size ≤ b) →
      K (.tuple #[.slice a1 (allM T g R).1.length c1, .slice a2 (allM T g R).2.1.length c2, .int .i64 (allM T g R).2.2]) h') : C.bmap_All t g.v (ints R) h K := by
  have Flt := fun y (hy : F y) => x.lt hy
  have gl1 := gl.lt
  refine bmap_All.ok (New.intro fun h2 n2 => New.intro fun h3 n3 => ⟨g.v, rfl, cellsAll ((n3.at_ n2.own.lt).trans n2.rd), ints R, by rw [ints_length, hR], cellsAll n3.rd, rfl, by rw [ints_length, hR], New.intro fun h4 n4 => New.intro fun h5 n5 => ?_⟩)
  have z2 := n2.size
  have z3 := n3.size
  have z4 := n4.size
  have z5 := n5.size
  refine Put.intro n5.own (by rw [n5.rd]; decide) fun h6 d6 => New.intro fun h7 n7 => New.intro fun h8 n8 => New.intro fun h9 n9 => ?_
  have z6 := d6.size
  have z7 := n7.size
  have z8 := n8.size
  have z9 := n9.size
  refine Put.intro n9.own (by rw [n9.rd]; decide) fun h10 d10 => New.intro fun h11 n11 => ?_
  have z10 := d10.size
  have z11 := n11.size
  refine Put.intro n11.own (by rw [n11.rd]; decide) fun h12 d12 => ?_
  have z12 := d12.size
  have q12 : ∀ b, b < h10.size → rd h12 b = rd h10 b := fun b hb => (d12.at_ (by omega) (by omega)).trans (n11.at_ hb)
  have q10 : ∀ b, b < h8.size → rd h10 b = rd h8 b := fun b hb => (d10.at_ (by omega) (by omega)).trans (n9.at_ hb)
  have q8 : ∀ b, b < h6.size → rd h8 b = rd h6 b := fun b hb => (n8.at_ (by omega)).trans (n7.at_ hb)
  have F6 : Fr No h h6 := ((((n2.fr.new n3).new n4).new n5).did d6 fun hl => by omega)
  have F12 : Fr No h h12 := ((((((F6.new n7).new n8).new n9).did d10 fun hl => by omega).new n11).did d12 fun hl => by omega)
  have rx : rd h12 h2.size = ints R := (q12 _ (by omega)).trans ((q10 _ (by omega)).trans ((q8 _ (by omega)).trans ((d6.at_ (by omega) (by omega)).trans ((n5.at_ (by omega)).trans ((n4.at_ (by omega)).trans n3.rd)))))
  have rf : rd h12 h3.size = fileV t g R := (q12 _ (by omega)).trans ((q10 _ (by omega)).trans ((q8 _ (by omega)).trans ((d6.at_ (by omega) (by omega)).trans ((n5.at_ (by omega)).trans n4.rd))))
  have rp : rd h12 h4.size = [.pointer (some ⟨h3.size, 0, none⟩)] := (q12 _ (by omega)).trans ((q10 _ (by omega)).trans ((q8 _ (by omega)).trans (by rw [d6.rd, n5.rd]; rfl)))
  have rb : rd h12 h6.size = [.slice none 0 0] := (q12 _ (by omega)).trans ((q10 _ (by omega)).trans ((n8.at_ (by omega)).trans n7.rd))
  have rt : rd h12 h7.size = [.slice none 0 0] := (q12 _ (by omega)).trans ((q10 _ (by omega)).trans n8.rd)
  obtain ⟨I, eI⟩ : ∃ I : AIds, I = ⟨h3.size, h4.size, h6.size, h7.size, h8.size, h10.size⟩ := ⟨_, rfl⟩
  have ro : rd h12 h8.size = [ownV I] := (q12 _ (by omega)).trans (by rw [d10.rd, n9.rd, eI]; rfl)
  have re : rd h12 h10.size = [eachV I] := by rw [d12.rd, n11.rd, eI]; rfl
  have ob : Own h12 h6.size := d12.ow (n11.ow (d10.ow (n9.ow (n8.ow n7.own))))
  have ot : Own h12 h7.size := d12.ow (n11.ow (d10.ow (n9.ow n8.own)))
  obtain ⟨Q, eQ⟩ : ∃ Q : Nat → Prop, ∀ b, Q b ↔ b = h6.size ∨ b = h7.size := ⟨_, fun _ => Iff.rfl⟩
  have a12 : AH F t d T g R I h12 Q ⟨[], []⟩ := by
    rw [eI]
    rw [eI] at ro re
    refine ⟨gl.no F12, x.no F12, rf, rp, ro, re, ob, ot, by show h6.size ≠ h7.size; omega, ⟨fun _ => False, fun _ => False, none, 0, none, 0, rb, rt, Sl.nil _ _ _, Sl.nil _ _ _, fun _ y => y.elim, fun _ y => y.elim, fun b => ?_⟩, fun b hb => ?_, fun b hb => ?_⟩
    · rw [eQ b]; simp
    · rcases (eQ b).mp hb with y | y <;> omega
    · have k : h.size ≤ b ∧ b ≠ h3.size ∧ b ≠ h4.size ∧ b ≠ h8.size ∧ b ≠ h10.size := by rcases (eQ b).mp hb with y | y <;> omega
      exact ⟨fun y => by have := Flt b y; omega, k.2.1, k.2.2.1, k.2.2.2.1, k.2.2.2.2, by omega⟩
  have j1 : h8.size = I.oc := by rw [eI]
  have j2 : h10.size = I.ec := by rw [eI]
  have j3 : h6.size = I.bc := by rw [eI]
  have j4 : h7.size = I.tc := by rw [eI]
  have nqx : ¬ Q h2.size := fun y => by rcases (eQ _).mp y with y | y <;> omega
  have base : ∀ b, Q b → h.size ≤ b := fun b y => by rcases (eQ b).mp y with y | y <;> omega
  clear eI eQ
  -- the end
  have k4 : ∀ (hh : Heap) (Q' : Nat → Prop) (S : AllS) (e : Int), Fr Q h12 hh → Gw h12 Q hh Q' → AH F t d T g R I hh Q' S → (S, e) = allS T g R → bmap_All.k4 h6 h7 e hh K := fun hh Q' S e f gw a es => by
    have F' : Fr No h hh := F12.trans f fun b hb y => by have := base b y; omega
    have em : allM T g R = if e ≠ 0 then ([], [], e) else (S.L, S.M, 0) := by unfold allM; rw [← es]
    rw [em] at hK
    unfold bmap_All.k4
    refine cn (fun he => ?_) fun he => ?_
    · rw [if_pos he] at hK
      exact hK No No none 0 none 0 hh F' (Sl.nil _ _ _) (Sl.nil _ _ _) (fun _ y => y.elim) fun _ y => y.elim
    · rw [if_neg (fun z => z he)] at hK
      obtain ⟨P1, P2, a1, c1, a2, c2, r1, r2, s1, s2, k1, k2, k3⟩ := a.rows
      rw [j3, j4]
      have old : ∀ b, Q' b → h.size ≤ b := fun b y => by
        rcases gw.new y with z | z
        · exact base b z
        · have := F12.size; omega
      refine ⟨_, _, _, rdc r1 rfl, _, _, _, rdc r2 rfl, hK P1 P2 a1 c1 a2 c2 hh F' s1 s2 (fun b hb => ⟨old b ((k3 b).mpr (.inr (.inr (.inl hb)))), (k1 b hb).2.2⟩) fun b hb => old b ((k3 b).mpr (.inr (.inr (.inr hb))))⟩
  have k3 : ∀ (hh : Heap) (Q' : Nat → Prop) (S : AllS) (e : Int), Fr Q h12 hh → Gw h12 Q hh Q' → AH F t d T g R I hh Q' S → S.n ≤ 500 → ((e ≠ 0 ∧ (S, e) = allS T g R) ∨ (e = 0 ∧ eachM T g (twoD T g) (R.getD 14 0) S = allS T g R)) → bmap_All.k3 h2 h6 h7 h8 h10 e hh K := fun hh Q' S e f gw a hn es => by
    unfold bmap_All.k3
    refine ce (fun he => ?_) fun he => k4 hh Q' S e f gw a (es.resolve_right fun z => he z.1).2
    have es := (es.resolve_left fun z => z.1 he).2
    have rxh : rd hh h2.size = ints R := (f.rd (by omega) nqx).trans rx
    rw [j1, j2]
    refine ⟨_, rdc a.re rfl, _, rda rxh (by rw [Nat.zero_add, ints, List.getElem?_map, List.getElem?_eq_getElem (by omega)]; rfl), ?_⟩
    have e14 : R[14]'(by omega) = R.getD 14 0 := by rw [List.getD_eq_getElem?_getD, List.getElem?_eq_getElem (by omega)]; rfl
    rw [e14]
    refine each_spec (w := 129) (lim := 999000) a two_do (twoD_n T g) (by omega) (by decide) fun h' Q2 f2 g2 a2 => ⟨_, rfl, k4 h' Q2 _ _ (f.trans f2 fun b hb y => (gw.old b hb).mp y) (gw.trans g2 f.size) a2 es⟩
  have k2 : ∀ (hh : Heap) (Q' : Nat → Prop) (S : AllS) (e : Int), Fr Q h12 hh → Gw h12 Q hh Q' → AH F t d T g R I hh Q' S → S.n ≤ 10 → (S, e) = eachGo (dirD g) ((R.drop 3).take 10) 0 ⟨[], []⟩ → bmap_All.k2 h2 h6 h7 h8 h10 e hh K := fun hh Q' S e f gw a hn es => by
    unfold bmap_All.k2
    refine ce (fun he => ?_) fun he => k3 hh Q' S e f gw a (by omega) (.inl ⟨he, ?_⟩)
    · have rxh : rd hh h2.size = ints R := (f.rd (by omega) nqx).trans rx
      refine ⟨_, rdc (xs := [eachV I]) (by rw [j2]; exact a.re) rfl, _, rda rxh (by rw [Nat.zero_add, ints, List.getElem?_map, List.getElem?_eq_getElem (by omega)]; rfl), ?_⟩
      have e13 : R[13]'(by omega) = R.getD 13 0 := by rw [List.getD_eq_getElem?_getD, List.getElem?_eq_getElem (by omega)]; rfl
      rw [e13]
      have ea : allS T g R = if (eachM T g (oneD g) (R.getD 13 0) S).2 ≠ 0 then eachM T g (oneD g) (R.getD 13 0) S else eachM T g (twoD T g) (R.getD 14 0) (eachM T g (oneD g) (R.getD 13 0) S).1 := by
        unfold allS; rw [← es]; show (if e ≠ 0 then _ else _) = _; rw [if_neg (fun z => z he)]
      have en := eachM_n (T := T) (g := g) (tab := R.getD 13 0) (S := S) (oneD_n g)
      have ev : oneV I = Value.func (.func 87) #[] ⟨[.pointer (some ⟨h8.size, 0, none⟩)]⟩ := by rw [j1]; rfl
      rw [← ev]
      refine each_spec (w := 1) (lim := 1000000) a one_do (oneD_n g) (by omega) (Nat.le_refl _) fun h' Q2 f2 g2 a2 => ⟨_, rfl, k3 h' Q2 _ _ (f.trans f2 fun b hb y => (gw.old b hb).mp y) (gw.trans g2 f.size) a2 (by omega) ?_⟩
      by_cases h2' : (eachM T g (oneD g) (R.getD 13 0) S).2 = 0
      · rw [if_neg (fun z => z h2')] at ea
        exact .inr ⟨h2', ea.symm⟩
      · rw [if_pos h2'] at ea
        exact .inl ⟨h2', ea.symm⟩
    · unfold allS; rw [← es]; show _ = (if e ≠ 0 then _ else _); rw [if_pos he]
  generalize hds : (R.drop 3).take 10 = ds at k2
  have dl : ds.length = 10 := by rw [← hds, List.length_take, List.length_drop, hR]; rfl
  have dg : ∀ j (hj : j < ds.length), R[3 + j]? = some (ds[j]'hj) := fun j hj => by
    subst hds
    rw [List.getElem_take, List.getElem_drop, List.getElem?_eq_getElem]
  refine ⟨fun e i hh => ∃ (j : Nat) (Q' : Nat → Prop) (S' : AllS), i = j ∧ j ≤ 10 ∧ Fr Q h12 hh ∧ Gw h12 Q hh Q' ∧ AH F t d T g R I hh Q' S' ∧ S'.n ≤ j ∧ ((e = 0 ∧ eachGo (dirD g) (ds.drop j) j S' = eachGo (dirD g) ds 0 ⟨[], []⟩) ∨ (e ≠ 0 ∧ (S', e) = eachGo (dirD g) ds 0 ⟨[], []⟩)), fun _ i _ => ((10 : Int) - i).toNat,
    ⟨0, Q, _, rfl, by decide, Fr.refl _ _, Gw.refl (Nat.le_refl _) a12.lt, a12, Nat.le_refl _, .inl ⟨rfl, by rw [List.drop_zero]⟩⟩, ?_⟩
  intro e i hh hI
  obtain ⟨j, Q', S', ei, hj, f, gw, a, hn, hE⟩ := hI
  refine cd (fun hl => ce (fun h0 => ?_) fun h0 => k2 hh Q' S' e f gw a (by omega) (hE.resolve_left (fun z => h0 z.1)).2) fun hl => k2 hh Q' S' e f gw a (by omega) ?_
  · subst ei
    have ew := (hE.resolve_right (fun z => z.1 h0)).2
    have hj' : j < ds.length := by omega
    rw [drop_cons hj', eachGo_cons] at ew
    have rxh : rd hh h2.size = ints R := (f.rd (by omega) nqx).trans rx
    have wr : IntKind.wrap .i64 ((j : Int) + 1) = ((j + 1 : Nat) : Int) := by rw [wrap_i64 (by omega) (by omega)]; omega
    unfold bmap_All.k1
    rw [Int.toNat_natCast, wr]
    refine ⟨_, rdc (xs := [ownV I]) (by rw [j1]; exact a.ro) rfl, ⟨by omega, by omega⟩, (ds[j]'hj'), cell2 rxh (by rw [ints, List.getElem?_map, dg j hj']; rfl), own_spec' a (by omega) fun h' Q2 f2 g2 a2 => ⟨_, rfl, ⟨j + 1, Q2, _, rfl, by omega, f.trans f2 fun b hb y => (gw.old b hb).mp y, gw.trans g2 f.size, a2, ?_, ?_⟩, by show ((10 : Int) - ((j + 1 : Nat) : Int)).toNat < ((10 : Int) - (j : Int)).toNat; omega⟩⟩
    · have := ownA_n g S' (j : Int) (ds[j]'hj'); omega
    · have edr : dirD g S' j (ds[j]'hj') = ownA g S' (j : Int) (ds[j]'hj') := rfl
      rw [edr] at ew
      by_cases he : (ownA g S' (j : Int) (ds[j]'hj')).2 = 0
      · rw [if_neg (fun z => z he)] at ew
        exact .inl ⟨he, ew⟩
      · rw [if_pos he] at ew
        exact .inr ⟨he, ew⟩
  · rcases hE with ⟨h0, ew⟩ | ⟨_, ew⟩
    · have ed : ds.drop j = [] := List.drop_eq_nil_of_le (by omega)
      rw [ed] at ew
      rw [h0]; exact ew
    · exact ew
end Go.Proofs.YtcdpakjhjmchhaaGreatDoor.Bm
namespace Go.Proofs.YtcdpakjhjmchhaaGreatDoor.Ino
open Go Go.Proofs Go.Proofs.YtcdpakjhjmchhaaGreatDoor.Wx Go.Proofs.YtcdpakjhjmchhaaGreatDoor.Hp Go.Proofs.YtcdpakjhjmchhaaGreatDoor.W Go.Proofs.YtcdpakjhjmchhaaGreatDoor.Ad Go.Proofs.YtcdpakjhjmchhaaGreatDoor.Tm Go.Proofs.YtcdpakjhjmchhaaGreatDoor.Bt Go.Proofs.YtcdpakjhjmchhaaGreatDoor.Spc Go.Proofs.YtcdpakjhjmchhaaGreatDoor.Re
open Go.Proofs.YtcdpakjhjmchhaaGreatDoor.Hd (ints)
open Go.Proofs.YtcdpakjhjmchhaaGreatDoor.In (z15 mayR encR decA ints_one ints_length ints_eq pairs15 cell15 Glo getR_length encR_length z15_row)
/-- where record n stands -/
def rblk (g : G) (n : Int) : Int := (g.inodes + n.toNat / 8 : Nat)
def rat (n : Int) : Nat := 64 * (n.toNat % 8)
theorem rat_le (n : Int) : rat n + 64 ≤ 512 := by unfold rat; omega
theorem decA_length (bs : Txt) : (decA bs).1.length = 15 := by
  unfold decA; split
  · exact List.length_replicate
  · split
    · exact getR_length bs
    · exact List.length_replicate
def getM (T : TM) (g : G) (n : Int) : List Int × Int :=
  if ¬ (1 ≤ n ∧ n < g.count) then (z15, 110) else if (T.read (rblk g n)).2 ≠ 0 then (z15, (T.read (rblk g n)).2) else decA (((T.read (rblk g n)).1.drop (rat n)).take 64)
theorem getM_length (T : TM) (g : G) (n : Int) : (getM T g n).1.length = 15 := by
  unfold getM
  split
  · exact List.length_replicate
  · split
    · exact List.length_replicate
    · exact decA_length _
def putM (T : TM) (g : G) (n : Int) (R : List Int) : TM × Int :=
  if ¬ (1 ≤ n ∧ n < g.count) then (T, 110) else if mayR R = false then (T, 111) else if (T.read (rblk g n)).2 ≠ 0 then (T, (T.read (rblk g n)).2) else
    T.write (rblk g n) (putU (T.read (rblk g n)).1 (rat n) (encR R))
structure Cok (g : G) : Prop where
  ok : g.ok
  c : g.count ≤ 1099511627776
theorem isInode_spec {g : G} {n : Int} {h : Heap} {K : Value → Heap → Prop} (ok : Cok g) (hK : ∀ h', Fr No h h' → K (.bool (decide (1 ≤ n ∧ n < g.count))) h') : C.inode_isInode g.v n h K := by
  have := ok.c
  refine inode_isInode.ok (New.intro fun h2 n2 => ⟨_, rda n2.rd rfl, In.within_spec ⟨_, rfl, ?_⟩⟩)
  rw [wrap_i64 (by omega) (by omega)]
  have e : (decide (1 ≤ n) && decide (n ≤ (g.count : Int) - 1)) = decide (1 ≤ n ∧ n < g.count) := by
    rw [Bool.eq_iff_iff, Bool.and_eq_true, decide_eq_true_iff, decide_eq_true_iff, decide_eq_true_iff]
    omega
  rw [e]
  exact hK h2 n2.fr
theorem Record_spec {g : G} {n : Int} {h : Heap} {K : Value → Heap → Prop} (ok : Cok g) (h1 : 1 ≤ n) (h2 : n < g.count) (hK : ∀ h', Fr No h h' → K (.tuple #[.int .i64 (rblk g n), .int .i64 (rat n), .int .i64 0]) h') : C.geo_Record g.v n h K := by
  have c1 := ok.c
  have c2 := ok.ok.i
  refine geo_Record.ok (New.intro fun h2 n2 => cf (decide_eq_false (by omega)) ⟨_, rda n2.rd rfl, cf (decide_eq_false (by omega)) ⟨_, rda n2.rd rfl, ?_⟩⟩)
  have hK := hK h2 n2.fr
  have e1 : Int.tdiv n 8 = n / 8 := Int.tdiv_eq_ediv_of_nonneg (by omega)
  have e2 : Int.tmod n 8 = n % 8 := Int.tmod_eq_emod_of_nonneg (by omega)
  rw [e1, e2, wrap_i64 (n := n / 8) (by omega) (by omega), wrap_i64 (n := (g.inodes : Int) + n / 8) (by omega) (by omega), wrap_i64 (n := n % 8 * 64) (by omega) (by omega)]
  have e3 : n % 8 * 64 = ((rat n : Nat) : Int) := by unfold rat; omega
  have e4 : (g.inodes : Int) + n / 8 = rblk g n := by unfold rblk; omega
  rw [e3, e4]; exact hK
theorem place_spec {h : Heap} {F : Nat → Prop} {t d : Option Addr} {T : TM} {g : G} {n : Int} {K : Value → Heap → Prop} (x : Tx h F t d T) (ok : Cok g) (h1 : 1 ≤ n) (h2 : n < g.count)
    (hK : ∀ a l c h', Fr No h h' → l = (T.read (rblk g n)).1.length → Sl h' 1 a l c ((T.read (rblk g n)).1.map bv) (From h.size) → K (.tuple #[.int .i64 (rblk g n), .slice a l c, .int .i64 (rat n), .int .i64 (T.read (rblk g n)).2]) h') : C.inode_place t g.v n h K := by
  refine inode_place.ok (New.intro fun h2' n2 => ⟨g.v, rfl, cellsAll n2.rd, Record_spec ok h1 h2 fun h3 f3 => ⟨_, _, _, rfl, cn (fun y => absurd rfl y) fun _ => ?_⟩⟩)
  have F3 := n2.fr.no f3
  refine Tm.Read_spec (x.no F3) fun a l c h4 f4 hl s => ⟨_, _, _, _, rfl, ?_⟩
  exact hK a l c h4 (F3.no f4) hl (s.mono fun b hb => Nat.le_trans F3.size hb)
theorem Get_spec {h : Heap} {F : Nat → Prop} {t d : Option Addr} {T : TM} {g : G} {n : Int} {K : Value → Heap → Prop} (gl : Glo h) (x : Tx h F t d T) (ok : Cok g)
    (hK : ∀ h', Fr No h h' → K (.tuple #[.agg ⟨ints (getM T g n).1⟩, .int .i64 (getM T g n).2]) h') : C.inode_Get t g.v n h K := by
  have ha := rat_le n
  refine inode_Get.ok (New.intro fun h2' n2 => New.intro fun h3 n3 => ⟨g.v, rfl, cellsAll ((n3.at_ n2.own.lt).trans n2.rd), isInode_spec ok fun h4 f4 => ⟨_, rfl, cnot ?_⟩⟩)
  have s2 := n2.size
  have s3 := n3.size
  have f3 : Fr No h h3 := n2.fr.new n3
  have F4 := f3.no f4
  have z4 := f4.size
  have row : ∀ {h' : Heap}, Fr No h4 h' → Own h' h2'.size ∧ (rd h' h2'.size).length = 15 := fun f' => by
    have f34 : Fr No h3 _ := f4.no f'
    exact ⟨f34.own n3.own.lt (fun y => y) n3.own, by rw [f34.rd n3.own.lt fun y => y, n3.rd]; rfl⟩
  by_cases hn : 1 ≤ n ∧ n < g.count
  · have e0 : getM T g n = if (T.read (rblk g n)).2 ≠ 0 then (z15, (T.read (rblk g n)).2) else decA (((T.read (rblk g n)).1.drop (rat n)).take 64) := by unfold getM; rw [if_neg (fun y => y hn)]
    rw [e0] at hK
    refine ct (decide_eq_true hn) ⟨g.v, rfl, cellsAll ((f4.rd (by omega) fun y => y).trans ((n3.at_ n2.own.lt).trans n2.rd)), place_spec (x.no F4) ok hn.1 hn.2 fun a l c h6 f6 hl s6 => ⟨_, _, _, _, _, _, rfl, cn (fun he => ?_) fun he => ?_⟩⟩
    · rw [if_pos he] at hK
      obtain ⟨w, l15⟩ := row f6
      exact z15_row (h3 := h) (F4.no f6) (by omega) w l15 hK
    · rw [if_neg (fun y => y he)] at hK
      have hlen : (T.read (rblk g n)).1.length = 512 := Tx.readLen x he
      have hc := s6.le
      rw [wrap_i64 (by omega) (by omega)]
      refine ⟨⟨by omega, by omega, by omega⟩, ?_⟩
      have B6 := StrAt.cut s6.str hc (i := (rat n : Int).toNat) (j := ((rat n : Int) + 64).toNat) (by omega) (by omega)
      rw [show ((rat n : Int) + 64).toNat - (rat n : Int).toNat = 64 by omega] at B6 ⊢
      refine In.Decode_spec (gl.no (F4.no f6)) B6 (by omega) fun h8 f8 => ⟨_, _, rfl, ?_⟩
      rw [show (rat n : Int).toNat = rat n by omega]
      obtain ⟨w, l15⟩ := row (f6.no f8)
      refine PutRow.intro w (by rw [ints_length, decA_length]) (ints_one _) (by omega) fun h9 d9 => ⟨_, by rw [ints_length]; exact decA_length _, cellsAll ?_, hK h9 (((F4.no f6).no f8).did d9 fun hl => by omega)⟩
      rw [d9.rd]; exact put_all _ _ (by rw [ints_length, decA_length, l15])
  · have e0 : getM T g n = (z15, 110) := by unfold getM; rw [if_pos hn]
    rw [e0] at hK
    obtain ⟨w, l15⟩ := row (Fr.refl _ _)
    exact cf (decide_eq_false hn) (z15_row (h3 := h) F4 (by omega) w l15 hK)
theorem Put_spec {h : Heap} {F : Nat → Prop} {t d : Option Addr} {T : TM} {g : G} {n : Int} {R : List Int} {K : Value → Heap → Prop} (gl : Glo h) (x : Tx h F t d T) (ok : Cok g) (hR : R.length = 15) (hu : T.undo.length < 1000000000)
    (hK : ∀ h' F', Fr F h h' → Gw h F h' F' → Tx h' F' t d (putM T g n R).1 → K (.int .i64 (putM T g n R).2) h') : C.inode_Put t g.v n (ints R) h K := by
  have ha := rat_le n
  have same : ∀ e h', Fr No h h' → putM T g n R = (T, e) → K (.int .i64 e) h' := fun e h' f e0 => by
    rw [e0] at hK
    exact hK h' F (f.mono fun _ _ y => y.elim) (Gw.refl f.size fun b hb => x.lt hb) (x.no f)
  refine inode_Put.ok (New.intro fun h2' n2 => New.intro fun h3 n3 => ⟨g.v, rfl, cellsAll ((n3.at_ n2.own.lt).trans n2.rd), isInode_spec ok fun h4 f4 => ⟨_, rfl, cnot ?_⟩⟩)
  have s2 := n2.size
  have s3 := n3.size
  have F4 := (n2.fr.new n3).no f4
  have z4 := f4.size
  by_cases hn : 1 ≤ n ∧ n < g.count
  · refine ct (decide_eq_true hn) ⟨ints R, by rw [ints_length, hR], cellsAll ((f4.rd (by omega) fun y => y).trans n3.rd), In.Encode_spec (gl.no F4) hR (fun hm h5 f5 => ⟨_, _, _, _, rfl, cn (fun _ => ?_) fun y => absurd (show (111 : Int) = 0 from y) (by decide)⟩) fun hm eb h5 f5 heb s5 => ⟨_, _, _, _, rfl, cn (fun y => absurd rfl y) fun _ => ?_⟩⟩
    · exact same _ h5 (F4.no f5) (by unfold putM; rw [if_neg (fun y => y hn), if_pos hm])
    have z5 := f5.size
    have leb : eb < h5.size := s5.lt
    have F5 := F4.no f5
    refine ⟨g.v, rfl, cellsAll ((f5.rd (by omega) fun y => y).trans ((f4.rd (by omega) fun y => y).trans ((n3.at_ n2.own.lt).trans n2.rd))), place_spec (x.no F5) ok hn.1 hn.2 fun a l c h6 f6 hl s6 => ⟨_, _, _, _, _, _, rfl, cn (fun he => ?_) fun he => ?_⟩⟩
    · exact same _ h6 (F5.no f6) (by unfold putM; rw [if_neg (fun y => y hn), if_neg (by rw [hm]; simp), if_pos he])
    have hlen : (T.read (rblk g n)).1.length = 512 := Tx.readLen x he
    have e0 : putM T g n R = T.write (rblk g n) (putU (T.read (rblk g n)).1 (rat n) (encR R)) := by unfold putM; rw [if_neg (fun y => y hn), if_neg (by rw [hm]; simp), if_neg (fun y => y he)]
    rw [e0] at hK
    generalize T.read (rblk g n) = rd0 at hl s6 hlen hK
    obtain ⟨bs, er⟩ := rd0
    simp only at hl s6 hlen hK
    obtain ⟨p, ep, _⟩ := s6.get (by omega)
    subst ep
    obtain ⟨pb, po, sp⟩ := p
    have esp : sp = none := s6.2.1
    subst esp
    have z6 := f6.size
    have hc := s6.le
    have F6 := F5.no f6
    have le := encR_length hR
    refine ⟨⟨by omega, by omega⟩, ?_⟩
    rw [if_neg (by omega)]
    show CopyP _ (some (Addr.add ⟨pb, po, none⟩ (rat n : Int).toNat)) _ _ _ _
    rw [add_mk]
    have hfrom : h5.size ≤ pb := s6.2.2.1
    have e5 : SlCells h6 (some ⟨eb, 0, none⟩) ((encR R).map bv) := (s5.fr f6 fun _ _ _ y => y).cells
    obtain ⟨w6, l6⟩ := s6.wr
    refine CopyP.intro (new := (encR R).map bv) (by rw [List.length_map, le]; show 64 = min 64 (l - _) * 1; omega) e5 (bv_one _) w6 (by rw [List.length_map, le]; omega) fun h7 d7 => ?_
    have s7 : Sl h7 1 (some ⟨pb, po, none⟩) l c ((putU bs (rat n) (encR R)).map bv) (From h5.size) := by
      have := s6.putAt (new := (encR R).map bv) (j := rat n) (by rw [List.length_map, le]; omega) (by rw [show po + rat n = po + (rat n : Int).toNat by omega]; exact d7)
      rw [putU_put (by rw [hlen, le]; omega)] at this; exact this
    have F7 := F6.did d7 fun hl => by omega
    refine Tm.Write_spec (x.no F7) s7.str (by omega) (fun q eq y => ?_) hu fun h8 F8 f8 g8 x8 => ⟨_, rfl, hK h8 F8 ?_ ?_ x8⟩
    · cases eq
      have y : F pb := y
      have := x.lt y
      omega
    · exact (F7.mono fun _ _ y => y.elim).trans f8 fun _ _ y => y
    · exact (Gw.refl F7.size fun b hb => x.lt hb).trans g8 F7.size
  · exact cf (decide_eq_false hn) (same _ h4 F4 (by unfold putM; rw [if_pos hn]))
end Go.Proofs.YtcdpakjhjmchhaaGreatDoor.Ino
namespace Go.Proofs.YtcdpakjhjmchhaaGreatDoor.Fi
open Go Go.Proofs Go.Proofs.YtcdpakjhjmchhaaGreatDoor.Wx Go.Proofs.YtcdpakjhjmchhaaGreatDoor.Hp Go.Proofs.YtcdpakjhjmchhaaGreatDoor.W Go.Proofs.YtcdpakjhjmchhaaGreatDoor.Ad Go.Proofs.YtcdpakjhjmchhaaGreatDoor.Tm Go.Proofs.YtcdpakjhjmchhaaGreatDoor.Spc Go.Proofs.YtcdpakjhjmchhaaGreatDoor.Re Go.Proofs.YtcdpakjhjmchhaaGreatDoor.Av
open Go.Proofs.YtcdpakjhjmchhaaGreatDoor.Hd (ints)
open Go.Proofs.YtcdpakjhjmchhaaGreatDoor.In (Glo ints_length ints_one)
open Go.Proofs.YtcdpakjhjmchhaaGreatDoor.Ino (getM putM Cok getM_length)
open Go.Proofs.YtcdpakjhjmchhaaGreatDoor.Bm (findM cutM addM allM pcellA)
theorem ints_at {R : List Int} {i : Nat} (hi : i < R.length) : (ints R)[i]? = some (.int .i64 (R.getD i 0)) := by
  unfold ints
  rw [List.getElem?_map, List.getD_eq_getElem?_getD, List.getElem?_eq_getElem hi]; rfl
theorem ints_set {R : List Int} {i : Nat} {v : Int} : (ints R).set i (.int .i64 v) = ints (R.set i v) := by
  unfold ints; rw [List.map_set]
/-- a block that is no transaction's -/
theorem stay {h h' : Heap} {F F' : Nat → Prop} (f : Fr F h h') (g : Gw h F h' F') {b : Nat} (hb : b < h.size) (hF : ¬ F b) : rd h' b = rd h b ∧ ¬ F' b ∧ b < h'.size ∧ (Own h b → Own h' b) :=
  ⟨f.rd hb hF, fun y => hF ((g.old b hb).mp y), Nat.lt_of_lt_of_le hb f.size, f.own hb hF⟩
def getF (T : TM) (g : G) (n : Int) : List Int × Int := if (getM T g n).2 = 0 ∧ (getM T g n).1.getD 0 0 = 0 then ((getM T g n).1, 110) else getM T g n
theorem getF_length (T : TM) (g : G) (n : Int) : (getF T g n).1.length = 15 := by
  unfold getF
  split <;> exact getM_length T g n
theorem get_spec {h : Heap} {F : Nat → Prop} {t d : Option Addr} {T : TM} {g : G} {n : Int} {K : Value → Heap → Prop} (gl : Glo h) (x : Tx h F t d T) (ok : Cok g)
    (hK : ∀ h', Fr No h h' → K (.tuple #[.agg ⟨ints (getF T g n).1⟩, .int .i64 (getF T g n).2]) h') : C.file_get t g.v n h K := by
  have lR := getM_length T g n
  refine file_get.ok (New.intro fun h2 n2 => New.intro fun h3 n3 => ⟨g.v, rfl, cellsAll ((n3.at_ n2.own.lt).trans n2.rd), Ino.Get_spec (gl.no (n2.fr.new n3)) (x.no (n2.fr.new n3)) ok fun h4 f4 => ⟨_, _, rfl, NewRow.intro (by rw [ints_length, lR]) (ints_one _) rfl fun h6 n6 => ?_⟩⟩)
  have z2 := n2.size
  have z3 := n3.size
  have z4 := f4.size
  have z6 := n6.size
  have F6 : Fr No h h6 := ((n2.fr.new n3).no f4).new n6
  have w6 : Own h6 h2.size := n6.ow (f4.own (by omega) (fun y => y) n3.own)
  have l6 : (rd h6 h2.size).length = 15 := by rw [n6.at_ (by omega), f4.rd (by omega) fun y => y, n3.rd]; rfl
  have fin : ∀ {e : Int} {k : Heap → Prop}, getF T g n = ((getM T g n).1, e) → (∀ h', K (.tuple #[.agg ⟨ints (getF T g n).1⟩, .int .i64 (getF T g n).2]) h' → K (.tuple #[.agg ⟨ints (getM T g n).1⟩, .int .i64 e]) h') := fun e h' hk => by rw [e] at hk; exact hk
  have out : ∀ e, getF T g n = ((getM T g n).1, e) → ∃ cs3 : List Value, List.length cs3 = 15 ∧ Cells h6 ⟨h4.size, 0, none⟩ cs3 ∧
      PutRow ⟨h2.size, 0, none⟩ cs3 15 h6 fun h7 => ∃ res1 : List Value, List.length res1 = 15 ∧ Cells h7 ⟨h2.size, 0, none⟩ res1 ∧ K (.tuple #[.agg ⟨res1⟩, .int .i64 e]) h7 := fun e he => by
    rw [he] at hK
    refine ⟨_, by rw [ints_length, lR], cellsAll n6.rd, PutRow.intro w6 (by rw [ints_length, lR]) (ints_one _) (by omega) fun h7 d7 => ⟨_, by rw [ints_length, lR], cellsAll ?_, hK h7 (F6.did d7 fun hl => by omega)⟩⟩
    rw [d7.rd]; exact put_all _ _ (by rw [ints_length, lR, l6])
  refine ce (fun he => ⟨_, rda n6.rd (ints_at (by rw [lR]; decide)), ce (fun h0 => ?_) fun h0 => ?_⟩) fun he => ?_
  · exact out 110 (by unfold getF; rw [if_pos ⟨he, h0⟩])
  · exact out _ (by unfold getF; rw [if_neg fun y => h0 y.2])
  · exact out _ (by unfold getF; rw [if_neg fun y => he y.1])
def blockM (T : TM) (g : G) (R : List Int) (k : Int) : Txt × Int := if (findM T g R k).2 ≠ 0 then ([], (findM T g R k).2) else if (findM T g R k).1 = 0 then (zeros, 0) else T.read (findM T g R k).1
theorem block_spec {h : Heap} {F : Nat → Prop} {t d : Option Addr} {T : TM} {g : G} {R : List Int} {k : Int} {K : Value → Heap → Prop} (gl : Glo h) (x : Tx h F t d T) (hR : R.length = 15)
    (hK : ∀ a l c h', Fr No h h' → l = (blockM T g R k).1.length → Sl h' 1 a l c ((blockM T g R k).1.map bv) (From h.size) → K (.tuple #[.slice a l c, .int .i64 (blockM T g R k).2]) h') : C.file_block t g.v (ints R) k h K := by
  refine file_block.ok (New.intro fun h2 n2 => New.intro fun h3 n3 => ⟨g.v, rfl, cellsAll ((n3.at_ n2.own.lt).trans n2.rd), _, by rw [ints_length, hR], cellsAll n3.rd, ?_⟩)
  have z2 := n2.size
  have z3 := n3.size
  have F3 := n2.fr.new n3
  refine Bm.Find_spec (gl.no F3) (x.no F3) hR fun h4 f4 => ⟨_, _, rfl, cn (fun he => ?_) fun he => ce (fun h0 => ⟨by decide, New.intro fun h5 n5 => ?_⟩) fun h0 => ?_⟩
  · have e0 : blockM T g R k = ([], (findM T g R k).2) := by unfold blockM; rw [if_pos he]
    rw [e0] at hK
    exact hK none 0 0 h4 (F3.no f4) rfl (Sl.nil _ _ _)
  · have e0 : blockM T g R k = (zeros, 0) := by unfold blockM; rw [if_neg (fun y => y he), if_pos h0]
    rw [e0] at hK
    have z4 := f4.size
    have er : rd h5 h4.size = zeros.map bv := by rw [n5.rd, zeros, List.map_replicate]; rfl
    have el : (zeros.map bv).length = 512 := by rw [List.length_map]; exact List.length_replicate
    refine hK (some ⟨h4.size, 0, none⟩) 512 512 h5 ((F3.no f4).new n5) (by exact List.length_replicate.symm) ⟨by rw [el], rfl, ?_, n5.own, Nat.le_refl _, ?_, ?_⟩
    · show h.size ≤ h4.size; omega
    · show ((rd h5 h4.size).drop 0).take _ = _
      rw [er, List.drop_zero, List.take_length]
    · show 0 + 512 * 1 ≤ (rd h5 h4.size).length
      rw [er, el]; decide
  · have e0 : blockM T g R k = T.read (findM T g R k).1 := by unfold blockM; rw [if_neg (fun y => y he), if_neg h0]
    rw [e0] at hK
    have z4 := f4.size
    refine Tm.Read_spec (x.no (F3.no f4)) fun a l c h6 f6 hl s => ⟨_, _, _, _, rfl, hK a l c h6 ((F3.no f4).no f6) hl (s.mono fun b hb => ?_)⟩
    have hb : h4.size ≤ b := hb
    show h.size ≤ b; omega
structure Ud (h : Heap) (ub tb mb eb : Nat) (t : Option Addr) (m : Int) : Prop where
  u : rd h ub = [.pointer (some ⟨eb, 0, none⟩)]
  t : rd h tb = [.pointer t]
  m : rd h mb = [.int .i64 m]
theorem Ud.lt {h : Heap} {ub tb mb eb : Nat} {t : Option Addr} {m : Int} (c : Ud h ub tb mb eb t m) : ub < h.size ∧ tb < h.size ∧ mb < h.size :=
  ⟨rd_lt (o := 0) (by rw [c.u]; rfl), rd_lt (o := 0) (by rw [c.t]; rfl), rd_lt (o := 0) (by rw [c.m]; rfl)⟩
theorem Ud.fr {h h' : Heap} {ub tb mb eb : Nat} {t : Option Addr} {m : Int} {G : Nat → Prop} (c : Ud h ub tb mb eb t m) (f : Fr G h h') (h1 : ¬ G ub) (h2 : ¬ G tb) (h3 : ¬ G mb) : Ud h' ub tb mb eb t m := by
  obtain ⟨l1, l2, l3⟩ := c.lt
  exact ⟨(f.rd l1 h1).trans c.u, (f.rd l2 h2).trans c.t, (f.rd l3 h3).trans c.m⟩
def undoV (ub tb mb : Nat) : List Value := [.pointer (some ⟨ub, 0, none⟩), .pointer (some ⟨tb, 0, none⟩), .pointer (some ⟨mb, 0, none⟩)]
theorem undo_spec {h : Heap} {F : Nat → Prop} {t d : Option Addr} {T : TM} {eb : Nat} {K : Value → Heap → Prop} (x : Tx h F t d T)
    (hK : ∀ ub tb mb h', Fr No h h' → h.size ≤ ub → h.size ≤ tb → h.size ≤ mb → Ud h' ub tb mb eb t T.mark.1 → K (.func (.func 109) ⟨[]⟩ ⟨undoV ub tb mb⟩) h') : C.file_undo t (some ⟨eb, 0, none⟩) h K := by
  refine file_undo.ok (New.intro fun h2 n2 => New.intro fun h3 n3 => ⟨t, rdc ((n3.at_ n2.own.lt).trans n2.rd) rfl, Mark_spec (x.no (n2.fr.new n3)) ⟨_, _, rfl, New.intro fun h5 n5 => ?_⟩⟩)
  have z2 := n2.size
  have z3 := n3.size
  have z5 := n5.size
  refine Put.intro n5.own (by rw [n5.rd]; decide) fun h6 d6 => ?_
  have F6 : Fr No h h6 := ((n2.fr.new n3).new n5).did d6 fun hl => by omega
  refine hK h2.size h.size h3.size h6 F6 (by omega) (Nat.le_refl _) (by omega) ⟨?_, ?_, ?_⟩
  · exact (d6.at_ (by omega) (by omega)).trans ((n5.at_ (by omega)).trans n3.rd)
  · exact (d6.at_ (by omega) (by omega)).trans ((n5.at_ (by omega)).trans ((n3.at_ n2.own.lt).trans n2.rd))
  · rw [d6.rd, n5.rd]; rfl
theorem undo_D {h : Heap} {F : Nat → Prop} {t d : Option Addr} {T : TM} {ub tb mb eb : Nat} {m e : Int} {K : Heap → Prop} (x : Tx h F t d T) (c : Ud h ub tb mb eb t m) (re : rd h eb = [.int .i64 e]) (hu : T.undo.length < 1000000000)
    (hK : ∀ h', Fr F h h' → Tx h' F t d (if e ≠ 0 then (T.back m).1 else T) → K h') : DCallsV Tryz.prog (.func (.func 109) ⟨[]⟩ ⟨undoV ub tb mb⟩) [] h K := by
  show DCalls Tryz.prog 109 [.pointer (some ⟨ub, 0, none⟩), .pointer (some ⟨tb, 0, none⟩), .pointer (some ⟨mb, 0, none⟩)] h K
  refine fnD_to (c := Tryz.f109.body.getD .skip) (cxOk file_undo_c1.lo file_undo_c1.od) Tryz.func109 (by kernel_rfl) (by kernel_rfl) ?_
  rw [file_undo_c1.eq]
  refine os ⟨_, rdc c.u rfl, os ⟨_, rdc re rfl, cn (fun he => os ⟨t, rdc c.t rfl, os ⟨_, rdc c.m rfl, Back_spec x hu fun h2 f2 x2 => ⟨_, rfl, ?_⟩⟩⟩) fun he => ?_⟩⟩
  · rw [if_pos he] at hK; exact hK h2 f2 x2
  · rw [if_neg (fun y => y he)] at hK; exact hK h (Fr.refl _ _) x
def blocksM (T : TM) (g : G) (n : Int) : Int × Int := if (getF T g n).2 ≠ 0 then (0, (getF T g n).2) else
  if (allM T g (getF T g n).1).2.2 ≠ 0 then (0, (allM T g (getF T g n).1).2.2) else (((allM T g (getF T g n).1).1.length : Int) + ((allM T g (getF T g n).1).2.1.length : Int), 0)
theorem Blocks_spec {h : Heap} {F : Nat → Prop} {t d : Option Addr} {T : TM} {g : G} {n : Int} {K : Value → Heap → Prop} (gl : Glo h) (x : Tx h F t d T) (ok : Cok g) (hl : (getF T g n).2 = 0 → (allM T g (getF T g n).1).1.length + (allM T g (getF T g n).1).2.1.length < 1000000000000)
    (hK : ∀ h', Fr No h h' → K (.tuple #[.int .i64 (blocksM T g n).1, .int .i64 (blocksM T g n).2]) h') : C.file_Blocks t g.v n h K := by
  have lR := getF_length T g n
  refine file_Blocks.ok (New.intro fun h2 n2 => ⟨g.v, rfl, cellsAll n2.rd, get_spec (gl.no n2.fr) (x.no n2.fr) ok fun h3 f3 => ⟨_, _, rfl, NewRow.intro (by rw [ints_length, lR]) (ints_one _) rfl fun h5 n5 => ?_⟩⟩)
  have z2 := n2.size
  have z3 := f3.size
  have z5 := n5.size
  have F5 : Fr No h h5 := (n2.fr.no f3).new n5
  refine cn (fun he => ?_) fun he => ⟨g.v, rfl, cellsAll ((n5.at_ (by omega)).trans ((f3.rd (by omega) fun y => y).trans n2.rd)), _, by rw [ints_length, lR], cellsAll n5.rd, Bm.All_spec (gl.no F5) (x.no F5) lR fun P1 P2 a1 c1 a2 c2 h6 f6 s1 s2 _ _ => ⟨_, _, _, _, _, _, _, rfl, cn (fun h0 => ?_) fun h0 => ?_⟩⟩
  · have e0 : blocksM T g n = (0, (getF T g n).2) := by unfold blocksM; rw [if_pos he]
    rw [e0] at hK; exact hK h5 F5
  · have e0 : blocksM T g n = (0, (allM T g (getF T g n).1).2.2) := by unfold blocksM; rw [if_neg (fun y => y he), if_pos h0]
    rw [e0] at hK; exact hK h6 (F5.no f6)
  · have e0 : blocksM T g n = (((allM T g (getF T g n).1).1.length : Int) + ((allM T g (getF T g n).1).2.1.length : Int), 0) := by unfold blocksM; rw [if_neg (fun y => y he), if_neg (fun y => y h0)]
    rw [e0] at hK
    have hl := hl (Classical.byContradiction fun y => y he)
    rw [wrap_i64 (by omega) (by omega)]
    exact hK h6 (F5.no f6)
def zf (b : Txt) (r : Nat) : Nat → Txt
  | 0 => b
  | m + 1 => (zf b r m).set (r + m) 0
def wipeM (T : TM) (g : G) (R : List Int) (size : Int) : TM × Int := if size % 512 = 0 then (T, 0) else if (findM T g R (size / 512)).2 ≠ 0 then (T, (findM T g R (size / 512)).2) else if (findM T g R (size / 512)).1 = 0 then (T, 0) else
  if (T.read (findM T g R (size / 512)).1).2 ≠ 0 then (T, (T.read (findM T g R (size / 512)).1).2) else T.write (findM T g R (size / 512)).1 (zf (T.read (findM T g R (size / 512)).1).1 (size % 512).toNat (512 - (size % 512).toNat))
theorem wipe_spec {h : Heap} {F : Nat → Prop} {t d : Option Addr} {T : TM} {g : G} {R : List Int} {size : Int} {K : Value → Heap → Prop} (gl : Glo h) (x : Tx h F t d T) (hR : R.length = 15) (s0 : 0 ≤ size) (s1 : size ≤ 8459264) (hu : T.undo.length < 1000000000)
    (hK : ∀ h' F', Fr F h h' → Gw h F h' F' → Tx h' F' t d (wipeM T g R size).1 → K (.int .i64 (wipeM T g R size).2) h') : C.file_wipe t g.v (ints R) size h K := by
  have same : ∀ e h', Fr No h h' → wipeM T g R size = (T, e) → K (.int .i64 e) h' := fun e h' f e0 => by
    rw [e0] at hK
    exact hK h' F (f.mono fun _ _ y => y.elim) (Gw.refl f.size fun b hb => x.lt hb) (x.no f)
  have e1 : Int.tdiv size 512 = size / 512 := Int.tdiv_eq_ediv_of_nonneg s0
  have e2 : Int.tmod size 512 = size % 512 := Int.tmod_eq_emod_of_nonneg s0
  refine file_wipe.ok (New.intro fun h2 n2 => New.intro fun h3 n3 => ?_)
  have z2 := n2.size
  have z3 := n3.size
  have F3 := n2.fr.new n3
  rw [e1, e2]
  refine ce (fun hz => same 0 h3 F3 (by unfold wipeM; rw [if_pos hz])) fun hz => ⟨g.v, rfl, cellsAll ((n3.at_ n2.own.lt).trans n2.rd), _, by rw [ints_length, hR], cellsAll n3.rd, ?_⟩
  rw [wrap_i64 (by omega) (by omega)]
  refine Bm.Find_spec (gl.no F3) (x.no F3) hR fun h4 f4 => ⟨_, _, rfl, cn (fun he => ?_) fun he => ce (fun h0 => ?_) fun h0 => ?_⟩
  · exact same _ h4 (F3.no f4) (by unfold wipeM; rw [if_neg hz, if_pos he])
  · rw [he]; exact same _ h4 (F3.no f4) (by unfold wipeM; rw [if_neg hz, if_neg (fun y => y he), if_pos h0])
  have z4 := f4.size
  have F4 := F3.no f4
  unfold file_wipe.k1
  refine Tm.Read_spec (x.no F4) fun a l c h5 f5 hl s => ⟨_, _, _, _, rfl, cn (fun h0' => ?_) fun h0' => ?_⟩
  · exact same _ h5 (F4.no f5) (by unfold wipeM; rw [if_neg hz, if_neg (fun y => y he), if_neg h0, if_pos h0'])
  have ew : wipeM T g R size = T.write (findM T g R (size / 512)).1 (zf (T.read (findM T g R (size / 512)).1).1 (size % 512).toNat (512 - (size % 512).toNat)) := by unfold wipeM; rw [if_neg hz, if_neg (fun y => y he), if_neg h0, if_neg (fun y => y h0')]
  rw [ew] at hK
  clear same ew
  have hlen : (T.read (findM T g R (size / 512)).1).1.length = 512 := Tx.readLen x h0'
  generalize (T.read (findM T g R (size / 512)).1).1 = bs at hl s hlen hK
  generalize (findM T g R (size / 512)).1 = i at hK ⊢
  obtain ⟨r, er⟩ : ∃ r : Nat, size % 512 = r := ⟨(size % 512).toNat, by omega⟩
  rw [e2]
  rw [er] at hK ⊢
  rw [Int.toNat_natCast] at hK
  have hr : r < 512 := by omega
  obtain ⟨p, ep, _⟩ := s.get (by omega)
  subst ep
  obtain ⟨pb, po, sp⟩ := p
  have esp : sp = none := s.2.1
  subst esp
  have z5 := f5.size
  have F5 := F4.no f5
  have hfrom : h4.size ≤ pb := s.2.2.1
  refine ⟨fun k hh => ∃ m : Nat, k = ((r + m : Nat) : Int) ∧ r + m ≤ 512 ∧ Fr No h hh ∧ Sl hh 1 (some ⟨pb, po, none⟩) l c ((zf bs r m).map bv) (From h4.size), fun k _ => (512 - k).toNat, ⟨0, rfl, by omega, F5, s⟩, ?_⟩
  rintro k h6 ⟨m, ek, hm, F6, s6⟩
  obtain ⟨w6, l6⟩ := s6.wr
  have ekn : k.toNat = r + m := by omega
  refine cd (fun hlt => ⟨⟨by omega, by omega⟩, os (Put.add w6 (by omega) fun h7 d7 => ?_)⟩) fun hlt => ?_
  · rw [ekn] at d7
    rw [wrap_i64 (n := k + 1) (by omega) (by omega)]
    refine ⟨⟨m + 1, by omega, by omega, F6.did d7 fun hl => by omega, ?_⟩, by show (512 - (k + 1)).toNat < (512 - k).toNat; omega⟩
    have s7 := s6.putAt (new := [bv 0]) (j := r + m) (by show _ + 1 ≤ _; omega) d7
    have e7 : put ((zf bs r m).map bv) (r + m) [bv 0] = (zf bs r (m + 1)).map bv := by
      show ((zf bs r m).map bv).set (r + m) (bv 0) = ((zf bs r m).set (r + m) 0).map bv
      rw [List.map_set]
    rw [e7] at s7; exact s7
  · have em : m = 512 - r := by omega
    subst em
    refine Tm.Write_spec (x.no F6) s6.str (by omega) (fun q eq y => ?_) hu fun h8 F8 f8 g8 x8 => ⟨_, rfl, hK h8 F8 ((F6.mono fun _ _ y => y.elim).trans f8 fun _ _ y => y) ((Gw.refl F6.size fun b hb => x.lt hb).trans g8 F6.size) x8⟩
    cases eq
    have y : F pb := y
    have := x.lt y
    omega
end Go.Proofs.YtcdpakjhjmchhaaGreatDoor.Fi
namespace Go.Proofs
open Go Go.Shelf
def Tryz.keysA_ren : Go.Shelf.Ren := ⟨fun | 7 => 96 | 10 => 143 | n => n, fun | 23 => 137 | 26 => 3 | 3 => 33 | 28 => 174 | 0 => 0 | 27 => 173 | 33 => 228 | 4 => 4 | n => n, fun n => n⟩
theorem Tryz.keysA : SlLaysZI.n7 Tryz.prog Tryz.keysA_ren where
  mixed := by kernel_rfl
  f7 := ⟨ "maps.Keys[map[int][]byte,int,[]byte]", by decide, Tryz.func96.trans (congrArg some (by kernel_rfl))⟩
  f10 := ⟨ "maps.Keys[map[int][]byte,int,[]byte]$1", by decide, Tryz.func143.trans (congrArg some (by kernel_rfl))⟩
  t0 := Tryz.underlying0
  a0 := Tryz.isAgg0
  z0 := Tryz.sizeOf0
  v0 := Tryz.zeroValue0
  t4 := Tryz.underlying4
  a4 := Tryz.isAgg4
  z4 := Tryz.sizeOf4
  v4 := Tryz.zeroValue4
  t23 := Tryz.underlying137
  a23 := Tryz.isAgg137
  z23 := Tryz.sizeOf137
  v23 := Tryz.zeroValue137
  t26 := Tryz.underlying3
  a26 := Tryz.isAgg3
  z26 := Tryz.sizeOf3
  v26 := Tryz.zeroValue3
  t27 := Tryz.underlying173
  a27 := Tryz.isAgg173
  z27 := Tryz.sizeOf173
  v27 := Tryz.zeroValue173
  t28 := Tryz.underlying174
  a28 := Tryz.isAgg174
  z28 := Tryz.sizeOf174
  v28 := Tryz.zeroValue174
  t33 := Tryz.underlying228
  a33 := Tryz.isAgg228
  z33 := Tryz.sizeOf228
  v33 := Tryz.zeroValue228
def Tryz.sortedA_ren : Go.Shelf.Ren := ⟨fun | 6 => 95 | 8 => 141 | 9 => 142 | 11 => 164 | 13 => 166 | 12 => 165 | 23 => 180 | 24 => 181 | 14 => 171 | 15 => 172 | 16 => 173 | 17 => 174 | 18 => 175 | 19 => 176 | 20 => 177 | 21 => 178 | 22 => 179 | 25 => 183 | 26 => 184 | 27 => 185 | 28 => 186 | 29 => 187 | 30 => 188 | 31 => 189 | n => n, fun | 26 => 3 | 28 => 174 | 24 => 22 | 0 => 0 | 3 => 3 | 37 => 71 | 48 => 262 | 50 => 215 | 4 => 4 | 40 => 256 | 39 => 255 | 45 => 78 | 5 => 5 | 9 => 9 | 51 => 265 | 55 => 212 | 57 => 270 | 58 => 271 | 33 => 228 | n => n, fun n => n⟩
theorem Tryz.sortedA : SlLaysZI.n6 Tryz.prog Tryz.sortedA_ren where
  mixed := by kernel_rfl
  f6 := ⟨ "slices.Sorted[int]", by decide, Tryz.func95.trans (congrArg some (by kernel_rfl))⟩
  f8 := ⟨ "slices.Collect[int]", by decide, Tryz.func141.trans (congrArg some (by kernel_rfl))⟩
  f11 := ⟨ "slices.AppendSeq[[]int,int]", by decide, Tryz.func164.trans (congrArg some (by kernel_rfl))⟩
  t0 := Tryz.underlying0
  a0 := Tryz.isAgg0
  z0 := Tryz.sizeOf0
  v0 := Tryz.zeroValue0
  t24 := Tryz.underlying22
  a24 := Tryz.isAgg22
  z24 := Tryz.sizeOf22
  v24 := Tryz.zeroValue22
  t26 := Tryz.underlying3
  a26 := Tryz.isAgg3
  z26 := Tryz.sizeOf3
  v26 := Tryz.zeroValue3
  t28 := Tryz.underlying174
  a28 := Tryz.isAgg174
  z28 := Tryz.sizeOf174
  v28 := Tryz.zeroValue174
  i26 := by kernel_rfl
def Tryz.sortA_ren : Go.Shelf.Ren := ⟨fun | 5 => 142 | 8 => 166 | 7 => 165 | 19 => 180 | 20 => 181 | 10 => 171 | 11 => 172 | 12 => 173 | 13 => 174 | 14 => 175 | 15 => 176 | 16 => 177 | 17 => 178 | 18 => 179 | 30 => 183 | 31 => 184 | 32 => 185 | 33 => 186 | 34 => 187 | 35 => 188 | 40 => 189 | n => n, fun | 23 => 22 | 25 => 3 | 3 => 3 | 32 => 71 | 22 => 22 | 0 => 0 | 44 => 262 | 46 => 215 | 4 => 4 | 36 => 256 | 35 => 255 | 41 => 78 | 5 => 5 | 9 => 9 | 53 => 265 | 57 => 212 | 63 => 270 | 64 => 271 | n => n, fun n => n⟩
theorem Tryz.sortA : SlLaysM.n5 Tryz.prog Tryz.sortA_ren where
  mixed := by kernel_rfl
  f5 := ⟨ "slices.Sort[[]int,int]", by decide, Tryz.func142.trans (congrArg some (by kernel_rfl))⟩
  f7 := ⟨ "slices.pdqsortOrdered[int]", by decide, Tryz.func165.trans (congrArg some (by kernel_rfl))⟩
  f8 := Tryz.func166.trans (congrArg some (by kernel_rfl))
  f10 := ⟨ "slices.insertionSortOrdered[int]", by decide, Tryz.func171.trans (congrArg some (by kernel_rfl))⟩
  f11 := ⟨ "slices.heapSortOrdered[int]", by decide, Tryz.func172.trans (congrArg some (by kernel_rfl))⟩
  f12 := ⟨ "slices.breakPatternsOrdered[int]", by decide, Tryz.func173.trans (congrArg some (by kernel_rfl))⟩
  f13 := ⟨ "slices.choosePivotOrdered[int]", by decide, Tryz.func174.trans (congrArg some (by kernel_rfl))⟩
  f14 := ⟨ "slices.reverseRangeOrdered[int]", by decide, Tryz.func175.trans (congrArg some (by kernel_rfl))⟩
  f15 := ⟨ "slices.partialInsertionSortOrdered[int]", by decide, Tryz.func176.trans (congrArg some (by kernel_rfl))⟩
  f16 := ⟨ "cmp.Less[int]", by decide, Tryz.func177.trans (congrArg some (by kernel_rfl))⟩
  f17 := ⟨ "slices.partitionEqualOrdered[int]", by decide, Tryz.func178.trans (congrArg some (by kernel_rfl))⟩
  f18 := ⟨ "slices.partitionOrdered[int]", by decide, Tryz.func179.trans (congrArg some (by kernel_rfl))⟩
  f19 := Tryz.func180.trans (congrArg some (by kernel_rfl))
  f20 := Tryz.func181.trans (congrArg some (by kernel_rfl))
  f30 := ⟨ "slices.siftDownOrdered[int]", by decide, Tryz.func183.trans (congrArg some (by kernel_rfl))⟩
  f31 := Tryz.func184.trans (congrArg some (by kernel_rfl))
  f32 := Tryz.func185.trans (congrArg some (by kernel_rfl))
  f33 := ⟨ "slices.medianAdjacentOrdered[int]", by decide, Tryz.func186.trans (congrArg some (by kernel_rfl))⟩
  f34 := ⟨ "slices.medianOrdered[int]", by decide, Tryz.func187.trans (congrArg some (by kernel_rfl))⟩
  f35 := ⟨ "cmp.isNaN[int]", by decide, Tryz.func188.trans (congrArg some (by kernel_rfl))⟩
  f40 := ⟨ "slices.order2Ordered[int]", by decide, Tryz.func189.trans (congrArg some (by kernel_rfl))⟩
  t0 := Tryz.underlying0
  a0 := Tryz.isAgg0
  z0 := Tryz.sizeOf0
  v0 := Tryz.zeroValue0
  t3 := Tryz.underlying3
  a3 := Tryz.isAgg3
  z3 := Tryz.sizeOf3
  v3 := Tryz.zeroValue3
  t4 := Tryz.underlying4
  a4 := Tryz.isAgg4
  z4 := Tryz.sizeOf4
  v4 := Tryz.zeroValue4
  t5 := Tryz.underlying5
  a5 := Tryz.isAgg5
  z5 := Tryz.sizeOf5
  v5 := Tryz.zeroValue5
  t9 := Tryz.underlying9
  a9 := Tryz.isAgg9
  z9 := Tryz.sizeOf9
  v9 := Tryz.zeroValue9
  t22 := Tryz.underlying22
  a22 := Tryz.isAgg22
  z22 := Tryz.sizeOf22
  v22 := Tryz.zeroValue22
  t23 := Tryz.underlying22
  a23 := Tryz.isAgg22
  z23 := Tryz.sizeOf22
  v23 := Tryz.zeroValue22
  t25 := Tryz.underlying3
  a25 := Tryz.isAgg3
  z25 := Tryz.sizeOf3
  v25 := Tryz.zeroValue3
  t32 := Tryz.underlying71
  a32 := Tryz.isAgg71
  z32 := Tryz.sizeOf71
  v32 := Tryz.zeroValue71
  t35 := Tryz.underlying255
  a35 := Tryz.isAgg255
  z35 := Tryz.sizeOf255
  v35 := Tryz.zeroValue255
  t36 := Tryz.underlying256
  a36 := Tryz.isAgg256
  z36 := Tryz.sizeOf256
  v36 := Tryz.zeroValue256
  t41 := Tryz.underlying78
  a41 := Tryz.isAgg78
  z41 := Tryz.sizeOf78
  v41 := Tryz.zeroValue78
  t44 := Tryz.underlying262
  a44 := Tryz.isAgg262
  z44 := Tryz.sizeOf262
  v44 := Tryz.zeroValue262
  t46 := Tryz.underlying215
  a46 := Tryz.isAgg215
  z46 := Tryz.sizeOf215
  v46 := Tryz.zeroValue215
  t53 := Tryz.underlying265
  a53 := Tryz.isAgg265
  z53 := Tryz.sizeOf265
  v53 := Tryz.zeroValue265
  t57 := Tryz.underlying212
  a57 := Tryz.isAgg212
  z57 := Tryz.sizeOf212
  v57 := Tryz.zeroValue212
  t63 := Tryz.underlying270
  a63 := Tryz.isAgg270
  z63 := Tryz.sizeOf270
  v63 := Tryz.zeroValue270
  t64 := Tryz.underlying271
  a64 := Tryz.isAgg271
  z64 := Tryz.sizeOf271
  v64 := Tryz.zeroValue271
end Go.Proofs
namespace Go.Proofs.YtcdpakjhjmchhaaGreatDoor.Tm
open Go Go.Proofs Go.Proofs.YtcdpakjhjmchhaaGreatDoor.Wx Go.Proofs.YtcdpakjhjmchhaaGreatDoor.Hp Go.Proofs.YtcdpakjhjmchhaaGreatDoor.W Go.Proofs.YtcdpakjhjmchhaaGreatDoor.Ad
theorem insert_perm {H : Type} (x : Lit × DataW H) : ∀ l : List (Lit × DataW H), (DataW.insert x l).Perm (x :: l)
  | [] => List.Perm.refl _
  | y :: r => by
    show (if x.1.before y.1 then x :: y :: r else y :: DataW.insert x r).Perm _
    split
    · exact List.Perm.refl _
    · exact ((insert_perm x r).cons y).trans (List.Perm.swap x y r)
theorem foldr_perm {H : Type} : ∀ l : List (Lit × DataW H), (l.foldr DataW.insert []).Perm l
  | [] => List.Perm.refl _
  | x :: r => (insert_perm x _).trans ((foldr_perm r).cons x)
/-- whatever stands there reads as nothing -/
def anyR : Value → Option (DataW Unit × List MemPlace) := fun _ => some (.nil, [])
def valI : Value → Int
  | .int _ n => n
  | _ => 0
def sortZ (l : List Int) : List Int := l.mergeSort fun x y => decide (x ≤ y)
theorem Sorted_spec {α : Type} {f : α → Value} {h : Heap} {bx mb : Nat} {m : List (Int × α)} {K : Value → Heap → Prop} (hbx : rd h bx = [.map (some mb)]) (M : MapAt DI h mb (mm f m)) (hm : m.length ≤ 1000000) (hr : ∀ p ∈ m, -9223372036854775808 ≤ p.1 ∧ p.1 ≤ 9223372036854775807)
    (hK : ∀ a c h', Fr No h h' → Sl h' 1 a m.length c ((sortZ (m.map (·.1))).map (.int .i64)) (From h.size) → K (.slice a m.length c) h') :
    C.slices_Sorted_int (.func (.func 143) #[] ⟨[.pointer (some ⟨bx, 0, none⟩)]⟩) h K := by
  refine ⟨⟨_, Tryz.func95, by kernel_rfl, by kernel_rfl⟩, fun w hw => ?_⟩
  subst hw
  obtain ⟨es, clock, hb, he, _, hst⟩ := M
  have hlen : es.size = m.length := by
    have := congrArg List.length he
    rw [List.length_map, List.length_map, mm_length] at this
    simpa using this
  have hkey : ∀ x ∈ es.toList, ∃ p ∈ m, x.key = .int .i64 p.1 := by
    intro x hx
    have : (x.key, x.val) ∈ es.toList.map (fun e => (e.key, e.val)) := List.mem_map.mpr ⟨x, hx, rfl⟩
    rw [he] at this
    obtain ⟨q, hq, e⟩ := List.mem_map.mp this
    obtain ⟨p, hp, rfl⟩ := List.mem_map.mp hq
    exact ⟨p, hp, (congrArg Prod.fst e).symm⟩
  have hwf : ∀ n : Int, -9223372036854775808 ≤ n ∧ n ≤ 9223372036854775807 → (Lit.int .i64 n).wf = true := fun n hn => by
    have h1 : IntKind.i64.min = -9223372036854775808 := rfl
    have h2 : IntKind.i64.max = 9223372036854775807 := rfl
    simp only [Lit.wf, Bool.and_eq_true, decide_eq_true_eq]
    omega
  have hread : ∀ n : Int, -9223372036854775808 ≤ n ∧ n ≤ 9223372036854775807 → ∀ x : MapEntry, x.key = .int .i64 n → WideElems.rd Tryz.prog 3 anyR x = some (.int .i64 n, .nil) := fun n hn x hx => by
    have h1 : keyOf Tryz.prog 3 x.key = some (.int .i64 n) := by
      rw [hx]
      simp [keyOf, mapKey, Tryz.underlying3, hwf n hn]
    simp [WideElems.rd, h1, anyR]
  have fit : WideElems.Fit Tryz.prog 3 anyR es clock := ⟨by rw [hlen]; exact Nat.le_trans hm (by decide), hst, fun x hx => by
    obtain ⟨p, hp, e⟩ := hkey x hx
    exact ⟨_, hread p.1 (hr p hp) x e⟩⟩
  have hown : w.ownsMap Tryz.prog 3 anyR mb m.length (.map ((es.toList.map (WideElems.rg Tryz.prog 3 anyR)).foldr DataW.insert [])) := ⟨es, clock, hb, fit, by omega, rfl⟩
  have hperm : (intKeys (H := Unit) (.map ((es.toList.map (WideElems.rg Tryz.prog 3 anyR)).foldr DataW.insert []))).Perm (m.map (·.1)) := by
    refine List.Perm.trans (l₂ := (es.toList.map (WideElems.rg Tryz.prog 3 anyR)).map fun p : Lit × DataW Unit => Go.intOf p.1) ((foldr_perm _).map _) ?_
    rw [List.map_map]
    have e1 : es.toList.map ((fun p : Lit × DataW Unit => Go.intOf p.1) ∘ WideElems.rg Tryz.prog 3 anyR) = m.map (·.1) := by
      have e2 : es.toList.map (fun x => x.key) = m.map fun p => (.int .i64 p.1 : Value) := by
        have := congrArg (List.map Prod.fst) he
        rw [List.map_map, List.map_map] at this
        rw [show (es.toList.map fun x => x.key) = es.toList.map (Prod.fst ∘ fun e => (e.key, e.val)) from rfl, this]
        rw [mm, List.map_map]; rfl
      have e3 : es.toList.map ((fun p : Lit × DataW Unit => Go.intOf p.1) ∘ WideElems.rg Tryz.prog 3 anyR) = (es.toList.map (fun x => x.key)).map valI := by
        rw [List.map_map]
        refine List.map_congr_left fun x hx => ?_
        obtain ⟨p, hp, e⟩ := hkey x hx
        have h1 := WideElems.rg_of (hread p.1 (hr p hp) x e)
        rw [Function.comp_apply, Function.comp_apply, h1, e]
        rfl
      rw [e3, e2, List.map_map]; rfl
    rw [e1]
  have hbl : bx < w.heap.size := rd_lt (o := 0) (v := .map (some mb)) (by rw [hbx]; rfl)
  have hsz : Maps.size (.map ((es.toList.map (WideElems.rg Tryz.prog 3 anyR)).foldr DataW.insert []) : DataW Unit) = m.length := by
    have := hperm.length_eq
    rw [List.length_map] at this
    rw [← this]
    show _ = (List.map _ _).length
    rw [List.length_map]; rfl
  have hc : w.cell? ⟨bx, 0, none⟩ = some (.map (some mb)) := rdc hbx rfl
  have hseq : SeqGives Fence.wide 2 Tryz.prog 143 #[.pointer (some ⟨bx, 0, none⟩)] encZ (fun ss => ss.Perm (intKeys (H := Unit) (.map ((es.toList.map (WideElems.rg Tryz.prog 3 anyR)).foldr DataW.insert [])))) (Maps.size (.map ((es.toList.map (WideElems.rg Tryz.prog 3 anyR)).foldr DataW.insert []) : DataW Unit)) w :=
    AnyZI.keys_gives (ρ := Tryz.keysA_ren) { Tryz.keysA with } Fence.wide _ trivial rfl (by omega) bx mb m.length _ _ hbl hc hown
  have sorts : ∀ k, AnyZI.SortsIn Tryz.prog Tryz.sortedA_ren Fence.wide k := fun k =>
    ⟨fun blk off cap ss W hH hblk hsz => callsIn_wide.2 (AnyM.slices_Sort_int Tryz.sortA blk off cap ss W hH hblk hsz),
     fun p cap W => callsIn_wide.2 (AnyM.slices_Sort_int_none Tryz.sortA p cap W)⟩
  have cS := AnyZI.sorted_in Tryz.sortedA Fence.wide 5 trivial trivial trivial trivial rfl (by omega) (sorts _) (enters_of Tryz.func142 (by kernel_rfl) rfl) 143 #[.pointer (some ⟨bx, 0, none⟩)] trivial (enters_of Tryz.func143 (by kernel_rfl) rfl) _ _ (by rw [hsz]; exact Nat.le_trans hm (by decide)) (by rw [hsz]; omega) _ hseq
  refine ((callsIn_wide (n := 5)).1 cS).mono fun e w' ⟨v, ss, he', hS, hrow, _, hbel⟩ => ?_
  have hS' : ss.Perm (m.map (·.1)) := hS.trans hperm
  have el : ss.length = m.length := by have := hS'.length_eq; rw [List.length_map] at this; exact this
  have es' : ss.mergeSort (fun x y => decide (x ≤ y)) = sortZ (m.map (·.1)) := mergeSort_of_perm_i hS'
  rw [es', el] at hrow
  have fr : Fr No w.heap w'.heap := ⟨hbel.size, fun k hk _ => hbel.block k hk⟩
  refine ⟨v, he', ⟨hbel.os, hbel.tape, hbel.output⟩, ?_⟩
  obtain ⟨hl, hrow⟩ := hrow
  rcases hrow with ⟨rfl, hz⟩ | ⟨gb, cap, cur, rfl, hbase, hgb, r1, r2, r3, r4⟩
  · rw [hz] at hK
    refine hK none 0 w'.heap fr ⟨?_, rfl, rfl⟩
    rw [hz] at hl; exact hl
  · refine hK _ cap w'.heap fr ⟨hl, rfl, hbase, ⟨_, _, _, hgb, .inl rfl⟩, r1, ?_, ?_⟩
    · have e : rd w'.heap gb = cur.toList := by unfold rd; rw [hgb]
      show ((rd w'.heap gb).drop 0).take _ = _
      rw [e, List.drop_zero, hl]; exact r4
    · have e : rd w'.heap gb = cur.toList := by unfold rd; rw [hgb]
      show 0 + cap * 1 ≤ (rd w'.heap gb).length
      rw [e, Array.length_toList, r3]; omega
def TM.written (T : TM) : List Int := sortZ (T.put.map (·.1))
theorem Written_spec {h : Heap} {F : Nat → Prop} {t d : Option Addr} {T : TM} {K : Value → Heap → Prop} (x : Tx h F t d T) (hp : T.put.length ≤ 1000000)
    (hK : ∀ a l c h', Fr No h h' → l = T.put.length → Sl h' 1 a l c (T.written.map (.int .i64)) (From h.size) → K (.slice a l c) h') : C.txn_Txn_Written t h K := by
  rcases x with ⟨col, r, rfl, X, hF⟩ | ⟨col, tb, rfl, X, hF⟩
  · have elen : T.put.length = r.ps.length := by rw [X.put, List.length_map]
    refine txn_Txn_Written.ok (os ⟨_, rda X.cell rfl, cf rfl (os ⟨_, rda X.cell rfl, ?_⟩)⟩)
    refine maps_Keys_map_int_byte_int_byte.ok (New.intro fun h2 n2 => ⟨_, rfl, ?_⟩)
    obtain ⟨D, dk, _⟩ := Tx.dk (.inl ⟨col, r, rfl, X, hF⟩ : Tx h F (some ⟨r.tb, 0, none⟩) d T)
    have hmax : T.N ≤ 16384 := dk.max.1
    refine Sorted_spec (f := fun x : Sc × Txt => x.1.v) (m := r.ps) n2.rd (map_fr X.map n2.fr fun x => x) (by omega) (fun p hp => ?_) fun a c h3 f3 s => ⟨_, _, _, rfl, ?_⟩
    · have := X.pk (p.1, p.2.2) (by rw [X.put]; exact List.mem_map.mpr ⟨p, hp, rfl⟩)
      simp only at this
      omega
    · have e : T.written = sortZ (r.ps.map (·.1)) := by
        unfold TM.written
        rw [X.put, List.map_map]; rfl
      rw [← e] at s
      exact hK a _ c h3 (n2.fr.no f3) elen.symm (s.mono fun b hb => Nat.le_trans n2.fr.size hb)
  · refine txn_Txn_Written.ok (os ⟨_, rda X.cell rfl, ct rfl ?_⟩)
    have e1 := X.gone.1
    have e : T.written = [] := by unfold TM.written; rw [e1]; exact List.mergeSort_nil
    have hK := hK none 0 0 h (Fr.refl _ _) (by rw [e1]; rfl)
    rw [e] at hK
    exact hK (Sl.nil _ _ _)
end Go.Proofs.YtcdpakjhjmchhaaGreatDoor.Tm
namespace Go.Proofs.YtcdpakjhjmchhaaGreatDoor.Bm
open Go Go.Proofs Go.Proofs.YtcdpakjhjmchhaaGreatDoor.Wx Go.Proofs.YtcdpakjhjmchhaaGreatDoor.Hp Go.Proofs.YtcdpakjhjmchhaaGreatDoor.W Go.Proofs.YtcdpakjhjmchhaaGreatDoor.Ad Go.Proofs.YtcdpakjhjmchhaaGreatDoor.Tm Go.Proofs.YtcdpakjhjmchhaaGreatDoor.Bt Go.Proofs.YtcdpakjhjmchhaaGreatDoor.Spc Go.Proofs.YtcdpakjhjmchhaaGreatDoor.Re Go.Proofs.YtcdpakjhjmchhaaGreatDoor.Av
open Go.Proofs.YtcdpakjhjmchhaaGreatDoor.Hd (ints wrap_u64)
open Go.Proofs.YtcdpakjhjmchhaaGreatDoor.In (Glo ints_length ints_one)
/-- an image whose bitmap says U -/
structure Im (n : Nat) (U : Nat → Bool) (L : Txt) : Prop where
  len : L.length = 512 * n
  bits : ∀ j, j < 4096 * ((geoN n).inodes - 98) → bitAt L (98 * 4096 + j) = U j
def updU (U : Nat → Bool) (i : Nat) : Nat → Bool := fun j => if j = i then true else U j
theorem Im.put {n i : Nat} {U : Nat → Bool} {L : Txt} (a : Im n U L) (hn : 128 ≤ n ∧ n < 4428) (hi : i < 4096 * ((geoN n).inodes - 98)) : Im n (updU U i) (putBit L (98 * 4096 + i) true) := by
  have hle : (geoN n).inodes * 512 ≤ n * 512 := by show (98 + (n + 4095) / 4096) * 512 ≤ _; omega
  have h98 : 98 ≤ (geoN n).inodes := by show 98 ≤ 98 + _; omega
  refine ⟨(putBit_length ..).trans a.len, fun j hj => ?_⟩
  rw [bitAt_putBit _ _ _ _ (by rw [a.len]; omega)]
  unfold updU
  by_cases h : j = i
  · rw [if_pos (by omega), if_pos h]
  · rw [if_neg (by omega), if_neg h, a.bits j hj]
theorem Im.congr {n : Nat} {U U' : Nat → Bool} {L : Txt} (a : Im n U L) (h : ∀ j, U j = U' j) : Im n U' L := ⟨a.len, fun j hj => (a.bits j hj).trans (h j)⟩
def edge (n j : Nat) : Bool := decide (j < (geoN n).data) || decide (n ≤ j)
def lowU (n k : Nat) : Nat → Bool := fun j => decide (j < k) && edge n j
theorem lowU_hit {n k : Nat} (h : edge n k = true) (j : Nat) : updU (lowU n k) k j = lowU n (k + 1) j := by
  unfold updU lowU
  by_cases e : j = k
  · subst e; rw [if_pos rfl, h, decide_eq_true (by omega)]; rfl
  · have : decide (j < k + 1) = decide (j < k) := decide_eq_decide.mpr (by omega)
    rw [if_neg e, this]
theorem lowU_miss {n k : Nat} (h : edge n k = false) (j : Nat) : lowU n k j = lowU n (k + 1) j := by
  unfold lowU
  by_cases e : j = k
  · subst e; rw [h, Bool.and_false, Bool.and_false]
  · have : decide (j < k + 1) = decide (j < k) := decide_eq_decide.mpr (by omega)
    rw [this]
end Go.Proofs.YtcdpakjhjmchhaaGreatDoor.Bm
namespace Go.Proofs.YtcdpakjhjmchhaaGreatDoor.Bm
open Go Go.Proofs Go.Proofs.YtcdpakjhjmchhaaGreatDoor.Wx Go.Proofs.YtcdpakjhjmchhaaGreatDoor.Hp Go.Proofs.YtcdpakjhjmchhaaGreatDoor.W Go.Proofs.YtcdpakjhjmchhaaGreatDoor.Ad Go.Proofs.YtcdpakjhjmchhaaGreatDoor.Tm Go.Proofs.YtcdpakjhjmchhaaGreatDoor.Bt Go.Proofs.YtcdpakjhjmchhaaGreatDoor.Spc Go.Proofs.YtcdpakjhjmchhaaGreatDoor.Re Go.Proofs.YtcdpakjhjmchhaaGreatDoor.Av
open Go.Proofs.YtcdpakjhjmchhaaGreatDoor.Hd (ints wrap_u64)
open Go.Proofs.YtcdpakjhjmchhaaGreatDoor.In (Glo ints_length ints_one)
end Go.Proofs.YtcdpakjhjmchhaaGreatDoor.Bm
namespace Go.Proofs.YtcdpakjhjmchhaaGreatDoor.Bm
open Go Go.Proofs Go.Proofs.YtcdpakjhjmchhaaGreatDoor.Wx Go.Proofs.YtcdpakjhjmchhaaGreatDoor.Hp Go.Proofs.YtcdpakjhjmchhaaGreatDoor.W Go.Proofs.YtcdpakjhjmchhaaGreatDoor.Ad Go.Proofs.YtcdpakjhjmchhaaGreatDoor.Tm Go.Proofs.YtcdpakjhjmchhaaGreatDoor.Bt Go.Proofs.YtcdpakjhjmchhaaGreatDoor.Spc Go.Proofs.YtcdpakjhjmchhaaGreatDoor.Re Go.Proofs.YtcdpakjhjmchhaaGreatDoor.Av
/-- the pairs of m indices from k on -/
def rowN (f : Nat → Nat) : Nat → Nat → List (Int × Int)
  | _, 0 => []
  | k, m + 1 => (if f k = 0 then [] else [((k : Int), (f k : Int))]) ++ rowN f (k + 1) m
def tabN (f : Nat → Nat) : Nat → Nat → List Int
  | _, 0 => []
  | k, m + 1 => (if f k = 0 then [] else [(f k : Int)]) ++ tabN f (k + 1) m
theorem rowN_zero {f : Nat → Nat} : ∀ (m k : Nat), (∀ j, j < m → f (k + j) = 0) → rowN f k m = []
  | 0, _, _ => rfl
  | m + 1, k, h => by
    have h0 := h 0 (by omega)
    rw [Nat.add_zero] at h0
    show (if f k = 0 then [] else _) ++ rowN f (k + 1) m = []
    rw [if_pos h0, rowN_zero m (k + 1) fun j hj => by have := h (j + 1) (by omega); rwa [show k + (j + 1) = k + 1 + j by omega] at this]; rfl
theorem rowN_add {f : Nat → Nat} : ∀ (a k b : Nat), rowN f k (a + b) = rowN f k a ++ rowN f (k + a) b
  | 0, k, b => by rw [Nat.zero_add]; rfl
  | a + 1, k, b => by
    rw [show a + 1 + b = (a + b) + 1 by omega]
    show (if f k = 0 then [] else _) ++ rowN f (k + 1) (a + b) = ((if f k = 0 then [] else _) ++ rowN f (k + 1) a) ++ _
    rw [rowN_add a (k + 1) b, List.append_assoc, show k + 1 + a = k + (a + 1) by omega]
theorem own_go {g : G} {f : Nat → Nat} {dO : DoM} {b : Nat} (hd : ∀ S i v, dO S i v = ownA g S ((b + i : Nat) : Int) v) : ∀ (vs : List Int) (i : Nat) (S : AllS), (∀ j (hj : j < vs.length), vs[j] = (f (b + i + j) : Int)) → (∀ j, j < vs.length → f (b + i + j) ≠ 0 → lookM g (f (b + i + j) : Int) = 0) →
    eachGo dO vs i S = (⟨S.L ++ rowN f (b + i) vs.length, S.M⟩, 0)
  | [], i, S, _, _ => by show (S, (0 : Int)) = (⟨S.L ++ [], S.M⟩, 0); rw [List.append_nil]
  | v :: r, i, S, h1, h2 => by
    have hv : v = (f (b + i) : Int) := h1 0 (Nat.succ_pos _)
    have ih := fun S' => own_go hd r (i + 1) S' (fun j hj => by
      have := h1 (j + 1) (Nat.succ_lt_succ hj)
      rw [show b + i + (j + 1) = b + (i + 1) + j by omega] at this
      exact this) (fun j hj hne => by
      have := h2 (j + 1) (Nat.succ_lt_succ hj)
      rw [show b + i + (j + 1) = b + (i + 1) + j by omega] at this
      exact this hne)
    rw [eachGo_cons, hd, List.length_cons]
    show _ = (AllS.mk (S.L ++ ((if f (b + i) = 0 then [] else _) ++ rowN f (b + i + 1) r.length)) S.M, (0 : Int))
    by_cases h0 : f (b + i) = 0
    · have e : ownA g S ((b + i : Nat) : Int) v = (S, 0) := by unfold ownA; rw [if_pos (by omega)]
      rw [e, if_neg (fun z => z rfl), ih S, if_pos h0]; rfl
    · have l0 := h2 0 (Nat.succ_pos _) h0
      have l0 : lookM g (f (b + i) : Int) = 0 := l0
      have e : ownA g S ((b + i : Nat) : Int) v = (⟨S.L ++ [(((b + i : Nat) : Int), v)], S.M⟩, 0) := by unfold ownA; rw [if_neg (by omega), hv, l0]
      rw [e, if_neg (fun z => z rfl), ih, if_neg h0, hv]
      show (AllS.mk (S.L ++ [(((b + i : Nat) : Int), (f (b + i) : Int))] ++ rowN f (b + (i + 1)) r.length) S.M, (0 : Int)) = _
      rw [List.append_assoc]; rfl
theorem each_ok {n : Nat} {Z : Nat → Txt} {R : List Int} {T : TM} {dO : DoM} {b q : Nat} {S : AllS} (a : Av n Z T) (w : Wf n Z R) (hd : ∀ S i v, dO S i v = ownA (geoN n) S ((b + i : Nat) : Int) v) (hq : q < nS) (hb : ∀ j, j < 128 → b + j < nS ∧ par (b + j) = some (q, j)) :
    eachM T (geoN n) dO (num Z R q : Nat) S = (⟨S.L ++ rowN (num Z R) b 128, S.M ++ tabN (num Z R) q 1⟩, 0) := by
  have ch : ∀ j, j < 128 → num Z R (b + j) = sub Z (num Z R q) j := fun j hj => num_some (hb j hj).2 (hb j hj).1
  unfold eachM
  show _ = (AllS.mk _ (S.M ++ ((if num Z R q = 0 then [] else _) ++ [])), (0 : Int))
  by_cases h0 : num Z R q = 0
  · rw [if_pos (by omega), if_pos h0, rowN_zero 128 b fun j hj => by rw [ch j hj, h0]; rfl, List.append_nil, List.append_nil, List.append_nil]
  · have ru := w.rng q hq h0
    rw [if_neg (by omega), if_neg (fun z => z (look_ok ru.1 ru.2.1)), a.z _ ru.2.1, if_neg (fun z => z rfl), if_neg h0]
    have lk : ∀ j, j < (numsL (Z (num Z R q))).length → num Z R (b + 0 + j) ≠ 0 → lookM (geoN n) (num Z R (b + 0 + j) : Int) = 0 := fun j hj hne => by
      rw [numsL_len] at hj
      rw [Nat.add_zero] at hne ⊢
      have r2 := w.rng _ (hb j hj).1 hne
      exact look_ok r2.1 r2.2.1
    have g := own_go (f := num Z R) hd (numsL (Z (num Z R q))) 0 ⟨S.L, S.M ++ [((num Z R q : Nat) : Int)]⟩ (fun j hj => by
      rw [numsL_get hj]
      rw [numsL_len] at hj
      rw [Nat.add_zero, ch j hj]
      unfold sub
      rw [if_neg h0]) lk
    rw [numsL_len, Nat.add_zero] at g
    rw [g, List.append_nil]
theorem two_go {n : Nat} {Z : Nat → Txt} {R : List Int} {T : TM} (a : Av n Z T) (w : Wf n Z R) : ∀ (vs : List Int) (i : Nat) (S : AllS), i + vs.length ≤ 128 → (∀ j (hj : j < vs.length), vs[j] = (num Z R (16524 + i + j) : Int)) →
    eachGo (twoD T (geoN n)) vs i S = (⟨S.L ++ rowN (num Z R) (138 + 128 * i) (128 * vs.length), S.M ++ tabN (num Z R) (16524 + i) vs.length⟩, 0)
  | [], i, S, _, _ => by show (S, (0 : Int)) = (AllS.mk (S.L ++ []) (S.M ++ []), 0); rw [List.append_nil, List.append_nil]
  | v :: r, i, S, hl, h1 => by
    rw [List.length_cons] at hl
    have hv : v = (num Z R (16524 + i) : Int) := h1 0 (Nat.succ_pos _)
    have ih := fun S' => two_go a w r (i + 1) S' (by omega) (fun j hj => by
      have := h1 (j + 1) (Nat.succ_lt_succ hj)
      rw [show 16524 + i + (j + 1) = 16524 + (i + 1) + j by omega] at this
      exact this)
    have ed : twoD T (geoN n) S i v = (⟨S.L ++ rowN (num Z R) (138 + 128 * i) 128, S.M ++ tabN (num Z R) (16524 + i) 1⟩, 0) := by
      show eachM T (geoN n) (inD (geoN n) i) v S = _
      rw [hv]
      refine each_ok a w (fun S j v => ?_) (by unfold nS; omega) fun j hj => ⟨by unfold nS; omega, ?_⟩
      · show ownA (geoN n) S (138 + (i : Int) * 128 + j) v = _
        rw [show 138 + (i : Int) * 128 + j = ((138 + 128 * i + j : Nat) : Int) by omega]
      · unfold par
        rw [if_neg (by omega), if_neg (by omega), if_pos (by omega), show 16524 + (138 + 128 * i + j - 138) / 128 = 16524 + i by omega, show (138 + 128 * i + j - 138) % 128 = j by omega]
    rw [eachGo_cons, ed, if_neg (fun z => z rfl), ih, List.length_cons, show 128 * (r.length + 1) = 128 + 128 * r.length by omega, rowN_add, show 138 + 128 * i + 128 = 138 + 128 * (i + 1) by omega]
    show (AllS.mk ((S.L ++ rowN (num Z R) (138 + 128 * i) 128) ++ _) ((S.M ++ ((if num Z R (16524 + i) = 0 then [] else _) ++ [])) ++ _), (0 : Int)) = (AllS.mk (S.L ++ (_ ++ _)) (S.M ++ ((if num Z R (16524 + i) = 0 then [] else _) ++ _)), (0 : Int))
    rw [List.append_assoc, List.append_assoc, List.append_nil]; rfl
/-- All tells the numbers of all indices that have one, rising, and the tables -/
theorem allS_ok {n : Nat} {Z : Nat → Txt} {R : List Int} {T : TM} (a : Av n Z T) (w : Wf n Z R) : allM T (geoN n) R = (rowN (num Z R) 0 16522, tabN (num Z R) 16522 1 ++ (tabN (num Z R) 16523 1 ++ if num Z R 16523 = 0 then [] else tabN (num Z R) 16524 128), 0) := by
  have rl := w.rl
  have dirs : eachGo (dirD (geoN n)) ((R.drop 3).take 10) 0 ⟨[], []⟩ = (⟨rowN (num Z R) 0 10, []⟩, 0) := by
    have hl : ((R.drop 3).take 10).length = 10 := by rw [List.length_take, List.length_drop, rl]; rfl
    have g := own_go (g := geoN n) (f := num Z R) (dO := dirD (geoN n)) (b := 0) (fun S i v => by show ownA _ S (i : Int) v = _; rw [Nat.zero_add]) ((R.drop 3).take 10) 0 ⟨[], []⟩ (fun j hj => by
      have h0 : par (0 + 0 + j) = none := by unfold par; rw [if_pos (by omega)]
      rw [← root_num w (by unfold nS; omega) h0]
      unfold root
      rw [if_pos (by omega), List.getElem_take, List.getElem_drop, List.getD_eq_getElem?_getD, List.getElem?_eq_getElem (by omega)]
      show _ = R[3 + (0 + 0 + j)]
      congr 1; omega) (fun j hj hne => by
      have r2 := w.rng _ (by unfold nS; omega) hne
      exact look_ok r2.1 r2.2.1)
    rw [hl] at g
    exact g
  have r13 : R.getD 13 0 = (num Z R 16522 : Nat) := by
    have := root_num w (s := 16522) (by decide) (by decide)
    unfold root at this
    rw [if_neg (by decide), if_pos rfl] at this; exact this
  have r14 : R.getD 14 0 = (num Z R 16523 : Nat) := by
    have := root_num w (s := 16523) (by decide) (by decide)
    unfold root at this
    rw [if_neg (by decide), if_neg (by decide)] at this; exact this
  have one : ∀ S, eachM T (geoN n) (oneD (geoN n)) (R.getD 13 0) S = (⟨S.L ++ rowN (num Z R) 10 128, S.M ++ tabN (num Z R) 16522 1⟩, 0) := fun S => by
    rw [r13]
    refine each_ok a w (fun S j v => ?_) (by decide) fun j hj => ⟨by unfold nS; omega, ?_⟩
    · show ownA (geoN n) S (10 + (j : Int)) v = _
      rw [show 10 + (j : Int) = ((10 + j : Nat) : Int) by omega]
    · unfold par
      rw [if_neg (by omega), if_pos (by omega), show 10 + j - 10 = j by omega]
  have two : ∀ S, eachM T (geoN n) (twoD T (geoN n)) (R.getD 14 0) S = (⟨S.L ++ rowN (num Z R) 138 16384, S.M ++ (tabN (num Z R) 16523 1 ++ if num Z R 16523 = 0 then [] else tabN (num Z R) 16524 128)⟩, 0) := fun S => by
    rw [r14]
    have pt : ∀ p, p < 128 → num Z R (16524 + p) = sub Z (num Z R 16523) p := fun p hp => num_some (par_table hp) (by unfold nS; omega)
    unfold eachM
    show _ = (AllS.mk _ (S.M ++ (((if num Z R 16523 = 0 then [] else _) ++ []) ++ _)), (0 : Int))
    by_cases h0 : num Z R 16523 = 0
    · rw [if_pos (by omega), if_pos h0, if_pos h0, rowN_zero 16384 138 fun j hj => ?_]
      · simp only [List.append_nil]
      · have e : par (138 + j) = some (16524 + j / 128, j % 128) := by
          unfold par
          rw [if_neg (by omega), if_neg (by omega), if_pos (by omega), Nat.add_sub_cancel_left]
        rw [num_some e (by unfold nS; omega), pt (j / 128) (by omega), h0]; rfl
    · have ru := w.rng 16523 (by decide) h0
      rw [if_neg (by omega), if_neg (fun z => z (look_ok ru.1 ru.2.1)), a.z _ ru.2.1, if_neg (fun z => z rfl), if_neg h0, if_neg h0]
      have g := two_go a w (numsL (Z (num Z R 16523))) 0 ⟨S.L, S.M ++ [((num Z R 16523 : Nat) : Int)]⟩ (by rw [numsL_len]; decide) (fun j hj => by
        rw [numsL_get hj]
        rw [numsL_len] at hj
        rw [Nat.add_zero, pt j hj]
        unfold sub
        rw [if_neg h0])
      rw [numsL_len] at g
      rw [g, List.append_nil, ← List.append_assoc]
  have sum : rowN (num Z R) 0 16522 = (rowN (num Z R) 0 10 ++ rowN (num Z R) 10 128) ++ rowN (num Z R) 138 16384 := by
    rw [show 16522 = 10 + (128 + 16384) by rfl, rowN_add, rowN_add, ← List.append_assoc]
  have es : allS T (geoN n) R = (⟨rowN (num Z R) 0 16522, tabN (num Z R) 16522 1 ++ (tabN (num Z R) 16523 1 ++ if num Z R 16523 = 0 then [] else tabN (num Z R) 16524 128)⟩, 0) := by
    unfold allS
    rw [dirs, if_neg (fun z => z rfl), one, if_neg (fun z => z rfl), two, sum]; rfl
  unfold allM
  rw [es, if_neg (fun z => z rfl)]
end Go.Proofs.YtcdpakjhjmchhaaGreatDoor.Bm
namespace Go.Proofs.YtcdpakjhjmchhaaGreatDoor.Bm
open Go Go.Proofs Go.Proofs.YtcdpakjhjmchhaaGreatDoor.Wx Go.Proofs.YtcdpakjhjmchhaaGreatDoor.Hp Go.Proofs.YtcdpakjhjmchhaaGreatDoor.W Go.Proofs.YtcdpakjhjmchhaaGreatDoor.Ad Go.Proofs.YtcdpakjhjmchhaaGreatDoor.Tm Go.Proofs.YtcdpakjhjmchhaaGreatDoor.Bt Go.Proofs.YtcdpakjhjmchhaaGreatDoor.Spc Go.Proofs.YtcdpakjhjmchhaaGreatDoor.Re Go.Proofs.YtcdpakjhjmchhaaGreatDoor.Av
def Z0 (L : Txt) : Nat → Txt := fun k => (L.drop (k * 512)).take 512
theorem fresh_av {n : Nat} {L : Txt} (hL : L.length = 512 * n) : Av n (Z0 L) ⟨fresh (chunks L), [], [], false⟩ := by
  have hn : (chunks L).length = n := by rw [chunks_length, hL]; omega
  refine ⟨rfl, hn, fun k hk => ?_, fun k hk => by unfold Z0; rw [List.length_take, List.length_drop, hL]; omega, List.nodup_nil, fun x hx => (by cases hx)⟩
  have hN : TM.N ⟨fresh (chunks L), [], [], false⟩ = n := hn
  rw [TM.read_live rfl, hN, if_neg (by omega), TM.get_none rfl, if_neg (by intro y; cases y)]
  have : readAt (fresh (chunks L)) ((k : Nat) : Int).toNat = Z0 L k := by
    show (chunks L).getD k [] = _
    rw [List.getD_eq_getElem?_getD, List.getElem?_eq_getElem (by omega), Option.getD_some, chunks_get]; rfl
  rw [this]
theorem bitAt_chunk (L : Txt) (k t : Nat) (ht : t < 4096) : bitAt (Z0 L k) t = bitAt L (4096 * k + t) := by
  unfold bitAt Z0
  rw [List.getD_eq_getElem?_getD, List.getElem?_take, if_pos (by omega), List.getElem?_drop, ← List.getD_eq_getElem?_getD, show k * 512 + t / 8 = (4096 * k + t) / 8 by omega, show t % 8 = (4096 * k + t) % 8 by omega]
/-- which blocks a case's bitmap says are taken -/
theorem Im.bit {n : Nat} {U : Nat → Bool} {L : Txt} (a : Im n U L) (hn : 128 ≤ n ∧ n < 4428) {j : Nat} (hj : j < n) : Av.bit (Z0 L) j = U j := by
  have hino : (geoN n).inodes = 98 + (n + 4095) / 4096 := rfl
  rw [← a.bits j (by omega)]
  unfold Av.bit
  rw [bitAt_chunk _ _ _ (Nat.mod_lt _ (by decide))]
  congr 1; omega
/-- a record without a number -/
theorem num_nil {Z : Nat → Txt} {R : List Int} (h : ∀ i, 3 ≤ i → i < 15 → R.getD i 0 = 0) : ∀ s, s < nS → num Z R s = 0 := by
  refine slots (fun s hs e => ?_) fun s q p hs e ih => ?_
  · rw [num_none e]
    have b := par_none e
    have : root R s = 0 := by
      unfold root
      split
      · exact h _ (by omega) (by omega)
      · split
        · exact h _ (by omega) (by omega)
        · exact h _ (by omega) (by omega)
    rw [this]; rfl
  · rw [num_some e hs, ih]; rfl
theorem wf_nil {n : Nat} {Z : Nat → Txt} {R : List Int} (hl : R.length = 15) (h : ∀ i, 3 ≤ i → i < 15 → R.getD i 0 = 0) : Wf n Z R :=
  ⟨hl, fun i h1 h2 => by rw [h i h1 h2]; exact Int.le_refl _, fun s hs h0 => absurd (num_nil h s hs) h0, fun s s' hs _ h0 _ => absurd (num_nil h s hs) h0⟩
/-- the pairs of a row -/
theorem mem_rowN {f : Nat → Nat} {x : Int × Int} : ∀ (m k : Nat), x ∈ rowN f k m ↔ ∃ j, k ≤ j ∧ j < k + m ∧ f j ≠ 0 ∧ x = ((j : Int), (f j : Int))
  | 0, k => by
    constructor
    · intro h; cases h
    · rintro ⟨j, h1, h2, _⟩; omega
  | m + 1, k => by
    show x ∈ (if f k = 0 then [] else [((k : Int), (f k : Int))]) ++ rowN f (k + 1) m ↔ _
    rw [List.mem_append, mem_rowN m (k + 1)]
    constructor
    · rintro (h | ⟨j, h1, h2, h3, h4⟩)
      · split at h
        · cases h
        · rename_i h0
          exact ⟨k, Nat.le_refl _, by omega, h0, List.mem_singleton.mp h⟩
      · exact ⟨j, by omega, by omega, h3, h4⟩
    · rintro ⟨j, h1, h2, h3, h4⟩
      by_cases e : j = k
      · subst e
        rw [if_neg h3]; exact .inl (List.mem_singleton.mpr h4)
      · exact .inr ⟨j, by omega, by omega, h3, h4⟩
theorem rowN_lt {f : Nat → Nat} : ∀ (m k : Nat), (rowN f k m).Pairwise fun x y => x.1 < y.1
  | 0, _ => List.Pairwise.nil
  | m + 1, k => by
    show ((if f k = 0 then [] else [((k : Int), (f k : Int))]) ++ rowN f (k + 1) m).Pairwise _
    rw [List.pairwise_append]
    refine ⟨?_, rowN_lt m (k + 1), fun x hx y hy => ?_⟩
    · split
      · exact List.Pairwise.nil
      · exact List.pairwise_singleton _ _
    · obtain ⟨j, h1, _, _, rfl⟩ := (mem_rowN m (k + 1)).mp hy
      split at hx
      · cases hx
      · rw [List.mem_singleton.mp hx]; show (k : Int) < (j : Int); omega
end Go.Proofs.YtcdpakjhjmchhaaGreatDoor.Bm
namespace Go.Proofs.YtcdpakjhjmchhaaGreatDoor.Bm
open Go Go.Proofs Go.Proofs.YtcdpakjhjmchhaaGreatDoor.Wx Go.Proofs.YtcdpakjhjmchhaaGreatDoor.Hp Go.Proofs.YtcdpakjhjmchhaaGreatDoor.W Go.Proofs.YtcdpakjhjmchhaaGreatDoor.Ad Go.Proofs.YtcdpakjhjmchhaaGreatDoor.Tm Go.Proofs.YtcdpakjhjmchhaaGreatDoor.Bt Go.Proofs.YtcdpakjhjmchhaaGreatDoor.Spc Go.Proofs.YtcdpakjhjmchhaaGreatDoor.Re Go.Proofs.YtcdpakjhjmchhaaGreatDoor.Av
def loS (q : Nat) : Nat := if q = 16522 then 10 else if q = 16523 then 138 else 138 + 128 * (q - 16524)
def hiS (q : Nat) : Nat := if q = 16522 then 138 else if q = 16523 then 16522 else 138 + 128 * (q - 16524) + 128
def ch (q p : Nat) : Nat := if q = 16522 then 10 + p else if q = 16523 then 16524 + p else 138 + 128 * (q - 16524) + p
theorem lo_tab (p : Nat) : loS (16524 + p) = 138 + 128 * p := by unfold loS; rw [if_neg (by omega), if_neg (by omega), Nat.add_sub_cancel_left]
theorem hi_tab (p : Nat) : hiS (16524 + p) = 138 + 128 * p + 128 := by unfold hiS; rw [if_neg (by omega), if_neg (by omega), Nat.add_sub_cancel_left]
theorem ch_tab (r p : Nat) : ch (16524 + r) p = 138 + 128 * r + p := by unfold ch; rw [if_neg (by omega), if_neg (by omega), Nat.add_sub_cancel_left]
theorem ch_one (p : Nat) : ch 16522 p = 10 + p := rfl
theorem ch_two (p : Nat) : ch 16523 p = 16524 + p := rfl
/-- the three kinds of tables -/
theorem tab_cases {q : Nat} (h1 : 16522 ≤ q) (h2 : q < nS) : q = 16522 ∨ q = 16523 ∨ ∃ r, r < 128 ∧ q = 16524 + r := by
  unfold nS at h2
  by_cases a : q = 16522
  · exact .inl a
  · by_cases b : q = 16523
    · exact .inr (.inl b)
    · exact .inr (.inr ⟨q - 16524, by omega, by omega⟩)
theorem ch_par {q p : Nat} (h1 : 16522 ≤ q) (h2 : q < nS) (hp : p < 128) : par (ch q p) = some (q, p) ∧ ch q p < nS := by
  rcases tab_cases h1 h2 with rfl | rfl | ⟨r, hr, rfl⟩
  · rw [ch_one]
    refine ⟨?_, by unfold nS; omega⟩
    unfold par
    rw [if_neg (by omega), if_pos (by omega), Nat.add_sub_cancel_left]
  · rw [ch_two]
    exact ⟨par_table hp, by unfold nS; omega⟩
  · rw [ch_tab]
    refine ⟨?_, by unfold nS; omega⟩
    unfold par
    rw [if_neg (by omega), if_neg (by omega), if_pos (by omega), show (138 + 128 * r + p - 138) / 128 = r by omega, show (138 + 128 * r + p - 138) % 128 = p by omega]
/-- slot s is q or below it -/
def Sub (q s : Nat) : Prop := s = q ∨ (16522 ≤ q ∧ loS q ≤ s ∧ s < hiS q) ∨ (q = 16523 ∧ 16524 ≤ s ∧ s < nS)
theorem sub_leaf {c s : Nat} (h : c < 16522) : Sub c s ↔ s = c := by unfold Sub; omega
theorem sub_one {s : Nat} : Sub 16522 s ↔ s = 16522 ∨ (10 ≤ s ∧ s < 138) := by
  have e1 : loS 16522 = 10 := rfl
  have e2 : hiS 16522 = 138 := rfl
  unfold Sub; rw [e1, e2]; omega
theorem sub_two {s : Nat} : Sub 16523 s ↔ s = 16523 ∨ (138 ≤ s ∧ s < 16522) ∨ (16524 ≤ s ∧ s < nS) := by
  have e1 : loS 16523 = 138 := rfl
  have e2 : hiS 16523 = 16522 := rfl
  unfold Sub; rw [e1, e2]; omega
theorem sub_tab {r s : Nat} : Sub (16524 + r) s ↔ s = 16524 + r ∨ (138 + 128 * r ≤ s ∧ s < 138 + 128 * r + 128) := by
  unfold Sub; rw [lo_tab, hi_tab]; omega
theorem sub_split {q s : Nat} (h1 : 16522 ≤ q) (h2 : q < nS) : Sub q s ↔ s = q ∨ ∃ j, j < 128 ∧ Sub (ch q j) s := by
  rcases tab_cases h1 h2 with rfl | rfl | ⟨r, hr, rfl⟩
  · rw [sub_one]
    constructor
    · rintro (h | h)
      · exact .inl h
      · exact .inr ⟨s - 10, by omega, by rw [ch_one, sub_leaf (by omega)]; omega⟩
    · rintro (h | ⟨j, hj, h⟩)
      · exact .inl h
      · rw [ch_one, sub_leaf (by omega)] at h; omega
  · rw [sub_two]
    constructor
    · rintro (h | h | h)
      · exact .inl h
      · exact .inr ⟨(s - 138) / 128, by omega, by rw [ch_two, sub_tab]; omega⟩
      · exact .inr ⟨s - 16524, by unfold nS at h; omega, by rw [ch_two, sub_tab]; omega⟩
    · rintro (h | ⟨j, hj, h⟩)
      · exact .inl h
      · rw [ch_two, sub_tab] at h; unfold nS; omega
  · rw [sub_tab]
    constructor
    · rintro (h | h)
      · exact .inl h
      · exact .inr ⟨s - (138 + 128 * r), by omega, by rw [ch_tab, sub_leaf (by omega)]; omega⟩
    · rintro (h | ⟨j, hj, h⟩)
      · exact .inl h
      · rw [ch_tab, sub_leaf (by omega)] at h; omega
theorem data_sub {q s : Nat} (h1 : 16522 ≤ q) (h2 : q < nS) (h : loS q ≤ s) (h' : s < hiS q) : Sub q s ∧ s < 16522 := by
  refine ⟨.inr (.inl ⟨h1, h, h'⟩), ?_⟩
  rcases tab_cases h1 h2 with rfl | rfl | ⟨r, hr, rfl⟩
  · have : s < 138 := h'; omega
  · exact h'
  · rw [hi_tab] at h'; omega
/-- below nothing is nothing -/
theorem sub_zero {Z : Nat → Txt} {R : List Int} {q : Nat} (hq : q < nS) (h0 : num Z R q = 0) : ∀ s, Sub q s → num Z R s = 0 := by
  intro s h
  rcases Nat.lt_or_ge q 16522 with h1 | h1
  · rw [sub_leaf h1] at h; rw [h]; exact h0
  · rcases (sub_split h1 hq).mp h with rfl | ⟨j, hj, h⟩
    · exact h0
    · obtain ⟨e, hc⟩ := ch_par h1 hq hj
      have hz : num Z R (ch q j) = 0 := by rw [num_some e hc, h0]; exact if_pos rfl
      rcases Nat.lt_or_ge (ch q j) 16522 with h2 | h2
      · rw [sub_leaf h2] at h; rw [h]; exact hz
      · rcases (sub_split h2 hc).mp h with rfl | ⟨i, hi, h⟩
        · exact hz
        · obtain ⟨e', hc'⟩ := ch_par h2 hc hi
          have : ch (ch q j) i < 16522 := by
            rcases tab_cases h1 hq with rfl | rfl | ⟨r, hr, rfl⟩
            · rw [ch_one] at h2; omega
            · rw [ch_two, ch_tab]; omega
            · rw [ch_tab] at h2; omega
          rw [sub_leaf this] at h
          rw [h, num_some e' hc', hz]; exact if_pos rfl
/-- each table tells of a block -/
def Tight (Z : Nat → Txt) (R : List Int) : Prop := ∀ q, 16522 ≤ q → q < nS → num Z R q ≠ 0 → ∃ x, loS q ≤ x ∧ x < hiS q ∧ num Z R x ≠ 0
end Go.Proofs.YtcdpakjhjmchhaaGreatDoor.Bm
namespace Go.Proofs.YtcdpakjhjmchhaaGreatDoor.Bm
open Go Go.Proofs Go.Proofs.YtcdpakjhjmchhaaGreatDoor.Wx Go.Proofs.YtcdpakjhjmchhaaGreatDoor.Hp Go.Proofs.YtcdpakjhjmchhaaGreatDoor.W Go.Proofs.YtcdpakjhjmchhaaGreatDoor.Ad Go.Proofs.YtcdpakjhjmchhaaGreatDoor.Tm Go.Proofs.YtcdpakjhjmchhaaGreatDoor.Bt Go.Proofs.YtcdpakjhjmchhaaGreatDoor.Spc Go.Proofs.YtcdpakjhjmchhaaGreatDoor.Re Go.Proofs.YtcdpakjhjmchhaaGreatDoor.Av
theorem nz60 {x : Int} (e : x = 60) : x ≠ 0 := by rw [e]; decide
theorem nz90 {x : Int} (e : x = 90) : x ≠ 0 := by rw [e]; decide
end Go.Proofs.YtcdpakjhjmchhaaGreatDoor.Bm
namespace Go.Proofs.YtcdpakjhjmchhaaGreatDoor.Bm
open Go Go.Proofs Go.Proofs.YtcdpakjhjmchhaaGreatDoor.Wx Go.Proofs.YtcdpakjhjmchhaaGreatDoor.Hp Go.Proofs.YtcdpakjhjmchhaaGreatDoor.W Go.Proofs.YtcdpakjhjmchhaaGreatDoor.Ad Go.Proofs.YtcdpakjhjmchhaaGreatDoor.Tm Go.Proofs.YtcdpakjhjmchhaaGreatDoor.Bt Go.Proofs.YtcdpakjhjmchhaaGreatDoor.Spc Go.Proofs.YtcdpakjhjmchhaaGreatDoor.Re Go.Proofs.YtcdpakjhjmchhaaGreatDoor.Av
theorem root_dir {R : List Int} {i : Nat} (hi : i < 10) : root R i = R.getD (3 + i) 0 := if_pos hi
end Go.Proofs.YtcdpakjhjmchhaaGreatDoor.Bm
namespace Go.Proofs.YtcdpakjhjmchhaaGreatDoor.Bm
open Go Go.Proofs Go.Proofs.YtcdpakjhjmchhaaGreatDoor.Wx Go.Proofs.YtcdpakjhjmchhaaGreatDoor.Hp Go.Proofs.YtcdpakjhjmchhaaGreatDoor.W Go.Proofs.YtcdpakjhjmchhaaGreatDoor.Ad Go.Proofs.YtcdpakjhjmchhaaGreatDoor.Tm Go.Proofs.YtcdpakjhjmchhaaGreatDoor.Bt Go.Proofs.YtcdpakjhjmchhaaGreatDoor.Spc Go.Proofs.YtcdpakjhjmchhaaGreatDoor.Re Go.Proofs.YtcdpakjhjmchhaaGreatDoor.Av
/-- Add -/
theorem add_ok {n k : Nat} {Z : Nat → Txt} {R : List Int} {T : TM} (d : Dim n) (a : Av n Z T) (w : Wf n Z R) (hk : k < 16522) :
    (addM T (geoN n) R k = (T, z15, 0, 60) ∧ 96 ≤ (ks T).length + 9) ∨ (addM T (geoN n) R k = (T, z15, 0, 90) ∧ frees n Z < miss Z R (path k)) ∨
    ∃ T' R' Z', addM T (geoN n) R k = (T', R', ((num Z' R' k : Nat) : Int), 0) ∧ Av n Z' T' ∧ Added n Z R none (path k) Z' R' ∧ (miss Z R (path k) = 0 → T' = T) ∧ (∀ x ∈ ks T', x ∈ ks T ∨ x < (geoN n).inodes ∨ ∃ s ∈ path k, x = ((num Z' R' s : Nat) : Int)) ∧ (∀ x ∈ ks T, x ∈ ks T') ∧ ∀ s ∈ path k, num Z R s = 0 → ((num Z' R' s : Nat) : Int) ∈ ks T' := by
  obtain ⟨c, e⟩ := path_chain hk
  unfold addM
  rw [if_neg (by omega), Int.toNat_natCast, ← e]
  have hl : (path k).length ≤ 3 := by
    unfold path
    split
    · simp
    · split <;> simp
  obtain ⟨o, x⟩ := walkA_ok d (path k) none Z T T R a w c (fun q y => by cases y) (Ext.refl T)
  have ea : at_ Z R none = 0 := rfl
  rw [ea] at o x
  rcases o with ⟨Z', e1, a', ad, nf, kk, lk1, lk2⟩ | ⟨e1, h⟩ | ⟨e1, h⟩
  · rw [if_neg (fun y => y (by rw [e1]))]
    refine .inr (.inr ⟨_, _, Z', ?_, a', ad, nf, fun x hx => ?_, lk1, lk2⟩)
    · rw [e1, path_last]; rfl
    · rcases kk x hx with h | h | h | ⟨q, h, _⟩
      · exact .inl h
      · exact .inr (.inl h)
      · exact .inr (.inr h)
      · cases h
  · rw [if_pos (nz60 (by rw [e1])), x.back a.live, e1]
    exact .inl ⟨rfl, by omega⟩
  · rw [if_pos (nz90 (by rw [e1])), x.back a.live, e1]
    exact .inr (.inl ⟨rfl, h⟩)
theorem path_under {k q : Nat} (hk : k < 16522) (h : q ∈ path k) (hq : 16522 ≤ q) : loS q ≤ k ∧ k < hiS q := by
  unfold path at h
  split at h
  · rw [List.mem_singleton] at h; omega
  · split at h
    · simp only [List.mem_cons, List.not_mem_nil, or_false] at h
      rcases h with rfl | rfl
      · show 10 ≤ k ∧ k < 138; omega
      · omega
    · simp only [List.mem_cons, List.not_mem_nil, or_false] at h
      rcases h with rfl | rfl | rfl
      · show 138 ≤ k ∧ k < 16522; omega
      · rw [lo_tab, hi_tab]; omega
      · omega
theorem path_self (k : Nat) : k ∈ path k := List.mem_of_getLast? (path_last k)
theorem path_data {k s : Nat} (h : s ∈ path k) (hs : s < 16522) : s = k := by
  unfold path at h
  split at h
  · exact List.mem_singleton.mp h
  · split at h
    · simp only [List.mem_cons, List.not_mem_nil, or_false] at h; omega
    · simp only [List.mem_cons, List.not_mem_nil, or_false] at h; omega
theorem Added.tight {n k : Nat} {Z Z' : Nat → Txt} {R R' : List Int} (a : Added n Z R none (path k) Z' R') (hk : k < 16522) (tg : Tight Z R) : Tight Z' R' := by
  intro q h1 h2 h0
  by_cases hq : q ∈ path k
  · obtain ⟨b, c⟩ := path_under hk hq h1
    exact ⟨k, b, c, a.got k (path_self k)⟩
  · rw [a.off q h2 hq] at h0
    obtain ⟨x, b, c, hx⟩ := tg q h1 h2 h0
    have hx2 := (data_sub h1 h2 b c).2
    refine ⟨x, b, c, ?_⟩
    by_cases hp : x ∈ path k
    · exact a.got x hp
    · rw [a.off x (by unfold nS; omega) hp]; exact hx
theorem tight_nil {Z : Nat → Txt} {R : List Int} (h : ∀ i, 3 ≤ i → i < 15 → R.getD i 0 = 0) : Tight Z R := fun q _ h2 h0 => absurd (num_nil h q h2) h0
/-- the data blocks behind an Add -/
theorem Added.data {n k : Nat} {Z Z' : Nat → Txt} {R R' : List Int} (a : Added n Z R none (path k) Z' R') {s : Nat} (hs : s < 16522) (hne : s ≠ k) : num Z' R' s = num Z R s :=
  a.off s (by unfold nS; omega) fun h => hne (path_data h hs)
theorem roots_num {n : Nat} {Z : Nat → Txt} {R : List Int} (w : Wf n Z R) : (∀ i, i < 10 → R.getD (3 + i) 0 = ((num Z R i : Nat) : Int)) ∧ R.getD 13 0 = ((num Z R 16522 : Nat) : Int) ∧ R.getD 14 0 = ((num Z R 16523 : Nat) : Int) :=
  ⟨fun i hi => by rw [← root_dir hi]; exact root_num w (by unfold nS; omega) (by unfold par; rw [if_pos hi]), root_num w (s := 16522) (by decide) rfl, root_num w (s := 16523) (by decide) rfl⟩
end Go.Proofs.YtcdpakjhjmchhaaGreatDoor.Bm
namespace Go.Proofs.YtcdpakjhjmchhaaGreatDoor.Bm
open Go Go.Proofs Go.Proofs.YtcdpakjhjmchhaaGreatDoor.Wx Go.Proofs.YtcdpakjhjmchhaaGreatDoor.Hp Go.Proofs.YtcdpakjhjmchhaaGreatDoor.W Go.Proofs.YtcdpakjhjmchhaaGreatDoor.Ad Go.Proofs.YtcdpakjhjmchhaaGreatDoor.Tm Go.Proofs.YtcdpakjhjmchhaaGreatDoor.Bt Go.Proofs.YtcdpakjhjmchhaaGreatDoor.Spc Go.Proofs.YtcdpakjhjmchhaaGreatDoor.Re Go.Proofs.YtcdpakjhjmchhaaGreatDoor.Av
theorem walkA_un (g : G) : ∀ (l : List (Nat × Nat)) (T : TM) (R : List Int) (a : Int), (∀ s ∈ l, StOk s) → (walkA g l T R a).1.1.undo.length ≤ T.undo.length + 3 * l.length
  | [], T, R, a, _ => Nat.le_add_right _ _
  | s :: r, T, R, a, h => by
    have ih := fun T' R' a' => walkA_un g r T' R' a' fun x hx => h x (List.mem_cons_of_mem _ hx)
    have nx : ∀ (TR : TM × List Int) (nu er : Int), TR.1.undo.length ≤ T.undo.length + 3 → (nextM g TR nu er (walkA g r)).1.1.undo.length ≤ T.undo.length + 3 * (r.length + 1) := fun TR nu er hle => by
      unfold nextM
      split
      · show TR.1.undo.length ≤ _; omega
      · split
        · show TR.1.undo.length ≤ _; omega
        · split
          · show TR.1.undo.length ≤ _; omega
          · have := ih TR.1 TR.2 nu; omega
    rw [walkA_cons, List.length_cons]
    split
    · exact nx _ _ _ (holeM_un (h s (List.mem_cons_self ..)))
    · exact nx (T, R) _ _ (Nat.le_add_right _ _)
theorem back_un (T : TM) (m : Int) : (T.back m).1.undo.length ≤ T.undo.length := by
  unfold TM.back
  split
  · exact Nat.le_refl _
  · split
    · exact Nat.le_refl _
    · show (T.undo.take _).length ≤ _
      rw [List.length_take]; omega
theorem addM_un {T : TM} {g : G} {R : List Int} {k : Int} : (addM T g R k).1.undo.length ≤ T.undo.length + 9 := by
  unfold addM
  split
  · exact Nat.le_add_right _ _
  · rename_i hk
    have hl : (wayM k.toNat).length ≤ 3 := by
      unfold wayM
      split
      · simp
      · split <;> simp
    have := walkA_un g (wayM k.toNat) T R 0 (wayM_ok (by omega))
    split
    · have hb := back_un (walkA g (wayM k.toNat) T R 0).1.1 T.undo.length
      exact Nat.le_trans hb (by omega)
    · exact Nat.le_trans this (by omega)
theorem dirGo_un (g : G) : ∀ (l : List Nat) (T : TM) (R : List Int), (dirGo g l T R).1.1.undo.length ≤ T.undo.length + l.length
  | [], T, R => Nat.le_refl _
  | i :: r, T, R => by
    rw [List.length_cons]
    unfold dirGo
    split
    · have := dirGo_un g r T R; omega
    · have h1 := giveF_un T g (R.getD (3 + i) 0)
      split
      · show (giveF T g (R.getD (3 + i) 0)).1.undo.length ≤ _; omega
      · have := dirGo_un g r (giveF T g (R.getD (3 + i) 0)).1 (R.set (3 + i) 0); omega
theorem rootEnd_un (i : Nat) (R : List Int) (C : TM × Bool × Int) : (rootEnd i R C).1.1 = C.1 := by
  unfold rootEnd; split <;> rfl
theorem cutS_un (g : G) (k : Int) (T : TM) (R : List Int) : (cutS g k T R).1.1.undo.length ≤ T.undo.length + 16700 + (10 - k.toNat) := by
  have h1 := dirGo_un g (dirsM k) T R
  have hl : (dirsM k).length = 10 - k.toNat := List.length_range'
  have h2 : ∀ (T' : TM) (R' : List Int), (oneM g k T' R').1.1.undo.length ≤ T'.undo.length + 129 := fun T' R' => by
    unfold oneM
    split
    · rw [rootEnd_un]; exact cutT_un (leafD_un g)
    · exact Nat.le_add_right _ _
  have h3 : ∀ (T' : TM) (R' : List Int), (twoM g k T' R').1.1.undo.length ≤ T'.undo.length + 16513 := fun T' R' => by
    unfold twoM
    split
    · rw [rootEnd_un]; exact cutT_un (tabD_un g (firstM k))
    · exact Nat.le_add_right _ _
  unfold cutS
  split
  · omega
  · have a := h2 (dirGo g (dirsM k) T R).1.1 (dirGo g (dirsM k) T R).1.2
    split
    · omega
    · have b := h3 (oneM g k (dirGo g (dirsM k) T R).1.1 (dirGo g (dirsM k) T R).1.2).1.1 (oneM g k (dirGo g (dirsM k) T R).1.1 (dirGo g (dirsM k) T R).1.2).1.2
      omega
theorem cutM_un {T : TM} {g : G} {R : List Int} {k : Int} : (cutM T g R k).1.undo.length ≤ T.undo.length + 16710 := by
  have h := cutS_un g k T R
  unfold cutM
  split
  · exact Nat.le_add_right _ _
  · split
    · have hb := back_un (cutS g k T R).1.1 T.undo.length
      exact Nat.le_trans hb (by omega)
    · exact Nat.le_trans h (by omega)
end Go.Proofs.YtcdpakjhjmchhaaGreatDoor.Bm
namespace Go.Proofs.YtcdpakjhjmchhaaGreatDoor.Fi
open Go Go.Proofs Go.Proofs.YtcdpakjhjmchhaaGreatDoor.Wx Go.Proofs.YtcdpakjhjmchhaaGreatDoor.Hp Go.Proofs.YtcdpakjhjmchhaaGreatDoor.W Go.Proofs.YtcdpakjhjmchhaaGreatDoor.Ad Go.Proofs.YtcdpakjhjmchhaaGreatDoor.Tm Go.Proofs.YtcdpakjhjmchhaaGreatDoor.Spc Go.Proofs.YtcdpakjhjmchhaaGreatDoor.Re Go.Proofs.YtcdpakjhjmchhaaGreatDoor.Av Go.Proofs.YtcdpakjhjmchhaaGreatDoor.Rg
open Go.Proofs.YtcdpakjhjmchhaaGreatDoor.Hd (ints)
open Go.Proofs.YtcdpakjhjmchhaaGreatDoor.In (Glo ints_length ints_one)
open Go.Proofs.YtcdpakjhjmchhaaGreatDoor.Ino (getM putM Cok getM_length)
open Go.Proofs.YtcdpakjhjmchhaaGreatDoor.Bm (findM cutM addM allM pcellA write_un cutM_un)
def toP (off n a : Nat) : Nat := min 512 ((off + a) % 512 + n - a)
def partV (off n a : Nat) : List Value := [.int .i64 ((off + a) / 512 : Nat), .int .i64 ((off + a) % 512 : Nat), .int .i64 (toP off n a : Nat), .int .i64 (a : Nat)]
def nextA (off n a : Nat) : Nat := a + (toP off n a - (off + a) % 512)
theorem toP_gt {off n a : Nat} (h : a < n) : (off + a) % 512 < toP off n a ∧ toP off n a ≤ 512 := by
  unfold toP; omega
theorem nextA_gt {off n a : Nat} (h : a < n) : a < nextA off n a ∧ nextA off n a ≤ n := by
  unfold nextA toP; omega
theorem hv_yield {P : Program} {l : Nat} {args : List Value} {h : Heap} {k : Value → Heap → Prop} (y : YCalls P l args h k) : HCallsV P (.func (.yield l) #[] #[]) args h k := y
theorem iter_spec {l cn co : Nat} {off n : Nat} {h : Heap} {K : Value → Heap → Prop} (ho : off + n ≤ 1000000000) (J : Nat → Heap → Prop)
    (hc : ∀ a hh, J a hh → rd hh cn = [.int .i64 (n : Nat)] ∧ rd hh co = [.int .i64 (off : Nat)] ∧ cn < hh.size ∧ co < hh.size)
    (hY : ∀ a hh h', J a hh → a < n → Fr No hh h' → rd h' hh.size = partV off n a → hh.size < h'.size →
      YCalls Tryz.prog l [.agg ⟨partV off n a⟩] h' fun v h'' => (v = .bool true ∧ J (nextA off n a) h'' ∧ rd h'' hh.size = rd h' hh.size) ∨ (v = .bool false ∧ K (.tuple #[]) h''))
    (h0 : J 0 h) (hK : ∀ hh, J n hh → K (.tuple #[]) hh) : C.file_parts_c1 (.func (.yield l) #[] #[]) (some ⟨cn, 0, none⟩) (some ⟨co, 0, none⟩) h K := by
  refine file_parts_c1.ok ⟨fun i hh => ∃ a : Nat, i = a ∧ a ≤ n ∧ J a hh, fun i _ => (n - i).toNat, ⟨0, rfl, Nat.zero_le _, h0⟩, ?_⟩
  rintro i h2 ⟨a, ei, ha, hJ⟩
  obtain ⟨rn, ro, ln, lo⟩ := hc a h2 hJ
  refine os ⟨_, rdc rn rfl, cd (fun hlt => ?_) fun hlt => ?_⟩
  · have hlt' : a < n := by omega
    obtain ⟨t1, t2⟩ := toP_gt (off := off) hlt'
    obtain ⟨x1, x2⟩ := nextA_gt (off := off) hlt'
    refine os ⟨_, rdc ro rfl, os ⟨_, rdc ro rfl, NewRow.intro rfl (by intro v hv; simp only [List.mem_cons, List.not_mem_nil, or_false] at hv; rcases hv with rfl | rfl | rfl | rfl <;> rfl) rfl fun h4 n4 => ?_⟩⟩
    have z4 := n4.size
    have e1 : Int.tdiv ((off : Int) + i) 512 = ((off + a) / 512 : Nat) := by rw [Int.tdiv_eq_ediv_of_nonneg (by omega)]; omega
    have e2 : Int.tmod ((off : Int) + i) 512 = ((off + a) % 512 : Nat) := by rw [Int.tmod_eq_emod_of_nonneg (by omega)]; omega
    have r4 := n4.rd
    rw [wrap_i64 (n := (off : Int) + i) (by omega) (by omega), e1, e2, wrap_i64 (by omega) (by omega), ei] at r4
    refine ⟨_, rda r4 rfl, os ⟨_, rdc ((n4.at_ ln).trans rn) rfl, Put.add n4.own (by rw [r4]; show 2 < 4; decide) fun h5 d5 => ?_⟩⟩
    have r5 : rd h5 h2.size = partV off n a := by
      rw [d5.rd, r4]
      have e3 : (if (IntKind.wrap .i64 ((IntKind.wrap .i64 ((((off + a) % 512 : Nat) : Int) + (n : Nat))) - i)) < 512 then (IntKind.wrap .i64 ((IntKind.wrap .i64 ((((off + a) % 512 : Nat) : Int) + (n : Nat))) - i)) else 512) = ((toP off n a : Nat) : Int) := by
        rw [wrap_i64 (n := (((off + a) % 512 : Nat) : Int) + (n : Nat)) (by omega) (by omega), wrap_i64 (by omega) (by omega)]
        unfold toP
        split <;> omega
      rw [e3]; rfl
    have f5 : Fr No h2 h5 := n4.fr.did d5 fun hl => by omega
    have z5 := d5.size
    refine ⟨_, rfl, cellsAll r5, hv_yield (ycalls_mono (hY a h2 h5 hJ hlt' f5 r5 (by omega)) fun v h6 hv => ?_)⟩
    rcases hv with ⟨rfl, hJ6, r6⟩ | ⟨rfl, hk⟩
    · have r6 := r6.trans r5
      refine ⟨true, rfl, cnot (ct rfl ⟨_, rda r6 rfl, _, rda r6 rfl, ?_⟩)⟩
      have e6 : IntKind.wrap .i64 (i + (IntKind.wrap .i64 (((toP off n a : Nat) : Int) - (((off + a) % 512 : Nat) : Int)))) = ((nextA off n a : Nat) : Int) := by
        rw [wrap_i64 (n := ((toP off n a : Nat) : Int) - _) (by omega) (by omega)]
        unfold nextA at x1 x2 ⊢
        rw [wrap_i64 (by omega) (by omega)]
        omega
      rw [e6]
      exact ⟨⟨_, rfl, x2, hJ6⟩, by show ((n : Int) - ((nextA off n a : Nat) : Int)).toNat < ((n : Int) - i).toNat; omega⟩
    · exact ⟨false, rfl, cnot (cf rfl hk)⟩
  · have : a = n := by omega
    subst this
    exact hK h2 hJ
def undoM (T : TM) (r : TM × Int) : TM × Int := if r.2 ≠ 0 then ((r.1.back T.mark.1).1, r.2) else r
def cutB (T : TM) (g : G) (i : Int) (R : List Int) (size : Int) : TM × Int :=
  if size < R.getD 2 0 then
    if (cutM T g R ((size + 511) / 512)).2.2 ≠ 0 then ((cutM T g R ((size + 511) / 512)).1, (cutM T g R ((size + 511) / 512)).2.2) else
    if (wipeM (cutM T g R ((size + 511) / 512)).1 g (cutM T g R ((size + 511) / 512)).2.1 size).2 ≠ 0 then wipeM (cutM T g R ((size + 511) / 512)).1 g (cutM T g R ((size + 511) / 512)).2.1 size else
      putM (wipeM (cutM T g R ((size + 511) / 512)).1 g (cutM T g R ((size + 511) / 512)).2.1 size).1 g i ((cutM T g R ((size + 511) / 512)).2.1.set 2 size)
  else putM T g i (R.set 2 size)
def cutF (T : TM) (g : G) (i size : Int) : TM × Int := if size < 0 then (T, 1) else if (getF T g i).2 ≠ 0 then (T, (getF T g i).2) else if size > 8459264 then (T, 120) else if size = (getF T g i).1.getD 2 0 then (T, 0) else
  undoM T (cutB T g i (getF T g i).1 size)
theorem wipeM_un {T : TM} {g : G} {R : List Int} {size : Int} : (wipeM T g R size).1.undo.length ≤ T.undo.length + 1 := by
  unfold wipeM
  split
  · exact Nat.le_add_right _ _
  · split
    · exact Nat.le_add_right _ _
    · split
      · exact Nat.le_add_right _ _
      · split
        · exact Nat.le_add_right _ _
        · exact write_un _ _ _
theorem putM_un {T : TM} {g : G} {n : Int} {R : List Int} : (putM T g n R).1.undo.length ≤ T.undo.length + 1 := by
  unfold putM
  split
  · exact Nat.le_add_right _ _
  · split
    · exact Nat.le_add_right _ _
    · split
      · exact Nat.le_add_right _ _
      · exact write_un _ _ _
theorem dirGo_len (g : G) : ∀ (l : List Nat) (T : TM) (R : List Int), (Bm.dirGo g l T R).1.2.length = R.length
  | [], _, _ => rfl
  | i :: r, T, R => by
    unfold Bm.dirGo
    split
    · exact dirGo_len g r T R
    · split
      · rfl
      · rw [dirGo_len g r]; exact List.length_set
theorem rootEnd_len (i : Nat) (R : List Int) (C : TM × Bool × Int) : (Bm.rootEnd i R C).1.2.length = R.length := by
  unfold Bm.rootEnd
  split
  · rfl
  · show (if C.2.1 = true then R else R.set i 0).length = _
    split
    · rfl
    · exact List.length_set
theorem oneM_len (g : G) (k : Int) (T : TM) (R : List Int) : (Bm.oneM g k T R).1.2.length = R.length := by
  unfold Bm.oneM
  split
  · exact rootEnd_len _ _ _
  · rfl
theorem twoM_len (g : G) (k : Int) (T : TM) (R : List Int) : (Bm.twoM g k T R).1.2.length = R.length := by
  unfold Bm.twoM
  split
  · exact rootEnd_len _ _ _
  · rfl
theorem cutM_length {T : TM} {g : G} {R : List Int} {k : Int} (hR : R.length = 15) : (cutM T g R k).2.1.length = 15 := by
  unfold cutM
  split
  · rfl
  · split
    · rfl
    · show (Bm.cutS g k T R).1.2.length = 15
      unfold Bm.cutS
      split
      · rw [dirGo_len, hR]
      · split
        · rw [oneM_len, dirGo_len, hR]
        · rw [twoM_len, oneM_len, dirGo_len, hR]
theorem cok {n : Nat} (d : Dim n) : Cok (geoN n) := ⟨geoN_ok d.hi, by have := d.hi; show 8 * (n / 64) ≤ _; omega⟩
/-- the error's place is written -/
theorem put_e {h : Heap} {eb : Nat} {e0 e : Int} {k : Heap → Prop} (w : Own h eb) (r : rd h eb = [.int .i64 e0]) (H : ∀ h', Did eb h h' [.int .i64 e] → k h') : Put ⟨eb, 0, none⟩ (.int .i64 e) h k :=
  Put.intro w (by rw [r]; exact Nat.zero_lt_one) fun h' d => by rw [r] at d; exact H h' d
/-- what a call that may be taken back has about it: the blocks of its own -/
structure Env (h : Heap) (F : Nat → Prop) (t : Option Addr) (m : Int) (g : G) (gb eb ub tb mb : Nat) (hh : Heap) (F' : Nat → Prop) (e : Int) : Prop where
  h1 : 1 ≤ h.size
  g0 : ∀ b, b < 1 → ¬ F b
  fr : Fr F h hh
  gw : Gw h F hh F'
  gl : Glo hh
  rg : rd hh gb = g.v
  oe : Own hh eb
  re : rd hh eb = [.int .i64 e]
  ud : Ud hh ub tb mb eb t m
  nf : ¬ F' gb ∧ ¬ F' eb ∧ ¬ F' ub ∧ ¬ F' tb ∧ ¬ F' mb
  ne : gb ≠ eb ∧ ub ≠ eb ∧ tb ≠ eb ∧ mb ≠ eb
  le : h.size ≤ eb
section
variable {h hh h' : Heap} {F F' F'' : Nat → Prop} {t : Option Addr} {m : Int} {g : G} {gb eb ub tb mb : Nat} {e : Int}
theorem Env.lg (E : Env h F t m g gb eb ub tb mb hh F' e) : gb < hh.size := rd_lt (o := 0) (by rw [E.rg]; rfl)
theorem Env.low (E : Env h F t m g gb eb ub tb mb hh F' e) : ∀ b, b < 1 → ¬ F' b := fun b hb y => by
  rcases E.gw.new y with y | y
  · exact E.g0 b hb y
  · have := E.h1; omega
theorem Env.step (E : Env h F t m g gb eb ub tb mb hh F' e) (f : Fr F' hh h') (w : Gw hh F' h' F'') : Env h F t m g gb eb ub tb mb h' F'' e := by
  obtain ⟨n1, n2, n3, n4, n5⟩ := E.nf
  obtain ⟨l3, l4, l5⟩ := E.ud.lt
  obtain ⟨a1, a2, a3, a4⟩ := stay f w E.lg n1
  obtain ⟨b1, b2, b3, b4⟩ := stay f w E.oe.lt n2
  exact ⟨E.h1, E.g0, E.fr.trans f fun b hb y => (E.gw.old b hb).mp y, E.gw.trans w E.fr.size, E.gl.fr f E.low, a1.trans E.rg, b4 E.oe, b1.trans E.re, E.ud.fr f n3 n4 n5, ⟨a2, b2, (stay f w l3 n3).2.1, (stay f w l4 n4).2.1, (stay f w l5 n5).2.1⟩, E.ne, E.le⟩
theorem Env.did (E : Env h F t m g gb eb ub tb mb hh F' e) {b : Nat} {cs : List Value} (d : Did b hh h' cs) (hb : h.size ≤ b) (n1 : gb ≠ b) (n2 : eb ≠ b) (n3 : ub ≠ b) (n4 : tb ≠ b) (n5 : mb ≠ b) : Env h F t m g gb eb ub tb mb h' F' e := by
  have z := d.size
  have := E.h1
  exact ⟨E.h1, E.g0, E.fr.did d fun y => by omega, ⟨E.gw.old, fun x hx => by rw [z]; exact E.gw.lt x hx⟩, E.gl.fr d.fr fun x hx y => by omega, (d.at_ E.lg n1).trans E.rg, d.ow E.oe, (d.at_ E.oe.lt n2).trans E.re, E.ud.fr d.fr n3 n4 n5, E.nf, E.ne, E.le⟩
theorem Env.set (E : Env h F t m g gb eb ub tb mb hh F' e) {v : Int} (d : Did eb hh h' [.int .i64 v]) : Env h F t m g gb eb ub tb mb h' F' v := by
  have z := d.size
  have := E.h1
  have := E.le
  obtain ⟨a1, a2, a3, a4⟩ := E.ne
  exact ⟨E.h1, E.g0, E.fr.did d fun y => by omega, ⟨E.gw.old, fun x hx => by rw [z]; exact E.gw.lt x hx⟩, E.gl.fr d.fr fun x hx y => by omega, (d.at_ E.lg a1).trans E.rg, d.own, d.rd, E.ud.fr d.fr a2 a3 a4, E.nf, E.ne, E.le⟩
theorem Env.leave (E : Env h F t m g gb eb ub tb mb hh F' e) {d : Option Addr} {T' : TM} {K : Value → Heap → Prop} (x : Tx hh F' t d T') (hu : T'.undo.length < 1000000000)
    (hK : ∀ h', Fr F h h' → Gw h F h' F' → Tx h' F' t d (if e ≠ 0 then (T'.back m).1 else T') → K (.int .i64 e) h') :
    DCallsV Tryz.prog (.func (.func 109) ⟨[]⟩ ⟨undoV ub tb mb⟩) [] hh fun h17 => ∃ (res : Int), cellOf h17 ⟨eb, 0, none⟩ = some (.int .i64 res) ∧ K (.int .i64 res) h17 :=
  undo_D x E.ud E.re hu fun h2 f2 x2 => by
    have w : Gw hh F' h2 F' := Gw.refl f2.size fun b hb => x.lt hb
    have E2 := E.step f2 w
    exact ⟨_, rdc E2.re rfl, hK h2 E2.fr E2.gw x2⟩
end
theorem Cut_k1 {h h2 h5 hh : Heap} {F F' : Nat → Prop} {t d : Option Addr} {T' : TM} {n : Nat} {i size m e : Int} {R : List Int} {ub tb mb : Nat} {K : Value → Heap → Prop} (dm : Dim n) (E : Env h F t m (geoN n) h.size h2.size ub tb mb hh F' e) (x : Tx hh F' t d T') (hR : R.length = 15)
    (rx : rd hh h5.size = ints R) (ox : Own hh h5.size) (nx : ¬ F' h5.size) (hx : h.size < h5.size) (h25 : h2.size < h5.size) (n3 : ub ≠ h5.size) (n4 : tb ≠ h5.size) (n5 : mb ≠ h5.size) (hu : T'.undo.length < 900000000)
    (hK : ∀ h' F'', Fr F h h' → Gw h F h' F'' → Tx h' F'' t d (if (putM T' (geoN n) i (R.set 2 size)).2 ≠ 0 then ((putM T' (geoN n) i (R.set 2 size)).1.back m).1 else (putM T' (geoN n) i (R.set 2 size)).1) → K (.int .i64 (putM T' (geoN n) i (R.set 2 size)).2) h') :
    file_Cut.k1 t i size h h2 h5 109 [] (undoV ub tb mb) hh K := by
  unfold file_Cut.k1
  refine Put.add ox (by rw [rx, ints_length, hR]; decide) fun h23 d23 => ?_
  have E23 := E.did d23 (Nat.le_of_lt hx) (by omega) (by omega) n3 n4 n5
  have x23 : Tx h23 F' t d T' := x.fr d23.fr fun b hb y => nx (y ▸ hb)
  have r23 : rd h23 h5.size = ints (R.set 2 size) := by rw [d23.rd, rx]; exact ints_set
  have lR : (R.set 2 size).length = 15 := by rw [List.length_set, hR]
  have un := putM_un (T := T') (g := geoN n) (n := i) (R := R.set 2 size)
  refine ⟨(geoN n).v, rfl, cellsAll E23.rg, _, by rw [ints_length, lR], cellsAll r23, Ino.Put_spec E23.gl x23 (cok dm) lR (by omega) fun h24 F24 f24 g24 x24 => ⟨_, rfl, ?_⟩⟩
  have E24 := E23.step f24 g24
  refine put_e E24.oe E24.re fun h25 d25 => ?_
  have E25 := E24.set d25
  exact E25.leave (x24.fr d25.fr fun b hb y => E24.nf.2.1 (y ▸ hb)) (by omega) fun h' f' g' x' => hK h' F24 f' g' x'
theorem Cut_spec {h : Heap} {F : Nat → Prop} {t d : Option Addr} {T : TM} {n : Nat} {i size : Int} {K : Value → Heap → Prop} (gl : Glo h) (dm : Dim n) (x : Tx h F t d T) (live : T.over = false) (g0 : ∀ b, b < 1 → ¬ F b) (hu : T.undo.length < 800000000)
    (hK : ∀ h' F', Fr F h h' → Gw h F h' F' → Tx h' F' t d (cutF T (geoN n) i size).1 → K (.int .i64 (cutF T (geoN n) i size).2) h') : C.file_Cut t (geoN n).v i size h K := by
  have Flt := fun b (hb : F b) => x.lt hb
  have gl1 := gl.lt
  have same : ∀ e h', Fr No h h' → cutF T (geoN n) i size = (T, e) → K (.int .i64 e) h' := fun e h' f e0 => by
    rw [e0] at hK
    exact hK h' F (f.mono fun _ _ y => y.elim) (Gw.refl f.size fun b hb => x.lt hb) (x.no f)
  refine file_Cut.ok (New.intro fun h2 n2 => New.intro fun h3 n3 => ?_)
  have z2 := n2.size
  have z3 := n3.size
  have F3 := n2.fr.new n3
  refine cd (fun hneg => put_e n3.own n3.rd fun h4 d4 => ⟨_, rdc d4.rd rfl, same 1 h4 (F3.did d4 fun hl => by omega) (by unfold cutF; rw [if_pos hneg])⟩) fun hneg => ?_
  have lR := getF_length T (geoN n) i
  refine ⟨(geoN n).v, rfl, cellsAll ((n3.at_ n2.own.lt).trans n2.rd), get_spec (gl.no F3) (x.no F3) (cok dm) fun h5 f5 => ⟨_, _, rfl, NewRow.intro (by rw [ints_length, lR]) (ints_one _) rfl fun h7 n7 => ?_⟩⟩
  have z5 := f5.size
  have z7 := n7.size
  have F7 : Fr No h h7 := (F3.no f5).new n7
  have o7 : Own h7 h2.size := n7.ow (f5.own (by omega) (fun y => y) n3.own)
  have e7 : rd h7 h2.size = [.int .i64 0] := (n7.at_ (by omega)).trans ((f5.rd (by omega) fun y => y).trans n3.rd)
  refine put_e o7 e7 fun h8 d8 => ⟨_, rdc d8.rd rfl, ?_⟩
  have z8 := d8.size
  have F8 : Fr No h h8 := F7.did d8 fun hl => by omega
  have ret : ∀ v, cutF T (geoN n) i size = (T, v) → Put ⟨h2.size, 0, none⟩ (.int .i64 v) h8 fun h9 => ∃ (res : Int), cellOf h9 ⟨h2.size, 0, none⟩ = some (.int .i64 res) ∧ K (.int .i64 res) h9 := fun v hv =>
    put_e d8.own d8.rd fun h9 d9 => ⟨_, rdc d9.rd rfl, same v h9 (F8.did d9 fun hl => by omega) hv⟩
  refine cn (fun he => ⟨_, rdc d8.rd rfl, ret _ (by unfold cutF; rw [if_neg hneg, if_pos he])⟩) fun he => cd (fun hbig => ret _ (by unfold cutF; rw [if_neg hneg, if_neg (fun y => y he), if_pos hbig])) fun hbig => ?_
  have rx8 : rd h8 h5.size = ints (getF T (geoN n) i).1 := (d8.at_ (by omega) (by omega)).trans n7.rd
  refine ⟨_, rda rx8 (ints_at (by rw [lR]; decide)), ce (fun hsz => ret _ (by unfold cutF; rw [if_neg hneg, if_neg (fun y => y he), if_neg hbig, if_pos hsz])) fun hsz => ?_⟩
  have ec : cutF T (geoN n) i size = undoM T (cutB T (geoN n) i (getF T (geoN n) i).1 size) := by unfold cutF; rw [if_neg hneg, if_neg (fun y => y he), if_neg hbig, if_neg hsz]
  rw [ec] at hK
  clear same ret ec
  generalize (getF T (geoN n) i).1 = R at hK lR rx8 n7 hsz ⊢
  refine undo_spec (x.no F8) fun ub tb mb h12 f12 l1 l2 l3 ud => ⟨_, [], _, rfl, ?_⟩
  have z12 := f12.size
  have F12 := F8.no f12
  have rx12 : rd h12 h5.size = ints R := (f12.rd (by omega) fun y => y).trans rx8
  have ox12 : Own h12 h5.size := f12.own (by omega) (fun y => y) (d8.ow n7.own)
  have E12 : Env h F t T.mark.1 (geoN n) h.size h2.size ub tb mb h12 F _ := ⟨gl1, g0, F12.mono fun _ _ y => y.elim, Gw.refl F12.size Flt, gl.no F12,
    (f12.rd (by omega) fun y => y).trans ((d8.at_ (by omega) (by omega)).trans ((n7.at_ (by omega)).trans ((f5.rd (by omega) fun y => y).trans ((n3.at_ n2.own.lt).trans n2.rd)))), f12.own (by omega) (fun y => y) d8.own, (f12.rd (by omega) fun y => y).trans d8.rd, ud,
    ⟨fun y => by have := Flt _ y; omega, fun y => by have := Flt _ y; omega, fun y => by have := Flt _ y; omega, fun y => by have := Flt _ y; omega, fun y => by have := Flt _ y; omega⟩, ⟨by omega, by omega, by omega, by omega⟩, by omega⟩
  have x12 := x.no F12
  have nx12 : ¬ F h5.size := fun y => by have := Flt _ y; omega
  refine ⟨_, rda rx12 (ints_at (by rw [lR]; decide)), cd (fun hlt => ?_) fun hlt => ?_⟩
  · -- shorter
    have e1 : IntKind.wrap .i64 (Int.tdiv (IntKind.wrap .i64 ((IntKind.wrap .i64 (size + 512)) - 1)) 512) = (size + 511) / 512 := by
      rw [wrap_i64 (n := size + 512) (by omega) (by omega), wrap_i64 (n := size + 512 - 1) (by omega) (by omega), Int.tdiv_eq_ediv_of_nonneg (by omega), wrap_i64 (by omega) (by omega)]
      congr 1; omega
    rw [e1]
    have un := cutM_un (T := T) (g := geoN n) (R := R) (k := (size + 511) / 512)
    refine ⟨(geoN n).v, rfl, cellsAll E12.rg, _, by rw [ints_length, lR], cellsAll rx12, Bm.Cut_spec E12.gl (geoN_ok dm.hi) x12 live lR g0 (by omega) fun h13 F13 f13 g13 x13 => ⟨_, _, rfl, ?_⟩⟩
    have E13 := E12.step f13 g13
    obtain ⟨s1, s2, s3, s4⟩ := stay f13 g13 (by omega) nx12
    have lC : (cutM T (geoN n) R ((size + 511) / 512)).2.1.length = 15 := cutM_length lR
    refine PutRow.intro (s4 ox12) (by rw [ints_length, lC]) (ints_one _) (by rw [s1, rx12, ints_length, lR]; decide) fun h14 d14 => ?_
    have z14 := d14.size
    have E14 := E13.did d14 (by omega) (by omega) (by omega) (by omega) (by omega) (by omega)
    have x14 : Tx h14 F13 t d _ := x13.fr d14.fr fun b hb y => s2 (y ▸ hb)
    have r14 : rd h14 h5.size = ints (cutM T (geoN n) R ((size + 511) / 512)).2.1 := by rw [d14.rd, s1, rx12]; exact put_all _ _ (by rw [ints_length, ints_length, lC, lR])
    refine put_e E14.oe E14.re fun h15 d15 => ⟨_, rdc d15.rd rfl, ?_⟩
    have E15 := E14.set d15
    have x15 : Tx h15 F13 t d _ := x14.fr d15.fr fun b hb y => E14.nf.2.1 (y ▸ hb)
    refine cn (fun hc => ⟨_, rdc d15.rd rfl, put_e E15.oe E15.re fun h16 d16 => ?_⟩) fun hc => ?_
    · have E16 := E15.set d16
      have ec : undoM T (cutB T (geoN n) i R size) = (((cutM T (geoN n) R ((size + 511) / 512)).1.back T.mark.1).1, (cutM T (geoN n) R ((size + 511) / 512)).2.2) := by
        have eB : cutB T (geoN n) i R size = ((cutM T (geoN n) R ((size + 511) / 512)).1, (cutM T (geoN n) R ((size + 511) / 512)).2.2) := by unfold cutB; rw [if_pos hlt, if_pos hc]
        rw [eB]; exact if_pos hc
      rw [ec] at hK
      refine E16.leave (x15.fr d16.fr fun b hb y => E15.nf.2.1 (y ▸ hb)) (by omega) fun h' f' g' x' => ?_
      rw [if_pos hc] at x'
      exact hK h' F13 f' g' x'
    have r15 : rd h15 h5.size = _ := (d15.at_ (by omega) (by omega)).trans r14
    have o15 : Own h15 h5.size := d15.ow d14.own
    have z15 := d15.size
    have uw := wipeM_un (T := (cutM T (geoN n) R ((size + 511) / 512)).1) (g := geoN n) (R := (cutM T (geoN n) R ((size + 511) / 512)).2.1) (size := size)
    refine ⟨(geoN n).v, rfl, cellsAll E15.rg, _, by rw [ints_length, lC], cellsAll r15, wipe_spec E15.gl x15 lC (by omega) (by omega) (by omega) fun h18 F18 f18 g18 x18 => ⟨_, rfl, ?_⟩⟩
    have E18 := E15.step f18 g18
    obtain ⟨q1, q2, q3, q4⟩ := stay f18 g18 (by omega) s2
    refine put_e E18.oe E18.re fun h19 d19 => ⟨_, rdc d19.rd rfl, ?_⟩
    have z18 := f18.size
    have z19 := d19.size
    have E19 := E18.set d19
    have x19 : Tx h19 F18 t d _ := x18.fr d19.fr fun b hb y => E18.nf.2.1 (y ▸ hb)
    refine cn (fun hw => ⟨_, rdc d19.rd rfl, put_e E19.oe E19.re fun h20 d20 => ?_⟩) fun hw => ?_
    · have E20 := E19.set d20
      have ec : undoM T (cutB T (geoN n) i R size) = (((wipeM (cutM T (geoN n) R ((size + 511) / 512)).1 (geoN n) (cutM T (geoN n) R ((size + 511) / 512)).2.1 size).1.back T.mark.1).1, (wipeM (cutM T (geoN n) R ((size + 511) / 512)).1 (geoN n) (cutM T (geoN n) R ((size + 511) / 512)).2.1 size).2) := by
        have eB : cutB T (geoN n) i R size = wipeM (cutM T (geoN n) R ((size + 511) / 512)).1 (geoN n) (cutM T (geoN n) R ((size + 511) / 512)).2.1 size := by unfold cutB; rw [if_pos hlt, if_neg (fun y => y hc), if_pos hw]
        rw [eB]; exact if_pos hw
      rw [ec] at hK
      refine E20.leave (x19.fr d20.fr fun b hb y => E19.nf.2.1 (y ▸ hb)) (by omega) fun h' f' g' x' => ?_
      rw [if_pos hw] at x'
      exact hK h' F18 f' g' x'
    have ec : cutB T (geoN n) i R size = putM (wipeM (cutM T (geoN n) R ((size + 511) / 512)).1 (geoN n) (cutM T (geoN n) R ((size + 511) / 512)).2.1 size).1 (geoN n) i ((cutM T (geoN n) R ((size + 511) / 512)).2.1.set 2 size) := by
      unfold cutB; rw [if_pos hlt, if_neg (fun y => y hc), if_neg (fun y => y hw)]
    rw [ec] at hK
    refine Cut_k1 dm E19 x19 lC ((d19.at_ (by omega) (by omega)).trans (q1.trans r15)) (d19.ow (q4 o15)) q2 (by omega) (by omega) (by omega) (by omega) (by omega) (by omega) fun h' F'' f' g' x' => ?_
    unfold undoM at hK
    split at hK
    · rename_i hp; rw [if_pos hp] at x'; exact hK h' F'' f' g' x'
    · rename_i hp; rw [if_neg hp] at x'; exact hK h' F'' f' g' x'
  · have ec : cutB T (geoN n) i R size = putM T (geoN n) i (R.set 2 size) := by unfold cutB; rw [if_neg hlt]
    rw [ec] at hK
    refine Cut_k1 dm E12 x12 lR rx12 ox12 nx12 (by omega) (by omega) (by omega) (by omega) (by omega) (by omega) fun h' F'' f' g' x' => ?_
    unfold undoM at hK
    split at hK
    · rename_i hp; rw [if_pos hp] at x'; exact hK h' F'' f' g' x'
    · rename_i hp; rw [if_neg hp] at x'; exact hK h' F'' f' g' x'
end Go.Proofs.YtcdpakjhjmchhaaGreatDoor.Fi
namespace Go.Proofs
open Go Go.Shelf
def Tryz.lays240_ren : Go.Shelf.Ren := ⟨fun | 240 => 115 | 276 => 156 | n => n, fun | 0 => 0 | 4 => 4 | 9 => 9 | 20 => 20 | 70 => 121 | 72 => 123 | 164 => 240 | 5 => 5 | 37 => 33 | n => n, fun n => n⟩
theorem Tryz.lays240 : Lays.n240 Tryz.prog Tryz.lays240_ren where
  mixed := by kernel_rfl
  f240 := Tryz.func115.trans (congrArg some (by kernel_rfl))
  f276 := Tryz.func156.trans (congrArg some (by kernel_rfl))
  t0 := Tryz.underlying0
  a0 := Tryz.isAgg0
  z0 := Tryz.sizeOf0
  v0 := Tryz.zeroValue0
  t4 := Tryz.underlying4
  a4 := Tryz.isAgg4
  z4 := Tryz.sizeOf4
  v4 := Tryz.zeroValue4
  t9 := Tryz.underlying9
  a9 := Tryz.isAgg9
  z9 := Tryz.sizeOf9
  v9 := Tryz.zeroValue9
  t20 := Tryz.underlying20
  a20 := Tryz.isAgg20
  z20 := Tryz.sizeOf20
  v20 := Tryz.zeroValue20
  t70 := Tryz.underlying121
  a70 := Tryz.isAgg121
  z70 := Tryz.sizeOf121
  v70 := Tryz.zeroValue121
  t72 := Tryz.underlying123
  a72 := Tryz.isAgg123
  z72 := Tryz.sizeOf123
  v72 := Tryz.zeroValue123
  t164 := Tryz.underlying240
  a164 := Tryz.isAgg240
  z164 := Tryz.sizeOf240
  v164 := Tryz.zeroValue240
def Tryz.lays169_ren : Go.Shelf.Ren := ⟨fun | 169 => 60 | n => n, fun | 0 => 0 | 3 => 3 | 9 => 9 | 37 => 33 | 70 => 121 | 72 => 123 | 127 => 200 | 5 => 5 | n => n, fun n => n⟩
theorem Tryz.lays169 : Lays.n169 Tryz.prog Tryz.lays169_ren where
  mixed := by kernel_rfl
  f169 := Tryz.func60.trans (congrArg some (by kernel_rfl))
  t0 := Tryz.underlying0
  a0 := Tryz.isAgg0
  z0 := Tryz.sizeOf0
  v0 := Tryz.zeroValue0
  t3 := Tryz.underlying3
  a3 := Tryz.isAgg3
  z3 := Tryz.sizeOf3
  v3 := Tryz.zeroValue3
  t9 := Tryz.underlying9
  a9 := Tryz.isAgg9
  z9 := Tryz.sizeOf9
  v9 := Tryz.zeroValue9
  t37 := Tryz.underlying33
  a37 := Tryz.isAgg33
  z37 := Tryz.sizeOf33
  v37 := Tryz.zeroValue33
  t70 := Tryz.underlying121
  a70 := Tryz.isAgg121
  z70 := Tryz.sizeOf121
  v70 := Tryz.zeroValue121
  t72 := Tryz.underlying123
  a72 := Tryz.isAgg123
  z72 := Tryz.sizeOf123
  v72 := Tryz.zeroValue123
  t127 := Tryz.underlying200
  a127 := Tryz.isAgg200
  z127 := Tryz.sizeOf200
  v127 := Tryz.zeroValue200
theorem Tryz.extra240 : Builder.Extra Tryz.prog Tryz.lays240_ren where
  sizeBuilder := by kernel_rfl
  liesBuilder := by kernel_rfl
  t5 := Tryz.underlying5
  a5 := Tryz.isAgg5
  z5 := Tryz.sizeOf5
  v5 := Tryz.zeroValue5
  infoByte := by kernel_rfl
  cellsByte := by kernel_rfl
  sizeByte := by kernel_rfl
  neB5 := by decide
theorem Tryz.extra169 : Builder.Extra Tryz.prog Tryz.lays169_ren where
  sizeBuilder := by kernel_rfl
  liesBuilder := by kernel_rfl
  t5 := Tryz.underlying5
  a5 := Tryz.isAgg5
  z5 := Tryz.sizeOf5
  v5 := Tryz.zeroValue5
  infoByte := by kernel_rfl
  cellsByte := by kernel_rfl
  sizeByte := by kernel_rfl
  neB5 := by decide
end Go.Proofs
namespace Go.Proofs.YtcdpakjhjmchhaaGreatDoor.Fi
open Go Go.Proofs Go.Shelf Go.RowKit Go.Proofs.YtcdpakjhjmchhaaGreatDoor.Wx Go.Proofs.YtcdpakjhjmchhaaGreatDoor.Hp Go.Proofs.YtcdpakjhjmchhaaGreatDoor.W Go.Proofs.YtcdpakjhjmchhaaGreatDoor.Tm
/-- a builder at b has these bytes; its row is a block of Q -/
def Bld (h : Heap) (b : Nat) (Q : Nat → Prop) (bs : Txt) : Prop :=
  ∃ p v, h[b]? = some (.cells #[p, v] 123 (0, 0)) ∧ (p = .pointer none ∨ p = .pointer (some ⟨b, 0, none⟩)) ∧
    ((v = .slice none 0 0 ∧ bs = []) ∨ ∃ g cap cur, v = .slice (some ⟨g, 0, none⟩) bs.length cap ∧ bs ≠ [] ∧ Q g ∧ g ≠ b ∧ h[g]? = some (.cells cur 5 (0, 0)) ∧ bs.length ≤ cap ∧ cur.size = cap ∧ cur.toList.take bs.length = bs.map bv)
theorem get_lt {h : Heap} {b : Nat} {x : Obj} (e : h[b]? = some x) : b < h.size := by
  rcases Nat.lt_or_ge b h.size with y | y
  · exact y
  · rw [Array.getElem?_eq_none y] at e; cases e
theorem Bld.lt {h : Heap} {b : Nat} {Q : Nat → Prop} {bs : Txt} (B : Bld h b Q bs) : b < h.size := by
  obtain ⟨p, v, e, _⟩ := B
  exact get_lt e
theorem Bld.mono {h : Heap} {b : Nat} {Q Q' : Nat → Prop} {bs : Txt} (B : Bld h b Q bs) (hq : ∀ g, Q g → g < h.size → Q' g) : Bld h b Q' bs := by
  obtain ⟨p, v, e, hp, hv⟩ := B
  refine ⟨p, v, e, hp, ?_⟩
  rcases hv with hv | ⟨g, cap, cur, h1, h2, h3, h4, h5, h6⟩
  · exact .inl hv
  · exact .inr ⟨g, cap, cur, h1, h2, hq g h3 (get_lt h5), h4, h5, h6⟩
theorem Bld.fr {h h' : Heap} {b : Nat} {Q : Nat → Prop} {bs : Txt} {G : Nat → Prop} (B : Bld h b Q bs) (f : Fr G h h') (hb : ¬ G b) (hg : ∀ g, Q g → g < h.size → ¬ G g) : Bld h' b Q bs := by
  obtain ⟨p, v, e, hp, hv⟩ := B
  refine ⟨p, v, (f.same b (get_lt e) hb).trans e, hp, ?_⟩
  rcases hv with hv | ⟨g, cap, cur, h1, h2, h3, h4, h5, h6⟩
  · exact .inl hv
  · exact .inr ⟨g, cap, cur, h1, h2, h3, h4, (f.same g (get_lt h5) (hg g h3 (get_lt h5))).trans h5, h6⟩
theorem Bld.new (h : Heap) (Q : Nat → Prop) : Bld (newO h [.pointer none, .slice none 0 0] 123) h.size Q [] :=
  ⟨_, _, by rw [get_newO, if_pos rfl], .inl rfl, .inl ⟨rfl, rfl⟩⟩
theorem copyCheck_spec {h : Heap} {b : Nat} {Q : Nat → Prop} {bs : Txt} {K : Value → Heap → Prop} (B : Bld h b Q bs) (hK : ∀ h', h'.size = h.size → Fr (fun x => x = b) h h' → Bld h' b Q bs → K (.tuple #[]) h') : C.strings_Builder_copyCheck (some ⟨b, 0, none⟩) h K := by
  refine ⟨⟨_, Tryz.func115, by kernel_rfl, by kernel_rfl⟩, fun w hw => ?_⟩
  subst hw
  have B0 := B
  obtain ⟨p, v, e, hp, hv⟩ := B
  rcases hp with rfl | rfl
  · refine (Any.Builder_copyCheck_fresh Tryz.lays240 Tryz.extra240.toX72 b w (by rw [Lib.cell_of_heap e]; rfl) (by simp [World.shape?, e]; rfl) (Lib.frozen_of_heap e 0)).mono ?_
    rintro ex w' ⟨rfl, rfl⟩
    refine ⟨_, rfl, ⟨rfl, rfl, rfl⟩, ?_⟩
    show K _ (setOf w.heap ⟨b, 0, none⟩ (.pointer (some ⟨b, 0, none⟩)))
    have f : Fr (fun x => x = b) w.heap (setOf w.heap ⟨b, 0, none⟩ (.pointer (some ⟨b, 0, none⟩))) := (Fr.refl _ _).setOf (.inl rfl)
    refine hK _ (size_setOf _ _ _) f ⟨.pointer (some ⟨b, 0, none⟩), v, by rw [get_setOf, if_pos rfl, e]; rfl, .inr rfl, ?_⟩
    rcases hv with hv | ⟨g, cap, cur, h1, h2, h3, h4, h5, h6⟩
    · exact .inl hv
    · exact .inr ⟨g, cap, cur, h1, h2, h3, h4, (f.same g (get_lt h5) h4).trans h5, h6⟩
  · refine (Any.Builder_copyCheck_used Tryz.lays240 Tryz.extra240.toX72 b w (by rw [Lib.cell_of_heap e]; rfl)).mono ?_
    rintro ex w' ⟨rfl, rfl⟩
    exact ⟨_, rfl, .refl _, hK _ rfl (Fr.refl _ _) B0⟩
/-- cells of a row are written: the block as it is then -/
theorem setRow_get {g : Nat} : ∀ (cs : List Value) (h : Heap) (o i : Nat) {c : Array Value} {T : TypeId} {f : Nat × Nat}, h[g]? = some (.cells c T f) →
    ∃ c', (setRow h ⟨g, o, none⟩ cs i)[g]? = some (.cells c' T f) ∧ c'.size = c.size
  | [], _, _, _, c, _, _, e => ⟨c, e, rfl⟩
  | v :: r, h, o, i, c, T, f, e => by
    rw [setRow, add_mk]
    obtain ⟨c', e', s'⟩ := setRow_get r (setOf h ⟨g, o + i, none⟩ v) o (i + 1) (c := c.setIfInBounds (o + i) v) (T := T) (f := f) (by rw [get_setOf, if_pos rfl, e]; rfl)
    exact ⟨c', e', by rw [s', Array.size_setIfInBounds]⟩
theorem rd_get {h : Heap} {g : Nat} {c : Array Value} {T : TypeId} {f : Nat × Nat} (e : h[g]? = some (.cells c T f)) : rd h g = c.toList := by unfold Hp.rd; rw [e]
theorem BWrite_spec {h : Heap} {b l c : Nat} {Q : Nat → Prop} {a : Option Addr} {bs new : Txt} {K : Value → Heap → Prop} (B : Bld h b Q bs) (S : StrAt h a l new) (hl : new ≠ []) (hs : ∀ p, a = some p → p.block ≠ b) (hm : bs.length + l ≤ 1000000000)
    (hK : ∀ v h', Fr (fun x => x = b ∨ Q x) h h' → Bld h' b (fun x => Q x ∨ h.size ≤ x) (bs ++ new) → K (.tuple #[.int .i64 l, v]) h') : C.strings_Builder_Write (some ⟨b, 0, none⟩) a l c h K := by
  refine strings_Builder_Write.ok (copyCheck_spec B fun h2 z2 f2 B2 => ⟨rfl, os ?_⟩)
  have S1 := S.1
  have sc : SlCells h2 a (new.map bv) := by
    cases a with
    | none => exact S.2
    | some p =>
      intro i v hv
      have hc := S.2 i v hv
      have hb : (p.add i).block = p.block := by unfold Addr.add; split <;> rfl
      unfold cellOf at hc ⊢
      rw [hb] at hc ⊢
      rw [f2.same p.block ?_ (hs p rfl)]
      · exact hc
      · cases e : h[p.block]? with
        | none => rw [e] at hc; cases hc
        | some x => exact get_lt e
  obtain ⟨p, v, eb, hp, hv⟩ := B2
  have hbl := get_lt eb
  have fin : ∀ h3 a3 c3 (v3 : Value), v3 = .slice a3 (bs.length + l) c3 → Fr (fun x => x ≠ b ∧ Q x) h2 h3 → (∃ g cap cur, v3 = .slice (some ⟨g, 0, none⟩) (bs ++ new).length cap ∧ (Q g ∨ h.size ≤ g) ∧ g ≠ b ∧ h3[g]? = some (.cells cur 5 (0, 0)) ∧ (bs ++ new).length ≤ cap ∧ cur.size = cap ∧ cur.toList.take (bs ++ new).length = (bs ++ new).map bv) →
      onSome (some (⟨b, 0, none⟩ : Addr)) fun p2 => Wx.Put (Addr.add p2 1) (.slice a3 (bs.length + l) c3) h3 fun h4 => K (.tuple #[.int .i64 (l : Int), .nilIface]) h4 := fun h3 a3 c3 v3 ev f3 hg => by
    have e3 : h3[b]? = some (.cells #[p, v] 123 (0, 0)) := (f3.same b hbl fun y => y.1 rfl).trans eb
    show Wx.Put (Addr.add ⟨b, 0, none⟩ 1) _ _ _
    rw [add_mk, ← ev]
    obtain ⟨g, cap, cur, h1, h2', h3', h4, h5⟩ := hg
    have f4 : Fr (fun x => x = b ∨ Q x) h (setOf h3 ⟨b, 0 + 1, none⟩ v3) := ((f2.mono fun _ _ y => .inl y).trans f3 fun _ _ y => .inr y.2).setOf (.inl (.inl rfl))
    refine ⟨wr_rd ⟨_, _, _, e3, .inl rfl⟩ (by rw [rd_get e3]; exact Nat.lt_succ_self 1), hK _ _ f4 ⟨p, v3, by rw [get_setOf, if_pos rfl, e3]; rfl, hp, .inr ⟨g, cap, cur, h1, fun y => hl (List.append_eq_nil_iff.mp y).2, h2', h3', ?_, h5⟩⟩⟩
    rw [get_setOf, if_neg h3']; exact h4
  have grow : ∀ cap, bs.length + l ≤ cap → ∃ g cap' cur, Value.slice (some ⟨h2.size, 0, none⟩) (bs.length + l) cap = .slice (some ⟨g, 0, none⟩) (bs ++ new).length cap' ∧ (Q g ∨ h.size ≤ g) ∧ g ≠ b ∧ (newO h2 (bs.map bv ++ new.map bv ++ repCells ti5.zero (cap - (bs.length + l))) 5)[g]? = some (.cells cur 5 (0, 0)) ∧ (bs ++ new).length ≤ cap' ∧ cur.size = cap' ∧ cur.toList.take (bs ++ new).length = (bs ++ new).map bv := fun cap hcap => by
    have el : (bs ++ new).length = bs.length + l := by rw [List.length_append, S1]
    refine ⟨h2.size, cap, _, by rw [el], .inr (by omega), by omega, by rw [get_newO, if_pos rfl], by omega, ?_, ?_⟩
    · show (bs.map bv ++ new.map bv ++ repCells ti5.zero (cap - (bs.length + l))).length = cap
      rw [List.length_append, List.length_append, List.length_map, List.length_map, length_repCells, S1]
      show bs.length + l + (cap - (bs.length + l)) * 1 = cap
      omega
    · show (bs.map bv ++ new.map bv ++ repCells ti5.zero (cap - (bs.length + l))).take (bs ++ new).length = _
      rw [← List.map_append, List.take_left' (by rw [List.length_map])]
  have frN : ∀ xs, Fr (fun x => x ≠ b ∧ Q x) h2 (newO h2 xs 5) := fun xs => fr_newO _ _
  have hl' : 0 < l := by
    rw [← S1]
    exact List.length_pos_iff.mpr hl
  rcases hv with ⟨rfl, rfl⟩ | ⟨g, cap, cur, rfl, hne, hlo', hgb, eg, hle, hcs, htk⟩
  · refine ⟨none, 0, 0, rda (rd_get eb) rfl, new.map bv, by rw [List.length_map, S1, Nat.mul_one], sc, bv_one _, [], rfl, rfl, ?_, by omega, fun hc => by omega, fun hc cap hcap => ?_⟩
    · show (0 + l) * 1 ≤ _; omega
    · have e : ([] : Txt).length + l = 0 + l := rfl
      exact fin _ _ _ _ (by rw [e]) (frN _) (grow cap hcap)
  · refine ⟨some ⟨g, 0, none⟩, bs.length, cap, rda (rd_get eb) rfl, new.map bv, by rw [List.length_map, S1, Nat.mul_one], sc, bv_one _, bs.map bv, by rw [List.length_map]; exact (Nat.mul_one _).symm, cells_rd (by rw [rd_get eg, List.drop_zero, List.length_map, htk]), ?_, by omega, fun hc => ?_, fun hc cap' hcap => ?_⟩
    · show (bs.length + l) * 1 ≤ _; omega
    · have lc : cur.toList.length = cap := hcs
      refine ⟨?_, ?_⟩
      · simp only [WrS, add_mk]
        refine wrN_rd ⟨_, _, _, eg, .inl rfl⟩ ?_
        rw [rd_get eg, lc]
        show 0 + bs.length * 1 + l * 1 ≤ cap
        omega
      · simp only [setS, add_mk]
        obtain ⟨c', e', s'⟩ := setRow_get (new.map bv) h2 (0 + bs.length * ti5.cells) 0 eg
        have hr := rd_setRow_at g (0 + bs.length * ti5.cells) (new.map bv) h2 0
        rw [rd_get e', rd_get eg, put_eq _ _ _ (by rw [List.length_map, lc, S1]; show 0 + bs.length * 1 + 0 + l ≤ cap; omega)] at hr
        have e0 : 0 + bs.length * ti5.cells + 0 = bs.length := by show 0 + bs.length * 1 + 0 = _; omega
        rw [e0, htk] at hr
        refine fin _ _ _ _ rfl ((Fr.refl _ h2).setRow (.inl ⟨hgb, hlo'⟩)) ⟨g, cap, c', by rw [List.length_append, S1], .inl hlo', hgb, e', by rw [List.length_append, S1]; exact hc, s'.trans hcs, ?_⟩
        rw [hr, ← List.map_append, List.take_left' (by rw [List.length_map])]
    · exact fin _ _ _ _ rfl (frN _) (grow cap' hcap)
/-- String of a builder that holds a byte: its row's mark alone turns -/
theorem str_row {P : Program} {ρ : Ren} (L : Lays.n169 P ρ) (X : Builder.Extra P ρ) (b g cap : Nat) (p : Value) (cur : Array Value) (l : Txt) (w : World) (hb : w.heap[b]? = some (.cells #[p, .slice (some ⟨g, 0, none⟩) l.length cap] (ρ.t 72) (0, 0)))
    (hg : w.heap[g]? = some (.cells cur (ρ.t 5) (0, 0))) (h0 : l ≠ []) (hc : l.length ≤ cap) (hs : cur.size = cap) (hm : l.length ≤ 2000000000) (ht : cur.toList.take l.length = l.map bv) :
    Calls P (ρ.f 169) #[.pointer (some ⟨b, 0, none⟩)] w fun e w' => e = .returned (.string ⟨l.toArray⟩) ∧ Below g w w' := by
  have hl0 : l.length ≠ 0 := by simpa using h0
  have c1 : w.drew.cell? ⟨b, 1, none⟩ = some (.slice (some ⟨g, 0, none⟩) l.length cap) := by
    have : w.drew.heap[b]? = some (.cells #[p, .slice (some ⟨g, 0, none⟩) l.length cap] (ρ.t 72) (0, 0)) := hb
    rw [Lib.cell_of_heap this]; rfl
  have hg' : w.drew.heap[g]? = some (.cells cur (ρ.t 5) (0, 0)) := hg
  have hSD : (Builtin.unsafeSliceData_ #[(ρ.t 37)] (ρ.t 127) #[.slice (some ⟨g, 0, none⟩) l.length cap]).run P w.drew = .ok (.pointer (some ⟨g, 0, none⟩)) w.drew :=
    Lib.run_unsafeSliceData_row _ _ _ _ _ _ (by omega)
  have hUS : (Builtin.unsafeString_ #[(ρ.t 127), (ρ.t 3)] (ρ.t 9) #[.pointer (some ⟨g, 0, none⟩), .int .i64 l.length]).run P w.drew = .ok (.string ⟨l.toArray⟩) (w.drew.freeze ⟨g, 0, none⟩ l.length) := by
    refine Lib.run_unsafeString_row w.drew (ρ.t 127) (ρ.t 3) (ρ.t 9) (ρ.t 5) L.t127 X.cellsByte g cur.size (by simp [World.shape?, hg']) l h0 (by omega) (by omega) fun j x hx => ?_
    rw [add_mk, Nat.zero_add, Lib.cell_of_heap hg']
    have e := congrArg (·[j]?) ht
    simp only [List.getElem?_map, hx, Option.map_some] at e
    have hj : j < l.length := (List.getElem?_eq_some_iff.mp hx).1
    rw [List.getElem?_take_of_lt hj, Array.getElem?_toList] at e
    exact e
  have mixed := L.mixed
  have t72 := L.t72; have a72 := L.a72; have z72 := L.z72; have v72 := L.v72; have u72 := run_underlying L.t72
  have t70 := L.t70; have a70 := L.a70; have z70 := L.z70; have v70 := L.v70; have u70 := run_underlying L.t70
  have t37 := L.t37; have a37 := L.a37; have z37 := L.z37; have v37 := L.v37; have u37 := run_underlying L.t37
  have t127 := L.t127; have a127 := L.a127; have z127 := L.z127; have v127 := L.v127; have u127 := run_underlying L.t127
  have t3 := L.t3; have a3 := L.a3; have z3 := L.z3; have v3 := L.v3; have u3 := run_underlying L.t3
  have t9 := L.t9; have a9 := L.a9; have z9 := L.z9; have v9 := L.v9; have u9 := run_underlying L.t9
  have t5 := X.t5; have a5 := X.a5; have z5 := X.z5; have v5 := X.v5; have u5 := run_underlying X.t5
  go_enter L.f169, Body.n169_ntmps ρ
  go_wp2
  go_region_o
  all_goals (go_wp2; go_ret; exact ⟨rfl, Lib.below_freeze (Below.drew (Below.refl g w)) (p := ⟨g, 0, none⟩) (Nat.le_refl _) _⟩)
theorem BString_spec {h : Heap} {b lo : Nat} {bs : Txt} {K : Value → Heap → Prop} (B : Bld h b (fun x => lo ≤ x) bs) (hm : bs.length ≤ 2000000000)
    (hK : ∀ h', Fr (fun x => lo ≤ x) h h' → K (.string (mkStr bs)) h') : C.strings_Builder_String (some ⟨b, 0, none⟩) h K := by
  refine ⟨⟨_, Tryz.func60, by kernel_rfl, by kernel_rfl⟩, fun w hw => ?_⟩
  subst hw
  obtain ⟨p, v, eb, hp, hv⟩ := B
  rcases hv with ⟨rfl, rfl⟩ | ⟨g, cap, cur, rfl, hne, hlo', hgb, eg, hle, hcs, htk⟩
  · exact (Any.Builder_String_nil Tryz.lays169 Tryz.extra169 w.heap.size b p w eb).mono fun e w' ⟨h1, k⟩ => ⟨_, h1, ⟨k.os, k.tape, k.output⟩, hK w'.heap ⟨k.size, fun x hx _ => k.block x hx⟩⟩
  · exact (str_row Tryz.lays169 Tryz.extra169 b g cap p cur bs w eb eg hne hle hcs hm htk).mono fun e w' ⟨h1, k⟩ => ⟨_, h1, ⟨k.os, k.tape, k.output⟩, hK w'.heap ⟨k.size, fun x hx hF => k.block x (by have hF : ¬ lo ≤ x := hF; omega)⟩⟩
end Go.Proofs.YtcdpakjhjmchhaaGreatDoor.Fi
namespace Go.Proofs.YtcdpakjhjmchhaaGreatDoor.Fi
open Go Go.Proofs Go.Proofs.YtcdpakjhjmchhaaGreatDoor.Wx Go.Proofs.YtcdpakjhjmchhaaGreatDoor.Hp Go.Proofs.YtcdpakjhjmchhaaGreatDoor.W Go.Proofs.YtcdpakjhjmchhaaGreatDoor.Ad Go.Proofs.YtcdpakjhjmchhaaGreatDoor.Tm Go.Proofs.YtcdpakjhjmchhaaGreatDoor.Spc Go.Proofs.YtcdpakjhjmchhaaGreatDoor.Re Go.Proofs.YtcdpakjhjmchhaaGreatDoor.Av Go.Proofs.YtcdpakjhjmchhaaGreatDoor.Rg
open Go.Proofs.YtcdpakjhjmchhaaGreatDoor.Hd (ints)
open Go.Proofs.YtcdpakjhjmchhaaGreatDoor.In (Glo ints_length ints_one mayR decA)
open Go.Proofs.YtcdpakjhjmchhaaGreatDoor.Ino (getM putM Cok getM_length)
open Go.Proofs.YtcdpakjhjmchhaaGreatDoor.Bm (findM cutM addM allM pcellA write_un cutM_un)
theorem getM_may {T : TM} {g : G} {n : Int} (h : (getM T g n).2 = 0) : mayR (getM T g n).1 = true := by
  unfold getM at h ⊢
  split
  · rename_i y; rw [if_pos y] at h; exact absurd h (by decide)
  · rename_i y
    rw [if_neg y] at h
    split
    · rename_i z; rw [if_pos z] at h; exact absurd h z
    · rename_i z
      rw [if_neg z] at h
      unfold decA at h ⊢
      split
      · rename_i w; rw [if_pos w] at h; exact absurd h (by decide)
      · rename_i w
        rw [if_neg w] at h
        split
        · rename_i v
          unfold In.decOk at v
          rw [Bool.and_eq_true] at v; exact v.2
        · rename_i v
          rw [if_neg v] at h; exact absurd h (by decide)
theorem getF_may {T : TM} {g : G} {n : Int} (h : (getF T g n).2 = 0) : getF T g n = getM T g n ∧ (getM T g n).2 = 0 ∧ mayR (getM T g n).1 = true ∧ (getM T g n).1.getD 0 0 ≠ 0 := by
  unfold getF at h ⊢
  split
  · rename_i y; rw [if_pos y] at h; exact absurd (show (110 : Int) = 0 from h) (by decide)
  · rename_i y
    rw [if_neg y] at h
    exact ⟨rfl, h, getM_may h, fun z => y ⟨h, z⟩⟩
theorem getF_size {T : TM} {g : G} {n : Int} (h : (getF T g n).2 = 0) : 0 ≤ (getF T g n).1.getD 2 0 ∧ (getF T g n).1.getD 2 0 ≤ 8459264 := by
  obtain ⟨e, _, m, _⟩ := getF_may h
  rw [e]
  obtain ⟨_, _, _, _, a, b, _⟩ := In.mayR_bounds (getM_length T g n) m
  exact ⟨a, b⟩
theorem blockM_len {h : Heap} {F : Nat → Prop} {t d : Option Addr} {T : TM} {g : G} {R : List Int} {k : Int} (x : Tx h F t d T) (e : (blockM T g R k).2 = 0) : (blockM T g R k).1.length = 512 := by
  unfold blockM at e ⊢
  split
  · rename_i y; rw [if_pos y] at e; exact absurd e y
  · rename_i y
    rw [if_neg y] at e
    split
    · exact List.length_replicate
    · rename_i z
      rw [if_neg z] at e
      exact Tx.readLen x e
/-- the bytes of the parts from a on, behind s -/
def readGo (T : TM) (g : G) (R : List Int) (off n : Nat) : Nat → Nat → Txt → Txt × Int
  | 0, _, s => (s, 0)
  | k + 1, a, s => if n ≤ a then (s, 0) else if (blockM T g R ((off + a) / 512 : Nat)).2 ≠ 0 then ([], (blockM T g R ((off + a) / 512 : Nat)).2) else
      readGo T g R off n k (nextA off n a) (s ++ ((blockM T g R ((off + a) / 512 : Nat)).1.drop ((off + a) % 512)).take (toP off n a - (off + a) % 512))
theorem readGo_end {T : TM} {g : G} {R : List Int} {off n a : Nat} {s : Txt} (h : n ≤ a) : ∀ k, readGo T g R off n k a s = (s, 0)
  | 0 => rfl
  | k + 1 => by unfold readGo; rw [if_pos h]
def readM (T : TM) (g : G) (i off size : Int) : Txt × Int := if off < 0 ∨ size < 0 then ([], 1) else if (getF T g i).2 ≠ 0 then ([], (getF T g i).2) else if off ≥ (getF T g i).1.getD 2 0 then ([], 0) else
  readGo T g (getF T g i).1 off.toNat (min size ((getF T g i).1.getD 2 0 - off)).toNat (min size ((getF T g i).1.getD 2 0 - off)).toNat 0 []
theorem New_bld {h : Heap} {Q : Nat → Prop} {k : Heap → Prop} (H : ∀ h', Newly h h' [.pointer none, .slice none 0 0] → Bld h' h.size Q [] → k h') : New [.pointer none, .slice none 0 0] 123 h k :=
  H _ ⟨size_newO _ _ _, fr_newO _ _, own_newO_at _ _ _, rd_newO_at _ _ _⟩ (Bld.new h Q)
theorem loop_lt {h : Heap} {l : Nat} {R : Loop} {st : LoopState} {p : Option Code} (o : LoopOn h l R st p) : l < h.size := loopOn_lt o
/-- a place for a text and one for an error are written -/
theorem put_s {h : Heap} {b : Nat} {s : ByteArray} {v : Value} {k : Heap → Prop} (w : Own h b) (r : rd h b = [v]) (H : ∀ h', Did b h h' [.string s] → k h') : Put ⟨b, 0, none⟩ (.string s) h k :=
  Put.intro w (by rw [r]; exact Nat.zero_lt_one) fun h' d => by rw [r] at d; exact H h' d
theorem Read_spec {h : Heap} {F : Nat → Prop} {t d : Option Addr} {T : TM} {n : Nat} {i off size : Int} {K : Value → Heap → Prop} (gl : Glo h) (dm : Dim n) (x : Tx h F t d T)
    (hK : ∀ h', Fr No h h' → K (.tuple #[.string (mkStr (readM T (geoN n) i off size).1), .int .i64 (readM T (geoN n) i off size).2]) h') : C.file_Read t (geoN n).v i off size h K := by
  refine file_Read.ok (New.intro fun h2 n2 => New.intro fun h3 n3 => New.intro fun h4 n4 => New.intro fun h5 n5 => ?_)
  have z2 := n2.size
  have z3 := n3.size
  have z4 := n4.size
  have z5 := n5.size
  have F5 : Fr No h h5 := ((n2.fr.new n3).new n4).new n5
  have os5 : Own h5 h3.size := n5.ow n4.own
  have rs5 : rd h5 h3.size = [.string (mkStr [])] := (n5.at_ (by omega)).trans n4.rd
  -- what ends the call ahead of the loop
  have ret : ∀ e hh, Fr No h hh → Own hh h3.size → rd hh h3.size = [.string (mkStr [])] → Own hh h4.size → rd hh h4.size = [.int .i64 0] → readM T (geoN n) i off size = ([], e) →
      Put ⟨h3.size, 0, none⟩ (.string (mkStr [])) hh fun h6 => Put ⟨h4.size, 0, none⟩ (.int .i64 e) h6 fun h7 => ∃ (res1 : ByteArray), cellOf h7 ⟨h3.size, 0, none⟩ = some (.string res1) ∧
        ∃ (res2 : Int), cellOf h7 ⟨h4.size, 0, none⟩ = some (.int .i64 res2) ∧ K (.tuple #[.string res1, .int .i64 res2]) h7 := fun e hh f o1 r1 o2 r2 he => by
    rw [he] at hK
    refine put_s o1 r1 fun h6 d6 => put_e (d6.ow o2) ((d6.at_ o2.lt (by omega)).trans r2) fun h7 d7 => ⟨_, rdc ((d7.at_ d6.own.lt (by omega)).trans d6.rd) rfl, _, rdc d7.rd rfl, hK h7 ((f.did d6 fun hl => by omega).did d7 fun hl => by omega)⟩
  refine cd (fun hneg => ret 1 h5 F5 os5 rs5 n5.own n5.rd (by unfold readM; rw [if_pos (.inl hneg)])) fun ho => cd (fun hneg => ret 1 h5 F5 os5 rs5 n5.own n5.rd (by unfold readM; rw [if_pos (.inr hneg)])) fun hz => ?_
  unfold file_Read.k1
  have rt5 : rd h5 h.size = [.pointer t] := (n5.at_ (by omega)).trans ((n4.at_ (by omega)).trans ((n3.at_ (by omega)).trans n2.rd))
  have rg5 : rd h5 h2.size = (geoN n).v := (n5.at_ (by omega)).trans ((n4.at_ (by omega)).trans n3.rd)
  have lR := getF_length T (geoN n) i
  refine ⟨t, rdc rt5 rfl, (geoN n).v, rfl, cellsAll rg5, get_spec (gl.no F5) (x.no F5) (cok dm) fun h11 f11 => ⟨_, _, rfl, NewRow.intro (by rw [ints_length, lR]) (ints_one _) rfl fun h13 n13 => ?_⟩⟩
  have z11 := f11.size
  have z13 := n13.size
  have F13 : Fr No h h13 := (F5.no f11).new n13
  have f513 : Fr No h5 h13 := f11.new n13
  have q13 : ∀ b, b < h5.size → rd h13 b = rd h5 b := fun b hb => f513.rd hb fun y => y
  have w13 : ∀ b, Own h5 b → Own h13 b := fun b o => f513.own o.lt (fun y => y) o
  refine cn (fun he => ret _ h13 F13 (w13 _ os5) ((q13 _ (by omega)).trans rs5) (w13 _ n5.own) ((q13 _ (by omega)).trans n5.rd) (by unfold readM; rw [if_neg (by omega), if_pos he])) fun he => ?_
  obtain ⟨R0, R1⟩ := getF_size he
  refine ⟨_, rda n13.rd (ints_at (by rw [lR]; decide)), cd (fun hge => ret _ h13 F13 (w13 _ os5) ((q13 _ (by omega)).trans rs5) (w13 _ n5.own) ((q13 _ (by omega)).trans n5.rd) (by unfold readM; rw [if_neg (by omega), if_neg (fun y => y he), if_pos hge])) fun hlt => ?_⟩
  have hlt : ¬ off ≥ (getF T (geoN n) i).1.getD 2 0 := hlt
  have er : readM T (geoN n) i off size = readGo T (geoN n) (getF T (geoN n) i).1 off.toNat (min size ((getF T (geoN n) i).1.getD 2 0 - off)).toNat (min size ((getF T (geoN n) i).1.getD 2 0 - off)).toNat 0 [] := by
    unfold readM; rw [if_neg (by omega), if_neg (fun y => y he), if_neg hlt]
  rw [er] at hK
  clear ret er he
  obtain ⟨ofs, eo⟩ : ∃ k : Nat, off = k := ⟨off.toNat, by omega⟩
  obtain ⟨m, em⟩ : ∃ k : Nat, min size ((getF T (geoN n) i).1.getD 2 0 - off) = k := ⟨(min size ((getF T (geoN n) i).1.getD 2 0 - off)).toNat, by omega⟩
  rw [em, Int.toNat_natCast, eo, Int.toNat_natCast] at hK
  have hb : ofs + m ≤ 8459264 := by omega
  generalize hR : (getF T (geoN n) i).1 = R at hK lR n13 R0 R1 hlt em hb ⊢
  refine New_bld (Q := fun x => h13.size + 5 ≤ x) fun h18 n18 B18 => ⟨_, rda ((n18.at_ (by omega)).trans n13.rd) (ints_at (by rw [lR]; decide)), ?_⟩
  have z18 := n18.size
  have emn : (if (IntKind.wrap .i64 (R.getD (0 + 2) 0 - off)) < size then (IntKind.wrap .i64 (R.getD (0 + 2) 0 - off)) else size) = (m : Int) := by
    have e2 : R.getD (0 + 2) 0 = R.getD 2 0 := rfl
    rw [e2, wrap_i64 (by omega) (by omega)]
    split <;> omega
  rw [emn, eo]
  refine file_parts.ok (New.intro fun h19a n19a => New.intro fun h19 n19 => ⟨_, rfl, fun L rounds => ?_⟩)
  have z19a := n19a.size
  have z19 := n19.size
  have eb : h19.size = h13.size + 3 := by omega
  have hc1 : h18.size = h13.size + 1 := by omega
  have hc2 : h19a.size = h13.size + 2 := by omega
  have F19 : Fr No h h19 := ((F13.new n18).new n19a).new n19
  have Fb := beginL_fr h19 L
  have on0 := beginL_on h19 L
  have d0 := beginL_d h19 L
  have zb : (beginL h19 L).size = h13.size + 5 := by rw [beginL_size]; omega
  have F0 : Fr No h (beginL h19 L) := F19.no Fb
  have f13b : Fr No h13 (beginL h19 L) := ((n18.fr.new n19a).new n19).no Fb
  have qb : ∀ b, b < h13.size → rd (beginL h19 L) b = rd h13 b := fun b hb => f13b.rd hb fun y => y
  have wb : ∀ b, Own h13 b → Own (beginL h19 L) b := fun b o => f13b.own o.lt (fun y => y) o
  have rt : rd (beginL h19 L) h.size = [.pointer t] := (qb _ (by omega)).trans ((q13 _ (by omega)).trans rt5)
  have rg : rd (beginL h19 L) h2.size = (geoN n).v := (qb _ (by omega)).trans ((q13 _ (by omega)).trans rg5)
  have rs : rd (beginL h19 L) h3.size = [.string (mkStr [])] := (qb _ (by omega)).trans ((q13 _ (by omega)).trans rs5)
  have re : rd (beginL h19 L) h4.size = [.int .i64 0] := (qb _ (by omega)).trans ((q13 _ (by omega)).trans n5.rd)
  have os : Own (beginL h19 L) h3.size := wb _ (w13 _ os5)
  have oe : Own (beginL h19 L) h4.size := wb _ (w13 _ n5.own)
  have rx : rd (beginL h19 L) h11.size = ints R := (qb _ (by omega)).trans n13.rd
  have rco : rd (beginL h19 L) h18.size = [.int .i64 (ofs : Int)] := (Fb.rd (by omega) fun y => y).trans ((n19.at_ (by omega)).trans n19a.rd)
  have rcn : rd (beginL h19 L) h19a.size = [.int .i64 (m : Int)] := (Fb.rd (by omega) fun y => y).trans n19.rd
  have Bb : Bld (beginL h19 L) h13.size (fun x => h13.size + 5 ≤ x) [] := B18.fr (((Fr.refl No h18).new n19a).new n19 |>.no Fb) (fun y => y) fun _ _ _ y => y
  have glb := gl.no F0
  generalize hbe : beginL h19 L = hb0 at *
  have el : h19.size + 1 = h13.size + 4 := by omega
  rw [el] at rounds on0 ⊢
  rw [eb] at d0 ⊢
  rw [hc1] at rco
  rw [hc2] at rcn
  rw [hc2, hc1]
  have xb := x.no F0
  show C.file_parts_c1 (.func (.yield (h13.size + 4)) #[] #[]) (some ⟨h13.size + 2, 0, none⟩) (some ⟨h13.size + 1, 0, none⟩) hb0 _
  -- leaving the loop
  have leave : ∀ (v : Txt) (e : Int) (h26 : Heap) (st : Option Code), Fr (fun b => b = h13.size ∨ b = h13.size + 4 ∨ b = h3.size ∨ b = h4.size) hb0 h26 → rd h26 h3.size = [.string (mkStr v)] → rd h26 h4.size = [.int .i64 e] →
      (∀ h', Fr No h h' → K (.tuple #[.string (mkStr v), .int .i64 e]) h') →
      EndD (h13.size + 3) h26 fun h33 => ∃ (res9 : ByteArray), cellOf h33 ⟨h3.size, 0, none⟩ = some (.string res9) ∧ ∃ (res10 : Int), cellOf h33 ⟨h4.size, 0, none⟩ = some (.int .i64 res10) ∧ K (.tuple #[.string res9, .int .i64 res10]) h33 := fun v e h26 st f26 r1 r2 hk => by
    have z26 := f26.size
    refine endD_intro ((f26.same _ (by omega) (by omega)).trans d0) fun h33 z33 f33 => ?_
    refine ⟨_, rdc ((f33.rd (by omega) (by omega)).trans r1) rfl, _, rdc ((f33.rd (by omega) (by omega)).trans r2) rfl, hk h33 ?_⟩
    exact ((F0.trans f26 fun b hb y => by omega).trans f33 fun b hb y => by omega)
  refine iter_spec (off := ofs) (n := m) (by omega) (fun a hh => Fr (fun b => b = h13.size ∨ b = h13.size + 4) hb0 hh ∧ LoopOn hh (h13.size + 4) L .ready none ∧ ∃ s k, Bld hh h13.size (fun x => h13.size + 5 ≤ x) s ∧ s.length = a ∧ m ≤ a + k ∧ readGo T (geoN n) R ofs m m 0 [] = readGo T (geoN n) R ofs m k a s) (fun a hh J => ?_) (fun a hh h' J ha f' r' l' => ?_) ⟨Fr.refl _ _, on0, [], m, Bb, rfl, by omega, rfl⟩ fun hh J => ?_
  · obtain ⟨f, _⟩ := J
    have := f.size
    exact ⟨(f.rd (by omega) (by omega)).trans rcn, (f.rd (by omega) (by omega)).trans rco, by omega, by omega⟩
  · -- a round
    obtain ⟨f, on, s, k, B, ls, hk, eq⟩ := J
    have zf := f.size
    have zf' := f'.size
    obtain ⟨k, rfl⟩ : ∃ k', k = k' + 1 := ⟨k - 1, by omega⟩
    refine rounds (partV ofs m a) h' _ (loopOn_fr on f' fun y => y) (NewRow.intro rfl (by intro v hv; simp only [partV, List.mem_cons, List.not_mem_nil, or_false] at hv; rcases hv with rfl | rfl | rfl | rfl <;> rfl) rfl fun h22 n22 => ⟨loopOn_fr (loopOn_fr on f' fun y => y) n22.fr fun y => y, setL_intro (by have := n22.size; omega) fun h23 t23 => ?_⟩)
    have z22 := n22.size
    have z23 := t23.size
    have f23 : Fr (fun b => b = h13.size ∨ b = h13.size + 4) hb0 h23 := ((f.no f').new n22).trans t23.fr fun b hb y => .inr y
    have q23 : ∀ b, b < hb0.size → b ≠ h13.size → b ≠ h13.size + 4 → rd h23 b = rd hb0 b := fun b hb h1 h2 => f23.rd hb fun y => y.elim h1 h2
    have r23 : rd h23 h'.size = partV ofs m a := (t23.fr.rd (by omega) (by omega)).trans n22.rd
    have fh23 : Fr No h h23 := F0.trans f23 fun b hb y => by omega
    have B23 : Bld h23 h13.size (fun x => h13.size + 5 ≤ x) s := ((B.fr f' (fun y => y) fun _ _ _ y => y).fr n22.fr (fun y => y) fun _ _ _ y => y).fr t23.fr (by omega) fun g h1 _ y => by omega
    refine ⟨t, rdc ((q23 _ (by omega) (by omega) (by omega)).trans rt) rfl, (geoN n).v, rfl, cellsAll ((q23 _ (by omega) (by omega) (by omega)).trans rg), _, by rw [ints_length, lR], cellsAll ((q23 _ (by omega) (by omega) (by omega)).trans rx), _, rda r23 rfl, ?_⟩
    refine block_spec (gl.no fh23) (x.no fh23) lR fun a1 l1 c1 h24 f24 hl s24 => ⟨_, _, _, _, rfl, cn (fun hb => ?_) fun hb => ?_⟩
    · -- it does not read
      have ee : readGo T (geoN n) R ofs m m 0 [] = ([], (blockM T (geoN n) R ((ofs + a) / 512 : Nat)).2) := by
        rw [eq]; unfold readGo; rw [if_neg (by omega), if_pos hb]
      rw [ee] at hK
      have f24' : Fr (fun b => b = h13.size ∨ b = h13.size + 4) hb0 h24 := f23.no f24
      have z24 := f24.size
      have q24 : ∀ b, b < hb0.size → b ≠ h13.size → b ≠ h13.size + 4 → rd h24 b = rd hb0 b := fun b hb h1 h2 => f24'.rd hb fun y => y.elim h1 h2
      have w24 : ∀ b, Own hb0 b → b ≠ h13.size → b ≠ h13.size + 4 → Own h24 b := fun b o h1 h2 => f24'.own o.lt (fun y => y.elim h1 h2) o
      refine put_s (w24 _ os (by omega) (by omega)) ((q24 _ (by omega) (by omega) (by omega)).trans rs) fun h25 d25 => put_e (d25.ow (w24 _ oe (by omega) (by omega))) ((d25.at_ (by omega) (by omega)).trans ((q24 _ (by omega) (by omega) (by omega)).trans re)) fun h26 d26 => ?_
      have z25 := d25.size
      have z26 := d26.size
      have on26 : LoopOn h26 (h13.size + 4) L .busy none := loopOn_fr (loopOn_fr (loopOn_fr t23.on f24 fun y => y) d25.fr (by omega)) d26.fr (by omega)
      refine ⟨on26, .inr ⟨rfl, .done, some .ret, setLoop_on (loop_lt on26) L _ _, by decide, ?_⟩⟩
      have t27 := turned (loop_lt on26) L .done (some .ret)
      have z27 := t27.size
      refine setL_intro (by omega) fun h34 t34 => leave [] _ h34 none ?_ ?_ ?_ hK
      · exact ((((f24'.mono fun b _ y => by omega).trans d25.fr fun b hb y => by omega).trans d26.fr fun b hb y => by omega).trans t27.fr fun b hb y => by omega).trans t34.fr fun b hb y => by omega
      · exact (t34.fr.rd (by omega) (by omega)).trans ((t27.fr.rd (by omega) (by omega)).trans ((d26.at_ (by omega) (by omega)).trans d25.rd))
      · exact (t34.fr.rd (by omega) (by omega)).trans ((t27.fr.rd (by omega) (by omega)).trans d26.rd)
    · -- its bytes are taken
      obtain ⟨t1, t2⟩ := toP_gt (off := ofs) ha
      have lb := blockM_len x hb
      have hc := s24.le
      have z24 := f24.size
      have r24 : rd h24 h'.size = partV ofs m a := (f24.rd (by omega) fun y => y).trans r23
      refine ⟨_, rda r24 rfl, _, rda r24 rfl, ⟨by omega, by omega, by omega⟩, ?_⟩
      rw [Int.toNat_natCast, Int.toNat_natCast]
      have S := StrAt.cut s24.str hc (i := (ofs + a) % 512) (j := toP ofs m a) (by omega) (by omega)
      have lnew : (((blockM T (geoN n) R ((ofs + a) / 512 : Nat)).1.drop ((ofs + a) % 512)).take (toP ofs m a - (ofs + a) % 512)).length = toP ofs m a - (ofs + a) % 512 := by
        rw [List.length_take, List.length_drop, lb]; omega
      have lhh := B.lt
      have B24' : Bld h24 h13.size (fun x => h13.size + 5 ≤ x ∧ x < hh.size) s := ((((B.mono (Q' := fun x => h13.size + 5 ≤ x ∧ x < hh.size) fun g h1 h2 => ⟨h1, h2⟩).fr f' (fun y => y) fun _ _ _ y => y).fr n22.fr (fun y => y) fun _ _ _ y => y).fr t23.fr (by omega) fun g h1 _ y => by omega).fr f24 (fun y => y) fun _ _ _ y => y
      refine BWrite_spec B24' S (fun y => by rw [y, List.length_nil] at lnew; omega) (fun p hp => ?_) (by omega) fun v h27 f27 B27 => ⟨_, _, rfl, ?_⟩
      · obtain ⟨p0, ep, _⟩ := s24.get (by omega)
        subst ep
        obtain ⟨pb, po, sp⟩ := p0
        have esp : sp = none := s24.2.1
        subst esp
        have hfrom : h23.size ≤ pb := s24.2.2.1
        split at hp
        · cases hp; show pb ≠ _; omega
        · cases hp
          show (Addr.add ⟨pb, po, none⟩ _).block ≠ _
          rw [add_mk]; show pb ≠ _; omega
      have z27 := f27.size
      have on27 : LoopOn h27 (h13.size + 4) L .busy none := loopOn_fr (loopOn_fr t23.on f24 fun y => y) f27 (by omega)
      have t28 := turned (loop_lt on27) L .ready none
      refine ⟨on27, .inl ⟨rfl, ⟨?_, t28.on, _, k, (B27.mono (Q' := fun x => h13.size + 5 ≤ x) fun g h1 _ => by omega).fr t28.fr (by omega) fun g h1 _ y => by omega, ?_, ?_, ?_⟩, ?_⟩⟩
      · exact ((f23.no f24).trans f27 fun b hb y => by omega).trans t28.fr fun b hb y => .inr y
      · rw [List.length_append, lnew, ls]; rfl
      · have := (nextA_gt (off := ofs) ha).1; omega
      · rw [eq]
        conv => lhs; unfold readGo
        rw [if_neg (by omega), if_neg (fun y => y hb)]
      · have e1 : rd (setLoop h27 (h13.size + 4) L .ready none) hh.size = rd h27 hh.size := t28.fr.rd (by omega) (by omega)
        exact e1.trans ((f27.rd (by omega) (by omega)).trans ((f24.rd (by omega) fun y => y).trans ((t23.fr.rd (by omega) (by omega)).trans (n22.at_ (by omega)))))
  · -- all have come
    obtain ⟨f, on, s, k, B, ls, hk, eq⟩ := J
    rw [readGo_end (Nat.le_refl m)] at eq
    rw [eq] at hK
    have zf := f.size
    refine ⟨.ready, none, on, by decide, pend_none (setL_intro (by omega) fun h29 t29 => ?_)⟩
    have z29 := t29.size
    have f29 : Fr (fun b => b = h13.size ∨ b = h13.size + 4) hb0 h29 := f.trans t29.fr fun b hb y => .inr y
    refine BString_spec (B.fr t29.fr (by omega) fun g h1 _ y => by omega) (by omega) fun h30 f30 => ⟨_, rfl, ?_⟩
    have z30 := f30.size
    have f30' : Fr (fun b => b = h13.size ∨ b = h13.size + 4) hb0 h30 := f29.trans f30 fun b hb y => by omega
    have q30 : ∀ b, b < hb0.size → b ≠ h13.size → b ≠ h13.size + 4 → rd h30 b = rd hb0 b := fun b hb h1 h2 => f30'.rd hb fun y => y.elim h1 h2
    have w30 : ∀ b, Own hb0 b → b ≠ h13.size → b ≠ h13.size + 4 → Own h30 b := fun b o h1 h2 => f30'.own o.lt (fun y => y.elim h1 h2) o
    refine put_s (w30 _ os (by omega) (by omega)) ((q30 _ (by omega) (by omega) (by omega)).trans rs) fun h31 d31 => put_e (d31.ow (w30 _ oe (by omega) (by omega))) ((d31.at_ (by omega) (by omega)).trans ((q30 _ (by omega) (by omega) (by omega)).trans re)) fun h32 d32 => ?_
    have z31 := d31.size
    refine leave s 0 h32 none ?_ ((d32.at_ (by omega) (by omega)).trans d31.rd) d32.rd hK
    exact ((f30'.mono fun b _ y => by omega).trans d31.fr fun b hb y => by omega).trans d32.fr fun b hb y => by omega
end Go.Proofs.YtcdpakjhjmchhaaGreatDoor.Fi
