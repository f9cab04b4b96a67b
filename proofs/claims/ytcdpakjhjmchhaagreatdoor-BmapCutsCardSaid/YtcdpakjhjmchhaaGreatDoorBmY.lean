import Derived.Test.YtcdpakjhjmchhaaGreatDoorBmA
import Derived.Test.YtcdpakjhjmchhaaGreatDoorInB
/-
  PACKAGE bmap: way, look, own, number, set; walk, Find, Add.
-/
namespace Go.Proofs.YtcdpakjhjmchhaaGreatDoor.Bm
open Go Go.Proofs Go.Proofs.YtcdpakjhjmchhaaGreatDoor.Wx Go.Proofs.YtcdpakjhjmchhaaGreatDoor.Hp Go.Proofs.YtcdpakjhjmchhaaGreatDoor.W Go.Proofs.YtcdpakjhjmchhaaGreatDoor.Ad Go.Proofs.YtcdpakjhjmchhaaGreatDoor.Tm Go.Proofs.YtcdpakjhjmchhaaGreatDoor.Spc Go.Proofs.YtcdpakjhjmchhaaGreatDoor.Re Go.Proofs.YtcdpakjhjmchhaaGreatDoor.Av
open Go.Proofs.YtcdpakjhjmchhaaGreatDoor.Hd (ints wrap_u64)
open Go.Proofs.YtcdpakjhjmchhaaGreatDoor.In (Glo ints_length ints_one)

def stV (s : Nat × Nat) : List Value := [.int .i64 s.1, .int .i64 s.2]
def fileV (t : Option Addr) (g : G) (R : List Int) : List Value := .pointer t :: (g.v ++ ints R)
theorem fileV_get {t : Option Addr} {g : G} {R : List Int} {i : Nat} (hi : i < R.length) : (fileV t g R)[6 + i]? = some (.int .i64 (R.getD i 0)) := by
  rw [Nat.add_comm 6 i]
  show (ints R)[i]? = _
  rw [ints, List.getElem?_map, List.getD_eq_getElem?_getD, List.getElem?_eq_getElem hi]; rfl
theorem fileV_set (t : Option Addr) (g : G) (R : List Int) (i : Nat) (v : Int) : (fileV t g R).set (6 + i) (.int .i64 v) = fileV t g (R.set i v) := by
  rw [Nat.add_comm 6 i]
  show .pointer t :: .int .i64 g.blocks :: .int .i64 g.bitmap :: .int .i64 g.inodes :: .int .i64 g.data :: .int .i64 g.count :: (ints R).set i (.int .i64 v) = _
  have e : ints (R.set i v) = (ints R).set i (.int .i64 v) := by rw [ints, ints, List.map_set]
  unfold fileV; rw [e]; rfl
theorem fileV_len {t : Option Addr} {g : G} {R : List Int} (h : R.length = 15) : (fileV t g R).length = 21 := by
  unfold fileV; rw [List.length_cons, List.length_append, ints_length, h]; rfl
theorem cell2 {h : Heap} {b i j : Nat} {xs : List Value} {v : Value} (e : rd h b = xs) (hv : xs[i + j]? = some v) : cellOf h (Addr.add (Addr.add ⟨b, 0, none⟩ i) j) = some v := by
  rw [add_mk, add_mk, cellOf_rd, e, Nat.zero_add]; exact hv
theorem look_spec {h : Heap} {fb : Nat} {t : Option Addr} {g : G} {R : List Int} {v : Int} {K : Value → Heap → Prop} (e : rd h fb = fileV t g R) (hK : K (.int .i64 (lookM g v)) h) : C.bmap_file_look (some ⟨fb, 0, none⟩) v h K := by
  refine bmap_file_look.ok (os ⟨g.data, cell2 e rfl, cd (fun y => ?_) fun y => os ⟨g.blocks, cell2 e rfl, cd (fun y2 => ?_) fun y2 => ?_⟩⟩)
  · have : lookM g v = 100 := by unfold lookM; rw [if_pos (.inl y)]
    rw [this] at hK; exact hK
  · have : lookM g v = 100 := by unfold lookM; rw [if_pos (.inr y2)]
    rw [this] at hK; exact hK
  · have : lookM g v = 0 := by unfold lookM; rw [if_neg (by omega)]
    rw [this] at hK; exact hK
theorem way_spec {k : Int} {h : Heap} {K : Value → Heap → Prop} (h0 : 0 ≤ k) (h1 : k < 16522)
    (hK : ∀ h', Fr No h h' → h.size < h'.size → rd h' h.size = (wayM k.toNat).flatMap stV → K (.slice (some ⟨h.size, 0, none⟩) (wayM k.toNat).length (wayM k.toNat).length) h') : C.bmap_way k h K := by
  have cast : ((k.toNat : Nat) : Int) = k := by omega
  refine bmap_way.ok (cd (fun y => ⟨rfl, New.intro fun h2 n2 => ?_⟩) fun y => cd (fun y2 => ⟨rfl, rfl, New.intro fun h2 n2 => ?_⟩) fun y2 => ⟨rfl, rfl, rfl, New.intro fun h2 n2 => ?_⟩)
  · have e : wayM k.toNat = [(0, k.toNat)] := by unfold wayM; rw [if_pos (by omega)]
    rw [e] at hK
    refine hK h2 n2.fr n2.own.lt (n2.rd.trans ?_)
    show _ = [Value.int .i64 ((0 : Nat) : Int), .int .i64 ((k.toNat : Nat) : Int)]
    rw [cast]; rfl
  · have e : wayM k.toNat = [(1, 0), (3, k.toNat - 10)] := by unfold wayM; rw [if_neg (by omega), if_pos (by omega)]
    rw [e] at hK
    refine hK h2 n2.fr n2.own.lt (n2.rd.trans ?_)
    show _ = [Value.int .i64 ((1 : Nat) : Int), .int .i64 ((0 : Nat) : Int), .int .i64 ((3 : Nat) : Int), .int .i64 ((k.toNat - 10 : Nat) : Int)]
    rw [wrap_i64 (by omega) (by omega), show ((k.toNat - 10 : Nat) : Int) = k - 10 by omega]; rfl
  · have e : wayM k.toNat = [(2, 0), (3, (k.toNat - 138) / 128), (3, (k.toNat - 138) % 128)] := by unfold wayM; rw [if_neg (by omega), if_neg (by omega)]
    rw [e] at hK
    refine hK h2 n2.fr n2.own.lt (n2.rd.trans ?_)
    show _ = [Value.int .i64 ((2 : Nat) : Int), .int .i64 ((0 : Nat) : Int), .int .i64 ((3 : Nat) : Int), .int .i64 (((k.toNat - 138) / 128 : Nat) : Int), .int .i64 ((3 : Nat) : Int), .int .i64 (((k.toNat - 138) % 128 : Nat) : Int)]
    have e1 : Int.tdiv (k - 138) 128 = (((k.toNat - 138) / 128 : Nat) : Int) := by rw [Int.tdiv_eq_ediv_of_nonneg (by omega)]; omega
    have e2 : Int.tmod (k - 138) 128 = (((k.toNat - 138) % 128 : Nat) : Int) := by rw [Int.tmod_eq_emod_of_nonneg (by omega)]; omega
    rw [wrap_i64 (n := k - 138) (by omega) (by omega), e1, e2, wrap_i64 (by omega) (by omega)]; rfl
/-- a step that may be -/
def StOk (s : Nat × Nat) : Prop := s.1 = 0 ∧ s.2 < 10 ∨ s.1 = 1 ∨ s.1 = 2 ∨ s.1 = 3 ∧ s.2 < 128
theorem wayM_ok {k : Nat} (h : k < 16522) : ∀ s ∈ wayM k, StOk s := by
  unfold wayM StOk
  intro s hs
  split at hs
  · simp at hs; subst hs; exact .inl ⟨rfl, by assumption⟩
  · split at hs
    · simp at hs; rcases hs with rfl | rfl
      · exact .inr (.inl rfl)
      · exact .inr (.inr (.inr ⟨rfl, by simp only; omega⟩))
    · simp at hs; rcases hs with rfl | rfl | rfl
      · exact .inr (.inr (.inl rfl))
      · exact .inr (.inr (.inr ⟨rfl, by simp only; omega⟩))
      · exact .inr (.inr (.inr ⟨rfl, by simp only; omega⟩))
def ownI (s : Nat × Nat) : Nat := if s.1 = 0 then 3 + s.2 else if s.1 = 1 then 13 else 14
theorem ownI_lt {s : Nat × Nat} (hs : StOk s) : ownI s < 15 := by
  unfold ownI
  rcases hs with ⟨h1, h2⟩ | h1 | h1 | ⟨h1, _⟩
  · rw [if_pos h1]; omega
  · rw [if_neg (by omega), if_pos h1]; decide
  · rw [if_neg (by omega), if_neg (by omega)]; decide
  · rw [if_neg (by omega), if_neg (by omega)]; decide
theorem own_spec {h : Heap} {fb : Nat} {s : Nat × Nat} {K : Value → Heap → Prop} (hs : StOk s) (hK : ∀ h', Fr No h h' → K (.pointer (some ⟨fb, 6 + ownI s, none⟩)) h') : C.bmap_file_own (some ⟨fb, 0, none⟩) (stV s) h K := by
  refine bmap_file_own.ok (New.intro fun h2 n2 => ⟨_, rda n2.rd rfl, ce (fun y => ⟨_, rda n2.rd rfl, os ⟨⟨by omega, ?_⟩, ?_⟩⟩) fun y => ce (fun y2 => os ?_) fun y2 => os ?_⟩)
  · rcases hs with ⟨_, h2⟩ | h1 | h1 | ⟨h1, _⟩ <;> omega
  · have e : ownI s = 3 + s.2 := by unfold ownI; rw [if_pos (by omega)]
    have hK := hK h2 n2.fr
    rw [add_mk, add_mk, add_mk, Int.toNat_natCast]
    rw [e] at hK
    rw [show 0 + 6 + 3 + s.2 = 6 + (3 + s.2) by omega]; exact hK
  · have e : ownI s = 13 := by unfold ownI; rw [if_neg (by omega), if_pos (by omega)]
    have hK := hK h2 n2.fr
    rw [e] at hK
    rw [add_mk, add_mk]; exact hK
  · have e : ownI s = 14 := by unfold ownI; rw [if_neg (by omega), if_neg (by omega)]
    have hK := hK h2 n2.fr
    rw [e] at hK
    rw [add_mk, add_mk]; exact hK
theorem numM_own {T : TM} {R : List Int} {s : Nat × Nat} {a : Int} (hs : StOk s) (h : s.1 ≠ 3) : numM T R s a = (R.getD (ownI s) 0, [], 0) := by
  unfold numM ownI
  rcases hs with ⟨h1, _⟩ | h1 | h1 | ⟨h1, _⟩
  · rw [if_pos h1, if_pos h1]
  · rw [if_neg (by omega), if_pos h1, if_neg (by omega), if_pos h1]
  · rw [if_neg (by omega), if_neg (by omega), if_pos h1, if_neg (by omega), if_neg (by omega)]
  · exact absurd h1 h
theorem numM_t {T : TM} {R : List Int} {s : Nat × Nat} {a : Int} (h : s.1 = 3) : numM T R s a = if (T.read a).2 ≠ 0 then ((0 : Int), ([] : Txt), (T.read a).2) else (((num4 (T.read a).1 s.2 : Nat) : Int), (T.read a).1, (0 : Int)) := by
  unfold numM
  rw [if_neg (by omega), if_neg (by omega), if_neg (by omega)]
theorem number_spec {h : Heap} {F : Nat → Prop} {t d : Option Addr} {T : TM} {g : G} {R : List Int} {fb : Nat} {s : Nat × Nat} {a : Int} {K : Value → Heap → Prop} (gl : Glo h) (x : Tx h F t d T) (e : rd h fb = fileV t g R) (hR : R.length = 15) (hs : StOk s)
    (hK : ∀ sa sl sc h', Fr No h h' → sl = (numM T R s a).2.1.length → Sl h' 1 sa sl sc ((numM T R s a).2.1.map bv) (From h.size) → K (.tuple #[.int .i64 (numM T R s a).1, .slice sa sl sc, .int .i64 (numM T R s a).2.2]) h') : C.bmap_file_number (some ⟨fb, 0, none⟩) (stV s) a h K := by
  have fl : fb < h.size := rd_lt (o := 0) (by rw [e]; rfl)
  refine bmap_file_number.ok (New.intro fun h2 n2 => ⟨_, rda n2.rd rfl, cn (fun y => ⟨stV s, rfl, cellsAll n2.rd, own_spec hs fun h3 f3 => ⟨_, rfl, os ?_⟩⟩) fun y => os ?_⟩)
  · rw [numM_own hs (by omega)] at hK
    have F3 := n2.fr.no f3
    refine ⟨_, rdc ((F3.rd fl fun y => y).trans e) (fileV_get (by rw [hR]; exact ownI_lt hs)), hK none 0 0 h3 F3 rfl (Sl.nil _ _ _)⟩
  · have hs3 : s.1 = 3 := by omega
    have hs2 : s.2 < 128 := by rcases hs with ⟨h1, _⟩ | h1 | h1 | ⟨_, h2⟩ <;> omega
    rw [numM_t hs3] at hK
    refine ⟨t, rda ((n2.at_ fl).trans e) rfl, Tm.Read_spec (x.no n2.fr) fun sa sl sc h4 f4 el s4 => ⟨_, _, _, _, rfl, cn (fun he => ?_) fun he => ?_⟩⟩
    · rw [if_pos he] at hK
      exact hK none 0 0 h4 (n2.fr.no f4) rfl (Sl.nil _ _ _)
    · rw [if_neg (fun y => y he)] at hK
      have hlen : (T.read a).1.length = 512 := Tx.readLen x he
      have F4 := n2.fr.no f4
      have z2 := n2.size
      refine ⟨_, rda ((f4.rd n2.own.lt fun y => y).trans n2.rd) rfl, ?_⟩
      rw [wrap_i64 (n := 4 * (s.2 : Int)) (by omega) (by omega)]
      refine In.Get_w (gl.no F4) s4.str (by omega) (.inr (.inr (.inl rfl))) (by omega) (by omega) ⟨_, _, rfl, ?_⟩
      have en : leN (((T.read a).1.drop (4 * (s.2 : Int)).toNat).take (Int.toNat 4)) = num4 (T.read a).1 s.2 := by
        unfold num4
        rw [show (4 * (s.2 : Int)).toNat = 4 * s.2 by omega]; rfl
      rw [en]
      have lt := num4_lt (T.read a).1 s.2
      rw [wrap_i64 (by omega) (by omega)]
      exact hK sa sl sc h4 F4 el (s4.mono fun b hb => by have : h2.size ≤ b := hb; show h.size ≤ b; omega)
theorem setM_own {T : TM} {R : List Int} {s : Nat × Nat} {a v : Int} {b : Txt} (hs : StOk s) (h : s.1 ≠ 3) : setM T R s a b v = ((T, R.set (ownI s) v), 0) := by
  unfold setM ownI
  rcases hs with ⟨h1, _⟩ | h1 | h1 | ⟨h1, _⟩
  · rw [if_pos h1, if_pos h1]
  · rw [if_neg (by omega), if_pos h1, if_neg (by omega), if_pos h1]
  · rw [if_neg (by omega), if_neg (by omega), if_pos h1, if_neg (by omega), if_neg (by omega)]
  · exact absurd h1 h
theorem setM_t {T : TM} {R : List Int} {s : Nat × Nat} {a v : Int} {b : Txt} (h : s.1 = 3) : setM T R s a b v = (((T.write a (set4 b s.2 v.toNat)).1, R), (T.write a (set4 b s.2 v.toNat)).2) := by
  unfold setM
  rw [if_neg (by omega), if_neg (by omega), if_neg (by omega)]
theorem setM_len {T : TM} {R : List Int} {s : Nat × Nat} {a v : Int} {b : Txt} (hs : StOk s) (hR : R.length = 15) : (setM T R s a b v).1.2.length = 15 := by
  by_cases h : s.1 = 3
  · rw [setM_t h]; exact hR
  · rw [setM_own hs h]; show (R.set _ _).length = 15; rw [List.length_set]; exact hR
theorem sl_rngB {h : Heap} {ec l c : Nat} {a : Option Addr} {xs : List Value} {F : Nat → Prop} (s : Sl h ec a l c xs F) : Sl h ec a l c xs (fun b => F b ∧ b < h.size) := by
  obtain ⟨h1, h2⟩ := s
  refine ⟨h1, ?_⟩
  cases a with
  | none => exact h2
  | some p => exact ⟨h2.1, ⟨h2.2.1, h2.2.2.1.lt⟩, h2.2.2.1, h2.2.2.2.1, h2.2.2.2.2⟩
theorem write_un (T : TM) (i : Int) (bs : Txt) : (T.write i bs).1.undo.length ≤ T.undo.length + 1 := by
  by_cases h : (T.write i bs).2 = 0
  · obtain ⟨_, _, _, _, _, ew⟩ := TM.write_ok h
    rw [ew]
    show (T.undo ++ [_]).length ≤ _
    rw [List.length_append]; exact Nat.le_refl _
  · rw [TM.write_bad h]; exact Nat.le_add_right _ _
theorem setM_un {T : TM} {R : List Int} {s : Nat × Nat} {a v : Int} {b : Txt} (hs : StOk s) : (setM T R s a b v).1.1.undo.length ≤ T.undo.length + 1 := by
  by_cases h : s.1 = 3
  · rw [setM_t h]; exact write_un _ _ _
  · rw [setM_own hs h]; exact Nat.le_add_right _ _
theorem setBit_un (T : TM) (g : G) (i : Nat) (on : Bool) : (setBit T g i on).1.undo.length ≤ T.undo.length + 1 := by
  unfold setBit
  split
  · exact Nat.le_add_right _ _
  · exact write_un _ _ _
theorem takeM_un (T : TM) (g : G) : (takeM T g).1.undo.length ≤ T.undo.length + 2 := by
  unfold takeM
  split
  · unfold takeAt
    split
    · exact Nat.le_add_right _ _
    · split
      · exact Nat.le_add_right _ _
      · exact Nat.le_trans (write_un _ _ _) (Nat.succ_le_succ (setBit_un _ _ _ _))
  · exact Nat.le_add_right _ _
theorem takeM_rng (T : TM) (g : G) : 0 ≤ (takeM T g).2.1 ∧ ((takeM T g).2.1 = 0 ∨ (takeM T g).2.1 < g.blocks) := by
  unfold takeM
  split
  · rename_i m hm
    have hm := List.mem_of_find?_eq_some hm
    rw [List.mem_range] at hm
    unfold takeAt
    split
    · exact ⟨Int.le_refl _, .inl rfl⟩
    · split
      · exact ⟨Int.le_refl _, .inl rfl⟩
      · exact ⟨Int.natCast_nonneg _, .inr (by show (m : Int) < _; omega)⟩
  · exact ⟨Int.le_refl _, .inl rfl⟩
theorem set_spec {h : Heap} {F : Nat → Prop} {t d : Option Addr} {T : TM} {g : G} {R : List Int} {fb lo : Nat} {s : Nat × Nat} {a v : Int} {sa : Option Addr} {sl sc : Nat} {b : Txt} {K : Value → Heap → Prop} (gl : Glo h) (x : Tx h F t d T) (e : rd h fb = fileV t g R) (fo : Own h fb) (hR : R.length = 15) (hs : StOk s)
    (hf : ¬ F fb) (hu : T.undo.length < 1000000000) (hv : 0 ≤ v ∧ v < 4294967296) (hb : s.1 = 3 → b.length = 512 ∧ Sl h 1 sa sl sc (b.map bv) (fun y => lo ≤ y ∧ ¬ F y ∧ y ≠ fb))
    (hK : ∀ h' F', Fr (fun y => F y ∨ y = fb ∨ lo ≤ y) h h' → Gw h F h' F' → Tx h' F' t d (setM T R s a b v).1.1 → rd h' fb = fileV t g (setM T R s a b v).1.2 → Own h' fb → K (.int .i64 (setM T R s a b v).2) h') : C.bmap_file_set (some ⟨fb, 0, none⟩) (stV s) a sa sl sc v h K := by
  have fl := fo.lt
  have Flt := fun y (hy : F y) => x.lt hy
  refine bmap_file_set.ok (New.intro fun h2 n2 => ⟨_, rda n2.rd rfl, cn (fun y => ⟨stV s, rfl, cellsAll n2.rd, own_spec hs fun h3 f3 => ⟨_, rfl, os ?_⟩⟩) fun y => ?_⟩)
  · rw [setM_own hs (by omega)] at hK
    have F3 := n2.fr.no f3
    have r3 : rd h3 fb = _ := (F3.rd fl fun y => y).trans e
    have hi := ownI_lt hs
    refine Put.intro (F3.own fl (fun y => y) fo) (by rw [r3, fileV_len hR]; omega) fun h4 d4 => ?_
    rw [r3, fileV_set] at d4
    have F4 : Fr (fun y => F y ∨ y = fb ∨ lo ≤ y) h h4 := (F3.mono fun _ _ y => y.elim).did d4 fun _ => .inr (.inl rfl)
    exact hK h4 F F4 (Gw.refl F4.size Flt) ((x.no F3).fr d4.fr fun c hc y => hf (by have y : c = fb := y; rw [← y]; exact hc)) d4.rd d4.own
  · have hs3 : s.1 = 3 := by omega
    have hs2 : s.2 < 128 := by rcases hs with ⟨h1, _⟩ | h1 | h1 | ⟨_, h2⟩ <;> omega
    rw [setM_t hs3] at hK
    obtain ⟨lb, S⟩ := hb hs3
    have z2 := n2.size
    have ll : sl = 512 := by have := S.1; rw [List.length_map] at this; omega
    subst ll
    obtain ⟨⟨pb, po, sp⟩, ep, _⟩ := S.get (by decide)
    subst ep
    have esp : sp = none := S.2.1
    subst esp
    have k1 := S.2.2.1
    have k1 : lo ≤ pb ∧ ¬ F pb ∧ pb ≠ fb := k1
    have pl := S.lt
    have pl : pb < h.size := pl
    refine ⟨_, rda n2.rd rfl, ?_⟩
    rw [wrap_i64 (n := 4 * (s.2 : Int)) (by omega) (by omega), wrap_u64 (n := v) hv.1 (by omega), show v = ((v.toNat : Nat) : Int) by omega]
    refine In.Put_w (gl.no n2.fr) (S.fr n2.fr fun _ _ _ y => y) (by decide) (.inr (.inr rfl)) (by omega) (by omega) (by show _ < 256 ^ 4; omega) fun h5 f5 s5 => ⟨_, rfl, os ?_⟩
    have z5 := f5.size
    have e5 : putU b (4 * (s.2 : Int)).toNat (leB (Int.toNat 4) v.toNat) = set4 b s.2 v.toNat := by
      unfold set4
      rw [show (4 * (s.2 : Int)).toNat = 4 * s.2 by omega]; rfl
    rw [e5] at s5
    have F5 : Fr (fun y => y = pb) h h5 := (n2.fr.mono fun _ _ y => y.elim).trans f5 fun _ _ y => y
    have r5 : rd h5 fb = _ := (F5.rd fl fun y => k1.2.2 y.symm).trans e
    have x5 : Tx h5 F t d T := x.fr F5 fun c hc y => k1.2.1 (by have y : c = pb := y; rw [← y]; exact hc)
    refine ⟨t, rda r5 rfl, Tm.Write_spec x5 s5.str (by decide) (fun p e y => ?_) hu fun h6 F' f6 g6 x6 => ⟨_, rfl, ?_⟩⟩
    · cases e; exact k1.2.1 y
    · refine hK h6 F' ((F5.mono fun c _ y => ?_).trans f6 fun c _ y => .inl y) ((Gw.refl F5.size Flt).trans g6 F5.size) x6 ((f6.rd (by omega) hf).trans r5) (f6.own (by omega) hf (F5.own fl (fun y => k1.2.2 y.symm) fo))
      have y : c = pb := y
      rw [y]; exact .inr (.inr k1.1)
/-! Find -/
theorem Find_c1_spec {s : List Value} {a : Int} {sa : Option Addr} {sl sc : Nat} {h : Heap} {K : Value → Heap → Prop} (hK : ∀ h', Fr No h h' → K (.tuple #[.int .i64 0, .int .i64 0]) h') : C.bmap_Find_c1 s a sa sl sc h K :=
  bmap_Find_c1.ok (New.intro fun h2 n2 => hK h2 n2.fr)
theorem st_cells {h : Heap} {b : Nat} {l : List (Nat × Nat)} (e : rd h b = l.flatMap stV) {j : Nat} (hj : j < l.length) : Cells h (Addr.add ⟨b, 0, none⟩ (j * 2)) (stV l[j]) := by
  have c : Cells h ⟨b, 0, none⟩ (l.flatMap stV) := cellsAll e
  have := Cells.take (Cells.drop c (j * 2)) 2
  rw [flat_part stV 2 l (fun _ _ => rfl) j hj] at this
  exact this
theorem drop_cons {α : Type} {l : List α} {j : Nat} (h : j < l.length) : l.drop j = l[j] :: l.drop (j + 1) := List.drop_eq_getElem_cons h
theorem walkF_cons (T : TM) (g : G) (R : List Int) (s : Nat × Nat) (r : List (Nat × Nat)) (a : Int) : walkF T g R (s :: r) a = if (numM T R s a).2.2 ≠ 0 then (0, (numM T R s a).2.2) else if (numM T R s a).1 = 0 then (0, 0) else
      if lookM g (numM T R s a).1 ≠ 0 then (0, lookM g (numM T R s a).1) else walkF T g R r (numM T R s a).1 := rfl
theorem one_st (s : Nat × Nat) : ∀ v ∈ stV s, v.oneCell' = true := one2 rfl rfl
theorem walkF_spec {h : Heap} {F : Nat → Prop} {t d : Option Addr} {T : TM} {g : G} {R : List Int} {fb : Nat} {k : Int} {K : Value → Heap → Prop} (gl : Glo h) (x : Tx h F t d T) (e : rd h fb = fileV t g R) (hR : R.length = 15) (h0 : 0 ≤ k) (h1 : k < 16522)
    (hK : ∀ h', Fr No h h' → K (.tuple #[.int .i64 (walkF T g R (wayM k.toNat) 0).1, .int .i64 (walkF T g R (wayM k.toNat) 0).2]) h') : C.bmap_file_walk (some ⟨fb, 0, none⟩) k (Value.func (.func 66) #[] ⟨[]⟩) h K := by
  have fl : fb < h.size := rd_lt (o := 0) (by rw [e]; rfl)
  refine bmap_file_walk.ok (way_spec h0 h1 fun h2 f2 l2 rw2 => ⟨_, _, _, rfl, ?_⟩)
  have hok := wayM_ok (k := k.toNat) (by omega)
  have hwl : (wayM k.toNat).length ≤ 3 := by
    unfold wayM
    split
    · simp
    · split <;> simp
  generalize wayM k.toNat = w at hK rw2 hok hwl
  refine ⟨fun a i hh => ∃ j : Nat, i = j ∧ j ≤ w.length ∧ Fr No h2 hh ∧ walkF T g R (w.drop j) a = walkF T g R w 0, fun _ i _ => ((w.length : Int) - i).toNat, ⟨0, rfl, Nat.zero_le _, Fr.refl _ _, by rw [List.drop_zero]⟩, ?_⟩
  rintro a i h3 ⟨j, rfl, hj, f3, ew⟩
  refine cd (fun hl => ?_) fun hl => ?_
  · have hj' : j < w.length := by omega
    rw [drop_cons hj', walkF_cons] at ew
    have F3 := f2.no f3
    have hs := hok _ (List.getElem_mem hj')
    have z3 := f3.size
    rw [Int.toNat_natCast]
    refine ⟨⟨by omega, hl⟩, os ⟨stV w[j], rfl, st_cells ((f3.rd l2 fun y => y).trans rw2) hj', NewRow.intro rfl (one_st _) rfl fun h5 n5 => ⟨stV w[j], rfl, cellsAll n5.rd, ?_⟩⟩⟩
    have F5 := F3.new n5
    refine number_spec (gl.no F5) (x.no F5) ((F5.rd fl fun y => y).trans e) hR hs fun sa sl sc h6 f6 el s6 => ⟨_, _, _, _, _, rfl, ?_⟩
    have F6 := F5.no f6
    have z5 := n5.size
    have z6 := f6.size
    have wr : IntKind.wrap .i64 ((j : Int) + 1) = ((j + 1 : Nat) : Int) := by rw [wrap_i64 (by omega) (by omega)]; omega
    have go : ∀ h8, Fr No h3 h8 → ∀ (nu er : Int), (if er ≠ 0 then ((0 : Int), er) else if nu = 0 then (0, 0) else if lookM g nu ≠ 0 then (0, lookM g nu) else walkF T g R (w.drop (j + 1)) nu) = walkF T g R w 0 →
        bmap_file_walk.k1 (some ⟨fb, 0, none⟩) a (j : Int) h3 (fun a i hh => ∃ j : Nat, i = j ∧ j ≤ w.length ∧ Fr No h2 hh ∧ walkF T g R (w.drop j) a = walkF T g R w 0) (fun _ i _ => ((w.length : Int) - i).toNat) nu er h8 K := fun h8 f8 nu er e8 => by
      have F8 := F3.no f8
      unfold bmap_file_walk.k1
      refine cn (fun y => ?_) fun y => ce (fun y2 => ?_) fun y2 => ?_
      · rw [if_pos y] at e8; rw [← e8] at hK; exact hK h8 F8
      · rw [if_neg (fun z => z y), if_pos y2] at e8; rw [← e8] at hK; exact hK h8 F8
      · rw [if_neg (fun z => z y), if_neg y2] at e8
        refine look_spec ((F8.rd fl fun y => y).trans e) ⟨_, rfl, cn (fun y3 => ?_) fun y3 => ?_⟩
        · rw [if_pos y3] at e8; rw [← e8] at hK; exact hK h8 F8
        · rw [if_neg (fun z => z y3)] at e8
          rw [wr]
          exact ⟨⟨j + 1, rfl, hj', f3.no f8, e8⟩, by show ((w.length : Int) - ((j + 1 : Nat) : Int)).toNat < ((w.length : Int) - (j : Int)).toNat; omega⟩
    have F36 : Fr No h3 h6 := n5.fr.no f6
    refine ce (fun y => ce (fun y2 => ?_) fun y2 => go h6 F36 _ _ ew) fun y => go h6 F36 _ _ ew
    rw [if_neg (fun z => z y), if_pos y2] at ew
    refine ⟨stV w[j], rfl, cellsAll ((f6.rd n5.own.lt fun y => y).trans n5.rd), Find_c1_spec fun h7 f7 => ⟨_, _, rfl, go h7 (F36.no f7) 0 0 ?_⟩⟩
    rw [if_neg (fun z => z rfl), if_pos rfl]; exact ew
  · have ej : j = w.length := by omega
    subst ej
    rw [List.drop_length] at ew
    have ew : (a, (0 : Int)) = walkF T g R w 0 := ew
    rw [← ew] at hK
    exact hK h3 (f2.no f3)
theorem Find_spec {h : Heap} {F : Nat → Prop} {t d : Option Addr} {T : TM} {g : G} {R : List Int} {k : Int} {K : Value → Heap → Prop} (gl : Glo h) (x : Tx h F t d T) (hR : R.length = 15)
    (hK : ∀ h', Fr No h h' → K (.tuple #[.int .i64 (findM T g R k).1, .int .i64 (findM T g R k).2]) h') : C.bmap_Find t g.v (ints R) k h K := by
  refine bmap_Find.ok (New.intro fun h2 n2 => New.intro fun h3 n3 => cd (fun y => ?_) fun y => cd (fun y2 => ?_) fun y2 => ?_)
  · have e : findM T g R k = (0, 101) := by unfold findM; rw [if_pos (.inl y)]
    rw [e] at hK; exact hK h3 (n2.fr.new n3)
  · have e : findM T g R k = (0, 101) := by unfold findM; rw [if_pos (.inr y2)]
    rw [e] at hK; exact hK h3 (n2.fr.new n3)
  · have e : findM T g R k = walkF T g R (wayM k.toNat) 0 := by unfold findM; rw [if_neg (by omega)]
    rw [e] at hK
    unfold bmap_Find.k1
    refine ⟨g.v, rfl, cellsAll ((n3.at_ n2.own.lt).trans n2.rd), ints R, by rw [ints_length, hR], cellsAll n3.rd, rfl, by rw [ints_length, hR], New.intro fun h4 n4 => ?_⟩
    have F4 := (n2.fr.new n3).new n4
    exact walkF_spec (gl.no F4) (x.no F4) n4.rd hR (by omega) (by omega) fun h5 f5 => ⟨_, _, rfl, hK h5 (F4.no f5)⟩
end Go.Proofs.YtcdpakjhjmchhaaGreatDoor.Bm
/-
  PACKAGE bmap: Add.
-/
namespace Go.Proofs.YtcdpakjhjmchhaaGreatDoor.Bm
open Go Go.Proofs Go.Proofs.YtcdpakjhjmchhaaGreatDoor.Wx Go.Proofs.YtcdpakjhjmchhaaGreatDoor.Hp Go.Proofs.YtcdpakjhjmchhaaGreatDoor.W Go.Proofs.YtcdpakjhjmchhaaGreatDoor.Ad Go.Proofs.YtcdpakjhjmchhaaGreatDoor.Tm Go.Proofs.YtcdpakjhjmchhaaGreatDoor.Spc Go.Proofs.YtcdpakjhjmchhaaGreatDoor.Re Go.Proofs.YtcdpakjhjmchhaaGreatDoor.Av
open Go.Proofs.YtcdpakjhjmchhaaGreatDoor.Hd (ints wrap_u64)
open Go.Proofs.YtcdpakjhjmchhaaGreatDoor.In (Glo ints_length ints_one)

def holeM (T : TM) (g : G) (R : List Int) (s : Nat × Nat) (a : Int) (b : Txt) : (TM × List Int) × Int × Int :=
  if (takeM T g).2.2 ≠ 0 then (((takeM T g).1, R), 0, (takeM T g).2.2) else ((setM (takeM T g).1 R s a b (takeM T g).2.1).1, (takeM T g).2.1, (setM (takeM T g).1 R s a b (takeM T g).2.1).2)
/-- what is done with a number that a step has -/
def nextM (g : G) (TR : TM × List Int) (nu er : Int) (go : TM → List Int → Int → (TM × List Int) × Int × Int) : (TM × List Int) × Int × Int :=
  if er ≠ 0 then (TR, 0, er) else if nu = 0 then (TR, 0, 0) else if lookM g nu ≠ 0 then (TR, 0, lookM g nu) else go TR.1 TR.2 nu
theorem walkA_cons (g : G) (s : Nat × Nat) (r : List (Nat × Nat)) (T : TM) (R : List Int) (a : Int) : walkA g (s :: r) T R a =
    if (numM T R s a).2.2 = 0 ∧ (numM T R s a).1 = 0 then nextM g (holeM T g R s a (numM T R s a).2.1).1 (holeM T g R s a (numM T R s a).2.1).2.1 (holeM T g R s a (numM T R s a).2.1).2.2 (walkA g r)
      else nextM g (T, R) (numM T R s a).1 (numM T R s a).2.2 (walkA g r) := by
  by_cases h1 : (numM T R s a).2.2 = 0
  · by_cases h2 : (numM T R s a).1 = 0
    · by_cases h3 : (takeM T g).2.2 = 0
      · simp [walkA, nextM, holeM, h1, h2, h3]
      · simp [walkA, nextM, holeM, h1, h2, h3]
    · simp [walkA, nextM, h1, h2]
  · simp [walkA, nextM, h1]
theorem holeM_len {T : TM} {g : G} {R : List Int} {s : Nat × Nat} {a : Int} {b : Txt} (hs : StOk s) (hR : R.length = 15) : (holeM T g R s a b).1.2.length = 15 := by
  unfold holeM
  split
  · exact hR
  · exact setM_len hs hR
theorem holeM_un {T : TM} {g : G} {R : List Int} {s : Nat × Nat} {a : Int} {b : Txt} (hs : StOk s) : (holeM T g R s a b).1.1.undo.length ≤ T.undo.length + 3 := by
  have h2 := takeM_un T g
  unfold holeM
  split
  · exact Nat.le_succ_of_le h2
  · have := setM_un (T := (takeM T g).1) (R := R) (a := a) (v := (takeM T g).2.1) (b := b) hs
    exact Nat.le_trans this (by omega)
/-- what Add's closures hold -/
structure Cap (h : Heap) (tb gb pb fb : Nat) (t : Option Addr) (g : G) : Prop where
  t : rd h tb = [.pointer t]
  g : rd h gb = g.v
  p : rd h pb = [.pointer (some ⟨fb, 0, none⟩)]
theorem Cap.lt {h : Heap} {tb gb pb fb : Nat} {t : Option Addr} {g : G} (c : Cap h tb gb pb fb t g) : tb < h.size ∧ gb < h.size ∧ pb < h.size :=
  ⟨rd_lt (o := 0) (by rw [c.t]; rfl), rd_lt (o := 0) (by rw [c.g]; rfl), rd_lt (o := 0) (by rw [c.p]; rfl)⟩
theorem Cap.fr {h h' : Heap} {tb gb pb fb : Nat} {t : Option Addr} {g : G} {G' : Nat → Prop} (c : Cap h tb gb pb fb t g) (f : Fr G' h h') (h1 : ¬ G' tb) (h2 : ¬ G' gb) (h3 : ¬ G' pb) : Cap h' tb gb pb fb t g := by
  obtain ⟨l1, l2, l3⟩ := c.lt
  exact ⟨(f.rd l1 h1).trans c.t, (f.rd l2 h2).trans c.g, (f.rd l3 h3).trans c.p⟩
theorem hole_spec {h : Heap} {F : Nat → Prop} {t d : Option Addr} {T : TM} {n : Nat} {R : List Int} {fb tb gb pb lo : Nat} {s : Nat × Nat} {a : Int} {sa : Option Addr} {sl sc : Nat} {b : Txt} {K : Value → Heap → Prop} (gl : Glo h) (dm : Dim n) (x : Tx h F t d T) (e : rd h fb = fileV t (geoN n) R) (fo : Own h fb) (hR : R.length = 15) (hs : StOk s)
    (cp : Cap h tb gb pb fb t (geoN n)) (hf : ¬ F fb ∧ ¬ F tb ∧ ¬ F gb ∧ ¬ F pb) (g0 : ∀ b, b < 1 → ¬ F b) (hu : T.undo.length < 800000000) (hb : s.1 = 3 → b.length = 512 ∧ Sl h 1 sa sl sc (b.map bv) (fun y => lo ≤ y ∧ ¬ F y ∧ y ≠ fb))
    (hK : ∀ h' F', Fr (fun y => F y ∨ y = fb ∨ lo ≤ y) h h' → Gw h F h' F' → Tx h' F' t d (holeM T (geoN n) R s a b).1.1 → rd h' fb = fileV t (geoN n) (holeM T (geoN n) R s a b).1.2 → Own h' fb → K (.tuple #[.int .i64 (holeM T (geoN n) R s a b).2.1, .int .i64 (holeM T (geoN n) R s a b).2.2]) h') :
    C.bmap_Add_c2 (stV s) a sa sl sc (some ⟨tb, 0, none⟩) (some ⟨gb, 0, none⟩) (some ⟨pb, 0, none⟩) h K := by
  obtain ⟨l1, l2, l3⟩ := cp.lt
  have fl := fo.lt
  refine bmap_Add_c2.ok (New.intro fun h2 n2 => os ⟨t, rdc ((n2.at_ l1).trans cp.t) rfl, os ⟨(geoN n).v, rfl, cellsAll ((n2.at_ l2).trans cp.g), ?_⟩⟩)
  have z2 := n2.size
  refine Take_any (x.no n2.fr) dm (by omega) fun h3 F3 f3 g3 x3 => ⟨_, _, rfl, ?_⟩
  have F03 : Fr F h h3 := (n2.fr.mono fun _ _ y => y.elim).trans f3 fun _ _ y => y
  have G03 : Gw h F h3 F3 := (Gw.refl n2.fr.size fun b hb => x.lt hb).trans g3 n2.fr.size
  have z3 := f3.size
  have old : ∀ y, y < h.size → (F3 y ↔ F y) := G03.old
  have hf3 : ¬ F3 fb := fun y => hf.1 ((old _ fl).mp y)
  have tu := takeM_un T (geoN n)
  have tr := takeM_rng T (geoN n)
  refine cn (fun he => ?_) fun he => ?_
  · have eh : holeM T (geoN n) R s a b = (((takeM T (geoN n)).1, R), 0, (takeM T (geoN n)).2.2) := by unfold holeM; rw [if_pos he]
    rw [eh] at hK
    exact hK h3 F3 (F03.mono fun _ _ y => .inl y) G03 x3 ((F03.rd fl hf.1).trans e) (F03.own fl hf.1 fo)
  · have eh : holeM T (geoN n) R s a b = ((setM (takeM T (geoN n)).1 R s a b (takeM T (geoN n)).2.1).1, (takeM T (geoN n)).2.1, (setM (takeM T (geoN n)).1 R s a b (takeM T (geoN n)).2.1).2) := by unfold holeM; rw [if_neg (fun y => y he)]
    rw [eh] at hK
    have hbl : ((geoN n).blocks : Int) ≤ 16384 := by have := dm.hi; show (n : Int) ≤ _; omega
    have ns : ¬ F h.size := fun y => by have := x.lt y; omega
    refine os ⟨_, rdc ((F03.rd l3 hf.2.2.2).trans cp.p) rfl, stV s, rfl, cellsAll ((f3.rd n2.own.lt ns).trans n2.rd), ?_⟩
    refine set_spec (lo := lo) (b := b) (gl.fr F03 g0) x3 ((F03.rd fl hf.1).trans e) (F03.own fl hf.1 fo) hR hs hf3 (by omega) ⟨tr.1, by omega⟩ (fun h3' => ?_) fun h4 F4 f4 g4 x4 r4 o4 => ⟨_, rfl, ?_⟩
    · obtain ⟨lb, S⟩ := hb h3'
      exact ⟨lb, ((sl_rngB S).fr F03 fun y _ hy z => hy.1.2.1 z).mono fun y hy => ⟨hy.1.1, fun z => hy.1.2.1 ((old y hy.2).mp z), hy.1.2.2⟩⟩
    · refine hK h4 F4 ((F03.mono fun _ _ y => .inl y).trans f4 fun y hy z => ?_) (G03.trans g4 F03.size) x4 r4 o4
      rcases z with z | z
      · exact .inl ((old y hy).mp z)
      · exact .inr z
theorem walkA_spec {h : Heap} {F : Nat → Prop} {t d : Option Addr} {T : TM} {n : Nat} {R : List Int} {fb tb gb pb : Nat} {k : Int} {K : Value → Heap → Prop} (gl : Glo h) (dm : Dim n) (x : Tx h F t d T) (e : rd h fb = fileV t (geoN n) R) (fo : Own h fb) (hR : R.length = 15) (h0 : 0 ≤ k) (h1 : k < 16522)
    (cp : Cap h tb gb pb fb t (geoN n)) (hf : ¬ F fb ∧ ¬ F tb ∧ ¬ F gb ∧ ¬ F pb) (hne : tb ≠ fb ∧ gb ≠ fb ∧ pb ≠ fb) (g0 : ∀ b, b < 1 → ¬ F b ∧ b ≠ fb) (hu : T.undo.length < 700000000)
    (hK : ∀ h' F', Fr (fun y => F y ∨ y = fb) h h' → Gw h F h' F' → Tx h' F' t d (walkA (geoN n) (wayM k.toNat) T R 0).1.1 → rd h' fb = fileV t (geoN n) (walkA (geoN n) (wayM k.toNat) T R 0).1.2 → Own h' fb → (walkA (geoN n) (wayM k.toNat) T R 0).1.2.length = 15 → (walkA (geoN n) (wayM k.toNat) T R 0).1.1.undo.length ≤ T.undo.length + 9 →
      K (.tuple #[.int .i64 (walkA (geoN n) (wayM k.toNat) T R 0).2.1, .int .i64 (walkA (geoN n) (wayM k.toNat) T R 0).2.2]) h') :
    C.bmap_file_walk (some ⟨fb, 0, none⟩) k (Value.func (.func 73) #[] ⟨[.pointer (some ⟨tb, 0, none⟩), .pointer (some ⟨gb, 0, none⟩), .pointer (some ⟨pb, 0, none⟩)]⟩) h K := by
  have fl := fo.lt
  have Flt := fun y (hy : F y) => x.lt hy
  refine bmap_file_walk.ok (way_spec h0 h1 fun h2 f2 l2 rw2 => ⟨_, _, _, rfl, ?_⟩)
  have hok := wayM_ok (k := k.toNat) (by omega)
  have hwl : (wayM k.toNat).length ≤ 3 := by
    unfold wayM
    split
    · simp
    · split <;> simp
  generalize wayM k.toNat = w at hK rw2 hok hwl
  have z2 := f2.size
  refine ⟨fun a i hh => ∃ (j : Nat) (F' : Nat → Prop) (T' : TM) (R' : List Int), i = j ∧ j ≤ w.length ∧ Fr (fun y => F y ∨ y = fb) h2 hh ∧ Gw h2 F hh F' ∧ Tx hh F' t d T' ∧ rd hh fb = fileV t (geoN n) R' ∧ Own hh fb ∧ R'.length = 15 ∧ T'.undo.length ≤ T.undo.length + 3 * j ∧ walkA (geoN n) (w.drop j) T' R' a = walkA (geoN n) w T R 0, fun _ i _ => ((w.length : Int) - i).toNat,
    ⟨0, F, T, R, rfl, Nat.zero_le _, Fr.refl _ _, Gw.refl (Nat.le_refl _) (fun b hb => Nat.lt_of_lt_of_le (Flt b hb) z2), x.no f2, (f2.rd fl fun y => y).trans e, f2.own fl (fun y => y) fo, hR, Nat.le_refl _, by rw [List.drop_zero]⟩, ?_⟩
  rintro a i h3 ⟨j, F', T', R', rfl, hj, f3, g3, x3, r3, o3, R3, u3, ew⟩
  have z3 := f3.size
  have f03 : Fr (fun y => F y ∨ y = fb) h h3 := (f2.mono fun _ _ y => y.elim).trans f3 fun _ _ y => y
  have old3 : ∀ y, y < h2.size → (F' y ↔ F y) := g3.old
  have G2 : Gw h F h2 F := Gw.refl z2 Flt
  refine cd (fun hl => ?_) fun hl => ?_
  · have hj' : j < w.length := by omega
    rw [drop_cons hj', walkA_cons] at ew
    have hs := hok _ (List.getElem_mem hj')
    have nP : ¬ (F h.size ∨ h.size = fb) := by
      rintro (y | y)
      · have := Flt _ y; omega
      · omega
    rw [Int.toNat_natCast]
    refine ⟨⟨by omega, hl⟩, os ⟨stV w[j], rfl, st_cells ((f3.rd l2 nP).trans rw2) hj', NewRow.intro rfl (one_st _) rfl fun h5 n5 => ⟨stV w[j], rfl, cellsAll n5.rd, ?_⟩⟩⟩
    have z5 := n5.size
    have fl3 := o3.lt
    have gl5 : Glo h5 := (gl.fr f03 fun b hb y => by rcases y with y | y; exact (g0 b hb).1 y; exact (g0 b hb).2 y).no n5.fr
    refine number_spec gl5 (x3.no n5.fr) ((n5.at_ fl3).trans r3) R3 hs fun sa sl sc h6 f6 el s6 => ⟨_, _, _, _, _, rfl, ?_⟩
    have z6 := f6.size
    have F36 : Fr No h3 h6 := n5.fr.no f6
    have wr : IntKind.wrap .i64 ((j : Int) + 1) = ((j + 1 : Nat) : Int) := by rw [wrap_i64 (by omega) (by omega)]; omega
    -- what a number does, at h8
    have go : ∀ (h8 : Heap) (F8 : Nat → Prop) (TR : TM × List Int) (nu er : Int), Fr (fun y => F y ∨ y = fb) h2 h8 → Gw h2 F h8 F8 → Tx h8 F8 t d TR.1 → rd h8 fb = fileV t (geoN n) TR.2 → Own h8 fb → TR.2.length = 15 → TR.1.undo.length ≤ T.undo.length + 3 * (j + 1) →
        nextM (geoN n) TR nu er (walkA (geoN n) (w.drop (j + 1))) = walkA (geoN n) w T R 0 →
        bmap_file_walk.k1 (some ⟨fb, 0, none⟩) a (j : Int) h3 (fun a i hh => ∃ (j : Nat) (F' : Nat → Prop) (T' : TM) (R' : List Int), i = j ∧ j ≤ w.length ∧ Fr (fun y => F y ∨ y = fb) h2 hh ∧ Gw h2 F hh F' ∧ Tx hh F' t d T' ∧ rd hh fb = fileV t (geoN n) R' ∧ Own hh fb ∧ R'.length = 15 ∧ T'.undo.length ≤ T.undo.length + 3 * j ∧ walkA (geoN n) (w.drop j) T' R' a = walkA (geoN n) w T R 0) (fun _ i _ => ((w.length : Int) - i).toNat) nu er h8 K := fun h8 F8 TR nu er f8 g8 x8 r8 o8 R8 u8 e8 => by
      have f08 : Fr (fun y => F y ∨ y = fb) h h8 := (f2.mono fun _ _ y => y.elim).trans f8 fun _ _ y => y
      unfold nextM at e8
      unfold bmap_file_walk.k1
      refine cn (fun y => ?_) fun y => ce (fun y2 => ?_) fun y2 => ?_
      · rw [if_pos y] at e8; rw [← e8] at hK; exact hK h8 F8 f08 (G2.trans g8 z2) x8 r8 o8 R8 (by show TR.1.undo.length ≤ _; omega)
      · rw [if_neg (fun z => z y), if_pos y2] at e8; rw [← e8] at hK; exact hK h8 F8 f08 (G2.trans g8 z2) x8 r8 o8 R8 (by show TR.1.undo.length ≤ _; omega)
      · rw [if_neg (fun z => z y), if_neg y2] at e8
        refine look_spec r8 ⟨_, rfl, cn (fun y3 => ?_) fun y3 => ?_⟩
        · rw [if_pos y3] at e8; rw [← e8] at hK; exact hK h8 F8 f08 (G2.trans g8 z2) x8 r8 o8 R8 (by show TR.1.undo.length ≤ _; omega)
        · rw [if_neg (fun z => z y3)] at e8
          rw [wr]
          exact ⟨⟨j + 1, F8, TR.1, TR.2, rfl, hj', f8, g8, x8, r8, o8, R8, u8, e8⟩, by show ((w.length : Int) - ((j + 1 : Nat) : Int)).toNat < ((w.length : Int) - (j : Int)).toNat; omega⟩
    have f26 : Fr (fun y => F y ∨ y = fb) h2 h6 := f3.no F36
    have g36 : Gw h2 F h6 F' := ⟨g3.old, fun b hb => Nat.lt_of_lt_of_le (g3.lt b hb) F36.size⟩
    have x6 := x3.no F36
    have r6 : rd h6 fb = _ := (F36.rd fl3 fun y => y).trans r3
    have o6 := F36.own fl3 (fun y => y) o3
    have plain : ¬ ((numM T' R' w[j] a).2.2 = 0 ∧ (numM T' R' w[j] a).1 = 0) → bmap_file_walk.k1 (some ⟨fb, 0, none⟩) a (j : Int) h3 (fun a i hh => ∃ (j : Nat) (F' : Nat → Prop) (T' : TM) (R' : List Int), i = j ∧ j ≤ w.length ∧ Fr (fun y => F y ∨ y = fb) h2 hh ∧ Gw h2 F hh F' ∧ Tx hh F' t d T' ∧ rd hh fb = fileV t (geoN n) R' ∧ Own hh fb ∧ R'.length = 15 ∧ T'.undo.length ≤ T.undo.length + 3 * j ∧ walkA (geoN n) (w.drop j) T' R' a = walkA (geoN n) w T R 0) (fun _ i _ => ((w.length : Int) - i).toNat) (numM T' R' w[j] a).1 (numM T' R' w[j] a).2.2 h6 K := fun hno => by
      rw [if_neg hno] at ew
      exact go h6 F' (T', R') _ _ f26 g36 x6 r6 o6 R3 (by show T'.undo.length ≤ _; omega) ew
    refine ce (fun y => ce (fun y2 => ?_) fun y2 => plain fun z => y2 z.2) fun y => plain fun z => y z.1
    rw [if_pos ⟨y, y2⟩] at ew
    refine ⟨stV w[j], rfl, cellsAll ((f6.rd n5.own.lt fun y => y).trans n5.rd), ?_⟩
    have f06 : Fr (fun y => F y ∨ y = fb) h h6 := f03.no F36
    obtain ⟨c1, c2, c3⟩ := cp.lt
    have cp6 : Cap h6 tb gb pb fb t (geoN n) := cp.fr f06 (by rintro (y | y); exact hf.2.1 y; exact hne.1 y) (by rintro (y | y); exact hf.2.2.1 y; exact hne.2.1 y) (by rintro (y | y); exact hf.2.2.2 y; exact hne.2.2 y)
    have hb : w[j].1 = 3 → (numM T' R' w[j] a).2.1.length = 512 ∧ Sl h6 1 sa sl sc ((numM T' R' w[j] a).2.1.map bv) (fun y => h5.size ≤ y ∧ ¬ F' y ∧ y ≠ fb) := fun h3' => by
      refine ⟨?_, s6.mono fun y hy => ⟨hy, fun z => ?_, ?_⟩⟩
      · rw [numM_t h3'] at y ⊢
        by_cases hh : (T'.read a).2 ≠ 0
        · rw [if_pos hh] at y; exact absurd y hh
        · rw [if_neg hh]; exact Tx.readLen x3 (by omega)
      · have hy : h5.size ≤ y := hy
        have := x3.lt z; omega
      · have hy : h5.size ≤ y := hy
        omega
    refine hole_spec (lo := h5.size) (gl5.no f6) dm x6 r6 o6 R3 hs cp6 ⟨fun z => hf.1 ((old3 _ (by omega)).mp z), fun z => hf.2.1 ((old3 _ (by omega)).mp z), fun z => hf.2.2.1 ((old3 _ (by omega)).mp z), fun z => hf.2.2.2 ((old3 _ (by omega)).mp z)⟩ (fun b hb' z => ?_) (by omega) hb fun h7 F7 f7 g7 x7 r7 o7 => ⟨_, _, rfl, ?_⟩
    · exact (g0 b hb').1 ((old3 b (by omega)).mp z)
    · have z7 := f7.size
      have f27 : Fr (fun y => F y ∨ y = fb) h2 h7 := f26.trans f7 fun c hc z => ?_
      · have hl7 := holeM_un (T := T') (g := geoN n) (R := R') (a := a) (b := (numM T' R' w[j] a).2.1) hs
        exact go h7 F7 _ _ _ f27 (g36.trans g7 f26.size) x7 r7 o7 (holeM_len hs R3) (by omega) ew
      · rcases z with z | z | z
        · exact .inl ((old3 c hc).mp z)
        · exact .inr z
        · omega
  · have ej : j = w.length := by omega
    subst ej
    rw [List.drop_length] at ew
    have ew : ((T', R'), a, (0 : Int)) = walkA (geoN n) w T R 0 := ew
    rw [← ew] at hK
    exact hK h3 F' f03 (G2.trans g3 z2) x3 r3 o3 R3 (by show T'.undo.length ≤ _; omega)
end Go.Proofs.YtcdpakjhjmchhaaGreatDoor.Bm
/-
  PACKAGE bmap: guard, Add.
-/
namespace Go.Proofs.YtcdpakjhjmchhaaGreatDoor.Bm
open Go Go.Proofs Go.Proofs.YtcdpakjhjmchhaaGreatDoor.Wx Go.Proofs.YtcdpakjhjmchhaaGreatDoor.Hp Go.Proofs.YtcdpakjhjmchhaaGreatDoor.W Go.Proofs.YtcdpakjhjmchhaaGreatDoor.Ad Go.Proofs.YtcdpakjhjmchhaaGreatDoor.Tm Go.Proofs.YtcdpakjhjmchhaaGreatDoor.Spc Go.Proofs.YtcdpakjhjmchhaaGreatDoor.Re Go.Proofs.YtcdpakjhjmchhaaGreatDoor.Av
open Go.Proofs.YtcdpakjhjmchhaaGreatDoor.Hd (ints wrap_u64)
open Go.Proofs.YtcdpakjhjmchhaaGreatDoor.In (Glo ints_length ints_one)

/-- what guard's closure holds -/
structure Gd (h : Heap) (ob tb mb : Nat) (t : Option Addr) (m : Int × Int) : Prop where
  o : rd h ob = [.int .i64 m.2]
  t : rd h tb = [.pointer t]
  m : rd h mb = [.int .i64 m.1]
def gdV (ob tb mb : Nat) : Value := .func (.func 121) ⟨[]⟩ ⟨[.pointer (some ⟨ob, 0, none⟩), .pointer (some ⟨tb, 0, none⟩), .pointer (some ⟨mb, 0, none⟩)]⟩
theorem Gd.lt {h : Heap} {ob tb mb : Nat} {t : Option Addr} {m : Int × Int} (c : Gd h ob tb mb t m) : ob < h.size ∧ tb < h.size ∧ mb < h.size :=
  ⟨rd_lt (o := 0) (by rw [c.o]; rfl), rd_lt (o := 0) (by rw [c.t]; rfl), rd_lt (o := 0) (by rw [c.m]; rfl)⟩
theorem Gd.fr {h h' : Heap} {ob tb mb : Nat} {t : Option Addr} {m : Int × Int} {G : Nat → Prop} (c : Gd h ob tb mb t m) (f : Fr G h h') (h1 : ¬ G ob) (h2 : ¬ G tb) (h3 : ¬ G mb) : Gd h' ob tb mb t m := by
  obtain ⟨l1, l2, l3⟩ := c.lt
  exact ⟨(f.rd l1 h1).trans c.o, (f.rd l2 h2).trans c.t, (f.rd l3 h3).trans c.m⟩
theorem guard_spec {h : Heap} {F : Nat → Prop} {t d : Option Addr} {T : TM} {K : Value → Heap → Prop} (x : Tx h F t d T)
    (hK : ∀ ob tb mb h', Fr No h h' → h.size ≤ ob → h.size ≤ tb → h.size ≤ mb → Gd h' ob tb mb t T.mark → K (gdV ob tb mb) h') : C.bmap_guard t h K := by
  refine bmap_guard.ok (New.intro fun h2 n2 => ⟨t, rdc n2.rd rfl, Mark_spec (x.no n2.fr) ⟨_, _, rfl, New.intro fun h4 n4 => New.intro fun h5 n5 => ?_⟩⟩)
  have z2 := n2.size
  have z4 := n4.size
  have z5 := n5.size
  refine Put.intro (n5.ow n4.own) (by rw [n5.at_ n4.own.lt, n4.rd]; decide) fun h6 d6 => Put.intro (d6.ow n5.own) (by rw [d6.at_ n5.own.lt (by omega), n5.rd]; decide) fun h7 d7 => ?_
  have z6 := d6.size
  have F7 : Fr No h h7 := (((n2.fr.new n4).new n5).did d6 fun hl => by omega).did d7 fun hl => by omega
  refine hK h4.size h.size h2.size h7 F7 (by omega) (Nat.le_refl _) (by omega) ⟨?_, ?_, ?_⟩
  · rw [d7.rd, d6.at_ n5.own.lt (by omega), n5.rd]; rfl
  · exact (d7.at_ (by omega) (by omega)).trans ((d6.at_ (by omega) (by omega)).trans ((n5.at_ (by omega)).trans ((n4.at_ n2.own.lt).trans n2.rd)))
  · rw [d7.at_ (by omega) (by omega), d6.rd, n5.at_ n4.own.lt, n4.rd]; rfl
theorem guard_c1_spec {h : Heap} {F : Nat → Prop} {t d : Option Addr} {T : TM} {ob tb mb : Nat} {m : Int × Int} {e : Int} {K : Value → Heap → Prop} (x : Tx h F t d T) (c : Gd h ob tb mb t m) (hu : T.undo.length < 1000000000)
    (hK : ∀ h', Fr F h h' → Tx h' F t d (if e ≠ 0 ∧ m.2 = 0 then (T.back m.1).1 else T) → K (.tuple #[]) h') : HCallsV Tryz.prog (gdV ob tb mb) [.int .i64 e] h K := by
  show C.bmap_guard_c1 e (some ⟨ob, 0, none⟩) (some ⟨tb, 0, none⟩) (some ⟨mb, 0, none⟩) h K
  refine bmap_guard_c1.ok (cn (fun he => os ⟨_, rdc c.o rfl, ce (fun hm => os ⟨t, rdc c.t rfl, os ⟨_, rdc c.m rfl, Back_spec x hu fun h2 f2 x2 => ⟨_, rfl, ?_⟩⟩⟩) fun hm => ?_⟩) fun he => ?_)
  · rw [if_pos ⟨he, hm⟩] at hK; exact hK h2 f2 x2
  · rw [if_neg (fun y => hm y.2)] at hK; exact hK h (Fr.refl _ _) x
  · rw [if_neg (fun y => y.1 he)] at hK; exact hK h (Fr.refl _ _) x
theorem rep_one' (n : Nat) : repCells z3 n = List.replicate n (Value.int .i64 0) := rfl
theorem z15_one : ∀ v ∈ ints z15, v.oneCell' = true := ints_one z15
theorem Add_spec {h : Heap} {F : Nat → Prop} {t d : Option Addr} {T : TM} {n : Nat} {R : List Int} {k : Int} {K : Value → Heap → Prop} (gl : Glo h) (dm : Dim n) (x : Tx h F t d T) (live : T.over = false) (hR : R.length = 15) (g0 : ∀ b, b < 1 → ¬ F b) (hu : T.undo.length < 700000000)
    (hK : ∀ h' F', Fr F h h' → Gw h F h' F' → Tx h' F' t d (addM T (geoN n) R k).1 → K (.tuple #[.agg ⟨ints (addM T (geoN n) R k).2.1⟩, .int .i64 (addM T (geoN n) R k).2.2.1, .int .i64 (addM T (geoN n) R k).2.2.2]) h') :
    C.bmap_Add t (geoN n).v (ints R) k h K := by
  have Flt := fun y (hy : F y) => x.lt hy
  have gl1 := gl.lt
  refine bmap_Add.ok (New.intro fun h2 n2 => New.intro fun h3 n3 => New.intro fun h4 n4 => New.intro fun h5 n5 => New.intro fun h6 n6 => New.intro fun h7 n7 => ?_)
  have z2 := n2.size
  have z3 := n3.size
  have z4 := n4.size
  have z5 := n5.size
  have z6 := n6.size
  have z7 := n7.size
  have F7 : Fr No h h7 := ((((n2.fr.new n3).new n4).new n5).new n6).new n7
  have ry : rd h7 h4.size = ints z15 := (n7.at_ (by omega)).trans ((n6.at_ (by omega)).trans n5.rd)
  have oy : Own h7 h4.size := n7.ow (n6.ow n5.own)
  have rn : rd h7 h5.size = [.int .i64 0] := (n7.at_ (by omega)).trans n6.rd
  have on : Own h7 h5.size := n7.ow n6.own
  have re : rd h7 h6.size = [.int .i64 0] := n7.rd
  have oe' : Own h7 h6.size := n7.own
  by_cases hk : 0 ≤ k ∧ k < 16522
  rotate_left
  · have e0 : addM T (geoN n) R k = (T, z15, 0, 101) := by unfold addM; rw [if_pos (by omega)]
    rw [e0] at hK
    have far : PutRow ⟨h4.size, 0, none⟩ (ints z15) 15 h7 fun h8 => Put ⟨h5.size, 0, none⟩ (.int .i64 0) h8 fun h9 => Put ⟨h6.size, 0, none⟩ (.int .i64 101) h9 fun h10 =>
        ∃ res1 : List Value, List.length res1 = 15 ∧ Cells h10 ⟨h4.size, 0, none⟩ res1 ∧ ∃ (res2 : Int), cellOf h10 ⟨h5.size, 0, none⟩ = some (.int .i64 res2) ∧ ∃ (res3 : Int), cellOf h10 ⟨h6.size, 0, none⟩ = some (.int .i64 res3) ∧ K (.tuple #[.agg ⟨res1⟩, .int .i64 res2, .int .i64 res3]) h10 := by
      refine PutRow.intro oy rfl z15_one (by rw [ry]; exact Nat.le_refl _) fun h8 d8 => Put.intro (d8.ow on) (by rw [d8.at_ (by omega) (by omega), rn]; decide) fun h9 d9 => Put.intro (d9.ow (d8.ow oe')) (by rw [d9.at_ (by have := d8.size; omega) (by omega), d8.at_ (by omega) (by omega), re]; decide) fun h10 d10 => ?_
      have z8 := d8.size
      have z9 := d9.size
      have F10 : Fr No h h10 := ((F7.did d8 fun hl => by omega).did d9 fun hl => by omega).did d10 fun hl => by omega
      refine ⟨ints z15, rfl, cellsAll ?_, 0, rdc (xs := [.int .i64 0]) ?_ rfl, 101, rdc (xs := [.int .i64 101]) ?_ rfl, hK h10 F (F10.mono fun _ _ y => y.elim) (Gw.refl F10.size Flt) (x.no F10)⟩
      · rw [d10.at_ (by omega) (by omega), d9.at_ (by omega) (by omega), d8.rd, ry]; exact put_all _ _ rfl
      · rw [d10.at_ (by omega) (by omega), d9.rd, d8.at_ (by omega) (by omega), rn]; rfl
      · rw [d10.rd, d9.at_ (by omega) (by omega), d8.at_ (by omega) (by omega), re]; rfl
    exact cd (fun _ => far) fun y => cd (fun _ => far) fun y2 => by exfalso; omega
  refine cd (fun y => by exfalso; omega) fun _ => cd (fun y => by exfalso; omega) fun _ => ?_
  have rt : rd h7 h.size = [.pointer t] := (n7.at_ (by omega)).trans ((n6.at_ (by omega)).trans ((n5.at_ (by omega)).trans ((n4.at_ (by omega)).trans ((n3.at_ (by omega)).trans n2.rd))))
  have rg : rd h7 h2.size = (geoN n).v := (n7.at_ (by omega)).trans ((n6.at_ (by omega)).trans ((n5.at_ (by omega)).trans ((n4.at_ (by omega)).trans n3.rd)))
  have rx : rd h7 h3.size = ints R := (n7.at_ (by omega)).trans ((n6.at_ (by omega)).trans ((n5.at_ (by omega)).trans n4.rd))
  unfold bmap_Add.k1
  refine ⟨t, rdc rt rfl, guard_spec (x.no F7) fun ob tb mb h15 f15 b1 b2 b3 gd => ⟨_, _, _, rfl, New.intro fun h16 n16 => ?_⟩⟩
  have z15' := f15.size
  have z16 := n16.size
  obtain ⟨gl1', gl2', gl3'⟩ := gd.lt
  refine Put.intro n16.own (by rw [n16.rd]; decide) fun h17 d17 => ?_
  have z17 := d17.size
  have q17 : ∀ b, b < h15.size → rd h17 b = rd h15 b := fun b hb => (d17.at_ (by omega) (by omega)).trans (n16.at_ hb)
  have q7 : ∀ b, b < h7.size → rd h15 b = rd h7 b := fun b hb => f15.rd hb fun y => y
  refine ⟨t, rdc ((q17 _ (by omega)).trans ((q7 _ (by omega)).trans rt)) rfl, (geoN n).v, rfl, cellsAll ((q17 _ (by omega)).trans ((q7 _ (by omega)).trans rg)), ints R, by rw [ints_length, hR], cellsAll ((q17 _ (by omega)).trans ((q7 _ (by omega)).trans rx)), rfl, by rw [ints_length, hR], New.intro fun h18 n18 => New.intro fun h19 n19 => ?_⟩
  have z18 := n18.size
  have z19 := n19.size
  refine Put.intro n19.own (by rw [n19.rd]; decide) fun h20 d20 => ?_
  have z20 := d20.size
  have q20 : ∀ b, b < h17.size → rd h20 b = rd h17 b := fun b hb => (d20.at_ (by omega) (by omega)).trans ((n19.at_ (by omega)).trans (n18.at_ hb))
  have o20 : ∀ {b}, Own h17 b → Own h20 b := fun w => d20.ow (n19.ow (n18.ow w))
  have o17 : ∀ {b}, Own h7 b → Own h17 b := fun w => d17.ow (n16.ow (f15.own w.lt (fun y => y) w))
  have F17 : Fr No h h17 := ((F7.no f15).new n16).did d17 fun hl => by omega
  have F20 : Fr No h h20 := ((F17.new n18).new n19).did d20 fun hl => by omega
  have s7 := F7.size
  have notF : ∀ b, h.size ≤ b → ¬ F b := fun b hb y => by have := Flt b y; omega
  have rf20 : rd h20 h17.size = fileV t (geoN n) R := (d20.at_ (by omega) (by omega)).trans ((n19.at_ (by omega)).trans n18.rd)
  have rp20 : rd h20 h18.size = [.pointer (some ⟨h17.size, 0, none⟩)] := by rw [d20.rd, n19.rd]; rfl
  have cap : Cap h20 h.size h2.size h18.size h17.size t (geoN n) := ⟨(q20 _ (by omega)).trans ((q17 _ (by omega)).trans ((q7 _ (by omega)).trans rt)), (q20 _ (by omega)).trans ((q17 _ (by omega)).trans ((q7 _ (by omega)).trans rg)), rp20⟩
  refine ⟨_, rdc rp20 rfl, walkA_spec (gl.no F20) dm (x.no F20) rf20 (d20.ow (n19.ow n18.own)) hR hk.1 hk.2 cap ⟨notF _ (by omega), notF _ (by omega), notF _ (by omega), notF _ (by omega)⟩ ⟨by omega, by omega, by omega⟩ (fun b hb => ⟨g0 b hb, by omega⟩) hu fun h21 F' f21 g21 x21 r21 o21 l21 u21 => ⟨_, _, rfl, ?_⟩⟩
  have ea : addM T (geoN n) R k = if (walkA (geoN n) (wayM k.toNat) T R 0).2.2 ≠ 0 then (((walkA (geoN n) (wayM k.toNat) T R 0).1.1.back T.undo.length).1, z15, 0, (walkA (geoN n) (wayM k.toNat) T R 0).2.2)
      else ((walkA (geoN n) (wayM k.toNat) T R 0).1.1, (walkA (geoN n) (wayM k.toNat) T R 0).1.2, (walkA (geoN n) (wayM k.toNat) T R 0).2.1, 0) := by unfold addM; rw [if_neg (by omega)]
  rw [ea] at hK
  generalize walkA (geoN n) (wayM k.toNat) T R 0 = W at hK x21 r21 l21 u21
  obtain ⟨⟨T', R'⟩, n1, e1⟩ := W
  simp only at hK x21 r21 l21 u21
  have z21 := f21.size
  have q21 : ∀ b, h.size ≤ b → b < h20.size → b ≠ h17.size → rd h21 b = rd h20 b := fun b h1 h2 h3 => f21.rd h2 (by rintro (y | y); exact notF b h1 y; exact h3 y)
  have w21 : ∀ {b}, h.size ≤ b → b ≠ h17.size → Own h20 b → Own h21 b := fun h1 h3 w => f21.own w.lt (by rintro (y | y); exact notF _ h1 y; exact h3 y) w
  have rn21 : rd h21 h5.size = [.int .i64 0] := (q21 _ (by omega) (by omega) (by omega)).trans ((q20 _ (by omega)).trans ((q17 _ (by omega)).trans ((q7 _ (by omega)).trans rn)))
  have re21 : rd h21 h6.size = [.int .i64 0] := (q21 _ (by omega) (by omega) (by omega)).trans ((q20 _ (by omega)).trans ((q17 _ (by omega)).trans ((q7 _ (by omega)).trans re)))
  have ry21 : rd h21 h4.size = ints z15 := (q21 _ (by omega) (by omega) (by omega)).trans ((q20 _ (by omega)).trans ((q17 _ (by omega)).trans ((q7 _ (by omega)).trans ry)))
  have on21 : Own h21 h5.size := w21 (by omega) (by omega) (o20 (o17 on))
  have oe21 : Own h21 h6.size := w21 (by omega) (by omega) (o20 (o17 oe'))
  have oy21 : Own h21 h4.size := w21 (by omega) (by omega) (o20 (o17 oy))
  have rp21 : rd h21 h18.size = [.pointer (some ⟨h17.size, 0, none⟩)] := (q21 _ (by omega) (by omega) (by omega)).trans rp20
  have rb21 : rd h21 h15.size = [gdV ob tb mb] := (q21 _ (by omega) (by omega) (by omega)).trans ((q20 _ (by omega)).trans (by rw [d17.rd, n16.rd]; rfl))
  have F21 : Fr F h h21 := (F20.mono fun _ _ y => y.elim).trans f21 fun b hb y => by
    rcases y with y | y
    · exact y
    · omega
  have G21 : Gw h F h21 F' := (Gw.refl F20.size Flt).trans g21 F20.size
  have old : ∀ b, b < h20.size → (F' b ↔ F b) := g21.old
  have notF' : ∀ b, h.size ≤ b → b < h20.size → ¬ F' b := fun b h1 h2 y => notF b h1 ((old b h2).mp y)
  have gd21 : Gd h21 ob tb mb t T.mark := by
    have g17 : Gd h17 ob tb mb t T.mark := ⟨(q17 _ gl1').trans gd.o, (q17 _ gl2').trans gd.t, (q17 _ gl3').trans gd.m⟩
    have g20 : Gd h20 ob tb mb t T.mark := ⟨(q20 _ (by omega)).trans g17.o, (q20 _ (by omega)).trans g17.t, (q20 _ (by omega)).trans g17.m⟩
    exact ⟨(q21 _ (by omega) (by omega) (by omega)).trans g20.o, (q21 _ (by omega) (by omega) (by omega)).trans g20.t, (q21 _ (by omega) (by omega) (by omega)).trans g20.m⟩
  have lr : R'.length = 15 := l21
  refine Put.intro on21 (by rw [rn21]; decide) fun h22 d22 => Put.intro (d22.ow oe21) (by rw [d22.at_ (by omega) (by omega), re21]; decide) fun h23 d23 => ?_
  have z22 := d22.size
  have z23 := d23.size
  have q23 : ∀ b, b < h21.size → b ≠ h5.size → b ≠ h6.size → rd h23 b = rd h21 b := fun b hb h1 h2 => (d23.at_ (by omega) h2).trans (d22.at_ hb h1)
  have rn23 : rd h23 h5.size = [.int .i64 n1] := (d23.at_ (by omega) (by omega)).trans (by rw [d22.rd, rn21]; rfl)
  have re23 : rd h23 h6.size = [.int .i64 e1] := by rw [d23.rd, d22.at_ (by omega) (by omega), re21]; rfl
  have rf23 : rd h23 h17.size = fileV t (geoN n) R' := (q23 _ (by omega) (by omega) (by omega)).trans r21
  refine ⟨_, rdc ((q23 _ (by omega) (by omega) (by omega)).trans rp21) rfl, os ⟨ints R', by rw [ints_length, lr], cellsa rf23 ?_, n1, rdc rn23 rfl, e1, rdc re23 rfl, ?_⟩⟩
  · show (ints R').take _ = _
    exact List.take_of_length_le (Nat.le_refl _)
  refine PutRow.intro (d23.ow (d22.ow oy21)) (by rw [ints_length, lr]) (ints_one _) (by rw [q23 _ (by omega) (by omega) (by omega), ry21]; exact Nat.le_refl _) fun h24 d24 => ?_
  have z24 := d24.size
  have ry24 : rd h24 h4.size = ints R' := by rw [d24.rd, q23 _ (by omega) (by omega) (by omega), ry21]; exact put_all _ _ (by rw [ints_length, lr]; rfl)
  have rn24 : rd h24 h5.size = [.int .i64 n1] := (d24.at_ (by omega) (by omega)).trans rn23
  have re24 : rd h24 h6.size = [.int .i64 e1] := (d24.at_ (by omega) (by omega)).trans re23
  refine ⟨rdc rn24 rfl, rdc re24 rfl, Put.intro (d24.ow (d23.ow (d22.ow on21))) (by rw [rn24]; exact Nat.zero_lt_one) fun h25 d25 => ?_⟩
  have z25 := d25.size
  have re25 : rd h25 h6.size = [.int .i64 e1] := (d25.at_ (by omega) (by omega)).trans re24
  have oe25 : Own h25 h6.size := d25.ow (d24.ow (d23.ow (d22.ow oe21)))
  refine ⟨rdc re25 rfl, Put.intro oe25 (by rw [re25]; exact Nat.zero_lt_one) fun h26 d26 => ?_⟩
  have z26 := d26.size
  have q26 : ∀ b, b < h21.size → b ≠ h4.size → b ≠ h5.size → b ≠ h6.size → rd h26 b = rd h21 b := fun b hb h1 h2 h3 => (d26.at_ (by omega) h3).trans ((d25.at_ (by omega) h2).trans ((d24.at_ (by omega) h1).trans (q23 b hb h2 h3)))
  have re26 : rd h26 h6.size = [.int .i64 e1] := by rw [d26.rd, re25]; rfl
  have rn26 : rd h26 h5.size = [.int .i64 n1] := (d26.at_ (by omega) (by omega)).trans (by rw [d25.rd, rn24]; rfl)
  have ry26 : rd h26 h4.size = ints R' := (d26.at_ (by omega) (by omega)).trans ((d25.at_ (by omega) (by omega)).trans ry24)
  have oy26 : Own h26 h4.size := d26.ow (d25.ow d24.own)
  have on26 : Own h26 h5.size := d26.ow d25.own
  have f2126 : Fr (fun b => b = h4.size ∨ b = h5.size ∨ b = h6.size) h21 h26 := ((((Fr.refl _ _).did d22 fun _ => .inr (.inl rfl)).did d23 fun _ => .inr (.inr rfl)).did d24 fun _ => .inl rfl).did d25 (fun _ => .inr (.inl rfl)) |>.did d26 fun _ => .inr (.inr rfl)
  have x26 : Tx h26 F' t d T' := x21.fr f2126 fun b hb y => by
    rcases y with rfl | rfl | rfl
    · exact notF' _ (by omega) (by omega) hb
    · exact notF' _ (by omega) (by omega) hb
    · exact notF' _ (by omega) (by omega) hb
  have gd26 : Gd h26 ob tb mb t T.mark := gd21.fr f2126 (by rintro (y | y | y) <;> omega) (by rintro (y | y | y) <;> omega) (by rintro (y | y | y) <;> omega)
  have F26 : Fr F h h26 := F21.trans f2126 fun b hb y => by rcases y with y | y | y <;> omega
  have G26 : Gw h F h26 F' := ⟨G21.old, fun b hb => Nat.lt_of_lt_of_le (G21.lt b hb) f2126.size⟩
  have em : T.mark = ((T.undo.length : Int), 0) := by unfold TM.mark; rw [live, if_neg (by simp)]
  refine bmap_Add_c1.okD (os ⟨_, rdc ((q26 _ (by omega) (by omega) (by omega) (by omega)).trans rb21) rfl, os ⟨_, rdc re26 rfl, guard_c1_spec x26 gd26 (by omega) fun h27 f27 x27 => ⟨rfl, ?_⟩⟩⟩)
  have z27 := f27.size
  have q27 : ∀ b, h.size ≤ b → b < h20.size → rd h27 b = rd h26 b := fun b h1 h2 => f27.rd (by omega) (notF' b h1 h2)
  have F27 : Fr F h h27 := F26.trans f27 fun b hb y => (old b (by omega)).mp y
  have G27 : Gw h F h27 F' := ⟨G26.old, fun b hb => Nat.lt_of_lt_of_le (G26.lt b hb) f27.size⟩
  rw [em] at x27
  refine os ⟨_, rdc ((q27 _ (by omega) (by omega)).trans re26) rfl, cn (fun he => ?_) fun he => ?_⟩
  · rw [if_pos ⟨he, rfl⟩] at x27
    rw [if_pos he] at hK
    refine os (PutRow.intro (f27.own (by omega) (notF' _ (by omega) (by omega)) oy26) rfl z15_one (by rw [q27 _ (by omega) (by omega), ry26, ints_length, lr]; exact Nat.le_refl _) fun h28 d28 => os (Put.intro (d28.ow (f27.own (by omega) (notF' _ (by omega) (by omega)) on26)) (by rw [d28.at_ (by omega) (by omega), q27 _ (by omega) (by omega), rn26]; exact Nat.zero_lt_one) fun h29 d29 => ?_))
    have z28 := d28.size
    have z29 := d29.size
    have f2729 : Fr (fun b => b = h4.size ∨ b = h5.size) h27 h29 := ((Fr.refl _ _).did d28 fun _ => .inl rfl).did d29 fun _ => .inr rfl
    refine ⟨ints z15, rfl, cellsAll ?_, 0, rdc (xs := [.int .i64 0]) ?_ rfl, e1, rdc (xs := [.int .i64 e1]) ?_ rfl, hK h29 F' (F27.trans f2729 fun b hb y => by rcases y with y | y <;> omega) ⟨G27.old, fun b hb => Nat.lt_of_lt_of_le (G27.lt b hb) f2729.size⟩ (x27.fr f2729 fun b hb y => ?_)⟩
    · rw [d29.at_ (by omega) (by omega), d28.rd, q27 _ (by omega) (by omega), ry26]; exact put_all _ _ (by rw [ints_length, lr]; rfl)
    · rw [d29.rd, d28.at_ (by omega) (by omega), q27 _ (by omega) (by omega), rn26]; rfl
    · rw [d29.at_ (by omega) (by omega), d28.at_ (by omega) (by omega), q27 _ (by omega) (by omega), re26]
    · rcases y with rfl | rfl
      · exact notF' _ (by omega) (by omega) hb
      · exact notF' _ (by omega) (by omega) hb
  · rw [if_neg (fun y => y.1 he)] at x27
    rw [if_neg (fun y => y he)] at hK
    have he : e1 = 0 := he
    subst he
    exact ⟨ints R', by rw [ints_length, lr], cellsAll ((q27 _ (by omega) (by omega)).trans ry26), n1, rdc ((q27 _ (by omega) (by omega)).trans rn26) rfl, 0, rdc ((q27 _ (by omega) (by omega)).trans re26) rfl, hK h27 F' F27 G27 x27⟩
end Go.Proofs.YtcdpakjhjmchhaaGreatDoor.Bm
