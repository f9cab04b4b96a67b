/-
  PATHS, PLAINLY: pieces, and the walk that hands them over.
-/
import Derived.Test.YtgpkcakanieodaaPaA
import Derived.Test.YtgpkcakanieodaaRgA
namespace Go.Proofs.Ytgpkcakanieodaa.Pa
open Go Go.Proofs Go.Proofs.Ytgpkcakanieodaa.Wx Go.Proofs.Ytgpkcakanieodaa.Hp Go.Proofs.Ytgpkcakanieodaa.W Go.Proofs.Ytgpkcakanieodaa.Sk Go.Proofs.Ytgpkcakanieodaa.Ch Go.Proofs.Ytgpkcakanieodaa.Rg

def piecesGo : Txt → Txt → List Txt
  | [], cur => if cur = [] then [] else [cur]
  | b :: r, cur => if b = 47 then (if cur = [] then [] else [cur]) ++ piecesGo r [] else piecesGo r (cur ++ [b])
/-- the longest rows of bytes that are no slashes -/
def pieces (s : Txt) : List Txt := piecesGo s []
theorem piecesGo_word (r : Txt) : ∀ (w cur : Txt), (∀ b ∈ w, b ≠ 47) → piecesGo (w ++ r) cur = piecesGo r (cur ++ w)
  | [], cur, _ => by rw [List.append_nil]; rfl
  | b :: w, cur, h => by
    show (if b = 47 then _ else piecesGo (w ++ r) (cur ++ [b])) = _
    rw [if_neg (h b (by simp)), piecesGo_word r w _ fun x hx => h x (by simp [hx]), List.append_assoc]; rfl
theorem pieces_slash (r : Txt) : pieces (47 :: r) = pieces r := rfl
theorem pieces_word {w r : Txt} (hw : w ≠ []) (h : ∀ b ∈ w, b ≠ 47) (hr : r = [] ∨ ∃ r', r = 47 :: r') : pieces (w ++ r) = w :: pieces r := by
  rw [pieces, piecesGo_word r w [] h, List.nil_append]
  rcases hr with rfl | ⟨r', rfl⟩
  · show (if w = [] then [] else [w]) = _
    rw [if_neg hw]; rfl
  · show (if (47 : UInt8) = 47 then (if w = [] then [] else [w]) ++ piecesGo r' [] else _) = _
    rw [if_pos rfl, if_neg hw]; rfl
theorem extract_mk (s : Txt) (i j : Nat) : ByteArray.extract (mkStr s) i j = mkStr ((s.drop i).take (j - i)) := by
  apply ByteArray.ext
  rw [ByteArray.data_extract]
  apply Array.ext'
  simp [mkStr, List.extract]
theorem size_mk (s : Txt) : (mkStr s).size = s.length := rfl
theorem hv_yield {P : Program} {l : Nat} {args : List Value} {h : Heap} {k : Value → Heap → Prop} (y : YCalls P l args h k) : HCallsV P (.func (.yield l) #[] #[]) args h k := y
theorem iter_spec {l cb : Nat} {s : Txt} {h : Heap} {K : Value → Heap → Prop} (hl : s.length ≤ 9223372036854775806) (J : List Txt → Heap → Prop) (hc : ∀ pre hh, J pre hh → rd hh cb = [.string (mkStr s)])
    (hY : ∀ pre x rest hh, J pre hh → pieces s = pre ++ x :: rest → YCalls Try.prog l [.string (mkStr x)] hh fun v h' => (v = .bool true ∧ J (pre ++ [x]) h') ∨ (v = .bool false ∧ K (.tuple #[]) h'))
    (h0 : J [] h) (hK : ∀ hh, J (pieces s) hh → K (.tuple #[]) hh) : C.path_pieces_c1 (.func (.yield l) #[] #[]) (some ⟨cb, 0, none⟩) h K := by
  refine path_pieces_c1.ok ⟨fun i hh => 0 ≤ i ∧ i ≤ s.length ∧ ∃ pre, J pre hh ∧ pieces s = pre ++ pieces (s.drop i.toNat), fun i _ => (s.length - i).toNat, ⟨by omega, by omega, [], h0, rfl⟩, ?_⟩
  rintro i h2 ⟨i0, i1, pre, hJ, hp⟩
  have C2 : cellOf h2 ⟨cb, 0, none⟩ = some (.string (mkStr s)) := rdc (hc pre h2 hJ) rfl
  refine os ⟨_, C2, ?_⟩
  rw [size_mk]
  refine cd (fun hi => ?_) fun hi => ?_
  · have hi' : i.toNat < s.length := by omega
    have ed : s.drop i.toNat = s[i.toNat] :: s.drop (i.toNat + 1) := List.drop_eq_getElem_cons hi'
    refine os ⟨_, C2, ⟨i0, by rw [size_mk]; exact hi⟩, s[i.toNat], by rw [toList_mkStr, List.getElem?_eq_getElem hi'], ce (fun hb => ?_) fun hb => ?_⟩
    · have hb : s[i.toNat] = 47 := UInt8.toNat_inj.mp (show (s[i.toNat]).toNat = 47 by omega)
      rw [wrap_i64 (by omega) (by omega)]
      refine ⟨⟨by omega, by omega, pre, hJ, ?_⟩, by show ((s.length : Int) - (i + 1)).toNat < ((s.length : Int) - i).toNat; omega⟩
      rw [hp, ed, hb, pieces_slash, show (i + 1).toNat = i.toNat + 1 by omega]
    · have hb : s[i.toNat] ≠ 47 := fun e => by rw [e] at hb; exact hb rfl
      refine ⟨fun e hh => h2 = hh ∧ i ≤ e ∧ e ≤ s.length ∧ ∀ b ∈ (s.drop i.toNat).take (e.toNat - i.toNat), b ≠ 47, fun e _ => (s.length - e).toNat, ⟨rfl, by omega, by omega, fun b hb => by rw [Nat.sub_self, List.take_zero] at hb; cases hb⟩, ?_⟩
      rintro e _ ⟨rfl, e0, e1, hw⟩
      -- the piece is handed over
      have fin : i < e → (s.drop e.toNat = [] ∨ ∃ r', s.drop e.toNat = 47 :: r') → path_pieces_c1.k1 (.func (.yield l) #[] #[]) (some ⟨cb, 0, none⟩) i h2 (fun i hh => 0 ≤ i ∧ i ≤ s.length ∧ ∃ pre, J pre hh ∧ pieces s = pre ++ pieces (s.drop i.toNat)) (fun i _ => (s.length - i).toNat) e h2 K := by
        intro hlt hr
        refine os ⟨_, C2, ⟨i0, e0, by rw [size_mk]; exact e1⟩, ?_⟩
        rw [extract_mk]
        have hsp : s.drop i.toNat = (s.drop i.toNat).take (e.toNat - i.toNat) ++ s.drop e.toNat := by
          conv => lhs; rw [← List.take_append_drop (e.toNat - i.toNat) (s.drop i.toNat)]
          rw [List.drop_drop, show i.toNat + (e.toNat - i.toNat) = e.toNat by omega]
        have hne : (s.drop i.toNat).take (e.toNat - i.toNat) ≠ [] := fun x => by
          have := congrArg List.length x
          rw [List.length_take, List.length_drop, List.length_nil] at this; omega
        have hp2 : pieces s = pre ++ (s.drop i.toNat).take (e.toNat - i.toNat) :: pieces (s.drop e.toNat) := by
          rw [hp]; conv => lhs; rw [hsp]
          rw [pieces_word hne hw hr]
        refine hv_yield (ycalls_mono (hY pre _ _ h2 hJ hp2) fun v h5 hv => ?_)
        rcases hv with ⟨rfl, hJ5⟩ | ⟨rfl, hk⟩
        · exact ⟨true, rfl, cnot (ct rfl ⟨⟨by omega, e1, _, hJ5, by rw [hp2, List.append_assoc]; rfl⟩, by show ((s.length : Int) - e).toNat < ((s.length : Int) - i).toNat; omega⟩)⟩
        · exact ⟨false, rfl, cnot (cf rfl hk)⟩
      refine os ⟨_, C2, ?_⟩
      rw [size_mk]
      refine cd (fun he => ?_) fun he => ?_
      · have he' : e.toNat < s.length := by omega
        refine os ⟨_, C2, ⟨by omega, by rw [size_mk]; exact he⟩, s[e.toNat], by rw [toList_mkStr, List.getElem?_eq_getElem he'], cn (fun hc => ?_) fun hc => ?_⟩
        · have hc : s[e.toNat] ≠ 47 := fun x => by rw [x] at hc; exact hc rfl
          rw [wrap_i64 (by omega) (by omega)]
          refine ⟨⟨rfl, by omega, by omega, fun b hb => ?_⟩, by show ((s.length : Int) - (e + 1)).toNat < ((s.length : Int) - e).toNat; omega⟩
          rw [show (e + 1).toNat - i.toNat = (e.toNat - i.toNat) + 1 by omega, List.take_succ_eq_append_getElem (by rw [List.length_drop]; omega)] at hb
          rcases List.mem_append.mp hb with hb | hb
          · exact hw b hb
          · rw [List.mem_singleton.mp hb, List.getElem_drop]
            have : i.toNat + (e.toNat - i.toNat) = e.toNat := by omega
            simp only [this]; exact hc
        · have hc : s[e.toNat] = 47 := UInt8.toNat_inj.mp (show (s[e.toNat]).toNat = 47 by omega)
          have hlt : i < e := by
            rcases Int.lt_or_le i e with h | h
            · exact h
            · have : e.toNat = i.toNat := by omega
              simp only [this] at hc
              exact absurd hc hb
          exact fin hlt (.inr ⟨s.drop (e.toNat + 1), by rw [List.drop_eq_getElem_cons he', hc]⟩)
      · exact fin (by omega) (.inl (List.drop_of_length_le (by omega)))
  · rw [List.drop_of_length_le (by omega)] at hp
    rw [show pieces [] = [] from rfl, List.append_nil] at hp
    rw [← hp] at hJ
    exact hK h2 hJ
end Go.Proofs.Ytgpkcakanieodaa.Pa
