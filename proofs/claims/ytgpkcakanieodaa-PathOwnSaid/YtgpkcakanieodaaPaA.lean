/-
  TEXTS: has a text a slash or a zero byte (package strings), and is it a name (package path).
-/
import Derived.Test.YtgpkcakanieodaaJnA
namespace Go.Proofs.Ytgpkcakanieodaa.Sk
abbrev Txt := List UInt8
def nameOk (s : Txt) : Bool := decide (1 ≤ s.length) && decide (s.length ≤ 27) && (s != [46]) && (s != [46, 46]) && s.all (fun b => b != 47 && b != 0)
structure NameOk (s : Txt) : Prop where
  pos : 1 ≤ s.length
  le : s.length ≤ 27
  dot : s ≠ [46]
  dots : s ≠ [46, 46]
  all : ∀ b ∈ s, b ≠ 47 ∧ b ≠ 0
theorem nameOk_iff {s : Txt} : nameOk s = true ↔ NameOk s := by
  constructor
  · intro h
    simp only [nameOk, Bool.and_eq_true, decide_eq_true_eq, bne_iff_ne, ne_eq, List.all_eq_true] at h
    obtain ⟨⟨⟨⟨h1, h2⟩, h3⟩, h4⟩, h5⟩ := h
    exact ⟨h1, h2, h3, h4, h5⟩
  · rintro ⟨h1, h2, h3, h4, h5⟩
    simp only [nameOk, Bool.and_eq_true, decide_eq_true_eq, bne_iff_ne, ne_eq, List.all_eq_true]
    exact ⟨⟨⟨⟨h1, h2⟩, h3⟩, h4⟩, h5⟩
end Go.Proofs.Ytgpkcakanieodaa.Sk
namespace Go.Proofs.Ytgpkcakanieodaa.Ch
open Go Go.Proofs Go.Proofs.Ytgpkcakanieodaa.Wx Go.Proofs.Ytgpkcakanieodaa.Hp Go.Proofs.Ytgpkcakanieodaa.W

theorem get_mk {ss : List UInt8} {j : Nat} (hj : j < ss.length) : (mkStr ss).get! j = ss[j] := by
  simp [mkStr, ByteArray.get!, hj]
theorem decode_low {ss : List UInt8} {i : Nat} (hi : i < ss.length) (h : ss[i].toNat < 128) : Utf8.decode (mkStr ss) i = (ss[i].toNat, 1) := by
  have g := get_mk hi
  simp only [Utf8.decode, Nat.add_zero, g, if_pos (show ss[i].toNat < 0x80 from h)]
theorem decode_high {ss : List UInt8} {i : Nat} (hi : i < ss.length) (h : 128 ≤ ss[i].toNat) :
    128 ≤ (Utf8.decode (mkStr ss) i).1 ∧ 1 ≤ (Utf8.decode (mkStr ss) i).2 ∧ ∀ k, k < (Utf8.decode (mkStr ss) i).2 → ∃ h : i + k < ss.length, 128 ≤ ss[i + k].toNat := by
  have g := get_mk hi
  have c : ∀ k, (decide (i + k < (mkStr ss).size) && ((mkStr ss).get! (i + k)).toNat / 64 == 2) = true → ∃ h : i + k < ss.length, 128 ≤ ss[i + k].toNat := by
    intro k hk
    rw [Bool.and_eq_true, decide_eq_true_eq, beq_iff_eq] at hk
    have h1 : i + k < ss.length := hk.1
    refine ⟨h1, ?_⟩
    have := hk.2
    rw [get_mk h1] at this
    omega
  have z : ∀ k, k < 1 → ∃ h : i + k < ss.length, 128 ≤ ss[i + k].toNat := by
    intro k hk
    obtain rfl : k = 0 := by omega
    exact ⟨hi, h⟩
  have e : 128 ≤ Utf8.runeError := by decide
  simp only [Utf8.decode, Nat.add_zero, g, if_neg (show ¬ ss[i].toNat < 0x80 by omega)]
  split
  · rename_i h1
    rw [Bool.and_eq_true] at h1
    have c1 := c 1 h1.2
    split
    · rename_i h2
      refine ⟨h2, by show 1 ≤ 2; omega, fun k hk => ?_⟩
      have hk : k < 2 := hk
      obtain rfl | rfl : k = 0 ∨ k = 1 := by omega
      · exact ⟨hi, h⟩
      · exact c1
    · exact ⟨e, Nat.le_refl _, z⟩
  · split
    · rename_i _ h1
      rw [Bool.and_eq_true, Bool.and_eq_true] at h1
      have c1 := c 1 h1.1.2
      have c2 := c 2 h1.2
      split
      · rename_i h2
        rw [Bool.and_eq_true, decide_eq_true_eq] at h2
        refine ⟨Nat.le_trans (by omega) h2.1, by show 1 ≤ 3; omega, fun k hk => ?_⟩
        have hk : k < 3 := hk
        obtain rfl | rfl | rfl : k = 0 ∨ k = 1 ∨ k = 2 := by omega
        · exact ⟨hi, h⟩
        · exact c1
        · exact c2
      · exact ⟨e, Nat.le_refl _, z⟩
    · split
      · rename_i _ _ h1
        rw [Bool.and_eq_true, Bool.and_eq_true, Bool.and_eq_true] at h1
        have c1 := c 1 h1.1.1.2
        have c2 := c 2 h1.1.2
        have c3 := c 3 h1.2
        split
        · rename_i h2
          rw [Bool.and_eq_true, decide_eq_true_eq] at h2
          refine ⟨Nat.le_trans (by omega) h2.1, by show 1 ≤ 4; omega, fun k hk => ?_⟩
          have hk : k < 4 := hk
          obtain rfl | rfl | rfl | rfl : k = 0 ∨ k = 1 ∨ k = 2 ∨ k = 3 := by omega
          · exact ⟨hi, h⟩
          · exact c1
          · exact c2
          · exact c3
        · exact ⟨e, Nat.le_refl _, z⟩
      · exact ⟨e, Nat.le_refl _, z⟩
/-- a rune that is no single byte: two bytes at least, the last one high -/
theorem encode_high {r : Int} (h : 128 ≤ r) : ∃ l b, Utf8.encode r = mkStr (l ++ [b]) ∧ 1 ≤ l.length ∧ l.length ≤ 3 ∧ 128 ≤ b.toNat := by
  have hc : 128 ≤ (if Utf8.valid r then r.toNat else Utf8.runeError) := by
    split
    · omega
    · show 128 ≤ 65533; omega
  have hb : ∀ c : Nat, 128 ≤ (UInt8.ofNat (0x80 + c % 64)).toNat := fun c => by rw [UInt8.toNat_ofNat']; omega
  unfold Utf8.encode
  dsimp only
  generalize (if Utf8.valid r = true then r.toNat else Utf8.runeError) = c at hc ⊢
  rw [if_neg (by omega)]
  split
  · exact ⟨[_], _, rfl, by simp, by simp, hb _⟩
  · split
    · exact ⟨[_, _], _, rfl, by simp, by simp, hb _⟩
    · exact ⟨[_, _, _], _, rfl, by simp, by simp, hb _⟩
def slz : List UInt8 := [47, 0]
def isBad (b : UInt8) : Bool := b == 47 || b == 0
theorem fr_push {h : Heap} (o : Obj) : Fr No h (h.push o) := ⟨by rw [Array.size_push]; omega, fun b hb _ => by rw [Array.getElem?_push, if_neg (by omega)]⟩
theorem get_push {h : Heap} (o : Obj) : (h.push o)[h.size]? = some o := by rw [Array.getElem?_push, if_pos rfl]
theorem NewI.intro {s : ByteArray} {h : Heap} {k : Heap → Prop} (H : ∀ h', Fr No h h' → h'.size = h.size + 1 → h'[h.size]? = some (.stringIter s 0) → k h') : NewI s h k := H _ (fr_push _) (Array.size_push _) (get_push _)
/-- slz has no rune of the high ones -/
theorem slz_next {pos : Nat} (h : pos < 2) : Utf8.decode (mkStr slz) pos = ((slz[pos]'h).toNat, 1) ∧ (slz[pos]'h).toNat < 128 := by
  obtain rfl | rfl : pos = 0 ∨ pos = 1 := by omega
  · exact ⟨decode_low (ss := slz) (i := 0) (by decide) (by show (47 : UInt8).toNat < 128; decide), by show (47 : UInt8).toNat < 128; decide⟩
  · exact ⟨decode_low (ss := slz) (i := 1) (by decide) (by show (0 : UInt8).toNat < 128; decide), by show (0 : UInt8).toNat < 128; decide⟩
theorem IndexByte_spec {ss : List UInt8} {c : UInt8} {h : Heap} {K : Value → Heap → Prop} (hK : K (.int .i64 (byteIn ss c)) h) : C.strings_IndexByte (mkStr ss) (c.toNat : Int) h K := by
  refine strings_IndexByte.ok (internal_stringslite_IndexByte.ok ⟨rfl, _, rfl, ?_⟩)
  have e : UInt8.ofNat ((c.toNat : Int)).toNat = c := by
    rw [Int.toNat_natCast]
    apply UInt8.toNat_inj.mp
    have := c.toNat_lt
    rw [UInt8.toNat_ofNat']
    omega
  rw [toList_mkStr, e]; exact hK
theorem IndexRune_spec {r : Nat} {h : Heap} {K : Value → Heap → Prop} (hr : r ≤ 1114111) (hK : ∀ h' n, Fr No h h' → decide (n ≥ 0) = (decide (r = 47) || decide (r = 0)) → K (.int .i64 n) h') : C.strings_IndexRune (mkStr slz) (r : Int) h K := by
  generalize hri : ((r : Nat) : Int) = ri
  refine strings_IndexRune.ok (ct (decide_eq_true (by omega)) (cd (fun hlt => ?_) fun hge => ?_))
  · have e : IntKind.wrap .u8 ri = ((UInt8.ofNat r).toNat : Int) := by
      rw [wrap_u8 (by omega) (by omega), UInt8.toNat_ofNat']; omega
    rw [e]
    refine IndexByte_spec ⟨_, rfl, hK h _ (Fr.refl _ _) ?_⟩
    have : ∀ k : Fin 128, decide (byteIn slz (UInt8.ofNat k.val) ≥ 0) = (decide (k.val = 47) || decide (k.val = 0)) := by decide +kernel
    exact this ⟨r, by omega⟩
  · have no : (decide (r = 47) || decide (r = 0)) = false := by
      rw [decide_eq_false (by omega), decide_eq_false (by omega)]; rfl
    rw [no] at hK
    have fin : ∀ h', Fr No h h' → K (.int .i64 (-1)) h' := fun h' f => hK h' (-1) f (by decide)
    refine ce (fun _ => ?_) fun hne => ?_
    · refine NewI.intro fun h3 f3 _ g3 => ?_
      refine ⟨fun hh => ∃ pos, Fr No h hh ∧ hh[h.size]? = some (.stringIter (mkStr slz) pos), fun hh => match hh[h.size]? with | some (.stringIter _ pos) => 2 - pos | _ => 0, ⟨0, f3, g3⟩, ?_⟩
      rintro h4 ⟨pos, f4, g4⟩
      refine ⟨rfl, _, _, g4, fun hp h5 it => ?_, fun _ => fin h4 f4⟩
      have hp : pos < 2 := hp
      obtain ⟨e1, e2⟩ := slz_next hp
      have f5 : Fr No h h5 := f4.trans (G := fun x => x = h.size) ⟨by rw [it.size]; exact Nat.le_refl _, fun b _ hb => it.same b hb⟩ (fun b hb e => by omega)
      refine ce (fun x => ?_) fun _ => ⟨⟨_, f5, it.at_⟩, ?_⟩
      · exfalso; rw [e1] at x; have x : (((slz[pos]'hp).toNat : Nat) : Int) = 65533 := x; omega
      · have i1 : h5[h.size]? = some (.stringIter (mkStr slz) (pos + (Utf8.decode (mkStr slz) pos).2)) := it.at_
        rw [e1] at i1
        simp only [i1, g4]
        omega
    · have vr : ∀ (K' : Value → Heap → Prop), (∀ b, K' (.bool b) h) → C.unicode_utf8_ValidRune ri h K' := fun K' hk => by
        refine unicode_utf8_ValidRune.ok (ct (decide_eq_true (by omega)) (cd (fun _ => hk _) fun _ => cd (fun _ => cd (fun _ => hk _) fun _ => hk _) fun _ => hk _))
      refine vr _ fun b => ⟨b, rfl, ?_⟩
      cases b with
      | false => exact fin h (Fr.refl _ _)
      | true =>
        show ∃ _, _
        obtain ⟨l, b, ee, l1, l3, hb⟩ := encode_high (r := ri) (by omega)
        have es : (Utf8.encode ri).size = l.length + 1 := by rw [ee]; show (l ++ [b]).length = _; rw [List.length_append]; rfl
        rw [es, wrap_i64 (n := ((l.length + 1 : Nat) : Int) - 1) (by omega) (by omega)]
        refine ⟨fun i hh => h = hh ∧ i = l.length, fun _ _ => 0, ⟨rfl, by omega⟩, ?_⟩
        rintro i _ ⟨rfl, rfl⟩
        refine cd (fun hi => ?_) fun hi => fin h (Fr.refl _ _)
        have hi : ((l.length : Nat) : Int) < 2 := hi
        have e1 : l.length = 1 := by omega
        have gl : (Utf8.encode ri).toList[(((l.length + 1 : Nat) : Int) - 1).toNat]? = some b := by
          rw [ee, toList_mkStr, show (((l.length + 1 : Nat) : Int) - 1).toNat = l.length by omega, List.getElem?_append_right (Nat.le_refl _), Nat.sub_self]; rfl
        refine ⟨⟨by omega, by show ((l.length : Nat) : Int) < 2; omega⟩, 0, ?_, ⟨by omega, by omega⟩, b, gl, ?_⟩
        · rw [toList_mkStr, Int.toNat_natCast, e1]; rfl
        · refine cn (fun _ => ?_) fun x => ?_
          · rw [wrap_i64 (n := ((l.length : Nat) : Int) + 1) (by omega) (by omega)]
            refine ⟨⟨by omega, by show ((l.length : Nat) : Int) + 1 ≤ 2; omega⟩, ⟨by omega, by omega⟩, b, gl, ?_⟩
            have ex : ByteArray.extract (mkStr slz) (((l.length : Nat) : Int) + 1).toNat (mkStr slz).size = mkStr [] := by
              rw [show (((l.length : Nat) : Int) + 1).toNat = 2 by omega]
              show (mkStr slz).extract 2 2 = _
              decide +kernel
            rw [ex]
            refine IndexByte_spec ⟨_, rfl, ct (decide_eq_true (by show (-1 : Int) < 0; decide)) (fin h (Fr.refl _ _))⟩
          · exfalso
            have x : (0 : Int) = (b.toNat : Int) := x
            omega
theorem decode_max (s : ByteArray) (pos : Nat) : (Utf8.decode s pos).1 ≤ 1114111 := by
  have v : ∀ c : Nat, (decide (c ≥ 2048) && Utf8.valid (c : Int)) = true → c ≤ 1114111 := by
    intro c h
    rw [Bool.and_eq_true] at h
    have := h.2
    simp only [Utf8.valid, Bool.or_eq_true, Bool.and_eq_true, decide_eq_true_eq] at this
    omega
  have v4 : ∀ c : Nat, (decide (c ≥ 65536) && Utf8.valid (c : Int)) = true → c ≤ 1114111 := by
    intro c h
    rw [Bool.and_eq_true] at h
    have := h.2
    simp only [Utf8.valid, Bool.or_eq_true, Bool.and_eq_true, decide_eq_true_eq] at this
    omega
  have e : Utf8.runeError ≤ 1114111 := by decide
  have b : ∀ k, (s.get! k).toNat < 256 := fun k => (s.get! k).toNat_lt
  simp only [Utf8.decode]
  split
  · have := b (pos + 0); show (s.get! (pos + 0)).toNat ≤ _; omega
  · split
    · split
      · show _ ≤ 1114111
        have := b (pos + 1)
        have := Nat.mod_lt (s.get! (pos + 0)).toNat (show 0 < 32 by omega)
        have := Nat.mod_lt (s.get! (pos + 1)).toNat (show 0 < 64 by omega)
        simp only [Nat.add_zero] at *
        omega
      · exact e
    · split
      · split
        · rename_i h; exact v _ h
        · exact e
      · split
        · split
          · rename_i h; exact v4 _ h
          · exact e
        · exact e
/-- the set of bytes of slz -/
def setL : List Bool := (List.range 256).map fun k => decide (k = 47) || decide (k = 0)
theorem makeASCIISet_spec {h : Heap} {K : Value → Heap → Prop} (hK : ∀ h', Fr No h h' → K (.tuple #[.agg ⟨setL.map .bool⟩, .bool true]) h') : C.strings_makeASCIISet (mkStr slz) h K := by
  refine strings_makeASCIISet.ok (New.intro fun h2 n2 => ?_)
  have hs2 := n2.size
  refine ⟨fun i hh => 0 ≤ i ∧ i ≤ 2 ∧ Fr No h hh ∧ Own hh h.size ∧ rd hh h.size = (((slz.take i.toNat).foldl (fun (l : List Bool) b => l.set b.toNat true) (List.replicate 256 false)).map .bool), fun i _ => (2 - i).toNat, ⟨by omega, by omega, n2.fr, n2.own, n2.rd.trans (by kernel_rfl)⟩, ?_⟩
  rintro i h3 ⟨i0, i2, f3, o3, r3⟩
  have hs3 := f3.size
  have lf : ∀ l : List UInt8, (l.foldl (fun (l : List Bool) b => l.set b.toNat true) (List.replicate 256 false)).length = 256 := by
    have : ∀ (l : List UInt8) (x : List Bool), (l.foldl (fun (l : List Bool) b => l.set b.toNat true) x).length = x.length := by
      intro l
      induction l with
      | nil => intro x; rfl
      | cons b r ih => intro x; rw [List.foldl_cons, ih, List.length_set]
    intro l; rw [this, List.length_replicate]
  refine cd (fun hi => ?_) fun hi => ?_
  · have hi : i < 2 := hi
    have hi' : i.toNat < slz.length := by show i.toNat < 2; omega
    refine ⟨⟨i0, hi⟩, slz[i.toNat], by rw [toList_mkStr, List.getElem?_eq_getElem hi'], ?_⟩
    have hb : (slz[i.toNat]).toNat < 128 := (slz_next (pos := i.toNat) hi').2
    generalize hbb : slz[i.toNat] = b at hb
    refine cf (decide_eq_false (by omega)) ⟨⟨by omega, by omega⟩, Put.add o3 (by rw [r3, List.length_map, lf]; omega) fun h5 d5 => ?_⟩
    rw [wrap_i64 (by omega) (by omega)]
    refine ⟨⟨by omega, by omega, f3.did d5 (fun x => by omega), d5.own, ?_⟩, by show (2 - (i + 1)).toNat < (2 - i).toNat; omega⟩
    rw [d5.rd, r3, show (i + 1).toNat = i.toNat + 1 by omega, List.take_succ_eq_append_getElem hi', List.foldl_append, hbb]
    show _ = (List.set (List.foldl (fun (l : List Bool) b => l.set b.toNat true) (List.replicate 256 false) (slz.take i.toNat)) b.toNat true).map Value.bool
    rw [List.map_set, Nat.zero_add, Int.toNat_natCast]
  · have hi : ¬ i < 2 := hi
    have e : slz.take i.toNat = slz := List.take_of_length_le (by show 2 ≤ i.toNat; omega)
    have es : slz.foldl (fun (l : List Bool) b => l.set b.toNat true) (List.replicate 256 false) = setL := by decide +kernel
    rw [e, es] at r3
    have ml : (setL.map Value.bool).length = 256 := by rw [List.length_map, setL, List.length_map, List.length_range]
    refine ⟨setL.map .bool, ml, cellsAll r3, PutRow.intro o3 ml (fun v hv => by obtain ⟨b, _, rfl⟩ := List.mem_map.mp hv; rfl) (by rw [r3, ml]; omega) fun h6 d6 => ⟨setL.map .bool, ml, cellsAll ?_, hK h6 (f3.did d6 fun x => by omega)⟩⟩
    rw [d6.rd, put_all _ _ (by rw [r3])]
theorem setL_get (b : UInt8) : (setL.map Value.bool)[b.toNat]? = some (.bool (isBad b)) := by
  have hb := b.toNat_lt
  rw [List.getElem?_map, setL, List.getElem?_map, List.getElem?_range hb]
  show some (Value.bool (decide (b.toNat = 47) || decide (b.toNat = 0))) = _
  congr 2
  unfold isBad
  congr 1
  · by_cases h : b = 47
    · subst h; decide
    · rw [beq_eq_false_iff_ne.mpr h]; exact decide_eq_false (fun e => h (UInt8.toNat_inj.mp e))
  · by_cases h : b = 0
    · subst h; decide
    · rw [beq_eq_false_iff_ne.mpr h]; exact decide_eq_false (fun e => h (UInt8.toNat_inj.mp e))
theorem bad_nat (b : UInt8) : (decide (b.toNat = 47) || decide (b.toNat = 0)) = isBad b := by
  have := setL_get b
  have hb := b.toNat_lt
  rw [List.getElem?_map, setL, List.getElem?_map, List.getElem?_range hb] at this
  have this := Option.some.inj this
  have this : Value.bool (decide (b.toNat = 47) || decide (b.toNat = 0)) = .bool (isBad b) := this
  exact Value.bool.inj this
/-- a walk by runes: no slash and no zero byte up to here -/
theorem IndexAny_slow {ss : List UInt8} {h h10 : Heap} {K : Value → Heap → Prop} (f10 : Fr No h h10) (hK : ∀ h' n, Fr No h h' → decide (n ≥ 0) = ss.any isBad → K (.int .i64 n) h') : strings_IndexAny.k1 (mkStr ss) (mkStr slz) h10 K := by
  have hs10 := f10.size
  refine NewI.intro fun h11 f11 s11 g11 => ?_
  refine ⟨fun hh => ∃ pos, Fr No h hh ∧ h10.size < hh.size ∧ hh[h10.size]? = some (.stringIter (mkStr ss) pos) ∧ (ss.take pos).any isBad = false, fun hh => match hh[h10.size]? with | some (.stringIter _ pos) => ss.length - pos | _ => 0, ⟨0, f10.no f11, by omega, g11, rfl⟩, ?_⟩
  rintro h12 ⟨pos, f12, s12, g12, nb⟩
  refine ⟨rfl, _, _, g12, fun hp h13 it => ?_, fun hp => ?_⟩
  · have hp : pos < ss.length := hp
    have f13 : Fr No h h13 := f12.trans (G := fun x => x = h10.size) ⟨by rw [it.size]; exact Nat.le_refl _, fun b _ hb => it.same b hb⟩ (fun b hb e => by omega)
    have g13 := it.at_
    have hsplit : ss.any isBad = (ss.drop pos).any isBad := by
      conv => lhs; rw [← List.take_append_drop pos ss, List.any_append, nb, Bool.false_or]
    refine IndexRune_spec (decode_max _ _) fun h14 n f14 hn => ⟨n, rfl, ?_⟩
    have s13 : h10.size < h13.size := by rw [it.size]; exact s12
    have g14 : h14[h10.size]? = some (.stringIter (mkStr ss) (pos + (Utf8.decode (mkStr ss) pos).2)) := (f14.same _ s13 fun x => x).trans g13
    have go : 1 ≤ (Utf8.decode (mkStr ss) pos).2 → (ss.take (pos + (Utf8.decode (mkStr ss) pos).2)).any isBad = false →
        (∃ p, Fr No h h14 ∧ h10.size < h14.size ∧ h14[h10.size]? = some (.stringIter (mkStr ss) p) ∧ (ss.take p).any isBad = false) ∧ (match h14[h10.size]? with | some (.stringIter _ pos) => ss.length - pos | _ => 0) < (match h12[h10.size]? with | some (.stringIter _ pos) => ss.length - pos | _ => 0) := by
      intro w1 w2
      refine ⟨⟨_, f13.no f14, by have := f14.size; omega, g14, w2⟩, ?_⟩
      simp only [g14, g12]
      exact Nat.sub_lt_sub_left hp (by omega)
    rcases Nat.lt_or_ge ss[pos].toNat 128 with hlow | hhigh
    · have e1 := decode_low hp hlow
      rw [e1] at hn go
      have hn : decide (n ≥ 0) = (decide (ss[pos].toNat = 47) || decide (ss[pos].toNat = 0)) := hn
      rw [bad_nat] at hn
      cases hb : isBad ss[pos] with
      | true =>
        rw [hb] at hn
        refine ct hn (hK h14 _ (f13.no f14) ?_)
        rw [hsplit, List.drop_eq_getElem_cons hp, List.any_cons, hb, decide_eq_true (by omega)]; rfl
      | false =>
        rw [hb] at hn
        refine cf hn (go (Nat.le_refl _) ?_)
        show (ss.take (pos + 1)).any isBad = false
        rw [List.take_succ_eq_append_getElem hp, List.any_append, nb, List.any_cons, hb]; rfl
    · obtain ⟨e1, e2, e3⟩ := decode_high hp hhigh
      have a1 : ¬ (Utf8.decode (mkStr ss) pos).1 = 47 := by omega
      have a2 : ¬ (Utf8.decode (mkStr ss) pos).1 = 0 := by omega
      rw [decide_eq_false a1, decide_eq_false a2] at hn
      refine cf hn (go e2 ?_)
      generalize (Utf8.decode (mkStr ss) pos).2 = w at e2 e3
      clear hn go g14 g13 it e1 e2
      induction w with
      | zero => exact nb
      | succ w ih =>
        obtain ⟨hl, hb⟩ := e3 w (by omega)
        rw [← Nat.add_assoc, List.take_succ_eq_append_getElem hl, List.any_append, ih fun k hk => e3 k (by omega), List.any_cons]
        have : isBad ss[pos + w] = false := by rw [← bad_nat, decide_eq_false (by omega), decide_eq_false (by omega)]; rfl
        rw [this]; rfl
  · have hp : ¬ pos < ss.length := hp
    refine hK h12 _ f12 ?_
    rw [List.take_of_length_le (by omega)] at nb
    rw [nb]; decide
theorem ContainsAny_spec {ss : List UInt8} {h : Heap} {K : Value → Heap → Prop} (hl : ss.length ≤ 140737488355328) (hK : ∀ h', Fr No h h' → K (.bool (ss.any isBad)) h') : C.strings_ContainsAny (mkStr ss) (mkStr slz) h K := by
  have fin : ∀ h' n, Fr No h h' → decide (n ≥ 0) = ss.any isBad → (fun v h' => ∃ n : Int, v = .int .i64 n ∧ K (.bool (decide (n ≥ 0))) h') (Value.int .i64 n) h' := fun h' n f e => ⟨n, rfl, by rw [e]; exact hK h' f⟩
  refine strings_ContainsAny.ok (strings_IndexAny.ok (cf (by rw [toList_mkStr, toList_mkStr]; rfl) (cf (by show ((2 : Int) == 1) = false; decide) ?_)))
  refine strings_shouldUseASCIISet.ok ⟨_, rfl, ?_⟩
  refine cs (fun hb => ?_) fun _ => IndexAny_slow (Fr.refl _ _) fin
  refine makeASCIISet_spec fun h5 f5 => ⟨_, _, rfl, ?_⟩
  have ml : (setL.map Value.bool).length = 256 := by rw [List.length_map, setL, List.length_map, List.length_range]
  refine NewRow.intro ml (fun v hv => by obtain ⟨b, _, rfl⟩ := List.mem_map.mp hv; rfl) (by kernel_rfl) fun h7 n7 => ct rfl ?_
  have f7 := f5.new n7
  have hsz : ((mkStr ss).size : Int) = ss.length := rfl
  rw [hsz]
  refine ⟨fun i hh => 0 ≤ i ∧ i ≤ ss.length ∧ h7 = hh ∧ ss.any isBad = (ss.drop i.toNat).any isBad, fun i _ => (ss.length - i).toNat, ⟨by omega, by omega, rfl, rfl⟩, ?_⟩
  rintro i _ ⟨i0, i1, rfl, e⟩
  refine cd (fun hi => ?_) fun hi => ?_
  · have hi' : i.toNat < ss.length := by omega
    refine ⟨⟨i0, hi⟩, ss[i.toNat], by rw [toList_mkStr, List.getElem?_eq_getElem hi'], strings_asciiSet_contains.ok (os ⟨⟨by omega, by have := (ss[i.toNat]).toNat_lt; omega⟩, isBad ss[i.toNat], ?_, _, rfl, ?_⟩)⟩
    · refine rda n7.rd ?_
      rw [Nat.zero_add, Int.toNat_natCast]; exact setL_get _
    · rw [List.drop_eq_getElem_cons hi', List.any_cons] at e
      cases hb : isBad ss[i.toNat] with
      | true =>
        rw [hb] at e
        exact ct rfl (fin h7 _ f7 (by rw [e, decide_eq_true (by omega)]; rfl))
      | false =>
        rw [hb, Bool.false_or] at e
        rw [wrap_i64 (by omega) (by omega)]
        refine cf rfl ⟨⟨by omega, by omega, rfl, by rw [e, show (i + 1).toNat = i.toNat + 1 by omega]⟩, by show ((ss.length : Int) - (i + 1)).toNat < ((ss.length : Int) - i).toNat; omega⟩
  · rw [List.drop_of_length_le (by omega)] at e
    exact fin h7 _ f7 (by rw [e]; decide)
theorem mapTo_fr {d : D} {h h' : Heap} {r : Nat} {m : MapC} (t : MapTo d h r m h') : Fr (fun x => x = r) h h' := ⟨by rw [t.size]; exact Nat.le_refl _, fun b _ hb => t.same b hb⟩
theorem NewM.intro {d : D} {h : Heap} {k : Heap → Prop} (H : ∀ h', Fr No h h' → h'.size = h.size + 1 → MapAt d h' h.size [] → k h') : NewM h k :=
  H _ (fr_push _) (Array.size_push _) ⟨#[], 0, get_push _, rfl, fun _ h => absurd h (by simp)⟩
theorem does_spec {ss : List UInt8} {h : Heap} {K : Value → Heap → Prop} (hK : ∀ h' v, Fr No h h' → K (.tuple #[v, .bool (ss == [46] || ss == [46, 46])]) h') : C.path_does (mkStr ss) h K := by
  refine path_does.ok ?_
  unfold path_does
  simp only [toList_mkStr]
  refine NewM.intro (d := .str) fun h2 f2 s2 m2 => ⟨[], m2, fun h3 m3 => ⟨_, m3.at_, fun h4 m4 => ⟨_, m4.at_, _, rfl, ?_⟩⟩⟩
  have f4 : Fr No h h4 := (f2.trans (mapTo_fr m3) fun b hb e => by omega).trans (mapTo_fr m4) fun b hb e => by omega
  refine (show ∀ b v, b = (ss == [46] || ss == [46, 46]) → K (.tuple #[v, .bool b]) h4 from fun b v e => by rw [e]; exact hK h4 v f4) _ _ ?_
  show (mget (bif MKey.same (.s [46, 46]) (.s [46]) then _ else _) (.s ss)).isSome = _
  rw [show MKey.same (.s [46, 46]) (.s [46]) = false from by decide]
  show (bif ss == [46] then some _ else bif ss == [46, 46] then some _ else none).isSome = _
  cases h1 : ss == [46] <;> cases h2 : ss == [46, 46] <;> rfl
theorem Name_spec {ss : List UInt8} {h : Heap} {K : Value → Heap → Prop} (hK : ∀ h', Fr No h h' → K (.bool (Sk.nameOk ss)) h') : C.path_Name (mkStr ss) h K := by
  have hsz : (mkStr ss).size = ss.length := rfl
  refine path_Name.ok (does_spec fun h2 v f2 => ⟨_, _, rfl, ?_⟩)
  rw [hsz]
  have no : Sk.nameOk ss = false → K (.bool false) h2 := fun e => by rw [← e]; exact hK h2 f2
  have nn : ∀ x, (Sk.nameOk ss = true → x) → (¬ x) → Sk.nameOk ss = false := fun x hx hn => by
    cases e : Sk.nameOk ss with
    | false => rfl
    | true => exact absurd (hx e) hn
  refine cd (fun h1 => cd (fun h3 => cnot ?_) fun h3 => ?_) fun h1 => ?_
  · cases hd : (ss == [46] || ss == [46, 46]) with
    | true =>
      refine no (nn (¬ ((ss == [46] || ss == [46, 46]) = true)) (fun e => ?_) (by rw [hd]; simp))
      have := Sk.nameOk_iff.mp e
      rw [Bool.or_eq_true, beq_iff_eq, beq_iff_eq]
      rintro (x | x)
      · exact this.dot x
      · exact this.dots x
    | false =>
      rw [Bool.or_eq_false_iff, beq_eq_false_iff_ne, beq_eq_false_iff_ne] at hd
      refine ContainsAny_spec (by omega) fun h3' f3 => ⟨_, rfl, ?_⟩
      have e : (!ss.any isBad) = Sk.nameOk ss := by
        unfold Sk.nameOk
        rw [decide_eq_true (by omega), decide_eq_true (by omega), show (ss != [46]) = true from bne_iff_ne.mpr hd.1, show (ss != [46, 46]) = true from bne_iff_ne.mpr hd.2]
        rw [Bool.true_and, Bool.true_and, Bool.true_and, List.not_any_eq_all_not]
        congr 1
        funext b
        unfold isBad
        rw [Bool.not_or]; rfl
      rw [e]; exact hK h3' (f2.no f3)
  · exact no (nn _ (fun e => (Sk.nameOk_iff.mp e).le) (by omega))
  · exact no (nn _ (fun e => (Sk.nameOk_iff.mp e).pos) (by omega))
end Go.Proofs.Ytgpkcakanieodaa.Ch
