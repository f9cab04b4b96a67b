/-
  bolelaw14: entry, fixed.
-/
import Derived.Test.YtgpkcakanieodaaDoorSlB
namespace Go.Proofs.YtgpkcakanieodaaDoor.Ss
open Go Go.Proofs Go.Proofs.YtgpkcakanieodaaDoor.Wx Go.Proofs.YtgpkcakanieodaaDoor.Hp Go.Proofs.YtgpkcakanieodaaDoor.W Go.Proofs.YtgpkcakanieodaaDoor.Re Go.Proofs.YtgpkcakanieodaaDoor.Sk Go.Proofs.YtgpkcakanieodaaDoor.Ch

theorem mkStr_app (a b : List UInt8) : mkStr a ++ mkStr b = mkStr (a ++ b) := by
  apply ByteArray.ext
  rw [ByteArray.data_append]
  simp [mkStr]
/-- a cell of the law's argument -/
def cv (P I N : Int) (s : List UInt8) : List Value := [.int .i64 P, .int .i64 I, .int .i64 N, .string (mkStr s)]
def digits (ds : List UInt8) : Prop := ∀ d ∈ ds, 48 ≤ d.toNat ∧ d.toNat ≤ 57
theorem name_digits {ds : List UInt8} (hd : digits ds) (hl : ds.length ≤ 6) : nameOk (110 :: ds) = true := by
  refine nameOk_iff.mpr ⟨by rw [List.length_cons]; omega, by rw [List.length_cons]; omega, fun h => ?_, fun h => ?_, fun b hb => ?_⟩
  · have := (List.cons.inj h).1
    exact absurd this (by decide)
  · have := (List.cons.inj h).1
    exact absurd this (by decide)
  · rcases List.mem_cons.mp hb with rfl | hb
    · decide
    · have := hd b hb
      refine ⟨?_, ?_⟩
      · rintro rfl
        have h2 : 48 ≤ (47 : UInt8).toNat := this.1
        exact absurd h2 (by decide)
      · rintro rfl
        have h2 : 48 ≤ (0 : UInt8).toNat := this.1
        exact absurd h2 (by decide)
theorem entry_end {h1 h2 hh : Heap} {x : Nat} {e : E} {K : Value → Heap → Prop} (f : Fr No h1 hh) (n2 : h1.size ≤ h2.size) (w2 : Own hh h2.size) (l2 : (rd hh h2.size).length = 3) (re : rd hh x = E.v e)
    (hK : ∀ h', Fr No h1 h' → K (.agg ⟨E.v e⟩) h') :
    onSome (some (⟨x, 0, none⟩ : Addr)) fun p4 => ∃ cs1 : List Value, List.length cs1 = 3 ∧ Cells hh p4 cs1 ∧ PutRow ⟨h2.size, 0, none⟩ cs1 3 hh fun h16 => ∃ res1 : List Value, List.length res1 = 3 ∧ Cells h16 ⟨h2.size, 0, none⟩ res1 ∧ K (.agg ⟨res1⟩) h16 := by
  refine os ⟨E.v e, rfl, cellsAll re, PutRow.intro w2 rfl (E.one e) (by rw [l2]; omega) fun h16 d16 => ⟨E.v e, rfl, cellsAll ?_, hK h16 (f.did d16 fun hlt => by omega)⟩⟩
  rw [d16.rd, put_all _ _ (by rw [l2]; rfl)]
theorem entry_k4 {h1 h2 hh : Heap} {x : Nat} {P I N p i : Int} {s : List UInt8} {plain : Bool} {K : Value → Heap → Prop} (f : Fr No h1 hh) (n2 : h1.size + 1 = h2.size) (hx : h2.size < x) (wc : Own hh h1.size) (rc : rd hh h1.size = cv P I N s) (w2 : Own hh h2.size) (l2 : (rd hh h2.size).length = 3) (we : Own hh x) (re : rd hh x = E.v ⟨p, s, i⟩)
    (hp0 : 0 ≤ p) (hp : p < 16) (hi0 : 1 ≤ i) (hi : i ≤ 4294967295) (hpl : plain = true → nameOk s = true) (hK : ∀ h' e, Fr No h1 h' → putOk e = true → K (.agg ⟨E.v e⟩) h') : bolelaw14_Cell_entry.k4 h1 h2 (some ⟨x, 0, none⟩) plain hh K := by
  have ok : ∀ t, nameOk t = true → putOk ⟨p, t, i⟩ = true := by
    intro t ht
    rw [putOk, decide_eq_true hp0, decide_eq_true hp, decide_eq_true hi0, decide_eq_true hi, ht]; rfl
  refine cnot ?_
  cases plain with
  | true => exact ct rfl (entry_end f (by omega) w2 l2 re fun h' f' => hK h' _ f' (ok _ (hpl rfl)))
  | false =>
    refine cf rfl (os (Put.add we (by rw [re, E.len]; omega) fun h11 d11 => ?_))
    have f11 : Fr No h1 h11 := f.did d11 fun hlt => by omega
    have r11 : rd h11 x = E.v ⟨p, [110], i⟩ := by rw [d11.rd, re]; rfl
    have c11 : rd h11 h1.size = cv P I N s := (d11.at_ wc.lt (by omega)).trans rc
    have w11 := d11.ow w2
    have l11 : (rd h11 h2.size).length = 3 := by rw [d11.at_ w2.lt (by omega)]; exact l2
    refine ⟨N, rda c11 rfl, mod_spec (by omega) (by omega) ⟨_, rfl, ?_⟩⟩
    have p0 := Int.emod_nonneg N (show (1000000 : Int) ≠ 0 by omega)
    have p1 := Int.emod_lt_of_pos N (show (0 : Int) < 1000000 by omega)
    refine ⟨fun v hh => 0 ≤ v ∧ v ≤ 1000000 ∧ Fr No h1 hh ∧ Own hh h2.size ∧ (rd hh h2.size).length = 3 ∧ Own hh x ∧ ∃ ds : List UInt8, digits ds ∧ ds.length ≤ 6 ∧ v < ((10 ^ (6 - ds.length) : Nat) : Int) ∧ rd hh x = E.v ⟨p, 110 :: ds, i⟩, fun v _ => v.toNat,
      ⟨p0, by omega, f11, w11, l11, d11.own, [], fun _ h => absurd h (by simp), by simp, by show N % 1000000 < 1000000; exact p1, r11⟩, ?_⟩
    rintro v h13 ⟨v0, v1, f13, w13, l13, o13, ds, hd, hl, hv, r13⟩
    refine cd (fun hpos => ?_) fun hpos => entry_end f13 (by omega) w13 l13 r13 fun h' f' => hK h' _ f' (ok _ (name_digits hd hl))
    have hl6 : ds.length < 6 := by
      rcases Nat.lt_or_ge ds.length 6 with h | h
      · exact h
      · have : 6 - ds.length = 0 := by omega
        rw [this] at hv
        have hv : v < 1 := hv
        omega
    have e1 : Int.tmod v 10 = v % 10 := Int.tmod_eq_emod_of_nonneg v0
    have e2 : Int.tdiv v 10 = v / 10 := Int.tdiv_eq_ediv_of_nonneg v0
    rw [e1, e2, wrap_i64 (n := 48 + v % 10) (by omega) (by omega), wrap_u8 (n := 48 + v % 10) (by omega) (by omega)]
    refine os ⟨mkStr (110 :: ds), rda r13 rfl, New.intro fun h14 n14 => ⟨[UInt8.ofNat (48 + v % 10).toNat], ?_, ?_, os (Put.add (n14.ow o13) (by rw [n14.at_ o13.lt, r13, E.len]; omega) fun h15 d15 => ?_)⟩⟩
    · refine strAll (n14.rd.trans ?_) rfl
      show [Value.int .u8 (48 + v % 10)] = [Value.int .u8 ((UInt8.ofNat (48 + v % 10).toNat).toNat : Int)]
      rw [UInt8.toNat_ofNat']
      congr 2
      omega
    · have : (mkStr (110 :: ds)).size = ds.length + 1 := rfl
      have : (mkStr [UInt8.ofNat (48 + v % 10).toNat]).size = 1 := rfl
      omega
    · have s14 := n14.size
      have o14 := o13.lt
      have w14 := w13.lt
      have ep : ((10 ^ (6 - ds.length) : Nat) : Int) = 10 * ((10 ^ (6 - (ds.length + 1)) : Nat) : Int) := by
        rw [show 6 - ds.length = (6 - (ds.length + 1)) + 1 by omega, Nat.pow_succ]; omega
      rw [wrap_i64 (n := v / 10) (by omega) (by omega)]
      refine ⟨⟨by omega, by omega, (f13.new n14).did d15 (fun hlt => by omega), d15.ow (n14.ow w13), by rw [d15.at_ (n14.ow w13).lt (by omega), n14.at_ w13.lt]; exact l13, d15.own, ds ++ [UInt8.ofNat (48 + v % 10).toNat], fun d hdm => ?_, by rw [List.length_append, List.length_singleton]; omega, ?_, ?_⟩, by show (v / 10).toNat < v.toNat; omega⟩
      · rcases List.mem_append.mp hdm with h | h
        · exact hd d h
        · rw [List.mem_singleton.mp h, UInt8.toNat_ofNat']; omega
      · rw [List.length_append, List.length_singleton]; omega
      · rw [d15.rd, n14.at_ o13.lt, r13, mkStr_app]; rfl
theorem entry_k2 {h1 h2 hh : Heap} {x : Nat} {P I N p i : Int} {s : List UInt8} {plain : Bool} {K : Value → Heap → Prop} (f : Fr No h1 hh) (n2 : h1.size + 1 = h2.size) (hx : h2.size < x) (wc : Own hh h1.size) (rc : rd hh h1.size = cv P I N s) (w2 : Own hh h2.size) (l2 : (rd hh h2.size).length = 3) (we : Own hh x) (re : rd hh x = E.v ⟨p, s, i⟩)
    (hp0 : 0 ≤ p) (hp : p < 16) (hi0 : 1 ≤ i) (hi : i ≤ 4294967295) (hpl : plain = true → 1 ≤ s.length ∧ s.length ≤ 27 ∧ s ≠ [46] ∧ s ≠ [46, 46]) (hK : ∀ h' e, Fr No h1 h' → putOk e = true → K (.agg ⟨E.v e⟩) h') : bolelaw14_Cell_entry.k2 h1 h2 (some ⟨x, 0, none⟩) hh plain K := by
  have hsz : (mkStr s).size = s.length := rfl
  refine ⟨fun pl j hq => hh = hq ∧ 0 ≤ j ∧ j ≤ s.length ∧ (pl = true → (1 ≤ s.length ∧ s.length ≤ 27 ∧ s ≠ [46] ∧ s ≠ [46, 46]) ∧ (s.take j.toNat).any isBad = false), fun pl j _ => ((s.length : Int) - j).toNat, ⟨rfl, by omega, by omega, fun e => ⟨hpl e, rfl⟩⟩, ?_⟩
  rintro pl j _ ⟨rfl, j0, j1, hj⟩
  have fin : ∀ b : Bool, (b = true → nameOk s = true) → bolelaw14_Cell_entry.k4 h1 h2 (some ⟨x, 0, none⟩) b hh K := fun b hb => entry_k4 f n2 hx wc rc w2 l2 we re hp0 hp hi0 hi hb hK
  have rs : cellOf hh (Addr.add ⟨h1.size, 0, none⟩ 3) = some (.string (mkStr s)) := rda rc rfl
  refine ⟨mkStr s, rs, ?_⟩
  rw [hsz]
  refine cd (fun hlt => ?_) fun hge => ?_
  · cases pl with
    | false => exact cf rfl (fin false fun e => by cases e)
    | true =>
      have hj' : j.toNat < s.length := by omega
      obtain ⟨q1, q2⟩ := hj rfl
      have step : ∀ b : Bool, (b = true → isBad s[j.toNat] = false) → (hh = hh ∧ 0 ≤ j + 1 ∧ j + 1 ≤ s.length ∧ (b = true → (1 ≤ s.length ∧ s.length ≤ 27 ∧ s ≠ [46] ∧ s ≠ [46, 46]) ∧ (s.take (j + 1).toNat).any isBad = false)) ∧ ((s.length : Int) - (j + 1)).toNat < ((s.length : Int) - j).toNat := by
        intro b hb
        refine ⟨⟨rfl, by omega, by omega, fun e => ⟨q1, ?_⟩⟩, by omega⟩
        rw [show (j + 1).toNat = j.toNat + 1 by omega, List.take_succ_eq_append_getElem hj', List.any_append, q2, List.any_cons, hb e]; rfl
      have gs : (mkStr s).toList[j.toNat]? = some s[j.toNat] := by rw [toList_mkStr, List.getElem?_eq_getElem hj']
      refine ct rfl ?_
      unfold bolelaw14_Cell_entry.k3
      rw [wrap_i64 (n := j + 1) (by omega) (by omega)]
      refine ⟨mkStr s, rs, ⟨j0, by rw [hsz]; exact hlt⟩, _, gs, cn (fun h47 => ⟨mkStr s, rs, ⟨j0, by rw [hsz]; exact hlt⟩, _, gs, ?_⟩) fun _ => step false fun e => by cases e⟩
      refine step _ fun h0 => ?_
      have h0 : (((s[j.toNat]).toNat : Nat) : Int) ≠ 0 := by simpa using h0
      rw [← bad_nat, decide_eq_false (by omega), decide_eq_false (by omega)]; rfl
  · refine fin pl fun e => ?_
    obtain ⟨⟨a1, a2, a3, a4⟩, q2⟩ := hj e
    rw [List.take_of_length_le (by omega)] at q2
    refine nameOk_iff.mpr ⟨a1, a2, a3, a4, fun b hb => ?_⟩
    have := List.any_eq_false.mp q2 b hb
    unfold isBad at this
    simpa using this
theorem entry_k1 {h1 h2 hh : Heap} {x : Nat} {P I N p i : Int} {s : List UInt8} {K : Value → Heap → Prop} (f : Fr No h1 hh) (n2 : h1.size + 1 = h2.size) (hx : h2.size < x) (wc : Own hh h1.size) (rc : rd hh h1.size = cv P I N s) (w2 : Own hh h2.size) (l2 : (rd hh h2.size).length = 3) (we : Own hh x) (re : rd hh x = E.v ⟨p, s, i⟩)
    (hp0 : 0 ≤ p) (hp : p < 16) (hi0 : 1 ≤ i) (hi : i ≤ 4294967295) (hK : ∀ h' e, Fr No h1 h' → putOk e = true → K (.agg ⟨E.v e⟩) h') : bolelaw14_Cell_entry.k1 h1 h2 (some ⟨x, 0, none⟩) hh K := by
  have hsz : (mkStr s).size = s.length := rfl
  have rs : cellOf hh (Addr.add ⟨h1.size, 0, none⟩ 3) = some (.string (mkStr s)) := rda rc rfl
  have go : ∀ b : Bool, (b = true → 1 ≤ s.length ∧ s.length ≤ 27 ∧ s ≠ [46] ∧ s ≠ [46, 46]) → bolelaw14_Cell_entry.k2 h1 h2 (some ⟨x, 0, none⟩) hh b K := fun b hb => entry_k2 f n2 hx wc rc w2 l2 we re hp0 hp hi0 hi hb hK
  have no := go false fun e => by cases e
  refine ⟨mkStr s, rs, ?_⟩
  rw [hsz]
  refine cd (fun a1 => ⟨mkStr s, rs, ?_⟩) fun _ => no
  rw [hsz]
  refine cd (fun a2 => ⟨mkStr s, rs, ?_⟩) fun _ => no
  rw [toList_mkStr, toList_mkStr]
  refine cs (fun a3 => ⟨mkStr s, rs, ?_⟩) fun _ => no
  rw [toList_mkStr, toList_mkStr]
  exact go _ fun a4 => ⟨by omega, by omega, by simpa using a3, by simpa using a4⟩
theorem entry_spec {P I N : Int} {s : List UInt8} {h : Heap} {K : Value → Heap → Prop} (hK : ∀ h' e, Fr No h h' → putOk e = true → K (.agg ⟨E.v e⟩) h') : C.bolelaw14_Cell_entry (cv P I N s) h K := by
  refine bolelaw14_Cell_entry.ok (New.intro fun h2 n2 => New.intro fun h3 n3 => ?_)
  have s2 := n2.size
  have s3 := n3.size
  have f3 := n2.fr.no n3.fr
  have c3 : rd h3 h.size = cv P I N s := (n3.at_ n2.own.lt).trans n2.rd
  have p0 := Int.emod_nonneg P (show (16 : Int) ≠ 0 by omega)
  have p1 := Int.emod_lt_of_pos P (show (0 : Int) < 16 by omega)
  have i0 := Int.emod_nonneg I (show (4294967295 : Int) ≠ 0 by omega)
  have i1 := Int.emod_lt_of_pos I (show (0 : Int) < 4294967295 by omega)
  have w1 : IntKind.wrap .i64 (1 + I % 4294967295) = 1 + I % 4294967295 := wrap_i64 (by omega) (by omega)
  have zl : (z30).length = 3 := rfl
  have l3 : (rd h3 h2.size).length = 3 := by rw [n3.rd]; exact zl
  refine ⟨P, rda c3 rfl, I, rda c3 rfl, mkStr s, rda c3 rfl, ?_⟩
  -- the new cell, whenever it is made
  have last : ∀ h6, Newly h3 h6 z30 → ∀ h7, Did h3.size h6 h7 (put (rd h6 h3.size) 0 (E.v ⟨P % 16, s, 1 + I % 4294967295⟩)) → bolelaw14_Cell_entry.k1 h h2 (some ⟨h3.size, 0, none⟩) h7 K := by
    intro h6 n6 h7 d7
    have s6 := n6.size
    refine entry_k1 (P := P) (I := I) (N := N) (p := P % 16) (i := 1 + I % 4294967295) (s := s) ((f3.new n6).did d7 fun hlt => by omega) (by omega) (by omega) (d7.ow (n6.ow (n3.ow n2.own))) ?_ (d7.ow (n6.ow n3.own)) ?_ d7.own ?_ p0 p1 (by omega) (by omega) hK
    · rw [d7.at_ (by omega) (by omega), n6.at_ (by omega)]; exact c3
    · rw [d7.at_ (by omega) (by omega), n6.at_ (by omega)]; exact l3
    · rw [d7.rd, put_all _ _ (by rw [n6.rd]; rfl)]
  refine ⟨mod_spec (by omega) (by omega) ⟨_, rfl, rda c3 rfl, rda c3 rfl, mod_spec (by omega) (by omega) ⟨_, rfl, rda c3 rfl, ?_⟩, ?_⟩, ?_⟩
  all_goals
    refine New.intro fun h6 n6 => ?_
    have c6 : rd h6 h.size = cv P I N s := (n6.at_ (by omega)).trans c3
    refine ⟨rda c6 rfl, rda c6 rfl, rda c6 rfl, ?_⟩
  · rw [w1]
    exact PutRow.intro n6.own rfl (E.one ⟨P % 16, s, 1 + I % 4294967295⟩) (by rw [n6.rd, zl]; omega) fun h7 d7 => last h6 n6 h7 d7
  · refine mod_spec (by omega) (by omega) ⟨_, rfl, rda c6 rfl, ?_⟩
    rw [w1]
    exact PutRow.intro n6.own rfl (E.one ⟨P % 16, s, 1 + I % 4294967295⟩) (by rw [n6.rd, zl]; omega) fun h7 d7 => last h6 n6 h7 d7
  · refine mod_spec (by omega) (by omega) ⟨_, rfl, rda c6 rfl, rda c6 rfl, mod_spec (by omega) (by omega) ⟨_, rfl, rda c6 rfl, ?_⟩⟩
    rw [w1]
    exact PutRow.intro n6.own rfl (E.one ⟨P % 16, s, 1 + I % 4294967295⟩) (by rw [n6.rd, zl]; omega) fun h7 d7 => last h6 n6 h7 d7
end Go.Proofs.YtgpkcakanieodaaDoor.Ss
