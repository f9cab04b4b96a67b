/-
  THE DOCUMENT'S OWN TRANSACTION: what is put, a put, going back, a power cut; and all of it said of the transaction that it is like.
-/
import Derived.Test.YtcdpakjhjmchhaaGreatDoorRxB
namespace Go.Proofs.YtcdpakjhjmchhaaGreatDoor.Rx
open Go Go.Proofs Go.Proofs.YtcdpakjhjmchhaaGreatDoor.Wx Go.Proofs.YtcdpakjhjmchhaaGreatDoor.Hp Go.Proofs.YtcdpakjhjmchhaaGreatDoor.W Go.Proofs.YtcdpakjhjmchhaaGreatDoor.Ad Go.Proofs.YtcdpakjhjmchhaaGreatDoor.Tm Go.Proofs.YtcdpakjhjmchhaaGreatDoor.Spc Go.Proofs.YtcdpakjhjmchhaaGreatDoor.Re

theorem app_from {elem : TI} {e : Nat} {a : Option Addr} {l c n : Nat} {xs new : List Value} {h0 h : Heap} {k : Option Addr → Nat → Nat → Heap → Prop} (f : Fr No h0 h)
    (s : Sl h elem.cells a l c xs (From h0.size)) (hn : new.length = n * elem.cells) (hz : elem.zero.length = elem.cells) (hb : (l + n) * elem.bytes ≤ 140737488355328) (hb' : l + n ≤ 140737488355328)
    (hk : ∀ a' c' h', Fr No h0 h' → Sl h' elem.cells a' (l + n) c' (xs ++ new) (From h0.size) → k a' (l + n) c' h') :
    AppendP elem e a l c n new h k := by
  have hs := f.size
  refine append_own s hn hz hb hb' fun a' c' h' f' s' => hk a' c' h' (f.trans f' fun b hb e => by have : h0.size ≤ b := e; omega) (s'.mono fun b hb => ?_)
  rcases hb with hb | hb
  · exact hb
  · show h0.size ≤ b; omega
theorem Written_xspec {h : Heap} {col : Nat → Nat} {R : RR} {M : RM} {K : Value → Heap → Prop} (X : RxC h col R M) (hN : 98 ≤ M.N)
    (hK : ∀ a c h', Fr No h h' → Sl h' 1 a M.written.length c (M.written.map (.int .i64)) (From h.size) → K (.slice a M.written.length c) h') : C.boleref06_Txn_Written (some ⟨R.rb, 0, none⟩) h K := by
  have hm := X.fm
  have hNm : M.N ≤ R.fn := by have := X.fn; unfold RM.N; omega
  refine boleref06_Txn_Written.ok ⟨fun a l c i hh => ∃ j : Nat, i = ((98 + j : Nat) : Int) ∧ j ≤ M.N - 98 ∧ Fr No h hh ∧ l = (keysTo M j).length ∧ Sl hh 1 a l c ((keysTo M j).map (.int .i64)) (From h.size) ∧ ((M.ends = true ∨ M.row = []) → keysTo M j = [] ∧ (M.ends = true → j = 0)), fun _ _ _ i _ => ((M.N : Int) - i).toNat,
    ⟨0, rfl, Nat.zero_le _, Fr.refl _ _, rfl, Sl.nil _ _ _, fun _ => ⟨rfl, fun _ => rfl⟩⟩, ?_⟩
  rintro a l c i h2 ⟨j, rfl, hj, f2, rfl, s2, hz⟩
  have X2 := X.keep f2 fun _ _ _ _ y => y
  have fin : M.written = keysTo M j → K (.slice a (keysTo M j).length c) h2 := fun e => by
    rw [e] at hK; exact hK a c h2 f2 s2
  refine os ⟨_, rda X2.rr rfl, Blocks_spec X2 ⟨_, rfl, cd (fun hl => os ⟨_, rda X2.rr rfl, cnot ?_⟩) fun hl => fin ?_⟩⟩
  · cases he : M.ends with
    | true => exact ct rfl (fin (by unfold RM.written; rw [if_pos he, (hz (.inl he)).1]))
    | false =>
      refine cf rfl (os ⟨_, _, _, rda X2.rr rfl, cd (fun hr => ?_) fun hr => fin ?_⟩)
      · unfold boleref06_Txn_Written.k1
        have ew : IntKind.wrap .i64 (((98 + j : Nat) : Int) + 1) = ((98 + (j + 1) : Nat) : Int) := by rw [wrap_i64 (by omega) (by omega)]; omega
        have es := keysTo_succ M j
        have me : ((M.N : Int) - ((98 + (j + 1) : Nat) : Int)).toNat < ((M.N : Int) - ((98 + j : Nat) : Int)).toNat := by omega
        have hne : ¬ (false = true ∨ M.row = []) := by
          rintro (y | y)
          · cases y
          · rw [y] at hr; exact absurd hr (by decide)
        refine put_spec X2 fun n2 ha => ⟨_, rfl, ?_⟩
        rw [ew]
        refine cd (fun y => ?_) fun y => ?_
        · have hs : (lget M.row ((98 + j : Nat) : Int)).isSome = true := by
            cases e : lget M.row ((98 + j : Nat) : Int) with
            | some b => rfl
            | none => have := ha.neg.mpr e; omega
          rw [if_pos hs] at es
          have hkl : (keysTo M j).length ≤ j := by
            have : (keysTo M j).length ≤ (List.range' 98 j).length := by unfold keysTo; rw [List.length_map]; exact List.length_filter_le ..
            rw [List.length_range'] at this; exact this
          refine New.intro fun h6 n6 => ⟨[.int .i64 ((98 + j : Nat) : Int)], rfl, cellsAll n6.rd, (fun v hv => by rw [List.mem_singleton.mp hv]; rfl), ?_⟩
          refine app_from (f2.new n6) (s2.fr n6.fr fun _ _ _ y => y) rfl rfl (by show (_ + 1) * 8 ≤ _; omega) (by omega) fun a' c' h7 f7 s7 => ⟨⟨j + 1, rfl, by omega, f7, by rw [es, List.length_append]; rfl, ?_, fun y => absurd y hne⟩, me⟩
          rw [es, List.map_append]; exact s7
        · have hs : ¬ (lget M.row ((98 + j : Nat) : Int)).isSome = true := by
            rw [ha.neg.mp (by omega)]; simp
          rw [if_neg hs, List.append_nil] at es
          exact ⟨⟨j + 1, rfl, by omega, f2, by rw [es], by rw [es]; exact s2, fun y => absurd y hne⟩, me⟩
      · have er : M.row = [] := by
          cases e : M.row with
          | nil => rfl
          | cons p r => rw [e] at hr; exact absurd (show (0 : Int) < ((r.length + 1 : Nat) : Int) by omega) hr
        have all : ∀ k, keysTo M k = [] := fun k => by
          cases e : keysTo M k with
          | nil => rfl
          | cons x r =>
            have : x ∈ keysTo M k := by rw [e]; exact List.mem_cons_self ..
            rw [mem_keysTo, er] at this
            exact absurd this.2.2 (by simp [lget])
        unfold RM.written
        rw [if_neg (by rw [he]; simp), all, all]
  · have ej : j = M.N - 98 := by omega
    unfold RM.written
    cases he : M.ends with
    | true => rw [if_pos rfl, (hz (.inl he)).1]
    | false => rw [if_neg (by simp), ej]
theorem Write_rspec {h : Heap} {F : Nat → Prop} {r e : Option Addr} {M : RM} {i : Int} {a : Option Addr} {l c : Nat} {bs : Txt} {K : Value → Heap → Prop} (x : Rx h F r e M) (hN : 98 ≤ M.N) (B : StrAt h a l bs) (hu : M.ends = false → M.row.length < 1000000000)
    (hK : ∀ h' F', Fr F h h' → Gw h F h' F' → Rx h' F' r e (M.write i bs).1 → K (.int .i64 (M.write i bs).2) h') : C.boleref06_Txn_Write r i a l c h K := by
  have hlt := fun b hb => x.lt (b := b) hb
  obtain ⟨col, R, rfl, rfl, X, hF⟩ := x
  have bad : ∀ e h', Fr No h h' → M.write i bs = (M, e) → K (.int .i64 e) h' := fun e h' f h2 => by
    rw [h2] at hK
    exact hK h' F (f.mono fun _ _ y => y.elim) (Gw.refl f.size hlt) ⟨col, R, rfl, rfl, X.keep f fun _ _ _ _ y => y, hF⟩
  refine boleref06_Txn_Write.ok (os ⟨_, rda X.rr rfl, ?_⟩)
  cases he : M.ends with
  | true => exact ct rfl (bad _ h (Fr.refl _ _) (by unfold RM.write; rw [if_pos he]))
  | false =>
  have hu := hu he
  have e0 : M.write i bs = if i < 98 ∨ i ≥ M.N then (M, 31) else if bs.length ≠ 512 then (M, 32) else if lget M.row i = none ∧ M.written.length ≥ 96 then (M, 60) else ({ M with row := M.row ++ [(i, bs)] }, 0) := by unfold RM.write; rw [if_neg (by rw [he]; simp)]
  refine cf rfl (cd (fun y => bad _ h (Fr.refl _ _) (by rw [e0, if_pos (.inl y)])) fun y0 => os ⟨_, rda X.rr rfl, Blocks_spec X ⟨_, rfl, cd (fun y => bad _ h (Fr.refl _ _) (by rw [e0, if_pos (.inr y)])) fun y1 => ?_⟩⟩)
  rw [if_neg (by omega)] at e0
  have hbl := B.1
  unfold boleref06_Txn_Write.k1
  refine cn (fun y => bad _ h (Fr.refl _ _) (by rw [e0, if_pos (by omega)])) fun y => ?_
  rw [if_neg (by omega)] at e0
  refine put_spec X fun n2 ha => ⟨_, rfl, Written_xspec X hN fun wa wc h5 f5 sw => ⟨_, _, _, rfl, ?_⟩⟩
  have fin : ¬ (lget M.row i = none ∧ M.written.length ≥ 96) → boleref06_Txn_Write.k2 (some ⟨R.rb, 0, none⟩) i a l h5 K := fun hno => by
    rw [if_neg hno] at e0
    rw [e0] at hK
    have X5 := X.keep f5 fun _ _ _ _ y => y
    have z5 := f5.size
    have c1 := X.rc
    have c2 := X.ec
    have hm := X.rm
    unfold boleref06_Txn_Write.k2
    refine os ⟨_, _, _, rda X5.rr rfl, bs, StrAt.fr f5 B fun _ _ y => y, rfl, New.intro fun h6 n6 => ⟨rda ((n6.at_ X5.ro.lt).trans X5.rr) rfl, dcell (i, bs), rfl, cellsAll n6.rd, dcell_one _, ?_⟩⟩
    have z6 := n6.size
    have nb : ∀ b, h6.size ≤ b → col b = 0 := fun b hb => X5.nrm b (by omega)
    have s6 : Sl h6 2 R.ra M.row.length R.rc (M.row.flatMap dcell) (On col 4) := X5.row.fr n6.fr fun _ _ _ y => y
    refine append_col (elem := ti226) s6 rfl rfl (by show (_ + 1) * 24 ≤ _; omega) (by omega) fun a' c' h7 f7 s7 => ?_
    have z7 := f7.size
    have l1 : R.rb < h6.size := by have := X5.ro.lt; omega
    have l2 : R.eb < h6.size := by have := X5.eo.lt; omega
    have k1 : ¬ On col 4 R.rb := fun y => by have y : col R.rb = 4 := y; omega
    have k2 : ¬ On col 4 R.eb := fun y => by have y : col R.eb = 4 := y; omega
    have o7 : Own h7 R.rb := f7.own l1 k1 (n6.ow X5.ro)
    have r7 : rd h7 R.rb = [.pointer (some ⟨R.eb, 0, none⟩), .slice R.ra M.row.length R.rc, .bool M.ends] := (f7.rd l1 k1).trans ((n6.at_ X5.ro.lt).trans X5.rr)
    refine os (Put.add o7 (by rw [r7]; show 0 + 1 < 3; omega) fun h8 d8 => ?_)
    have z8 := d8.size
    obtain ⟨cl, ecl⟩ : ∃ cl, cl = trim (upd col h6.size 4) h7.size := ⟨_, rfl⟩
    have old : ∀ b, b < h6.size → cl b = col b := fun b hb => by rw [ecl, trim_lt (by omega), upd_lt hb]
    have new : ∀ b, h6.size ≤ b → b < h7.size → cl b = 4 := fun b h1 h2 => by rw [ecl, trim_lt h2, upd_ge h1]
    have top : ∀ b, h7.size ≤ b → cl b = 0 := fun b h1 => by rw [ecl, trim_ge h1]
    have f8 : Fr F h h8 := by
      have fa : Fr F h h6 := (f5.mono fun _ _ y => y.elim).new n6
      refine (fa.trans f7 fun b hb y => (hF b).mpr ?_).did d8 fun _ => (hF _).mpr ⟨by omega, by omega⟩
      have y : col b = 4 := y
      omega
    refine hK h8 (fun b => 1 ≤ cl b ∧ cl b ≤ 4) f8 ⟨fun b hb => by show 1 ≤ cl b ∧ cl b ≤ 4 ↔ F b; rw [old b (by omega), hF b], fun b hb => ?_⟩ ⟨cl, { R with ra := a', rc := c' }, rfl, rfl,
      ⟨fun b hb => top b (by omega), (old _ l1).trans c1, d8.own, ?_, (old _ l2).trans c2, d8.ow (f7.own l2 k2 (n6.ow X5.eo)), ?_, ?_, X.fm, ?_, ?_⟩, fun b => Iff.rfl⟩
    · rcases Nat.lt_or_ge b h7.size with y | y
      · omega
      · have := top b y; have hb : 1 ≤ cl b ∧ cl b ≤ 4 := hb; omega
    · show rd h8 R.rb = [.pointer (some ⟨R.eb, 0, none⟩), .slice a' (M.row ++ [(i, bs)]).length c', .bool M.ends]
      rw [d8.rd, r7, List.length_append]; rfl
    · show rd h8 R.eb = _
      rw [d8.at_ (by omega) (by intro y; rw [y] at c2; omega), f7.rd l2 k2, n6.at_ X5.eo.lt]; exact X5.er
    · have sf : Sl h7 1 R.fa R.fn R.fc (M.first.map bv) (On col 3) := (X5.f.fr n6.fr fun _ _ _ y => y).fr f7 fun b _ y y2 => by have y : col b = 3 := y; have y2 : col b = 4 := y2; omega
      have sf8 := sf.fr d8.fr fun b _ y y2 => by have y : col b = 3 := y; have y2 : b = R.rb := y2; rw [y2] at y; omega
      have := (sl_rng sf8).mono (G := On cl 3) fun b hb => by
        have h1 : col b = 3 := hb.1
        show cl b = 3
        rw [old b (by rcases Nat.lt_or_ge b h6.size with y | y; exact y; have := nb b y; omega)]; exact h1
      exact this
    · have e2 : (M.row ++ [(i, bs)]).flatMap dcell = M.row.flatMap dcell ++ dcell (i, bs) := by rw [List.flatMap_append]; rfl
      show Sl h8 2 a' (M.row ++ [(i, bs)]).length c' ((M.row ++ [(i, bs)]).flatMap dcell) (On cl 4)
      rw [e2, List.length_append]
      have s8 := (sl_rng s7).fr d8.fr fun b _ y y2 => by
        have y2 : b = R.rb := y2
        have y := y.1
        have y : upd col h6.size 4 b = 4 := y
        rw [y2, upd_lt l1] at y; omega
      refine s8.mono fun b hb => ?_
      have h1 : upd col h6.size 4 b = 4 := hb.1
      show cl b = 4
      rw [ecl, trim_lt hb.2]; exact h1
    · show (M.row ++ [(i, bs)]).length ≤ _
      rw [List.length_append]; show M.row.length + 1 ≤ _; omega
  refine cd (fun y => cd (fun y2 => bad _ h5 f5 ?_) fun y2 => fin ?_) fun y => fin ?_
  · rw [e0, if_pos ⟨ha.neg.mp y, by omega⟩]
  · rintro ⟨_, y3⟩; omega
  · rintro ⟨y3, _⟩; exact y (ha.neg.mpr y3)
theorem Back_rspec {h : Heap} {F : Nat → Prop} {r e : Option Addr} {M : RM} {m : Int} {K : Value → Heap → Prop} (x : Rx h F r e M)
    (hK : ∀ h' F', Fr F h h' → Gw h F h' F' → Rx h' F' r e (M.back m).1 → K (.int .i64 (M.back m).2) h') : C.boleref06_Txn_Back r m h K := by
  have hlt := fun b hb => x.lt (b := b) hb
  obtain ⟨col, R, rfl, rfl, X, hF⟩ := x
  have bad : ∀ e, M.back m = (M, e) → K (.int .i64 e) h := fun e h2 => by
    rw [h2] at hK
    exact hK h F (Fr.refl _ _) (Gw.refl (Nat.le_refl _) hlt) ⟨col, R, rfl, rfl, X, hF⟩
  refine boleref06_Txn_Back.ok (os ⟨_, rda X.rr rfl, ?_⟩)
  cases he : M.ends with
  | true => exact ct rfl (bad _ (by unfold RM.back; rw [if_pos he]))
  | false =>
  have e0 : M.back m = if m < 0 ∨ m > M.row.length then (M, 62) else ({ M with row := M.row.take m.toNat }, 0) := by unfold RM.back; rw [if_neg (by rw [he]; simp)]
  refine cf rfl (cd (fun y => bad _ (by rw [e0, if_pos (.inl y)])) fun y0 => os ⟨_, _, _, rda X.rr rfl, cd (fun y => bad _ (by rw [e0, if_pos (.inr y)])) fun y1 => ?_⟩)
  rw [if_neg (by omega)] at e0
  rw [e0] at hK
  have c1 := X.rc
  have c2 := X.ec
  have hm := X.rm
  have cap := X.row.le
  have lt : (M.row.take m.toNat).length = m.toNat := by rw [List.length_take]; omega
  have l2 := flat_length dcell 2 (M.row.take m.toNat) fun _ _ => rfl
  unfold boleref06_Txn_Back.k1
  refine os ⟨_, _, _, rda X.rr rfl, ⟨by omega, by omega⟩, (M.row.take m.toNat).flatMap dcell, by rw [l2, lt], ?_, fun v hv => ?_, ?_⟩
  · have := SlCells.take X.row.cells (m.toNat * 2)
    rw [show (M.row.flatMap dcell).take (m.toNat * 2) = (M.row.take m.toNat).flatMap dcell from ?_] at this
    · exact this
    · have e1 : M.row.flatMap dcell = (M.row.take m.toNat).flatMap dcell ++ (M.row.drop m.toNat).flatMap dcell := by rw [← List.flatMap_append, List.take_append_drop]
      rw [e1, show m.toNat * 2 = ((M.row.take m.toNat).flatMap dcell).length by rw [l2, lt], List.take_left]
  · obtain ⟨p, _, hp⟩ := List.mem_flatMap.mp hv
    exact dcell_one p v hp
  refine append_nil (elem := ti226) (by rw [l2, lt]; rfl) rfl (by show _ * 24 ≤ _; omega) (by omega) fun a' c' h2 f2 s2 => ?_
  have z2 := f2.size
  have X2 := X.keep f2 fun _ _ _ _ y => y
  refine os (Put.add X2.ro (by rw [X2.rr]; show 0 + 1 < 3; omega) fun h3 d3 => ?_)
  have z3 := d3.size
  have r1 := X.ro.lt
  have r2 := X.eo.lt
  obtain ⟨cl, ecl⟩ : ∃ cl : Nat → Nat, cl = fun b => if b < h.size then (if col b = 4 then 3 else col b) else if b < h2.size then 4 else 0 := ⟨_, rfl⟩
  have old : ∀ b, b < h.size → cl b = if col b = 4 then 3 else col b := fun b hb => by rw [ecl]; show (if b < h.size then _ else _) = _; rw [if_pos hb]
  have new : ∀ b, h.size ≤ b → b < h2.size → cl b = 4 := fun b h1 h2' => by rw [ecl]; show (if b < h.size then _ else if b < h2.size then 4 else 0) = _; rw [if_neg (by omega), if_pos h2']
  have top : ∀ b, h2.size ≤ b → cl b = 0 := fun b h1 => by rw [ecl]; show (if b < h.size then _ else if b < h2.size then 4 else 0) = _; rw [if_neg (by omega), if_neg (by omega)]
  refine hK h3 (fun b => 1 ≤ cl b ∧ cl b ≤ 4) ((f2.mono fun _ _ y => y.elim).did d3 fun _ => (hF _).mpr ⟨by omega, by omega⟩) ⟨fun b hb => ?_, fun b hb => ?_⟩ ⟨cl, { R with ra := a', rc := c' }, rfl, rfl,
    ⟨fun b hb => top b (by omega), ?_, d3.own, ?_, ?_, d3.ow X2.eo, ?_, ?_, X.fm, ?_, ?_⟩, fun b => Iff.rfl⟩
  · show 1 ≤ cl b ∧ cl b ≤ 4 ↔ F b
    rw [old b hb, hF b]
    split <;> omega
  · have hb : 1 ≤ cl b ∧ cl b ≤ 4 := hb
    rcases Nat.lt_or_ge b h2.size with y | y
    · omega
    · have := top b y; omega
  · show cl R.rb = 1
    rw [old _ r1, if_neg (by omega)]; exact c1
  · show rd h3 R.rb = [.pointer (some ⟨R.eb, 0, none⟩), .slice a' (M.row.take m.toNat).length c', .bool M.ends]
    rw [d3.rd, X2.rr, lt]; rfl
  · show cl R.eb = 2
    rw [old _ r2, if_neg (by omega)]; exact c2
  · show rd h3 R.eb = _
    rw [d3.at_ (by omega) (by intro y; rw [y] at c2; omega)]; exact X2.er
  · have s3 := (sl_rng X2.f).fr d3.fr fun b _ y y2 => by have y : col b = 3 := y.1; have y2 : b = R.rb := y2; rw [y2] at y; omega
    refine s3.mono fun b hb => ?_
    have h1 : col b = 3 := hb.1
    have hl : b < h.size := by rcases Nat.lt_or_ge b h.size with y | y; exact y; have := X.nrm b y; omega
    show cl b = 3
    rw [old b hl, if_neg (by omega)]; exact h1
  · have s3 := (sl_rng s2).fr d3.fr fun b _ y y2 => by have y : h.size ≤ b := y.1; have y2 : b = R.rb := y2; omega
    show Sl h3 2 a' (M.row.take m.toNat).length c' ((M.row.take m.toNat).flatMap dcell) (On cl 4)
    rw [lt]
    exact s3.mono fun b hb => new b hb.1 hb.2
  · show (M.row.take m.toNat).length ≤ _
    omega
/-! said of the transaction that it is like -/
def RxS (h : Heap) (F : Nat → Prop) (r e : Option Addr) (T : TM) : Prop := ∃ M, Sim T M ∧ Rx h F r e M
theorem RxS.fr {h h' : Heap} {F G : Nat → Prop} {r e : Option Addr} {T : TM} (x : RxS h F r e T) (f : Fr G h h') (hG : ∀ b, F b → ¬ G b) : RxS h' F r e T := by
  obtain ⟨M, s, x⟩ := x; exact ⟨M, s, x.fr f hG⟩
theorem RxS.no {h h' : Heap} {F : Nat → Prop} {r e : Option Addr} {T : TM} (x : RxS h F r e T) (f : Fr No h h') : RxS h' F r e T := x.fr f fun _ _ y => y
theorem RxS.lt {h : Heap} {F : Nat → Prop} {r e : Option Addr} {T : TM} (x : RxS h F r e T) {b : Nat} (hb : F b) : b < h.size := by
  obtain ⟨M, s, x⟩ := x; exact x.lt hb
theorem Read_spec {h : Heap} {F : Nat → Prop} {r e : Option Addr} {T : TM} {i : Int} {K : Value → Heap → Prop} (x : RxS h F r e T)
    (hK : ∀ a l c h', Fr No h h' → l = (T.read i).1.length → Sl h' 1 a l c ((T.read i).1.map bv) (From h.size) → K (.tuple #[.slice a l c, .int .i64 (T.read i).2]) h') : C.boleref06_Txn_Read r i h K := by
  obtain ⟨M, s, x⟩ := x
  rw [← s.read i] at hK
  exact Read_rspec x hK
theorem Write_spec {h : Heap} {F : Nat → Prop} {r e : Option Addr} {T : TM} {i : Int} {a : Option Addr} {l c : Nat} {bs : Txt} {K : Value → Heap → Prop} (x : RxS h F r e T) (hN : 98 ≤ T.N) (B : StrAt h a l bs) (hu : T.undo.length < 1000000000)
    (hK : ∀ h' F', Fr F h h' → Gw h F h' F' → RxS h' F' r e (T.write i bs).1 → K (.int .i64 (T.write i bs).2) h') : C.boleref06_Txn_Write r i a l c h K := by
  obtain ⟨M, s, x⟩ := x
  have w := s.write i bs
  refine Write_rspec x (by rw [s.N]; exact hN) B (fun he => by rw [← s.un (by rw [← s.ends]; exact he)]; exact hu) fun h' F' f g x' => ?_
  rw [w.1]
  exact hK h' F' f g ⟨_, w.2, x'⟩
theorem Written_spec {h : Heap} {F : Nat → Prop} {r e : Option Addr} {T : TM} {K : Value → Heap → Prop} (x : RxS h F r e T) (hN : 98 ≤ T.N)
    (hK : ∀ a c h', Fr No h h' → Sl h' 1 a T.written.length c (T.written.map (.int .i64)) (From h.size) → K (.slice a T.written.length c) h') : C.boleref06_Txn_Written r h K := by
  obtain ⟨M, s, col, R, rfl, rfl, X, hF⟩ := x
  rw [s.written] at hK
  exact Written_xspec X (by rw [s.N]; exact hN) hK
theorem Mark_spec {h : Heap} {F : Nat → Prop} {r e : Option Addr} {T : TM} {K : Value → Heap → Prop} (x : RxS h F r e T) (hK : K (.tuple #[.int .i64 T.mark.1, .int .i64 T.mark.2]) h) : C.boleref06_Txn_Mark r h K := by
  obtain ⟨M, s, x⟩ := x
  rw [← s.mark] at hK
  exact Mark_rspec x hK
theorem Back_spec {h : Heap} {F : Nat → Prop} {r e : Option Addr} {T : TM} {m : Int} {K : Value → Heap → Prop} (x : RxS h F r e T)
    (hK : ∀ h' F', Fr F h h' → Gw h F h' F' → RxS h' F' r e (T.back m).1 → K (.int .i64 (T.back m).2) h') : C.boleref06_Txn_Back r m h K := by
  obtain ⟨M, s, x⟩ := x
  have w := s.back m
  refine Back_rspec x fun h' F' f g x' => ?_
  rw [w.1]
  exact hK h' F' f g ⟨_, w.2, x'⟩
theorem sim_fresh {n : Nat} {L : Txt} (hL : L.length = 512 * n) : Sim ⟨fresh (chunks L), [], [], false⟩ ⟨L, false, [], false⟩ := by
  have hn : (chunks L).length = n := by rw [chunks_length, hL]; omega
  refine ⟨rfl, ?_, rfl, fun _ k hk => ?_, fun y => (by cases y), fun _ => rfl, fun _ k _ => ?_, fun _ k _ i => ?_, fun p hp => (by cases hp)⟩
  · show L.length = 512 * (chunks L).length
    rw [hn, hL]
  · have hk : k < (chunks L).length := hk
    show (chunks L).getD k [] = _
    rw [List.getD_eq_getElem?_getD, List.getElem?_eq_getElem hk, Option.getD_some, chunks_get]
  · show ((undoAll [] (([] : List (Int × Option Txt)).drop k)).map _).Nodup
    rw [List.drop_nil]; exact List.nodup_nil
  · show aget (undoAll [] (([] : List (Int × Option Txt)).drop k)) i = lget (([] : List (Int × Txt)).take k) i
    rw [List.drop_nil, List.take_nil]; rfl
end Go.Proofs.YtcdpakjhjmchhaaGreatDoor.Rx
