/-
  SlotsBack.
-/
import Derived.Test.YtgpkcakanieodaaDoorSlE
namespace Go.Proofs.YtgpkcakanieodaaDoor.Ss
open Go Go.Proofs Go.Proofs.YtgpkcakanieodaaDoor.Wx Go.Proofs.YtgpkcakanieodaaDoor.Hp Go.Proofs.YtgpkcakanieodaaDoor.W Go.Proofs.YtgpkcakanieodaaDoor.Re Go.Proofs.YtgpkcakanieodaaDoor.Sk Go.Proofs.YtgpkcakanieodaaDoor.Ch

def e0 : E := ⟨0, [], 0⟩
def hx (e : E) : Nat × Txt := (e.inode.toNat, e.name)
/-- what the law keeps: at each place nothing, or a cell of that place -/
def EsOk (es : List E) : Prop := es.length = 16 ∧ ∀ k (hk : k < es.length), es[k] = e0 ∨ (putOk es[k] = true ∧ es[k].place = k)
theorem EsOk.good {es : List E} (ok : EsOk es) : ∀ x ∈ es.map hx, Sk.Good x := by
  intro x h
  obtain ⟨e, he, rfl⟩ := List.mem_map.mp h
  obtain ⟨k, hk, rfl⟩ := List.mem_iff_getElem.mp he
  rcases ok.2 k hk with h1 | ⟨h1, _⟩
  · rw [h1]; exact zero_good
  · exact (putOk_good h1).2.2.2.2.2
theorem EsOk.len {es : List E} (ok : EsOk es) : (es.map hx).length = 16 := by rw [List.length_map, ok.1]
theorem EsOk.set {es : List E} (ok : EsOk es) {k : Nat} {e : E} (h : e = e0 ∨ (putOk e = true ∧ e.place = k)) : EsOk (es.set k e) := by
  refine ⟨by rw [List.length_set]; exact ok.1, fun j hj => ?_⟩
  rw [List.length_set] at hj
  by_cases hjk : k = j
  · subst hjk
    rw [List.getElem_set_self]; exact h
  · rw [List.getElem_set_ne hjk]; exact ok.2 j hj
theorem EsOk.zero : EsOk (List.replicate 16 e0) := ⟨List.length_replicate, fun k hk => Or.inl (by rw [List.getElem_replicate])⟩
/-- a place has no inode just when nothing is there -/
theorem EsOk.free {es : List E} (ok : EsOk es) {k : Nat} (hk : k < es.length) : es[k].inode = 0 → es[k] = e0 := by
  intro h
  rcases ok.2 k hk with h1 | ⟨h1, _⟩
  · exact h1
  · have := (putOk_good h1).2.2.1; omega
theorem EsOk.taken {es : List E} (ok : EsOk es) {k : Nat} (hk : k < es.length) (h : es[k].inode ≠ 0) : putOk es[k] = true ∧ es[k].place = k ∧ (hx es[k]).1 ≠ 0 ∧ ents k [hx es[k]] = [es[k]] := by
  rcases ok.2 k hk with h1 | ⟨h1, h2⟩
  · rw [h1] at h; exact absurd rfl h
  · have g := putOk_good h1
    have hn : (hx es[k]).1 ≠ 0 := by show es[k].inode.toNat ≠ 0; omega
    refine ⟨h1, h2, hn, ?_⟩
    rw [ents, if_neg hn]
    show [(⟨(k : Nat), es[k].name, ((es[k].inode.toNat : Nat) : Int)⟩ : E)] = _
    rw [← h2, Int.toNat_of_nonneg (by omega)]
theorem haveZ : (z56) = (List.replicate 16 e0).flatMap E.v := by kernel_rfl
/-- writing a cell into the row of sixteen -/
theorem have_put {h h' : Heap} {b k : Nat} {es : List E} {e : E} (r : rd h b = es.flatMap E.v) (hk : k < es.length) (d : Did b h h' (put (rd h b) (0 + k * 3) (E.v e))) : rd h' b = (es.set k e).flatMap E.v := by
  rw [d.rd, r, Nat.zero_add, put_part E.v 3 es (fun x _ => E.len x) k hk e (E.len e)]
theorem have_get {h : Heap} {b k : Nat} {es : List E} (r : rd h b = es.flatMap E.v) (hk : k < es.length) : Cells h (Addr.add ⟨b, 0, none⟩ (k * 3)) (E.v es[k]) := by
  have := Cells.part (cellsAll r) (k * 3) 3
  rw [flat_part E.v 3 _ (fun x _ => E.len x) k hk] at this
  exact this
theorem clrA_blk {hs : List (Nat × Txt)} {k : Int} (hl : hs.length = 16) (g : ∀ x ∈ hs, Sk.Good x) (h0 : 0 ≤ k) (h1 : k < 16) : clrA (blk hs) k = (0, blk (hs.set k.toNat (0, []))) := by
  have bl := blk_length g
  have e1 := blk_set g zero_good (k := k.toNat) (by omega)
  rw [clrA, if_neg (by omega), if_pos ⟨h0, h1⟩]
  exact congrArg _ e1
theorem set_mid {α : Type} (z x : α) (r : List α) (n : Nat) : (List.replicate (n + 1) z ++ r).set n x = List.replicate n z ++ x :: r := by
  rw [List.set_append_left _ _ (by rw [List.length_replicate]; omega), List.replicate_succ', List.set_append_right _ _ (by rw [List.length_replicate]; omega), List.length_replicate, Nat.sub_self, List.set_cons_zero, List.append_assoc]
  rfl
theorem SlotsBack_spec {la ga : Option Addr} {ll lc gl gc : Nat} {cl : List Cl} {ns : List Int} {h : Heap} {K : Value → Heap → Prop} (g : Glo h)
    (L : SlCells h la (cl.flatMap Cl.v)) (hl : cl.length = ll) (hll : ll ≤ 140737488355328) (G : SlCells h ga (ns.map fun n => .int .i64 n)) (hgl : ns.length = gl) (hK : ∀ h', Fr No h h' → K (.bool true) h') : C.bolelaw14_SlotsBack la ll lc ga gl gc h K := by
  have hg := g.lt
  refine bolelaw14_SlotsBack.ok (fixed_spec g fun h2 f2 => ⟨_, rfl, cf rfl ⟨⟨by omega, by omega, by omega, by omega⟩, New.intro fun h3 n3 => New.intro fun h4 n4 => ?_⟩⟩)
  have hs2 := f2.size
  have hs3 := n3.size
  have hs4 := n4.size
  have z3 := zero_block n3
  rw [Z_blk] at z3
  refine ⟨fun i hh => 0 ≤ i ∧ i ≤ ll ∧ Fr No h hh ∧ h3.size < hh.size ∧ ∃ es : List E, EsOk es ∧ Sl hh 1 (some ⟨h2.size, 0, none⟩) 512 512 ((blk (es.map hx)).map bv) (fun x => x = h2.size) ∧ Own hh h3.size ∧ rd hh h3.size = es.flatMap E.v, fun i _ => ((ll : Int) - i).toNat,
    ⟨by omega, by omega, (f2.new n3).new n4, by omega, List.replicate 16 e0, EsOk.zero, z3.fr n4.fr fun _ _ _ x => x, n4.own, n4.rd.trans haveZ⟩, ?_⟩
  rintro i h5 ⟨i0, i1, f5, hs5, es, ok, s5, w5, r5⟩
  refine cd (fun hi => ?_) fun hi => ?_
  · -- one cell more
    have hi' : i.toNat < cl.length := by omega
    obtain ⟨p, rfl, cc⟩ := part_at (SlCells.fr f5 L fun _ _ x => x) Cl.len (by omega) hi'
    refine ⟨⟨i0, hi⟩, os ⟨_, rfl, cc, entry_spec fun h6 e f6 oke => ⟨_, rfl, NewRow.intro rfl (E.one e) rfl fun h8 n8 => ⟨_, rfl, cellsAll n8.rd, ?_⟩⟩⟩⟩
    have hs6 := f6.size
    have hs8 := n8.size
    have f56 := f5.no f6
    have f58 := f56.new n8
    have s8 := (s5.fr f6 fun _ _ _ x => x).fr n8.fr fun _ _ _ x => x
    have w8 := n8.ow (f6.own w5.lt (fun x => x) w5)
    have r8 : rd h8 h3.size = es.flatMap E.v := (n8.at_ (by omega)).trans ((f6.rd w5.lt fun x => x).trans r5)
    obtain ⟨p0, p1, _, _, _, gde⟩ := putOk_good oke
    refine Put_spec (g.no f58) (by omega) s8 fun h9 d9 => ⟨_, rfl, ?_⟩
    obtain ⟨e1, g1⟩ := putA_blk ok.len ok.good oke
    have em : (es.map hx).set e.place.toNat (e.inode.toNat, e.name) = (es.set e.place.toNat e).map hx := by rw [List.map_set]; rfl
    rw [em] at e1 g1
    have ok9 : EsOk (es.set e.place.toNat e) := ok.set (Or.inr ⟨oke, by omega⟩)
    rw [e1] at d9 ⊢
    have s9 := Sl.all s8 (by rw [blk_length g1, blk_length ok.good, ok.len, ok9.len]) d9
    have f9 : Fr No h h9 := Wrote.no f58 (by omega) d9
    have hs9 := d9.fr.size
    have r9e : rd h9 h6.size = E.v e := (d9.fr.rd (by omega) (by omega)).trans n8.rd
    have w9 : Own h9 h3.size := d9.fr.own w8.lt (by omega) w8
    have r9 : rd h9 h3.size = es.flatMap E.v := (d9.fr.rd w8.lt (by omega)).trans r8
    have esl : (es.flatMap E.v).length = 48 := by rw [flat_length E.v 3 _ (fun x _ => E.len x), ok.1]
    refine cf rfl ⟨e.place, rda r9e rfl, _, rfl, cellsAll r9e, ⟨p0, p1⟩, PutRow.add w9 rfl (E.one e) (by rw [r9, esl]; omega) fun h10 d10 => ?_⟩
    have hs10 := d10.size
    have r10 := have_put r9 (show e.place.toNat < es.length by rw [ok.1]; omega) d10
    have s10 := s9.fr d10.fr fun b _ hb e => by omega
    have f10 : Fr No h h10 := f9.did d10 fun x => by omega
    have w10 := d10.own
    have next : ∀ h11 es2, Fr No h h11 → h3.size < h11.size → EsOk es2 → Sl h11 1 (some ⟨h2.size, 0, none⟩) 512 512 ((blk (es2.map hx)).map bv) (fun x => x = h2.size) → Own h11 h3.size → rd h11 h3.size = es2.flatMap E.v →
        (0 ≤ IntKind.wrap .i64 (i + 1) ∧ IntKind.wrap .i64 (i + 1) ≤ ll ∧ Fr No h h11 ∧ h3.size < h11.size ∧ ∃ es : List E, EsOk es ∧ Sl h11 1 (some ⟨h2.size, 0, none⟩) 512 512 ((blk (es.map hx)).map bv) (fun x => x = h2.size) ∧ Own h11 h3.size ∧ rd h11 h3.size = es.flatMap E.v) ∧ ((ll : Int) - IntKind.wrap .i64 (i + 1)).toNat < ((ll : Int) - i).toNat := by
      intro h11 es2 a1 a2 a3 a4 a5 a6
      rw [wrap_i64 (by omega) (by omega)]
      exact ⟨⟨by omega, by omega, a1, a2, es2, a3, a4, a5, a6⟩, falls hi⟩
    refine cd (fun hig => ?_) fun _ => next h10 _ f10 (by omega) ok9 s10 w10 r10
    have hig' : i.toNat < ns.length := by omega
    have G10 := SlCells.fr f10 G fun _ _ x => x
    cases ga with
    | none =>
      have G10 : ns.map (fun n => Value.int .i64 n) = [] := G10
      rw [List.map_eq_nil_iff.mp G10] at hig'
      exact absurd hig' (by simp)
    | some q =>
    refine ⟨⟨i0, hig⟩, os ⟨ns[i.toNat], ?_, mod_spec (by omega) (by omega) ⟨_, rfl, ?_⟩⟩⟩
    · exact Cells.cell (show Cells h10 q _ from G10) (by rw [List.getElem?_map, List.getElem?_eq_getElem hig']; rfl)
    have m0 := Int.emod_nonneg ns[i.toNat] (show (32 : Int) ≠ 0 by omega)
    generalize ns[i.toNat] % 32 = k at m0
    refine cd (fun hk => ?_) fun _ => next h10 _ f10 (by omega) ok9 s10 w10 r10
    refine Clear_spec s10 fun h12 d12 => ⟨_, rfl, ?_⟩
    have ec := clrA_blk ok9.len ok9.good m0 hk
    have em2 : ∀ l : List E, (l.map hx).set k.toNat (0, []) = (l.set k.toNat e0).map hx := fun l => by rw [List.map_set]; rfl
    rw [em2] at ec
    rw [ec] at d12 ⊢
    have ok12 : EsOk ((es.set e.place.toNat e).set k.toNat e0) := ok9.set (Or.inl rfl)
    have s12 := Sl.all s10 (by rw [blk_length ok12.good, blk_length ok9.good, ok9.len, ok12.len]) d12
    have f12 : Fr No h h12 := Wrote.no f10 (by omega) d12
    have hs12 := d12.fr.size
    have w12 : Own h12 h3.size := d12.fr.own w10.lt (by omega) w10
    have r12 := (d12.fr.rd w10.lt (show ¬ h3.size = h2.size by omega)).trans r10
    have esl2 : ((es.set e.place.toNat e).flatMap E.v).length = 48 := by rw [flat_length E.v 3 _ (fun x _ => E.len x), ok9.1]
    refine cf rfl ⟨⟨m0, hk⟩, PutRow.add w12 (cs := E.v e0) rfl (E.one e0) (by rw [r12, esl2]; omega) fun h13 d13 => ?_⟩
    have hs13 := d13.size
    have r13 := have_put r12 (show k.toNat < (es.set e.place.toNat e).length by rw [ok9.1]; omega) d13
    exact next h13 _ (f12.did d13 fun x => by omega) (by omega) ok12 (s12.fr d13.fr fun b _ hb e => by omega) d13.own r13
  · -- the other block
    refine ⟨⟨by omega, by omega, by omega, by omega⟩, New.intro fun h14 n14 => ?_⟩
    have hs14 := n14.size
    have z14 := zero_block n14
    rw [Z_blk] at z14
    have okl := ok.1
    have gl := ok.len
    have gg := ok.good
    generalize hgs : es.map hx = gs at gl gg s5
    have gat : ∀ k (hk : k < es.length), gs[k]'(by omega) = hx es[k] := by intro k hk; subst hgs; rw [List.getElem_map]
    refine ⟨fun lw k hh => -1 ≤ k ∧ k ≤ 15 ∧ Fr No h5 hh ∧ h5.size < hh.size ∧ lw = low (k + 1).toNat (gs.drop (k + 1).toNat) ∧ Sl hh 1 (some ⟨h5.size, 0, none⟩) 512 512 ((blk (List.replicate (k + 1).toNat (0, []) ++ gs.drop (k + 1).toNat)).map bv) (fun x => x = h5.size), fun _ k _ => (k + 1).toNat,
      ⟨by omega, by omega, n14.fr, by omega, ?_, ?_⟩, ?_⟩
    · rw [show ((15 : Int) + 1).toNat = 16 from rfl, List.drop_of_length_le (by omega)]; rfl
    · rw [show ((15 : Int) + 1).toNat = 16 from rfl, List.drop_of_length_le (by omega), List.append_nil]; exact z14
    rintro lw k h15 ⟨k0, k1, f15, hs15, elw, s15⟩
    have r15 : rd h15 h3.size = es.flatMap E.v := (f15.rd w5.lt fun x => x).trans r5
    refine cd (fun hk => ?_) fun hk => ?_
    · have hk' : k.toNat < es.length := by omega
      have ek : (k + 1).toNat = k.toNat + 1 := by omega
      have ed : gs.drop k.toNat = hx es[k.toNat] :: gs.drop (k.toNat + 1) := by rw [List.drop_eq_getElem_cons (show k.toNat < gs.length by omega), gat _ hk']
      rw [ek] at elw s15
      have c15 := have_get r15 hk'
      rw [wrap_i64 (n := k - 1) (by omega) (by omega)]
      refine ⟨⟨by omega, by omega⟩, es[k.toNat].inode, c15 2 _ rfl, ce (fun h0 => ?_) fun h0 => ?_⟩
      · have ez := ok.free hk' h0
        rw [ez] at ed
        refine ⟨⟨by omega, by omega, f15, hs15, ?_, ?_⟩, by show (k - 1 + 1).toNat < (k + 1).toNat; omega⟩
        · rw [show (k - 1 + 1).toNat = k.toNat by omega, ed, low, if_pos (show (hx e0).1 = 0 from rfl)]; omega
        · rw [show (k - 1 + 1).toNat = k.toNat by omega, ed]
          rw [List.replicate_succ', List.append_assoc] at s15
          exact s15
      · obtain ⟨oke, pl, hn, _⟩ := ok.taken hk' h0
        refine ⟨⟨by omega, by omega⟩, _, rfl, c15, ?_⟩
        refine Put_spec (g.no (f5.no f15)) (by omega) s15 fun h16 d16 => ⟨_, rfl, ?_⟩
        have gr : ∀ x ∈ List.replicate (k.toNat + 1) ((0 : Nat), ([] : Txt)) ++ gs.drop (k.toNat + 1), Sk.Good x := by
          intro x hx
          rcases List.mem_append.mp hx with hx | hx
          · rw [List.eq_of_mem_replicate hx]; exact zero_good
          · exact gg x (List.mem_of_mem_drop hx)
        have lr : (List.replicate (k.toNat + 1) ((0 : Nat), ([] : Txt)) ++ gs.drop (k.toNat + 1)).length = 16 := by rw [List.length_append, List.length_replicate, List.length_drop]; omega
        obtain ⟨e1, g1⟩ := putA_blk lr gr oke
        rw [pl, Int.toNat_natCast, set_mid] at e1 g1
        rw [e1] at d16 ⊢
        have s16 := Sl.all s15 (by rw [blk_length g1, blk_length gr, lr, List.length_append, List.length_replicate, List.length_cons, List.length_drop]; omega) d16
        refine cf rfl ⟨⟨by omega, by omega, Wrote.no f15 (Nat.le_refl _) d16, by have := d16.fr.size; omega, ?_, ?_⟩, by show (k - 1 + 1).toNat < (k + 1).toNat; omega⟩
        · rw [show (k - 1 + 1).toNat = k.toNat by omega, ed, low, if_neg hn]; exact elw
        · rw [show (k - 1 + 1).toNat = k.toNat by omega, ed]
          exact s16
    · have ek : (k + 1).toNat = 0 := by omega
      rw [ek, List.drop_zero] at elw s15
      have s15 : Sl h15 1 (some ⟨h5.size, 0, none⟩) 512 512 ((blk gs).map bv) (fun x => x = h5.size) := s15
      refine ⟨fun wa wl wc k2 hh => 0 ≤ k2 ∧ k2 ≤ 16 ∧ Fr No h15 hh ∧ Sl hh 3 wa wl wc ((ents 0 (gs.take k2.toNat)).flatMap E.v) (From h15.size), fun _ _ _ k2 _ => (16 - k2).toNat, ⟨by omega, by omega, Fr.refl _ _, Sl.nil _ _ _⟩, ?_⟩
      rintro wa wl wc k2 h17 ⟨q0, q1, f17, s17⟩
      have r17 : rd h17 h3.size = es.flatMap E.v := (f17.rd (by omega) fun x => x).trans r15
      have tl := ents_len (gs.take k2.toNat) 0
      rw [List.length_take] at tl
      have hwl : (ents 0 (gs.take k2.toNat)).length = wl := by
        have := s17.1
        rw [flat_length E.v 3 _ (fun x _ => E.len x)] at this
        omega
      refine cd (fun hk2 => ?_) fun hk2 => ?_
      · have hk' : k2.toNat < es.length := by omega
        have hkg : k2.toNat < gs.length := by omega
        have c17 := have_get r17 hk'
        have et : ents 0 (gs.take (k2.toNat + 1)) = ents 0 (gs.take k2.toNat) ++ ents k2.toNat [hx es[k2.toNat]] := by
          rw [List.take_succ_eq_append_getElem hkg, ents_append, gat _ hk', List.length_take, Nat.min_eq_left (by omega), Nat.zero_add]
        rw [wrap_i64 (n := k2 + 1) (by omega) (by omega)]
        refine ⟨⟨by omega, by omega⟩, es[k2.toNat].inode, c17 2 _ rfl, cn (fun h0 => ?_) fun h0 => ?_⟩
        · obtain ⟨_, _, _, e1⟩ := ok.taken hk' h0
          rw [e1] at et
          refine ⟨⟨by omega, by omega⟩, _, rfl, c17, rfl, New.intro fun h18 n18 => ⟨_, rfl, cellsAll n18.rd, E.one _, ?_⟩⟩
          have hbytes : (ti30).bytes = 32 := rfl
          refine append_own (elem := ti30) (s17.fr n18.fr fun _ _ _ x => x) rfl rfl (by rw [hbytes]; omega) (by omega) fun a' c' h19 f19 s19 => ⟨⟨by omega, by omega, ?_, ?_⟩, by show (16 - (k2 + 1)).toNat < (16 - k2).toNat; omega⟩
          · exact (f17.new n18).trans f19 fun b hb hF => by have : h15.size ≤ b := hF; omega
          · rw [show (k2 + 1).toNat = k2.toNat + 1 by omega, et, List.flatMap_append]
            refine Sl.mono (s19 : Sl h19 3 a' (wl + 1) c' _ _) fun b hF => ?_
            rcases hF with hF | hF
            · exact hF
            · have := n18.size
              have := f17.size
              show h15.size ≤ b; omega
        · have ez := ok.free hk' h0
          have e1 : ents k2.toNat [hx es[k2.toNat]] = [] := by rw [ez]; rfl
          rw [e1, List.append_nil] at et
          refine ⟨⟨by omega, by omega, f17, ?_⟩, by show (16 - (k2 + 1)).toNat < (16 - k2).toNat; omega⟩
          rw [show (k2 + 1).toNat = k2.toNat + 1 by omega, et]; exact s17
      · rw [List.take_of_length_le (by omega)] at s17 hwl
        have F17 := (f5.no f15).no f17
        have b17 := (s5.fr f15 fun _ _ _ x => x).fr f17 fun _ _ _ x => x
        have o17 := s15.fr f17 fun _ _ _ x => x
        obtain ⟨ea, el⟩ := ans_blk gl gg
        refine Read_spec (g.no F17) b17.str b17.le fun h20 ra rl rc f20 s20 => ⟨_, _, _, _, rfl, ?_⟩
        rw [ea] at s20 ⊢
        have b20 := b17.fr f20 fun _ _ _ x => x
        refine Lowest_spec ((g.no F17).no f20) b20.str b20.le fun h21 f21 => ⟨_, _, rfl, ?_⟩
        rw [el]
        refine ct rfl (ct rfl (ct (by rw [elw]; exact beq_self_eq_true _) ?_))
        have hrl : (ents 0 gs).length = rl := by
          have : ((ents 0 gs).flatMap E.v).length = rl * 3 := s20.1
          rw [flat_length E.v 3 _ (fun x _ => E.len x)] at this
          omega
        have f2021 := f20.no f21
        have le := ents_len gs 0
        refine sameEntries_spec (s20.fr f21 fun _ _ _ x => x).cells hrl ((s17.fr f20 fun _ _ _ x => x).fr f21 fun _ _ _ x => x).cells hwl (by omega) ⟨_, rfl, ?_⟩
        rw [decide_eq_true rfl]
        refine ct rfl (sameBytes_spec (b20.fr f21 fun _ _ _ x => x).str ((o17.fr f20 fun _ _ _ x => x).fr f21 fun _ _ _ x => x).str (by omega) ⟨_, rfl, ?_⟩)
        rw [decide_eq_true rfl]
        exact hK h21 (F17.no f2021)
end Go.Proofs.YtgpkcakanieodaaDoor.Ss
