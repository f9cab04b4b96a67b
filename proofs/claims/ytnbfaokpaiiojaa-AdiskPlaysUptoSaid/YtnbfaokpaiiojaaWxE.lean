/-
  What maps, walks along texts, and comparisons of composites come to.
-/
import Derived.Test.YtnbfaokpaiiojaaWxD
import Derived.MapKept
import Derived.Scope
import Derived.Lib.Bytealg
namespace Go.Proofs.Ytnbfaokpaiiojaa.Wx
open Go

theorem key_is {dc : TypeDesc} {x : MKey} (h : keyFit (descSum dc) x = true) : MapKept.IsKey dc (keyV (descSum dc) x) := by
  cases dc <;> cases x <;> simp_all [keyFit, descSum, keyV, MapKept.IsKey]
theorem mkStr_inj {a b : List UInt8} (h : mkStr a = mkStr b) : a = b := by
  have := congrArg (fun s : ByteArray => s.data.toList) h
  simpa [mkStr] using this
theorem key_same {d : D} {x y : MKey} (hx : keyFit d x = true) (hy : keyFit d y = true) : MKey.same x y = true ↔ keyV d x = keyV d y := by
  cases d <;> cases x <;> cases y <;> simp [keyFit, MKey.same, keyV] at *
  · exact ⟨fun h => by rw [h], mkStr_inj⟩
def mfind : MapC → MKey → Nat → Option (Nat × Value)
  | [], _, _ => none
  | (k, v) :: r, x, i => bif MKey.same x k then some (i, v) else mfind r x (i + 1)
theorem mfind_get : ∀ (m : MapC) (x : MKey) (i : Nat), mget m x = (mfind m x i).map (·.2)
  | [], _, _ => rfl
  | (k, v) :: r, x, i => by
    rw [mget, mfind]
    cases MKey.same x k with
    | true => rfl
    | false => exact mfind_get r x (i + 1)
theorem mput_set : ∀ (m : MapC) (x : MKey) (v : Value) (i : Nat), mput m x v = (match mfind m x i with | some (j, _) => m.set (j - i) (x, v) | none => m ++ [(x, v)]) ∧ ∀ j u, mfind m x i = some (j, u) → i ≤ j
  | [], _, _, _ => ⟨rfl, fun _ _ h => by cases h⟩
  | (k, u) :: r, x, v, i => by
    rw [mput, mfind]
    cases hk : MKey.same x k with
    | true => exact ⟨by simp, fun j u h => by simp at h; omega⟩
    | false =>
      obtain ⟨h1, h2⟩ := mput_set r x v (i + 1)
      rw [cond_false, cond_false, h1]
      cases hf : mfind r x (i + 1) with
      | none => exact ⟨rfl, fun j u h => by cases h⟩
      | some p =>
        obtain ⟨j, u'⟩ := p
        have := h2 j u' hf
        refine ⟨?_, fun j' u h => by cases h; omega⟩
        show (k, u) :: r.set (j - (i + 1)) (x, v) = ((k, u) :: r).set (j - i) (x, v)
        rw [show j - i = (j - (i + 1)) + 1 by omega, List.set_cons_succ]
theorem mdel_erase : ∀ (m : MapC) (x : MKey) (i : Nat), mdel m x = (match mfind m x i with | some (j, _) => m.eraseIdx (j - i) | none => m) ∧ ∀ j u, mfind m x i = some (j, u) → i ≤ j
  | [], _, _ => ⟨rfl, fun _ _ h => by cases h⟩
  | (k, u) :: r, x, i => by
    rw [mdel, mfind]
    cases hk : MKey.same x k with
    | true => exact ⟨by simp, fun j u h => by simp at h; omega⟩
    | false =>
      obtain ⟨h1, h2⟩ := mdel_erase r x (i + 1)
      rw [cond_false, cond_false, h1]
      cases hf : mfind r x (i + 1) with
      | none => exact ⟨rfl, fun j u h => by cases h⟩
      | some p =>
        obtain ⟨j, u'⟩ := p
        have := h2 j u' hf
        refine ⟨?_, fun j' u h => by cases h; omega⟩
        show (k, u) :: r.eraseIdx (j - (i + 1)) = ((k, u) :: r).eraseIdx (j - i)
        rw [show j - i = (j - (i + 1)) + 1 by omega, List.eraseIdx_cons_succ]
theorem map_erase {α β : Type} (f : α → β) : ∀ (l : List α) (i : Nat), (l.eraseIdx i).map f = (l.map f).eraseIdx i
  | [], _ => rfl
  | _ :: _, 0 => rfl
  | a :: l, i + 1 => by simp [List.eraseIdx_cons_succ, map_erase f l i]
theorem findNow_m {dc : TypeDesc} {x : MKey} (hx : keyFit (descSum dc) x = true) : ∀ (es : List MapEntry) (m : MapC) (i : Nat), es.map (fun e => (e.key, e.val)) = m.map (fun p => (keyV (descSum dc) p.1, p.2)) → (∀ p ∈ m, keyFit (descSum dc) p.1 = true) →
    Instr.findNow dc (keyV (descSum dc) x) es i = some (mfind m x i)
  | [], [], _, _, _ => rfl
  | [], _ :: _, _, h, _ => by simp at h
  | _ :: _, [], _, h, _ => by simp at h
  | e :: es, (k, v) :: m, i, h, hm => by
    simp only [List.map_cons, List.cons.injEq, Prod.mk.injEq] at h
    obtain ⟨⟨h1, h2⟩, h3⟩ := h
    have hk : keyFit (descSum dc) k = true := hm (k, v) List.mem_cons_self
    obtain ⟨r, hr, hiff⟩ := MapKept.sameNow_of_keys (key_is hx) (key_is hk)
    have hs := key_same hx hk
    rw [Instr.findNow, h1, hr, mfind]
    cases r with
    | true =>
      have : MKey.same x k = true := hs.mpr (hiff.mp rfl)
      rw [this, h2]; rfl
    | false =>
      have : MKey.same x k = false := by
        cases hq : MKey.same x k with
        | false => rfl
        | true => exact absurd (hiff.mpr (hs.mp hq)) Bool.false_ne_true
      rw [this]
      exact findNow_m hx es m (i + 1) h3 fun p hp => hm p (List.mem_cons_of_mem _ hp)
section
variable {P : Program} {t kt et r : Nat} {dc : TypeDesc} {m : MapC} {x : MKey} {w : World}
theorem setObj_mapTo {es : Array MapEntry} {clock : Nat} {es' : Array MapEntry} {clock' : Nat} {m' : MapC} (hb : w.heap[r]? = some (.map es clock)) (h1 : es'.toList.map (fun e => (e.key, e.val)) = m'.map (fun p => (keyV (descSum dc) p.1, p.2))) (h2 : ∀ p ∈ m', keyFit (descSum dc) p.1 = true) (h3 : MapKept.Stamped es' clock') :
    MapTo (descSum dc) w.heap r m' (w.heap.setIfInBounds r (.map es' clock')) :=
  ⟨by simp, fun b hb' => (MapKept.heap_set hb).2 b hb', _, _, (MapKept.heap_set hb).1, h1, h2, h3⟩
theorem mapUpdate_to {v : Value} (hm : P.underlying t = some (.map kt et)) (hd : P.underlying kt = some dc) (hA : MapAt (descSum dc) w.heap r m) (hx : keyFit (descSum dc) x = true) :
    ∃ h', MapTo (descSum dc) w.heap r (mput m x v) h' ∧ (Instr.mapUpdate t (.map (some r)) (keyV (descSum dc) x) v).run P w = .ok () { w with heap := h' } := by
  obtain ⟨es, clock, hb, he, hf, hst⟩ := hA
  have hk := key_is hx
  have h1 := findNow_m hx es.toList m 0 he hf
  obtain ⟨hp, _⟩ := mput_set m x v 0
  have hks : ∀ e ∈ es.toList, MapKept.IsKey dc e.key := fun e hee => by
    have : (e.key, e.val) ∈ es.toList.map (fun e => (e.key, e.val)) := List.mem_map.mpr ⟨e, hee, rfl⟩
    rw [he] at this
    obtain ⟨p, hp, e1⟩ := List.mem_map.mp this
    have e1 : keyV (descSum dc) p.1 = e.key := congrArg Prod.fst e1
    rw [← e1]; exact key_is (hf p hp)
  cases hfi : mfind m x 0 with
  | none =>
    rw [hfi] at h1 hp
    have hne : ∀ x_1 ∈ es.toList, x_1.key ≠ keyV (descSum dc) x := by
      rcases MapKept.findNow_spec hk es.toList 0 hks with ⟨_, g1⟩ | ⟨j', e, g1, g2, g3⟩
      · exact g1
      · rw [h1] at g1; cases g1
    refine ⟨_, setObj_mapTo hb (es' := es.push { key := keyV (descSum dc) x, val := v, born := clock }) (clock' := clock + 1) (by rw [hp, List.map_append, Array.toList_push, List.map_append, he]; rfl) ?_ (MapKept.stamped_push hst hne), ?_⟩
    · intro p hp'
      rw [hp] at hp'
      rcases List.mem_append.mp hp' with h | h
      · exact hf p h
      · rw [List.mem_singleton.mp h]; exact hx
    · simp [Instr.mapUpdate, run_underlying hm, MapKept.run_getObj_map hb, MapKept.run_checkKey hd hk, MapKept.run_findKey hd h1, MapKept.run_setObj_map _ hb, Result.andThen]
  | some q =>
    obtain ⟨j, u⟩ := q
    rw [hfi] at h1 hp
    have hp : mput m x v = m.set j (x, v) := hp
    rcases MapKept.findNow_spec hk es.toList 0 hks with ⟨g1, _⟩ | ⟨j', e, g1, g2, g3⟩
    · rw [h1] at g1; cases g1
    · rw [h1] at g1
      have ej : j = j' := by simp at g1; omega
      subst ej
      have hj : es[j]? = some e := by simpa using g2
      refine ⟨_, setObj_mapTo hb (es' := es.modify j fun e => { e with key := keyV (descSum dc) x, val := v }) (clock' := clock) ?_ ?_ (MapKept.stamped_modify hst j _ (fun _ _ => rfl) fun e' _ h' => by rw [hj] at h'; cases h'; exact g3.symm), ?_⟩
      · rw [hp]
        apply List.ext_getElem?
        intro i
        have hi : (es.toList.map (fun e => (e.key, e.val)))[i]? = (m.map (fun p => (keyV (descSum dc) p.1, p.2)))[i]? := by rw [he]
        rw [List.getElem?_map, List.getElem?_map, Array.getElem?_toList] at hi
        simp only [List.getElem?_map, Array.getElem?_toList, Array.getElem?_modify, List.getElem?_set]
        by_cases hij : j = i
        · subst hij
          have hl : j < m.length := by
            rcases Nat.lt_or_ge j m.length with h | h
            · exact h
            · rw [hj, List.getElem?_eq_none h] at hi; simp at hi
          simp [hj, hl]
        · simp [hij, hi]
      · intro p hp'
        rw [hp] at hp'
        rcases List.mem_or_eq_of_mem_set hp' with h | h
        · exact hf p h
        · rw [h]; exact hx
      · simp [Instr.mapUpdate, run_underlying hm, MapKept.run_getObj_map hb, MapKept.run_checkKey hd hk, MapKept.run_findKey hd h1, hj, g3, MapKept.run_keyThatStays hk, MapKept.run_setObj_map _ hb, Result.andThen]
theorem erase_filter : ∀ (l : List MapEntry) (j : Nat) (e : MapEntry), l[j]? = some e → (l.map (·.key)).Nodup → l.eraseIdx j = l.filter fun a => @decide (a.key ≠ e.key) (Classical.propDecidable _)
  | [], _, _, h, _ => by simp at h
  | a :: l, 0, e, h, nd => by
    have h : a = e := by simpa using h
    subst h
    rw [List.map_cons, List.nodup_cons] at nd
    rw [List.eraseIdx_zero, List.tail_cons, List.filter_cons, if_neg (by simp)]
    refine (List.filter_eq_self.mpr fun b hb => ?_).symm
    exact @decide_eq_true _ (Classical.propDecidable _) fun y => nd.1 (y ▸ List.mem_map.mpr ⟨b, hb, rfl⟩)
  | a :: l, j + 1, e, h, nd => by
    have h : l[j]? = some e := by simpa using h
    rw [List.map_cons, List.nodup_cons] at nd
    have hm : e ∈ l := List.mem_of_getElem? h
    have ha : a.key ≠ e.key := fun y => nd.1 (by rw [y]; exact List.mem_map.mpr ⟨e, hm, rfl⟩)
    rw [List.eraseIdx_cons_succ, erase_filter l j e h nd.2, List.filter_cons, if_pos (@decide_eq_true _ (Classical.propDecidable _) ha)]
theorem delete_to {ty : TypeId} (hm : P.underlying t = some (.map kt et)) (hd : P.underlying kt = some dc) (hA : MapAt (descSum dc) w.heap r m) (hx : keyFit (descSum dc) x = true) (ts : List TypeId) :
    ∃ h', MapDl (descSum dc) w.heap r x (mdel m x) h' ∧ (Builtin.delete_ ⟨t :: ts⟩ ty #[.map (some r), keyV (descSum dc) x]).run P w = .ok (.tuple #[]) { w with heap := h' } := by
  obtain ⟨es, clock, hb, he, hf, hst⟩ := hA
  have hk := key_is hx
  have h1 := findNow_m hx es.toList m 0 he hf
  obtain ⟨hp, _⟩ := mdel_erase m x 0
  have hks : ∀ e ∈ es.toList, MapKept.IsKey dc e.key := fun e hee => by
    have : (e.key, e.val) ∈ es.toList.map (fun e => (e.key, e.val)) := List.mem_map.mpr ⟨e, hee, rfl⟩
    rw [he] at this
    obtain ⟨p, hp, e1⟩ := List.mem_map.mp this
    have e1 : keyV (descSum dc) p.1 = e.key := congrArg Prod.fst e1
    rw [← e1]; exact key_is (hf p hp)
  have hset : ∀ o : Obj, (w.heap.setIfInBounds r o)[r]? = some o := fun o => (MapKept.heap_set hb).1
  cases hfi : mfind m x 0 with
  | none =>
    rw [hfi] at h1 hp
    refine ⟨_, ⟨setObj_mapTo hb (es' := es) (clock' := clock) (by rw [hp]; exact he) (by rw [hp]; exact hf) hst, fun es0 ck0 h0 => ?_⟩, ?_⟩
    · rw [hb] at h0; cases h0
      refine ⟨_, hset _, (List.filter_eq_self.mpr fun b hb' => ?_).symm⟩
      rcases MapKept.findNow_spec hk es.toList 0 hks with ⟨_, g1⟩ | ⟨j', e, g1, _, _⟩
      · exact @decide_eq_true _ (Classical.propDecidable _) (g1 b hb')
      · rw [h1] at g1; cases g1
    simp [Builtin.delete_, run_underlying hm, MapKept.run_getObj_map hb, MapKept.run_checkKey hd hk, MapKept.run_findKey hd h1, MapKept.run_setObj_map _ hb, Result.andThen]
  | some q =>
    obtain ⟨j, u⟩ := q
    rw [hfi] at h1 hp
    have hp : mdel m x = m.eraseIdx j := hp
    have el : (es.eraseIdxIfInBounds j).toList = es.toList.eraseIdx j := by
      unfold Array.eraseIdxIfInBounds
      split
      · simp
      · rw [List.eraseIdx_of_length_le (by simp; omega)]
    refine ⟨_, ⟨setObj_mapTo hb (es' := es.eraseIdxIfInBounds j) (clock' := clock) ?_ ?_ (MapKept.stamped_erase hst j), fun es0 ck0 h0 => ?_⟩, ?_⟩
    rotate_left
    rotate_left
    · rw [hb] at h0; cases h0
      refine ⟨_, hset _, ?_⟩
      rcases MapKept.findNow_spec hk es.toList 0 hks with ⟨g1, _⟩ | ⟨j', e, g1, g2, g3⟩
      · rw [h1] at g1; cases g1
      · rw [h1] at g1
        have ej : j = j' := by simp at g1; omega
        subst ej
        rw [el, erase_filter es.toList j e (by simpa using g2) hst.2.2, g3]
    rotate_left
    · rw [hp, map_erase, ← he, ← map_erase, el]
    · intro p hp'
      rw [hp] at hp'
      exact hf p ((List.eraseIdx_sublist _ _).subset hp')
    · simp [Builtin.delete_, run_underlying hm, MapKept.run_getObj_map hb, MapKept.run_checkKey hd hk, MapKept.run_findKey hd h1, MapKept.run_setObj_map _ hb, Result.andThen]
theorem born_eq : ∀ {l : List MapEntry}, (l.map (·.born)).Nodup → ∀ {x y : MapEntry}, x ∈ l → y ∈ l → x.born = y.born → x = y
  | [], _, _, _, hx, _, _ => by cases hx
  | a :: r, hn, x, y, hx, hy, e => by
    rw [List.map_cons, List.nodup_cons] at hn
    have no : ∀ z, z ∈ r → z.born ≠ a.born := fun z hz e => hn.1 (List.mem_map.mpr ⟨z, hz, e⟩)
    rcases List.mem_cons.mp hx with h1 | h1
    · rcases List.mem_cons.mp hy with h2 | h2
      · rw [h1, h2]
      · exact absurd (by rw [← e, h1]) (no y h2)
    · rcases List.mem_cons.mp hy with h2 | h2
      · exact absurd (by rw [e, h2]) (no x h1)
      · exact born_eq hn.2 h1 h2 e
theorem keys_int {m : MapI} {x : MKey} {es : List MapEntry} (hx : keyFit (descSum (.int .i64)) x = true) (he : es.map (fun e => (e.key, e.val)) = (mI m).map (fun p => (keyV (descSum (.int .i64)) p.1, p.2))) : (∀ e ∈ es, MapKept.IsKey (.int .i64) e.key) ∧ ∀ (j : Nat) (e : MapEntry), es[j]? = some e → ∃ z : Int, e.val = .int .i64 z := by
  constructor
  · intro e hee
    have : (e.key, e.val) ∈ es.map (fun e => (e.key, e.val)) := List.mem_map.mpr ⟨e, hee, rfl⟩
    rw [he] at this
    obtain ⟨p, hp, e1⟩ := List.mem_map.mp this
    obtain ⟨q, _, rfl⟩ := List.mem_map.mp hp
    have e1 : keyV (descSum (.int .i64)) (.i q.1) = e.key := congrArg Prod.fst e1
    rw [← e1]; exact key_is rfl
  · intro j e hj
    have hi : (es.map (fun e => (e.key, e.val)))[j]? = ((mI m).map (fun p => (keyV (descSum (.int .i64)) p.1, p.2)))[j]? := by rw [he]
    rw [List.getElem?_map, hj, mI, List.map_map, List.getElem?_map] at hi
    cases hm : m[j]? with
    | none => rw [hm] at hi; cases hi
    | some p =>
      rw [hm] at hi
      have := (Option.some.inj hi)
      exact ⟨p.2, congrArg Prod.snd this⟩
theorem mapEntry_to {m : MapI} (hm : P.underlying t = some (.map kt et)) (hd : P.underlying kt = some (.int .i64)) (hz : (zeroValue et).run P w = .ok (.int .i64 0) w) (hA : MapAt (.int .i64) w.heap r (mI m)) (hx : keyFit (.int .i64) x = true) :
    ∃ (z s : Int) (h' : Heap), EntTo w.heap r m x z s h' ∧ (Instr.mapEntry t (.map (some r)) (keyV (.int .i64) x)).run P w = .ok (.tuple #[.int .i64 z, .int .i64 s]) { w with heap := h' } := by
  have hA : MapAt (descSum (.int .i64)) w.heap r (mI m) := hA
  have hx : keyFit (descSum (.int .i64)) x = true := hx
  obtain ⟨es, clock, hb, he, hf, hst⟩ := hA
  have hk := key_is hx
  have h1 := findNow_m hx es.toList (mI m) 0 he hf
  obtain ⟨hks, hvs⟩ := keys_int hx he
  have hset : ∀ o : Obj, (w.heap.setIfInBounds r o)[r]? = some o := fun o => (MapKept.heap_set hb).1
  show ∃ (z s : Int) (h' : Heap), EntTo w.heap r m x z s h' ∧ (Instr.mapEntry t (.map (some r)) (keyV (descSum (.int .i64)) x)).run P w = _
  cases hfi : mfind (mI m) x 0 with
  | none =>
    obtain ⟨hp, _⟩ := mput_set (mI m) x (.int .i64 0) 0
    rw [hfi] at h1 hp
    have hne : ∀ y ∈ es.toList, y.key ≠ keyV (descSum (.int .i64)) x := by
      rcases MapKept.findNow_spec hk es.toList 0 hks with ⟨_, g1⟩ | ⟨j', e, g1, g2, g3⟩
      · exact g1
      · rw [h1] at g1; cases g1
    refine ⟨0, clock, _, ⟨setObj_mapTo (dc := .int .i64) (m' := mput (mI m) x (.int .i64 0)) hb (es' := es.push { key := keyV (descSum (.int .i64)) x, val := .int .i64 0, born := clock }) (clock' := clock + 1) (by rw [hp, List.map_append, Array.toList_push, List.map_append, he]; rfl) ?_ (MapKept.stamped_push hst hne), ⟨_, _, _, hset _, by rw [Array.toList_push]; exact List.mem_append_right _ (List.mem_singleton.mpr rfl), rfl, rfl⟩⟩, ?_⟩
    · intro p hp'
      rw [hp] at hp'
      rcases List.mem_append.mp hp' with h | h
      · exact hf p h
      · rw [List.mem_singleton.mp h]; exact hx
    · simp [Instr.mapEntry, run_underlying hm, MapKept.run_getObj_map hb, MapKept.run_checkKey hd hk, MapKept.run_findKey hd h1, hz, MapKept.run_setObj_map _ hb, Result.andThen, goInt]
  | some q =>
    obtain ⟨j, u⟩ := q
    rw [hfi] at h1
    rcases MapKept.findNow_spec hk es.toList 0 hks with ⟨g1, _⟩ | ⟨j', e, g1, g2, g3⟩
    · rw [h1] at g1; cases g1
    · rw [h1] at g1
      have ej : j = j' := by simp at g1; omega
      have eu : u = e.val := by simp at g1; exact g1.2
      subst ej
      have hj : es[j]? = some e := by simpa using g2
      obtain ⟨z, hz'⟩ := hvs j e g2
      obtain ⟨hp, _⟩ := mput_set (mI m) x (.int .i64 z) 0
      rw [hfi] at hp
      have hp : mput (mI m) x (.int .i64 z) = (mI m).set j (x, .int .i64 z) := hp
      refine ⟨z, e.born, _, ⟨setObj_mapTo (dc := .int .i64) (m' := mput (mI m) x (.int .i64 z)) hb (es' := es.modify j fun e => { e with key := keyV (descSum (.int .i64)) x }) (clock' := clock) ?_ ?_ (MapKept.stamped_modify hst j _ (fun _ _ => rfl) fun e' _ h' => by rw [hj] at h'; cases h'; exact g3.symm), ⟨_, _, { e with key := keyV (descSum (.int .i64)) x }, hset _, ?_, rfl, rfl⟩⟩, ?_⟩
      · rw [hp]
        apply List.ext_getElem?
        intro i
        have hi : (es.toList.map (fun e => (e.key, e.val)))[i]? = ((mI m).map (fun p => (keyV (descSum (.int .i64)) p.1, p.2)))[i]? := by rw [he]
        rw [List.getElem?_map, List.getElem?_map, Array.getElem?_toList] at hi
        simp only [List.getElem?_map, Array.getElem?_toList, Array.getElem?_modify, List.getElem?_set]
        by_cases hij : j = i
        · subst hij
          have hl : j < (mI m).length := by
            rcases Nat.lt_or_ge j (mI m).length with h | h
            · exact h
            · rw [hj, List.getElem?_eq_none h] at hi; simp at hi
          simp [hj, hl, hz']
        · simp [hij, hi]
      · intro p hp'
        rw [hp] at hp'
        rcases List.mem_or_eq_of_mem_set hp' with h | h
        · exact hf p h
        · rw [h]; exact hx
      · refine List.mem_of_getElem? (i := j) ?_
        simp [hj]
      · simp [Instr.mapEntry, run_underlying hm, MapKept.run_getObj_map hb, MapKept.run_checkKey hd hk, MapKept.run_findKey hd h1, hj, g3, MapKept.run_keyThatStays hk, MapKept.run_setObj_map _ hb, Result.andThen, eu, hz', goInt]
theorem entryStore_to {m : MapI} {s z : Int} (hA : MapAt (.int .i64) w.heap r (mI m)) (hS : StAt w.heap r x s) (hx : keyFit (.int .i64) x = true) :
    ∃ h', MapTo (.int .i64) w.heap r (mput (mI m) x (.int .i64 z)) h' ∧ (Instr.entryStore t (.map (some r)) (.int .i64 s) (.int .i64 z)).run P w = .ok () { w with heap := h' } := by
  have hA : MapAt (descSum (.int .i64)) w.heap r (mI m) := hA
  have hx : keyFit (descSum (.int .i64)) x = true := hx
  obtain ⟨es, clock, hb, he, hf, hst⟩ := hA
  obtain ⟨es2, ck2, e, hb2, hmem, hborn, hkey⟩ := hS
  rw [hb] at hb2
  cases hb2
  have hk := key_is hx
  have h1 := findNow_m hx es.toList (mI m) 0 he hf
  obtain ⟨hks, _⟩ := keys_int hx he
  obtain ⟨hp, _⟩ := mput_set (mI m) x (.int .i64 z) 0
  cases hfi : mfind (mI m) x 0 with
  | none =>
    rw [hfi] at h1
    rcases MapKept.findNow_spec hk es.toList 0 hks with ⟨_, g1⟩ | ⟨j', e, g1, g2, g3⟩
    · exact absurd hkey (g1 e hmem)
    · rw [h1] at g1; cases g1
  | some q =>
    obtain ⟨j, u⟩ := q
    rw [hfi] at h1 hp
    have hp : mput (mI m) x (.int .i64 z) = (mI m).set j (x, .int .i64 z) := hp
    rcases MapKept.findNow_spec hk es.toList 0 hks with ⟨g1, _⟩ | ⟨j', e', g1, g2, g3⟩
    · rw [h1] at g1; cases g1
    · rw [h1] at g1
      have ej : j = j' := by simp at g1; omega
      subst ej
      have hj : es[j]? = some e' := by simpa using g2
      have hjl : j < es.size := by
        rcases Nat.lt_or_ge j es.size with h | h
        · exact h
        · rw [Array.getElem?_eq_none h] at hj; cases hj
      have hje : es[j] = e' := by rw [Array.getElem?_eq_getElem hjl] at hj; exact Option.some.inj hj
      have key_eq : ∀ {l : List MapEntry}, (l.map (·.key)).Nodup → ∀ {x y : MapEntry}, x ∈ l → y ∈ l → x.key = y.key → x = y := by
        intro l hn x y hx hy e
        induction l with
        | nil => cases hx
        | cons a r ih =>
          rw [List.map_cons, List.nodup_cons] at hn
          have no : ∀ z, z ∈ r → z.key ≠ a.key := fun z hz e => hn.1 (List.mem_map.mpr ⟨z, hz, e⟩)
          rcases List.mem_cons.mp hx with h1 | h1
          · rcases List.mem_cons.mp hy with h2 | h2
            · rw [h1, h2]
            · exact absurd (by rw [← e, h1]) (no y h2)
          · rcases List.mem_cons.mp hy with h2 | h2
            · exact absurd (by rw [e, h2]) (no x h1)
            · exact ih hn.2 h1 h2
      have hee : e = e' := key_eq hst.2.2 hmem (List.mem_of_getElem? g2) (hkey.trans g3.symm)
      subst hee
      have hfind : es.findIdx? (fun a => (a.born : Int) == s) = some j := by
        rw [Array.findIdx?_eq_some_iff_getElem]
        refine ⟨hjl, by rw [hje]; simpa using hborn, fun i hij => ?_⟩
        have hil : i < es.size := by omega
        intro hc
        have hc : (es[i].born : Int) = s := by simpa using hc
        have : es[i] = es[j] := born_eq hst.2.1 (by simp) (by simp) (by rw [hje]; omega)
        have nd : (es.toList.map (·.born)).Nodup := hst.2.1
        have h2 := (List.getElem_inj (xs := es.toList.map (·.born)) (i := i) (j := j) (h₀ := by simp; omega) (h₁ := by simp; omega) nd).mp (by simp [this])
        omega
      refine ⟨_, setObj_mapTo (dc := .int .i64) (m' := mput (mI m) x (.int .i64 z)) hb (es' := es.modify j fun e => { e with val := .int .i64 z }) (clock' := clock) ?_ ?_ (MapKept.stamped_modify hst j _ (fun _ _ => rfl) fun e' _ h' => rfl), ?_⟩
      · rw [hp]
        apply List.ext_getElem?
        intro i
        have hi : (es.toList.map (fun e => (e.key, e.val)))[i]? = ((mI m).map (fun p => (keyV (descSum (.int .i64)) p.1, p.2)))[i]? := by rw [he]
        rw [List.getElem?_map, List.getElem?_map, Array.getElem?_toList] at hi
        simp only [List.getElem?_map, Array.getElem?_toList, Array.getElem?_modify, List.getElem?_set]
        by_cases hij : j = i
        · subst hij
          have hl : j < (mI m).length := by
            rcases Nat.lt_or_ge j (mI m).length with h | h
            · exact h
            · rw [hj, List.getElem?_eq_none h] at hi; simp at hi
          simp [hj, hl, g3]
        · simp [hij, hi]
      · intro p hp'
        rw [hp] at hp'
        rcases List.mem_or_eq_of_mem_set hp' with h | h
        · exact hf p h
        · rw [h]; exact hx
      · simp [Instr.entryStore, MapKept.run_getObj_map hb, asInt, asIntOf, hfind, MapKept.run_setObj_map _ hb, Result.andThen]
theorem lookup_to {q : Option Nat} {z : Value} {ok : Bool} (hm : P.underlying t = some (.map kt et)) (hd : P.underlying kt = some dc) (hz : (zeroValue et).run P w = .ok z w) (hA : match q with | none => m = [] | some r => MapAt (descSum dc) w.heap r m) (hx : keyFit (descSum dc) x = true) :
    (Instr.lookup t (.map q) (keyV (descSum dc) x) ok).run P w = .ok (bif ok then .tuple #[(mget m x).getD z, .bool (mget m x).isSome] else (mget m x).getD z) w := by
  have hk := key_is hx
  cases q with
  | none =>
    have hA : m = [] := hA
    subst hA
    have h1 := findNow_m hx [] [] 0 rfl (fun _ h => by cases h)
    cases ok <;> simp [Instr.lookup, run_underlying hm, MapKept.run_checkKey hd hk, MapKept.run_findKey hd h1, mfind, hz, mget, Result.andThen]
  | some r =>
    obtain ⟨es, clock, hb, he, hf, hst⟩ := hA
    have h1 := findNow_m hx es.toList m 0 he hf
    rw [mfind_get m x 0]
    cases hfi : mfind m x 0 with
    | none =>
      rw [hfi] at h1
      cases ok <;> simp [Instr.lookup, run_underlying hm, MapKept.run_getObj_map hb, MapKept.run_checkKey hd hk, MapKept.run_findKey hd h1, hz, Result.andThen]
    | some p =>
      rw [hfi] at h1
      cases ok <;> simp [Instr.lookup, run_underlying hm, MapKept.run_getObj_map hb, MapKept.run_checkKey hd hk, MapKept.run_findKey hd h1, Result.andThen]
theorem maplen_to {q : Option Nat} {ty : TypeId} (hm : P.underlying t = some (.map kt et)) (hA : match q with | none => m = [] | some r => MapAt (descSum dc) w.heap r m) :
    (Builtin.len_ #[t] ty #[.map q]).run P w = .ok (.int .i64 (m.length : Int)) w := by
  cases q with
  | none =>
    have hA : m = [] := hA
    subst hA
    simp [Builtin.len_, run_underlying hm, goInt]
  | some r =>
    obtain ⟨es, clock, hb, he, hf, hst⟩ := hA
    have hl := congrArg List.length he
    simp only [List.length_map] at hl
    have : es.size = m.length := by rw [← hl]; simp
    simp [Builtin.len_, run_underlying hm, MapKept.run_getObj_map hb, goInt, this]
end
theorem keyX_elim {d : D} {v : Value} {k : MKey → Prop} (h : keyX d v k) : ∃ x, keyFit d x = true ∧ v = keyV d x ∧ k x ∧ d ≠ .other := by
  cases d <;> cases v <;> try exact h.elim
  · rename_i kd kd' n
    simp only [keyX] at h
    cases hk : kindEq kd kd' with
    | false => rw [hk] at h; exact h.elim
    | true =>
      rw [hk] at h
      obtain rfl := kindEq_eq hk
      exact ⟨.i n, rfl, rfl, h, by intro e; cases e⟩
  · rename_i s
    refine ⟨.s s.toList, rfl, ?_, h, by intro e; cases e⟩
    show Value.string s = .string (mkStr s.toList)
    congr 1
    obtain ⟨⟨l⟩⟩ := s
    simp [mkStr]
theorem byteIn_eq : ∀ (l : List UInt8) (c : UInt8), byteIn l c = Lib.indexByte l c
  | [], _ => rfl
  | b :: l, c => by rw [byteIn, Lib.indexByte, byteIn_eq l c]

theorem natOk {P : Program} {g : Nat} {fn : Func} (hf : P.funcs[g]? = some fn) (hn : (fn.name == "runtime.NumGoroutine") = false) (hb : fn.body.isNone = true) (hx : Extern.findNext fn = none) (he : Extern.find fn = some Extern.BytealgIndexByte.indexByte) : NatOk P g := by
  intro s c w
  rw [run_callFunc_extern hf hn hb hx he, Lib.run_indexByteString, byteIn_eq]
  have : s.toList = s.data.toList := by obtain ⟨⟨l⟩⟩ := s; simp
  rw [this]; rfl

/-! Composites, compared cell by cell. -/
theorem pairsOk_app : ∀ (ks : List D) (ls : List D) (xs ys : List Value), pairsOk (ks ++ ls) xs ys = true → pairsOk ks (xs.take ks.length) (ys.take ks.length) = true ∧ pairsOk ls (xs.drop ks.length) (ys.drop ks.length) = true ∧
    cellsEq xs ys = (cellsEq (xs.take ks.length) (ys.take ks.length) && cellsEq (xs.drop ks.length) (ys.drop ks.length))
  | [], ls, xs, ys, h => ⟨rfl, h, by simp [cellsEq]⟩
  | k :: ks, ls, xs, ys, h => by
    cases xs with
    | nil => cases k <;> simp [pairsOk] at h
    | cons x xs =>
      cases ys with
      | nil => cases k <;> cases x <;> simp [pairsOk] at h
      | cons y ys =>
        cases k <;> cases x <;> cases y <;> simp [pairsOk] at h
        · obtain ⟨h1, h2, h3⟩ := pairsOk_app ks ls xs ys h
          exact ⟨by simpa [pairsOk] using h1, by simpa using h2, by simp [cellsEq, h3, Bool.and_assoc]⟩
        · obtain ⟨h1, h2, h3⟩ := pairsOk_app ks ls xs ys h.2
          exact ⟨by simp [pairsOk, h.1.1, h.1.2, h1], by simpa using h2, by simp [cellsEq, h3, Bool.and_assoc]⟩
        · obtain ⟨h1, h2, h3⟩ := pairsOk_app ks ls xs ys h
          exact ⟨by simpa [pairsOk] using h1, by simpa using h2, by simp [cellsEq, h3, Bool.and_assoc]⟩
theorem pairsOk_len : ∀ (ks : List D) (xs ys : List Value), pairsOk ks xs ys = true → xs.length = ks.length ∧ ys.length = ks.length
  | [], xs, ys, h => by cases xs <;> cases ys <;> simp [pairsOk] at *
  | k :: ks, xs, ys, h => by
    cases xs with
    | nil => cases k <;> simp [pairsOk] at h
    | cons x xs =>
      cases ys with
      | nil => cases k <;> cases x <;> simp [pairsOk] at h
      | cons y ys =>
        have : pairsOk ks xs ys = true := by cases k <;> cases x <;> cases y <;> simp [pairsOk] at h <;> first | exact h | exact h.2
        have := pairsOk_len ks xs ys this
        simp; omega
theorem forIn_early {α β : Type} {P : Program} (body : α → β → Sem (ForInStep β)) (b0 bF : β) (p : α → Bool) (w : World) : ∀ l : List α, (∀ a ∈ l, (body a b0).run P w = .ok (if p a then .yield b0 else .done bF) w) →
    (forIn l b0 body).run P w = .ok (if l.all p then b0 else bF) w
  | [], _ => by simp [Sem.run_pure]
  | a :: l, h => by
    have h1 := h a List.mem_cons_self
    rw [List.forIn_cons, Sem.run_bind, h1]
    cases hp : p a with
    | true =>
      simp only [if_true, Result.andThen_ok]
      rw [forIn_early body b0 bF p w l fun x hx => h x (List.mem_cons_of_mem _ hx)]
      simp [hp]
    | false => simp [hp, Sem.run_pure]
/-- what is known of a flat type, at a fuel -/
def FlatLaw (P : Program) (n t : Nat) (ks : List D) : Prop :=
  ∀ (X Y : Array Value) (o o' : Nat), pairsOk ks ((X.toList.drop o).take ks.length) ((Y.toList.drop o').take ks.length) = true →
    ∃ x y, (∀ w, (part t X o).run P w = .ok x w) ∧ (∀ w, (part t Y o').run P w = .ok y w) ∧ ∀ w, (Op.equalIn n t x y).run P w = .ok (cellsEq ((X.toList.drop o).take ks.length) ((Y.toList.drop o').take ks.length)) w
theorem seg_seg (l : List Value) (o i n : Nat) : (l.drop (o + i)).take n = ((l.drop o).drop i).take n := by rw [List.drop_drop]
theorem flatFs_all {P : Program} {n : Nat} {g : Nat → Option (List D)} (hg : ∀ u ks, g u = some ks → FlatLaw P n u ks) (X Y : Array Value) : ∀ (fs : List Field) (off : Nat) (ks : List D), flatFs g fs off = some ks →
    pairsOk ks ((X.toList.drop off).take ks.length) ((Y.toList.drop off).take ks.length) = true →
    (∀ fd ∈ fs, fd.name ≠ "_" ∧ ∃ x y, (∀ w, (part fd.type X fd.offset).run P w = .ok x w) ∧ (∀ w, (part fd.type Y fd.offset).run P w = .ok y w) ∧
      ∀ w, (Op.equalIn n fd.type x y).run P w = .ok (cellsEq ((X.toList.drop fd.offset).take ((g fd.type).getD []).length) ((Y.toList.drop fd.offset).take ((g fd.type).getD []).length)) w) ∧
    (fs.all fun fd => cellsEq ((X.toList.drop fd.offset).take ((g fd.type).getD []).length) ((Y.toList.drop fd.offset).take ((g fd.type).getD []).length)) = cellsEq ((X.toList.drop off).take ks.length) ((Y.toList.drop off).take ks.length)
  | [], off, ks, h, _ => by
    simp only [flatFs, Option.some.injEq] at h
    subst h
    exact ⟨fun fd hfd => absurd hfd List.not_mem_nil, rfl⟩
  | fd :: fs, off, ks, h, hp => by
    rw [flatFs] at h
    cases hn : (fd.name == "_") with
    | true => rw [hn] at h; cases h
    | false =>
    rw [hn, cond_false] at h
    cases ho : Nat.beq fd.offset off with
    | false => rw [ho] at h; cases h
    | true =>
    rw [ho, cond_true] at h
    have ho := Nat.eq_of_beq_eq_true ho
    cases hk : g fd.type with
    | none => rw [hk] at h; cases h
    | some k1 =>
    rw [hk] at h
    have h : (flatFs g fs (off + k1.length)).map (k1 ++ ·) = some ks := h
    cases hr : flatFs g fs (off + k1.length) with
    | none => rw [hr] at h; cases h
    | some k2 =>
    rw [hr] at h
    have h : k1 ++ k2 = ks := Option.some.inj h
    subst h
    obtain ⟨p1, p2, p3⟩ := pairsOk_app k1 k2 _ _ hp
    have hl : k1.length + k2.length = (k1 ++ k2).length := by rw [List.length_append]
    have t1 : ∀ l : List Value, (((l.drop off).take (k1 ++ k2).length).take k1.length) = (l.drop off).take k1.length := fun l => by rw [List.take_take]; congr 1; omega
    have t2 : ∀ l : List Value, (((l.drop off).take (k1 ++ k2).length).drop k1.length) = (l.drop (off + k1.length)).take k2.length := fun l => by rw [List.drop_take, List.drop_drop]; congr 1; omega
    rw [t1, t1] at p1 p3
    rw [t2, t2] at p2 p3
    obtain ⟨q1, q2⟩ := flatFs_all hg X Y fs (off + k1.length) k2 hr p2
    refine ⟨fun x hx => ?_, ?_⟩
    · rcases List.mem_cons.mp hx with rfl | hx
      · refine ⟨beq_eq_false_iff_ne.mp hn, ?_⟩
        have := hg _ _ hk X Y x.offset x.offset (by rw [ho]; exact p1)
        rw [hk]
        exact this
      · exact q1 x hx
    · rw [List.all_cons, q2, p3, hk, ho]; rfl
theorem replicate_all {P : Program} {n e : Nat} {ks : List D} (hg : FlatLaw P n e ks) (X Y : Array Value) : ∀ (len i : Nat),
    pairsOk (List.replicate len ks).flatten ((X.toList.drop (i * ks.length)).take (len * ks.length)) ((Y.toList.drop (i * ks.length)).take (len * ks.length)) = true →
    (∀ j ∈ List.range' i len, ∃ x y, (∀ w, (part e X (j * ks.length)).run P w = .ok x w) ∧ (∀ w, (part e Y (j * ks.length)).run P w = .ok y w) ∧
      ∀ w, (Op.equalIn n e x y).run P w = .ok (cellsEq ((X.toList.drop (j * ks.length)).take ks.length) ((Y.toList.drop (j * ks.length)).take ks.length)) w) ∧
    ((List.range' i len).all fun j => cellsEq ((X.toList.drop (j * ks.length)).take ks.length) ((Y.toList.drop (j * ks.length)).take ks.length)) = cellsEq ((X.toList.drop (i * ks.length)).take (len * ks.length)) ((Y.toList.drop (i * ks.length)).take (len * ks.length))
  | 0, i, _ => ⟨fun j hj => by simp at hj, by simp [cellsEq]⟩
  | len + 1, i, hp => by
    rw [List.replicate_succ, List.flatten_cons] at hp
    obtain ⟨p1, p2, p3⟩ := pairsOk_app ks _ _ _ hp
    have hm : (len + 1) * ks.length = ks.length + len * ks.length := by rw [Nat.add_mul, Nat.one_mul, Nat.add_comm]
    have t1 : ∀ l : List Value, ((l.take ((len + 1) * ks.length)).take ks.length) = l.take ks.length := fun l => by rw [List.take_take]; congr 1; omega
    have t2 : ∀ l : List Value, (((l.drop (i * ks.length)).take ((len + 1) * ks.length)).drop ks.length) = (l.drop ((i + 1) * ks.length)).take (len * ks.length) := fun l => by
      rw [List.drop_take, List.drop_drop, hm, Nat.add_mul, Nat.one_mul]; congr 1; omega
    rw [t1, t1] at p1 p3
    rw [t2, t2] at p2 p3
    obtain ⟨q1, q2⟩ := replicate_all hg X Y len (i + 1) p2
    refine ⟨fun j hj => ?_, ?_⟩
    · rw [List.range'_succ] at hj
      rcases List.mem_cons.mp hj with rfl | hj
      · exact hg X Y _ _ p1
      · exact q1 j hj
    · rw [List.range'_succ, List.all_cons, q2, p3]
theorem one_seg {X : Array Value} {o : Nat} {v : Value} (h : (X.toList.drop o).take 1 = [v]) : X[o]? = some v := by
  have := congrArg (·[0]?) h
  simpa using this
theorem seg1 {ks : List D} {l m : List Value} (h : pairsOk ks l m = true) (hk : ks.length = 1) : ∃ x y, l = [x] ∧ m = [y] := by
  obtain ⟨h1, h2⟩ := pairsOk_len _ _ _ h
  match l, m, h1, h2 with
  | [x], [y], _, _ => exact ⟨x, y, rfl, rfl⟩
  | [], _, h1, _ => simp at h1; omega
  | _ :: _ :: _, _, h1, _ => simp at h1; omega
  | [_], [], _, h2 => simp at h2; omega
  | [_], _ :: _ :: _, _, h2 => simp at h2; omega
theorem part_one {P : Program} {t : Nat} {d : TypeDesc} (hd : P.underlying t = some d) (ha : isAggD (descSum d) = false) {X : Array Value} {o : Nat} {v : Value} (h : X[o]? = some v) (w : World) : (part t X o).run P w = .ok v w := by
  unfold part
  simp only [Sem.run_bind, run_isAgg_ok hd, ha, Result.andThen_ok, Bool.false_eq_true, if_false, h, Sem.run_pure]
theorem part_agg {P : Program} {t : Nat} {d : TypeDesc} {i : TypeInfo} (hd : P.underlying t = some d) (hi : P.info? t = some i) (ha : isAggD (descSum d) = true) (X : Array Value) (o : Nat) (w : World) : (part t X o).run P w = .ok (.agg (X.extract o (o + i.size))) w := by
  unfold part
  simp only [Sem.run_bind, run_isAgg_ok hd, ha, Result.andThen_ok, if_true, run_sizeOf_ok hi, Sem.run_pure]
theorem flat_size {P : Program} {f t : Nat} {ks : List D} (h : flatK P f t = some ks) : ∃ i, P.info? t = some i ∧ i.size = ks.length := by
  cases f with
  | zero => cases h
  | succ f =>
    rw [flatK] at h
    generalize flatD P (flatK P f) t = q at h
    unfold flatZ at h
    cases q with
    | none => cases h
    | some k0 =>
    cases hi : P.info? t with
    | none => rw [hi] at h; cases h
    | some i =>
    rw [hi] at h
    cases hz : Nat.beq i.size k0.length with
    | false => simp only [hz] at h; cases h
    | true =>
    simp only [hz] at h
    have h : k0 = ks := Option.some.inj h
    subst h
    exact ⟨i, rfl, Nat.eq_of_beq_eq_true hz⟩
theorem flat_law {P : Program} : ∀ (f t : Nat) (ks : List D), flatK P f t = some ks → ∀ n, f ≤ n → FlatLaw P n t ks := by
  intro f
  induction f with
  | zero => intro t ks h; cases h
  | succ f ih =>
    intro t ks h n hn X Y o o' hp
    obtain ⟨n, rfl⟩ : ∃ m, n = m + 1 := ⟨n - 1, by omega⟩
    rw [flatK] at h
    generalize hq : flatD P (flatK P f) t = q at h
    unfold flatD at hq
    unfold flatZ at h
    cases q with
    | none => cases h
    | some k0 =>
    cases hi : P.info? t with
    | none => rw [hi] at h; cases h
    | some i =>
    rw [hi] at h
    cases hz : Nat.beq i.size k0.length with
    | false => simp only [hz] at h; cases h
    | true =>
    simp only [hz] at h
    have hz := Nat.eq_of_beq_eq_true hz
    have h : k0 = ks := Option.some.inj h
    subst h
    cases hd : P.underlying t with
    | none => rw [hd] at hq; cases hq
    | some d =>
    rw [hd] at hq
    cases d with
    | int k =>
      have hq : [D.int k] = k0 := Option.some.inj hq
      subst hq
      obtain ⟨x, y, e1, e2⟩ := seg1 hp rfl
      rw [e1, e2] at hp ⊢
      refine ⟨x, y, part_one hd rfl (one_seg e1), part_one hd rfl (one_seg e2), fun w => ?_⟩
      cases x <;> cases y <;> simp [pairsOk] at hp
      obtain ⟨h1, h2⟩ := hp
      obtain rfl := kindEq_eq h1
      obtain rfl := kindEq_eq h2
      simp [Op.equalIn, run_underlying hd, cellsEq, Result.andThen]
    | string =>
      have hq : [D.str] = k0 := Option.some.inj hq
      subst hq
      obtain ⟨x, y, e1, e2⟩ := seg1 hp rfl
      rw [e1, e2] at hp ⊢
      refine ⟨x, y, part_one hd rfl (one_seg e1), part_one hd rfl (one_seg e2), fun w => ?_⟩
      cases x <;> cases y <;> simp [pairsOk] at hp
      rename_i a b
      have : (a == b) = (a.toList == b.toList) := by
        rw [Bool.eq_iff_iff, MapKept.bytes_beq, beq_iff_eq]
        exact ⟨fun h => by rw [h], fun h => by
          have : mkStr a.toList = mkStr b.toList := by rw [h]
          obtain ⟨⟨l⟩⟩ := a
          obtain ⟨⟨m⟩⟩ := b
          simpa [mkStr] using this⟩
      simp [Op.equalIn, run_underlying hd, cellsEq, Result.andThen, this]
    | bool =>
      have hq : [D.bool] = k0 := Option.some.inj hq
      subst hq
      obtain ⟨x, y, e1, e2⟩ := seg1 hp rfl
      rw [e1, e2] at hp ⊢
      refine ⟨x, y, part_one hd rfl (one_seg e1), part_one hd rfl (one_seg e2), fun w => ?_⟩
      cases x <;> cases y <;> simp [pairsOk] at hp
      simp [Op.equalIn, run_underlying hd, cellsEq, Result.andThen]
    | struct fs =>
      have hq : (bif P.stoodInHeld t then none else flatFs (flatK P f) fs.toList 0) = some k0 := hq
      cases hs : P.stoodInHeld t with
      | true => rw [hs] at hq; cases hq
      | false =>
      rw [hs] at hq
      have hq : flatFs (flatK P f) fs.toList 0 = some k0 := hq
      have ex : ∀ (Z : Array Value) (b : Nat), ((Z.extract b (b + i.size)).toList.drop 0).take k0.length = (Z.toList.drop b).take k0.length := fun Z b => by
        rw [List.drop_zero, Array.toList_extract, List.extract_eq_take_drop, List.take_take]
        congr 1; omega
      have hp' : pairsOk k0 (((X.extract o (o + i.size)).toList.drop 0).take k0.length) (((Y.extract o' (o' + i.size)).toList.drop 0).take k0.length) = true := by rw [ex, ex]; exact hp
      obtain ⟨q1, q2⟩ := flatFs_all (n := n) (fun u ks hu => ih u ks hu n (by omega)) _ _ fs.toList 0 k0 hq hp'
      rw [ex, ex] at q2
      refine ⟨_, _, part_agg hd hi rfl X o, part_agg hd hi rfl Y o', fun w => ?_⟩
      rw [Op.equalIn]
      simp only [Sem.run_bind, run_underlying hd, Result.andThen_ok, run_program, hs, Bool.false_eq_true, if_false]
      rw [← Array.forIn_toList, forIn_early _ _ ⟨some false, ()⟩ (fun fd => cellsEq (((X.extract o (o + i.size)).toList.drop fd.offset).take ((flatK P f fd.type).getD []).length) (((Y.extract o' (o' + i.size)).toList.drop fd.offset).take ((flatK P f fd.type).getD []).length)) w]
      · rw [q2]
        cases cellsEq ((X.toList.drop o).take k0.length) ((Y.toList.drop o').take k0.length) <;> simp [Sem.run_pure]
      · intro fd hfd
        obtain ⟨hne, x, y, e1, e2, e3⟩ := q1 fd hfd
        rw [if_pos hne]
        simp only [Sem.run_bind, e1, e2, e3, Result.andThen_ok]
        cases cellsEq (((X.extract o (o + i.size)).toList.drop fd.offset).take ((flatK P f fd.type).getD []).length) (((Y.extract o' (o' + i.size)).toList.drop fd.offset).take ((flatK P f fd.type).getD []).length) <;> simp [Sem.run_pure]
    | array len e =>
      have hq : (flatK P f e).map (fun ks => (List.replicate len ks).flatten) = some k0 := hq
      cases he : flatK P f e with
      | none => rw [he] at hq; cases hq
      | some k1 =>
      rw [he] at hq
      have hq : (List.replicate len k1).flatten = k0 := Option.some.inj hq
      subst hq
      have hL : (List.replicate len k1).flatten.length = len * k1.length := by simp
      obtain ⟨ie, hie, hse⟩ := flat_size he
      have ex : ∀ (Z : Array Value) (b : Nat), ((Z.extract b (b + i.size)).toList.drop (0 * k1.length)).take (len * k1.length) = (Z.toList.drop b).take (List.replicate len k1).flatten.length := fun Z b => by
        rw [Nat.zero_mul, List.drop_zero, Array.toList_extract, List.extract_eq_take_drop, List.take_take]
        congr 1; omega
      have hp' : pairsOk (List.replicate len k1).flatten (((X.extract o (o + i.size)).toList.drop (0 * k1.length)).take (len * k1.length)) (((Y.extract o' (o' + i.size)).toList.drop (0 * k1.length)).take (len * k1.length)) = true := by rw [ex, ex]; exact hp
      obtain ⟨q1, q2⟩ := replicate_all (n := n) (ih e k1 he n (by omega)) _ _ len 0 hp'
      rw [ex, ex] at q2
      refine ⟨_, _, part_agg hd hi rfl X o, part_agg hd hi rfl Y o', fun w => ?_⟩
      rw [Op.equalIn]
      simp only [Sem.run_bind, run_underlying hd, Result.andThen_ok, run_sizeOf_ok hie, hse]
      rw [Std.Legacy.Range.forIn_eq_forIn_range']
      simp only [Std.Legacy.Range.size, Nat.sub_zero, Nat.add_sub_cancel, Nat.div_one]
      rw [forIn_early _ _ ⟨some false, ()⟩ (fun j => cellsEq (((X.extract o (o + i.size)).toList.drop (j * k1.length)).take k1.length) (((Y.extract o' (o' + i.size)).toList.drop (j * k1.length)).take k1.length)) w]
      · rw [q2]
        cases cellsEq ((X.toList.drop o).take (List.replicate len k1).flatten.length) ((Y.toList.drop o').take (List.replicate len k1).flatten.length) <;> simp [Sem.run_pure]
      · intro j hj
        obtain ⟨x, y, e1, e2, e3⟩ := q1 j hj
        simp only [Sem.run_bind, e1, e2, e3, Result.andThen_ok]
        cases cellsEq (((X.extract o (o + i.size)).toList.drop (j * k1.length)).take k1.length) (((Y.extract o' (o' + i.size)).toList.drop (j * k1.length)).take k1.length) <;> simp [Sem.run_pure]
    | _ => cases hq

theorem dsSame_eq : ∀ {a b : List D}, dsSame a b = true → a = b
  | [], [], _ => rfl
  | [], _ :: _, h => by simp [dsSame] at h
  | _ :: _, [], h => by simp [dsSame] at h
  | a :: r, b :: s, h => by
    simp only [dsSame, Bool.and_eq_true] at h
    have h1 : a = b := by
      have := h.1
      cases a <;> cases b <;> simp [dSame] at this <;> first | rfl | (rw [kindEq_eq this])
    rw [h1, dsSame_eq h.2]
theorem agg_equal {P : Program} {t : Nat} {x : TI} (hx : TIok P t x) (hne : x.eq ≠ []) {a b : Array Value} (hp : pairsOk x.eq a.toList b.toList = true) (w : World) :
    (Op.equal t (.agg a) (.agg b)).run P w = .ok (cellsEq a.toList b.toList) w ∧ P.eqGuardType P.depth t = false := by
  have h := hx.eqs
  unfold eqsOk at h
  split at h
  · rename_i he; exact absurd he hne
  rename_i ks hks
  cases hf : flatK P 6 t with
  | none => rw [hf] at h; cases h
  | some l =>
  rw [hf] at h
  simp only [Bool.and_eq_true, Bool.not_eq_true'] at h
  obtain ⟨⟨h1, h2⟩, hu⟩ := h
  have h1 := dsSame_eq h1
  rw [← h1] at hf
  refine ⟨?_, h2⟩
  obtain ⟨i, d, z, hi, hd, hdx, hsz, _, _, _⟩ := hx.get
  obtain ⟨l1, l2⟩ := pairsOk_len _ _ _ hp
  have ta : a.toList.take x.eq.length = a.toList := List.take_of_length_le (by omega)
  have tb : b.toList.take x.eq.length = b.toList := List.take_of_length_le (by omega)
  obtain ⟨i', hi', hs'⟩ := flat_size hf
  have hp0 : pairsOk x.eq ((a.toList.drop 0).take x.eq.length) ((b.toList.drop 0).take x.eq.length) = true := by rw [List.drop_zero, List.drop_zero, ta, tb]; exact hp
  obtain ⟨u, v, e1, e2, e3⟩ := flat_law 6 t _ hf Op.maxDepth (by decide) a b 0 0 hp0
  rw [List.drop_zero, List.drop_zero, ta, tb] at e3
  cases ha : isAggD (descSum d) with
  | true =>
    have g1 := part_agg hd hi' ha a 0 w
    have g2 := part_agg hd hi' ha b 0 w
    rw [e1] at g1
    rw [e2] at g2
    have ea : a.extract 0 (0 + i'.size) = a := by
      apply Array.ext'
      rw [Array.toList_extract, List.extract_eq_take_drop, List.drop_zero, hs']
      exact List.take_of_length_le (by omega)
    have eb : b.extract 0 (0 + i'.size) = b := by
      apply Array.ext'
      rw [Array.toList_extract, List.extract_eq_take_drop, List.drop_zero, hs']
      exact List.take_of_length_le (by omega)
    rw [ea] at g1
    rw [eb] at g2
    have g1 : u = .agg a := by injection g1
    have g2 : v = .agg b := by injection g2
    have := e3 w
    rw [g1, g2] at this
    exact this
  | false =>
    rw [hd] at hu
    cases d <;> simp [isAggD, descSum] at ha hu
end Go.Proofs.Ytnbfaokpaiiojaa.Wx
