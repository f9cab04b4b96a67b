/-
  THE LAWS OF bolelaw05: rows of puts, images laid over, images held against one another.
-/
import Derived.Test.YtpleolmalbdpnaaDoorWhH
import Derived.Test.YtpleolmalbdpnaaDoorWqP
namespace Go.Proofs.YtpleolmalbdpnaaDoor.Wc
open Go Go.Proofs Go.Proofs.YtpleolmalbdpnaaDoor.Wx Go.Proofs.YtpleolmalbdpnaaDoor.Hp Go.Proofs.YtpleolmalbdpnaaDoor.W Go.Proofs.YtpleolmalbdpnaaDoor.Ad Go.Proofs.YtpleolmalbdpnaaDoor.Pn

abbrev Pt := Int × UInt8
def ptV (p : Pt) : List Value := [.int .i64 p.1, bv p.2]
theorem pt_at {h : Heap} {a : Option Addr} {ps : List Pt} (P : SlCells h a (ps.flatMap ptV)) {i : Nat} (hi : i < ps.length) : ∃ p, a = some p ∧ Cells h (p.add (i * 2)) (ptV ps[i]) := by
  have hw : ∀ r ∈ ps, (ptV r).length = 2 := fun _ _ => rfl
  have hl := flat_length ptV 2 ps hw
  have hp := flat_part ptV 2 ps hw i hi
  cases a with
  | none =>
    have c : ps.flatMap ptV = [] := P
    rw [c] at hl
    exact absurd hl (by simp; omega)
  | some p =>
    refine ⟨p, rfl, ?_⟩
    have := (Cells.take (Cells.drop P (i * 2)) 2)
    rw [hp] at this
    exact this
theorem rise_len {n : Int} : ∀ (l : Nb) (lo : Int), (l.map (·.1)).Pairwise (· < ·) → (∀ p ∈ l, lo ≤ p.1 ∧ p.1 < n) → (l.length : Int) ≤ n - lo ∨ l = []
  | [], _, _, _ => .inr rfl
  | a :: r, lo, h, hr => by
    left
    have h : (a.1 :: r.map (·.1)).Pairwise (· < ·) := h
    rw [List.pairwise_cons] at h
    have ha := hr a (List.mem_cons_self ..)
    rcases rise_len r (a.1 + 1) h.2 (fun p hp => ⟨by have := h.1 p.1 (List.mem_map.mpr ⟨p, hp, rfl⟩); omega, (hr p (List.mem_cons_of_mem _ hp)).2⟩) with k | k
    · rw [List.length_cons]; omega
    · rw [k]; show ((1 : Nat) : Int) ≤ _; omega
theorem Rise.length {l : Nb} (r : Rise 128 l) : l.length ≤ 30 := by
  rcases rise_len l 98 r.up r.rng with k | k
  · omega
  · rw [k]; exact Nat.zero_le _
theorem Rise.may {l : Nb} (r : Rise 128 l) : mayW l 128 = true := by
  unfold mayW
  have := r.length
  rw [Tm.okGo_of _ 97 r.up fun x hx => by
    obtain ⟨p, hp, rfl⟩ := List.mem_map.mp hx
    have := r.rng p hp
    omega, decide_eq_true (by omega)]; rfl
theorem rows_spec {h : Heap} {a : Option Addr} {c : Nat} {ps : List Pt} {K : Value → Heap → Prop} (P : SlCells h a (ps.flatMap ptV)) (hl : ps.length ≤ 140737488355328)
    (hK : ∀ a' c' h' rs, Fr No h h' → Bl h' (fun b => b < h.size) a' rs → Rise 128 (nb rs) → K (.slice a' rs.length c') h') : C.bolelaw05_rows a ps.length c h K := by
  refine bolelaw05_rows.ok ⟨fun oa ol oc at_ hh => ∃ (k : Nat) (rs : Rs) (F : Nat → Prop), at_ = k ∧ k ≤ 30 ∧ ol = rs.length ∧ rs.length ≤ k ∧ Fr No h hh ∧ Row h.size hh F 2 oa ol oc (rs.flatMap cellsR) ∧ Rise (98 + k) (nb rs) ∧
      (∀ r ∈ rs, StrAt hh r.2.1.a r.2.1.l r.2.2 ∧ ∀ p, r.2.1.a = some p → (h.size ≤ p.block ∧ p.block < hh.size) ∧ ¬ F p.block),
    fun _ _ _ at_ _ => (30 - at_).toNat, ⟨0, [], No, rfl, by decide, rfl, Nat.le_refl _, Fr.refl _ _, Row.nil _ _ _, ⟨List.Pairwise.nil, fun p hp => absurd hp List.not_mem_nil, fun p hp => absurd hp List.not_mem_nil⟩, fun r hr => absurd hr List.not_mem_nil⟩, ?_⟩
  rintro oa ol oc at_ h2 ⟨k, rs, F, ek, hk, rfl, lk, f2, row, ri, ok⟩
  have z2 := f2.size
  refine cd (fun hlt => ?_) fun hlt => ?_
  · have hk' : k < 30 := by omega
    rw [wrap_i64 (n := (ps.length : Int) - 1) (by omega) (by omega)]
    refine ⟨fun oa2 ol2 oc2 i hh => oa2 = oa ∧ ol2 = rs.length ∧ oc2 = oc ∧ -1 ≤ i ∧ i < ps.length ∧ hh = h2, fun _ _ _ i _ => (i + 1).toNat, ⟨rfl, rfl, rfl, by omega, by omega, rfl⟩, ?_⟩
    rintro oa2 ol2 oc2 i h3 ⟨rfl, rfl, rfl, i0, i1, rfl⟩
    refine cd (fun hi => ?_) fun hi => ?_
    · have hi' : i.toNat < ps.length := by omega
      obtain ⟨p, rfl, cc⟩ := pt_at (SlCells.fr f2 P fun _ _ x => x) hi'
      have c0 := cc 0 _ rfl
      have c1 := cc 1 _ rfl
      refine ⟨⟨by omega, i1⟩, os ⟨_, c0, mod_spec (by decide) (by decide) ⟨_, rfl, ce (fun hm => ?_) fun hm => ?_⟩⟩⟩
      · refine ⟨⟨by omega, i1⟩, os ⟨_, c1, block_spec fun a5 c5 h5 f5 s5 => ⟨_, _, _, rfl, rfl, ?_⟩⟩⟩
        rw [wrap_i64 (n := 98 + at_) (by omega) (by omega)]
        have z5 := f5.size
        refine row_app (vs := [.int .i64 (98 + at_), .slice a5 512 c5]) (row.keep f5 fun _ _ x => x) rfl (cellsR_one (98 + at_, ⟨a5, 512, c5⟩, [])) rfl rfl (Nat.le_of_ble_eq_true rfl) (by omega) (by omega) fun a' c' h7 F' f7 g7 row' => ?_
        have z7 := f7.size
        rw [wrap_i64 (n := at_ + 1) (by omega) (by omega)]
        have nF : ∀ q, a5 = some q → h3.size ≤ q.block ∧ q.block < h5.size ∧ ¬ F q.block := fun q e => by
          subst e
          obtain ⟨_, _, g, o, _⟩ := s5
          have g : h3.size ≤ q.block := g
          exact ⟨g, o.lt, fun y => by have := (row.ge _ y).2; omega⟩
        refine ⟨⟨k + 1, rs ++ [(98 + at_, ⟨a5, 512, c5⟩, fill (ps[i.toNat]).2)], F', by omega, by omega, by rw [List.length_append]; rfl, by rw [List.length_append]; show rs.length + 1 ≤ _; omega, (f2.no f5).trans f7 fun x hx y => by have := row.ge x y; omega, ?_, ?_, ?_⟩, by show ((30 : Int) - (at_ + 1)).toNat < ((30 : Int) - at_).toNat; omega⟩
        · rw [List.flatMap_append]; exact row'
        · have e : nb (rs ++ [(98 + at_, ⟨a5, 512, c5⟩, fill (ps[i.toNat]).2)]) = nb rs ++ [(98 + at_, fill (ps[i.toNat]).2)] := List.map_append
          rw [e]
          refine ⟨?_, fun q hq => ?_, fun q hq => ?_⟩
          · rw [List.map_append, List.pairwise_append]
            refine ⟨ri.up, List.pairwise_singleton _ _, fun x hx y hy => ?_⟩
            obtain ⟨q, hq, rfl⟩ := List.mem_map.mp hx
            have hy : y = 98 + at_ := List.mem_singleton.mp hy
            have := ri.rng q hq
            omega
          · rcases List.mem_append.mp hq with hq | hq
            · have := ri.rng q hq; omega
            · rw [List.mem_singleton.mp hq]; show 98 ≤ 98 + at_ ∧ 98 + at_ < 98 + ((k + 1 : Nat) : Int); omega
          · rcases List.mem_append.mp hq with hq | hq
            · exact ri.len q hq
            · rw [List.mem_singleton.mp hq]; exact List.length_replicate
        · intro r hr
          rcases List.mem_append.mp hr with hr | hr
          · obtain ⟨o1, o2⟩ := ok r hr
            refine ⟨StrAt.fr f7 (StrAt.fr f5 o1 fun _ _ x => x) fun q e => (o2 q e).2, fun q e => ?_⟩
            obtain ⟨q1, q2⟩ := o2 q e
            exact ⟨by omega, fun y => (g7 _ y).elim q2 fun w => by omega⟩
          · rw [List.mem_singleton.mp hr]
            refine ⟨StrAt.fr f7 s5.str fun q e => (nF q e).2.2, fun q e => ?_⟩
            obtain ⟨q1, q2, q3⟩ := nF q e
            exact ⟨by omega, fun y => (g7 _ y).elim q3 fun w => by omega⟩
      · rw [wrap_i64 (n := i - 1) (by omega) (by omega)]
        exact ⟨⟨rfl, rfl, rfl, by omega, by omega, rfl⟩, by show (i - 1 + 1).toNat < (i + 1).toNat; omega⟩
    · rw [wrap_i64 (n := at_ + 1) (by omega) (by omega)]
      refine ⟨⟨k + 1, rs, F, by omega, by omega, rfl, by omega, f2, row, ⟨ri.up, fun q hq => by have := ri.rng q hq; omega, ri.len⟩, ok⟩, by show ((30 : Int) - (at_ + 1)).toNat < ((30 : Int) - at_).toNat; omega⟩
  · have e30 : k = 30 := by omega
    subst e30
    refine hK oa oc h2 rs f2 ⟨row.s.cells, fun p e => ?_, fun r hr => ⟨(ok r hr).1, fun p e => ?_⟩⟩ ri
    · subst e
      obtain ⟨_, _, g, o, _⟩ := row.s
      exact ⟨o.lt, fun x => by have x : p.block < h.size := x; have := (row.ge _ g).1; omega⟩
    · have := ((ok r hr).2 p e).1
      exact ⟨this.2, fun x => by have x : p.block < h.size := x; omega⟩
theorem laid_spec {h : Heap} {ia la : Option Addr} {ic lc : Nat} {ls : List (List UInt8)} {rs : Rs} {F : Nat → Prop} {K : Value → Heap → Prop} (I : StrAt h ia (ls.length * 512) ls.flatten) (h5 : ∀ x ∈ ls, x.length = 512) (hls : ls.length ≤ 16384) (B : Bl h F la rs) (ri : Rise ls.length (nb rs)) (hrl : rs.length < 10000)
    (hK : ∀ a c h', Fr No h h' → Sl h' 1 a (ls.length * 512) c ((applyTo ls (nb rs)).flatten.map bv) (From h.size) → K (.slice a (ls.length * 512) c) h') : C.bolelaw05_laid ia (ls.length * 512) ic la rs.length lc h K := by
  refine bolelaw05_laid.ok (New.intro fun h2 n2 => ?_)
  have z2 := n2.size
  have I2 := StrAt.fr n2.fr I fun _ _ x => x
  refine ⟨ls.flatten.map bv, by rw [List.length_map, flat_len ls h5]; omega, I2.2, bv_one _, ?_⟩
  have s2 : Sl h2 1 (some ⟨h.size, 0, none⟩) 0 0 [] (From h.size) := Sl.made n2 rfl (Nat.le_refl _) rfl (Nat.le_refl _) rfl
  refine append_own (elem := ti5) s2 (by rw [List.length_map, flat_len ls h5]; show _ = ls.length * 512 * 1; omega) rfl (by show (0 + ls.length * 512) * 1 ≤ _; omega) (by omega) fun a c h3 f3 s3 => ?_
  have z3 := f3.size
  rw [Nat.zero_add] at s3 ⊢
  have s3 : Sl h3 1 a (ls.length * 512) c (ls.flatten.map bv) (From h.size) := s3.mono fun b x => x.elim id fun q => by show h.size ≤ b; omega
  have F3 : Fr No h h3 := (n2.fr.trans f3 fun b hb x => by have x : h.size ≤ b := x; omega)
  have nl : (nb rs).length = rs.length := List.length_map ..
  refine ⟨fun n hh => 0 ≤ n ∧ n ≤ rs.length ∧ Fr No h hh ∧ Sl hh 1 a (ls.length * 512) c ((applyTo ls ((nb rs).take n.toNat)).flatten.map bv) (From h.size), fun n _ => ((rs.length : Int) - n).toNat, ⟨by omega, by omega, F3, s3⟩, ?_⟩
  rintro n h4 ⟨n0, n1, f4, s4⟩
  refine cd (fun hn => ?_) fun hn => ?_
  · have hn' : n.toNat < rs.length := by omega
    have hn2 : n.toNat < (nb rs).length := by omega
    obtain ⟨p, rfl, cc⟩ := (B.no f4).get hn'
    have c0 := cc 0 _ rfl
    have c1 := cc 1 _ rfl
    have e1 : (nb rs)[n.toNat] = (rs[n.toNat].1, rs[n.toNat].2.2) := nb_get rs hn'
    have hr := ri.rng _ (List.getElem_mem hn2)
    have h5r := ri.len _ (List.getElem_mem hn2)
    rw [e1] at hr h5r
    have hr : 98 ≤ rs[n.toNat].1 ∧ rs[n.toNat].1 < ls.length := hr
    have h5r : rs[n.toNat].2.2.length = 512 := h5r
    refine ⟨⟨n0, hn⟩, os ⟨_, c0, ⟨n0, hn⟩, os ⟨_, c0, ?_⟩⟩⟩
    rw [wrap_i64 (n := 512 * rs[n.toNat].1) (by omega) (by omega), wrap_i64 (by omega) (by omega)]
    have el : (applyTo ls ((nb rs).take n.toNat)).length = ls.length := applyTo_length _ _
    have hap : ∀ x ∈ applyTo ls ((nb rs).take n.toNat), x.length = 512 := apply_len _ _ h5 fun x hx => ri.len x (List.mem_of_mem_take hx)
    cases a with
    | none => exfalso; have := s4.2.1; omega
    | some q =>
    have hle := s4.le
    obtain ⟨y1, _⟩ := B.ok rs[n.toNat] (List.getElem_mem hn')
    have y3 : rs[n.toNat].2.1.l = 512 := by have := y1.1; omega
    have Y := StrAt.fr f4 y1 fun _ _ x => x
    refine ⟨⟨by omega, by omega, by omega⟩, ⟨n0, hn⟩, os ⟨_, _, _, c1, ?_⟩⟩
    rw [y3] at Y ⊢
    have ei : (512 * rs[n.toNat].1).toNat = rs[n.toNat].1.toNat * 512 := by omega
    have ej : (512 * rs[n.toNat].1 + 512).toNat - (512 * rs[n.toNat].1).toNat = 512 := by omega
    rw [ej, ei]
    have e := s4.mk
    obtain ⟨b, o, sp⟩ := q
    have e : sp = none := congrArg Addr.spot e
    subst e
    rw [if_neg (by omega)]
    show CopyP _ (some (Addr.add ⟨b, o, none⟩ (rs[n.toNat].1.toNat * 512))) _ _ _ _
    rw [add_mk]
    obtain ⟨ow, wl⟩ := s4.wr
    have hi : rs[n.toNat].1.toNat < (applyTo ls ((nb rs).take n.toNat)).length := by rw [el]; omega
    have hw : ∀ x ∈ applyTo ls ((nb rs).take n.toNat), (blk x).length = 512 := fun x hx => blk_len (hap x hx)
    have hi0 : rs[n.toNat].1.toNat + 1 ≤ ls.length := by omega
    have hm : (rs[n.toNat].1.toNat + 1) * 512 ≤ ls.length * 512 := Nat.mul_le_mul_right _ hi0
    rw [Nat.add_mul, Nat.one_mul] at hm
    have hj : rs[n.toNat].1.toNat * 512 + (blk rs[n.toNat].2.2).length ≤ ls.length * 512 * 1 := by rw [blk_len h5r, Nat.mul_one]; exact hm
    have hjo : o + rs[n.toNat].1.toNat * 512 + (blk rs[n.toNat].2.2).length ≤ (rd h4 b).length := by omega
    have hb1 : (blk rs[n.toNat].2.2).length = min 512 512 * (ti5).cells := by rw [blk_len h5r]; show 512 = min 512 512 * 1; omega
    refine CopyP.intro (new := blk rs[n.toNat].2.2) hb1 Y.2 (bv_one _) ow hjo fun h' d => ?_
    rw [wrap_i64 (by omega) (by omega)]
    have en : (n + 1).toNat = n.toNat + 1 := by omega
    have gb : h.size ≤ b := s4.2.2.1
    refine ⟨⟨by omega, by omega, f4.did d fun hb => by omega, ?_⟩, falls hn⟩
    rw [en, take_snoc _ _ hn2, apply_snoc, e1, flat_blk]
    show Sl h' 1 (some ⟨b, o, none⟩) (ls.length * 512) c (((applyTo ls ((nb rs).take n.toNat)).set rs[n.toNat].1.toNat rs[n.toNat].2.2).flatMap blk) (From h.size)
    rw [flat_blk] at s4
    rw [← put_part blk 512 _ hw _ hi _ (blk_len h5r)]
    exact s4.putAt hj d
  · have et : (nb rs).take n.toNat = nb rs := List.take_of_length_le (by omega)
    rw [et] at s4
    exact hK a c h4 f4 s4
theorem sameBut_spec {h : Heap} {a b : Option Addr} {c e : Nat} {xs ys : List UInt8} {K : Value → Heap → Prop} (A : StrAt h a 65536 xs) (B : StrAt h b 65536 ys) (hc : 65536 ≤ c) (he : 65536 ≤ e) (h1 : xs.take 1024 = ys.take 1024) (h2 : xs.drop 50176 = ys.drop 50176) (hK : K (.bool true) h) : C.bolelaw05_sameBut a 65536 c b 65536 e h K := by
  refine bolelaw05_sameBut.ok (cn (fun y => absurd rfl y) fun _ => cd (fun y => absurd y (by omega)) fun _ => ?_)
  unfold bolelaw05_sameBut.k1
  have t1 : Int.toNat 1024 = 1024 := rfl
  have t2 : Int.toNat 50176 = 50176 := rfl
  rw [t1, t2, if_neg (by omega), if_neg (by omega)]
  refine ⟨⟨by omega, by omega⟩, _, StrAt.take A (by omega), ⟨by omega, by omega⟩, _, StrAt.take B (by omega), ?_⟩
  rw [toList_mkStr, toList_mkStr, h1, beq_self_eq_true]
  refine ct rfl ⟨⟨by omega, by omega⟩, _, StrAt.drop A 50176, ⟨by omega, by omega⟩, _, StrAt.drop B 50176, ?_⟩
  rw [toList_mkStr, toList_mkStr, h2, beq_self_eq_true]
  exact hK
/-- the same blocks, the log's data aside -/
abbrev Alike (a b : List (List UInt8)) : Prop := Al 128 a b
theorem flat_take {ls : List (List UInt8)} (h : ∀ x ∈ ls, x.length = 512) (n : Nat) : ls.flatten.take (n * 512) = (ls.take n).flatten := by
  induction n generalizing ls with
  | zero => simp
  | succ n ih =>
    cases ls with
    | nil => simp
    | cons a r =>
      have ha := h a (List.mem_cons_self ..)
      rw [List.flatten_cons, List.take_append, List.take_of_length_le (by omega), show (n + 1) * 512 - a.length = n * 512 by omega, ih fun x hx => h x (List.mem_cons_of_mem _ hx)]; rfl
theorem flat_drop {ls : List (List UInt8)} (h : ∀ x ∈ ls, x.length = 512) (n : Nat) : ls.flatten.drop (n * 512) = (ls.drop n).flatten := by
  induction n generalizing ls with
  | zero => simp
  | succ n ih =>
    cases ls with
    | nil => simp
    | cons a r =>
      have ha := h a (List.mem_cons_self ..)
      rw [List.flatten_cons, List.drop_append, List.drop_of_length_le (by omega), List.nil_append, show (n + 1) * 512 - a.length = n * 512 by omega, ih fun x hx => h x (List.mem_cons_of_mem _ hx)]; rfl
theorem Alike.two {a b : List (List UInt8)} (k : Alike a b) : a.flatten.take 1024 = b.flatten.take 1024 ∧ a.flatten.drop 50176 = b.flatten.drop 50176 := by
  obtain ⟨h1, h2, h3, h4, h5⟩ := k
  constructor
  · have := flat_take h3 2
    have w := flat_take h4 2
    rw [show 1024 = 2 * 512 from rfl, this, w]
    congr 1
    apply List.ext_getElem?
    intro i
    rw [List.getElem?_take, List.getElem?_take]
    split
    · exact h5 i (.inl (by omega))
    · rfl
  · rw [show 50176 = 98 * 512 from rfl, flat_drop h3 98, flat_drop h4 98]
    congr 1
    apply List.ext_getElem?
    intro i
    rw [List.getElem?_drop, List.getElem?_drop]
    exact h5 _ (.inr (by omega))
/-- what a commit leaves is alike what is laid over -/
theorem Done.alike {S S' : RD} {l : Nb} {hdr : List UInt8} {w : List (List UInt8)} (d : Done S S' l hdr) (hp : S.pend = []) (c : Clean S) (r : Rise 128 l) (k : Alike S.lasts w) (h5 : ∀ x ∈ S'.lasts, x.length = 512) : Alike S'.lasts (applyTo w l) := by
  obtain ⟨h1, h2, h3, h4, h6⟩ := k
  have hl := r.length
  refine ⟨by rw [d.n, h1], by rw [applyTo_length, h2], h5, apply_len _ _ h4 r.len, fun i hi => ?_⟩
  have o : ∀ x : List UInt8, i ≠ 1 → ∀ p ∈ [((1 : Int), x)], p.1 ≠ i ∧ 0 ≤ p.1 := fun x hi p hp => by rw [List.mem_singleton.mp hp]; simp only; omega
  have lg : ∀ p ∈ logL l, 2 ≤ p.1 ∧ p.1 < 98 := fun p hp => by
    obtain ⟨j, hj, rfl⟩ := List.getElem_of_mem hp
    rw [logL_get]
    rw [logL_length] at hj
    simp only; omega
  have nl : i < 98 → ∀ p ∈ l, p.1 ≠ i ∧ 0 ≤ p.1 := fun hi p hp => by have := r.rng p hp; omega
  rw [d.lasts, hp, List.nil_append]
  by_cases e1 : i = 1
  · subst e1
    rw [applyTo_get (nl (by omega))]
    have : (applyTo (applyTo (applyTo (applyTo S.lasts (logL l)) [(1, hdr)]) l) [(1, Hd.zeros 512)])[1]? = some (Hd.zeros 512) := by
      show ((applyTo _ l).set ((1 : Int)).toNat (Hd.zeros 512))[1]? = _
      refine List.getElem?_set_self ?_
      rw [applyTo_length, applyTo_length, applyTo_length]; omega
    rw [this, ← h6 1 (.inl (by omega))]
    exact c.log.symm
  · rw [applyTo_get (o _ e1)]
    rcases hi with hi | hi
    · rw [applyTo_get (nl (by omega)), applyTo_get (o _ e1), applyTo_get (fun p hp => by have := lg p hp; omega), applyTo_get (nl (by omega))]
      exact h6 i (.inl hi)
    · by_cases hm : ∃ b, ((i : Int), b) ∈ l
      · obtain ⟨b, hb⟩ := hm
        have hu : ∀ c, ((i : Int), c) ∈ l → c = b := fun c hc => by
          obtain ⟨x, hx, ex⟩ := List.getElem_of_mem hb
          obtain ⟨y, hy, ey⟩ := List.getElem_of_mem hc
          have inj : x = y := by
            have p := r.up
            rw [List.pairwise_iff_getElem] at p
            rcases Nat.lt_trichotomy x y with q | q | q
            · have := p x y (by rw [List.length_map]; exact hx) (by rw [List.length_map]; exact hy) q
              rw [List.getElem_map, List.getElem_map, ex, ey] at this
              exact absurd this (by simp)
            · exact q
            · have := p y x (by rw [List.length_map]; exact hy) (by rw [List.length_map]; exact hx) q
              rw [List.getElem_map, List.getElem_map, ex, ey] at this
              exact absurd this (by simp)
          subst inj
          have := ex.symm.trans ey
          exact (congrArg Prod.snd this).symm
        have hi2 : i < 128 := by have := r.rng _ hb; simp only at this; omega
        rw [applyTo_of (by rw [applyTo_length, applyTo_length, h1]; exact hi2) hb hu (fun p hp => by have := r.rng p hp; omega), applyTo_of (by rw [h2]; exact hi2) hb hu (fun p hp => by have := r.rng p hp; omega)]
      · have no : ∀ p ∈ l, p.1 ≠ i ∧ 0 ≤ p.1 := fun p hp => ⟨fun e => hm ⟨p.2, by rw [← e]; exact hp⟩, by have := r.rng p hp; omega⟩
        rw [applyTo_get no, applyTo_get (o _ e1), applyTo_get (fun p hp => by have := lg p hp; omega), applyTo_get no]
        exact h6 i (.inr hi)
end Go.Proofs.YtpleolmalbdpnaaDoor.Wc
