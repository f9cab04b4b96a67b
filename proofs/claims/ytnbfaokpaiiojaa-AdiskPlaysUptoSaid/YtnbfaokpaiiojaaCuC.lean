import Derived.Test.YtnbfaokpaiiojaaSpC
import Derived.Test.YtnbfaokpaiiojaaAdL
/-
  A disk that loses its power at a step: the plain law. And rows of acts that are alike.
-/
namespace Go.Proofs.Ytnbfaokpaiiojaa.L3
open Go Go.Proofs Go.Proofs.Ytnbfaokpaiiojaa.Wx Go.Proofs.Ytnbfaokpaiiojaa.Hp Go.Proofs.Ytnbfaokpaiiojaa.W Go.Proofs.Ytnbfaokpaiiojaa.Ad

def again (S : RD) (t : Int × Int × List UInt8) : RD := if t.1 = 2 then S.flush.1 else (S.write t.2.1 t.2.2).1
def replay (S : RD) (ts : List (Int × Int × List UInt8)) : RD := ts.foldl again S
theorem replay_runs {h : Heap} {col : Nat → Nat} {k : Nat} : ∀ {es : List Ent} {ts : List (Int × Int × List UInt8)}, Ents h col k es ts → ∀ S, runs S (es.zip (ts.map (·.2.2))) = replay S ts := by
  intro es
  induction es with
  | nil => intro ts e; cases ts with
    | nil => intro S; rfl
    | cons _ _ => exact e.elim
  | cons x r ih => intro ts e; cases ts with
    | nil => exact e.elim
    | cons t s =>
      intro S
      have e1 : one S (x, t.2.2) = again S t := by rw [one, again, e.1, e.2.1]
      show runs (one S (x, t.2.2)) _ = replay (again S t) s
      rw [e1]; exact ih e.2.2.2.2 _
/-- an act that may be -/
def Fine (N : Int) (t : Int × Int × List UInt8) : Prop := (t.1 = 2 ∧ t.2.2 = []) ∨ (t.1 = 1 ∧ 0 ≤ t.2.1 ∧ t.2.1 < N ∧ t.2.2.length = 512)
theorem Ents.bytes {h : Heap} {col : Nat → Nat} {k : Nat} {es : List Ent} {ts : List (Int × Int × List UInt8)} (e : Ents h col k es ts) : Bytes h es (ts.map (·.2.2)) :=
  ⟨by rw [List.length_map]; exact Ents.length e, fun i h1 h2 => by
    rw [List.getElem_map]
    exact (Ents.at_ e i h1 (by simpa using h2)).2.2.1⟩
theorem Ents.fine {h : Heap} {col : Nat → Nat} {k : Nat} {N : Int} : ∀ {es : List Ent} {ts : List (Int × Int × List UInt8)}, Ents h col k es ts → (∀ t ∈ ts, Fine N t) → faults N es = 0 := by
  intro es
  induction es with
  | nil => intro ts _ _; rfl
  | cons x r ih => intro ts e; cases ts with
    | nil => exact e.elim
    | cons t s =>
      intro f
      have e1 : refusedOf x N = 0 := by
        have hl := e.2.2.1.1
        unfold refusedOf
        rw [e.1, e.2.1]
        rcases f t (List.mem_cons_self ..) with f | ⟨f1, f2, f3, f4⟩
        · rw [if_pos f.1]
        · rw [if_neg (by omega), if_neg (by omega), if_neg (by omega), if_neg (by omega), if_neg (by omega)]
      rw [faults, if_neg (fun y => y e1)]
      exact ih e.2.2.2.2 fun t ht => f t (List.mem_cons_of_mem _ ht)
theorem After_tape {ia : Option Addr} {il ic : Nat} {ibs : List UInt8} {aa : Option Addr} {al ac : Nat} {xs : List Ent} {ts : List (Int × Int × List UInt8)} {ka : Option Addr} {kl kc : Nat} {keep : List Bool} {h : Heap} {cl : Nat → Nat} {b N : Nat} {K : Value → Heap → Prop}
    (B : StrAt h ia il ibs) (hlc : il ≤ ic) (hN1 : 1 ≤ N) (hN2 : N ≤ 16384) (hil : il = N * 512) (R : Tp h b cl aa al ac xs ts) (hg : ∀ t ∈ ts, Fine N t) (hmax : ts.length ≤ 1000000)
    (Kp : SlCells h ka (keep.map .bool)) (hkl : keep.length = kl)
    (hK : ∀ a c h', Fr No h h' → Sl h' 1 a (N * 512) c (((replay (Ad.fresh (chunks ibs)) ts).cut keep).lasts.flatten.map bv) (From h.size) → K (.tuple #[.slice a (N * 512) c, .int .i64 0]) h') :
    C.adisk_After ia il ic aa al ac ka kl kc h K := by
  have e : il / 512 = N := by omega
  have hz : faults (il / 512 : Nat) xs = 0 := by rw [e]; exact Ents.fine R.es hg
  have hlen := Ents.length R.es
  have hnum := R.num
  refine After_spec (es := xs) (ds := ts.map (·.2.2)) B hlc (by omega) R.sl.cells (by omega) (by omega) (Ents.bytes R.es) Kp hkl (fun bad => by omega) (fun _ _ _ x => absurd hz x) fun _ _ _ _ a c h' f s => ?_
  rw [replay_runs R.es, e] at s
  rw [e]
  exact hK a c h' f s
/-- rows of acts that are alike -/
theorem row_part {h : Heap} {pa : Option Addr} {xs : List Ent} {i : Nat} (P : SlCells h pa (xs.flatMap Ent.cells)) (hi : i < xs.length) : ∃ p, pa = some p ∧ Cells h (p.add (i * 3)) (Ent.cells xs[i]) := by
  cases pa with
  | none =>
    have P : xs.flatMap Ent.cells = [] := P
    have := flat_length Ent.cells 3 xs (fun _ _ => rfl)
    rw [P] at this; simp at this; omega
  | some p =>
    have := Cells.part P (i * 3) 3
    rw [flat_part Ent.cells 3 xs (fun _ _ => rfl) _ hi] at this
    exact ⟨p, rfl, this⟩
/-- a row of acts, as it is read -/
structure Rot (h : Heap) (a : Option Addr) (l : Nat) (xs : List Ent) (ts : List (Int × Int × List UInt8)) : Prop where
  cells : SlCells h a (xs.flatMap Ent.cells)
  num : ts.length = l
  len : xs.length = ts.length
  at_ : ∀ i (h1 : i < xs.length) (h2 : i < ts.length), xs[i].kind = ts[i].1 ∧ xs[i].at_ = ts[i].2.1 ∧ StrAt h xs[i].a xs[i].l ts[i].2.2
theorem Tp.rot {h : Heap} {b l c : Nat} {col : Nat → Nat} {a : Option Addr} {xs : List Ent} {ts : List (Int × Int × List UInt8)} (t : Tp h b col a l c xs ts) : Rot h a l xs ts :=
  ⟨t.sl.cells, t.num, Ents.length t.es, fun i h1 h2 => by obtain ⟨x1, x2, x3, _⟩ := Ents.at_ t.es i h1 h2; exact ⟨x1, x2, x3⟩⟩
theorem sameKinds_spec {a b : Option Addr} {l m c c2 : Nat} {xs ys : List Ent} {ts : List (Int × Int × List UInt8)} {h : Heap} {K : Value → Heap → Prop} (A : Rot h a l xs ts) (B : Rot h b m ys ts) (hl : l ≤ 140737488355328) (hK : K (.bool true) h) :
    C.bolelaw03_sameKinds a l c b m c2 h K := by
  have e1 := A.num
  have e2 := B.num
  have e3 := A.len
  have e4 := B.len
  refine bolelaw03_sameKinds.ok (cn (fun x => absurd (show (l : Int) = m by omega) x) fun _ => ?_)
  refine ⟨fun n hh => 0 ≤ n ∧ n ≤ l ∧ hh = h, fun n _ => (l - n).toNat, ⟨by omega, by omega, rfl⟩, ?_⟩
  rintro n _ ⟨n0, n1, rfl⟩
  refine cd (fun hn => ?_) fun _ => hK
  obtain ⟨p, rfl, cp⟩ := row_part A.cells (i := n.toNat) (by omega)
  obtain ⟨q, rfl, cq⟩ := row_part B.cells (i := n.toNat) (by omega)
  obtain ⟨x1, x2, _⟩ := A.at_ n.toNat (by omega) (by omega)
  obtain ⟨y1, y2, _⟩ := B.at_ n.toNat (by omega) (by omega)
  refine ⟨⟨n0, hn⟩, os ⟨_, Cells.cell cp (i := 0) rfl, ⟨n0, by omega⟩, os ⟨_, Cells.cell cq (i := 0) rfl, cn (fun x => absurd (x1.trans y1.symm) x) fun _ => ?_⟩⟩⟩
  refine ⟨⟨n0, hn⟩, os ⟨_, Cells.cell cp (i := 1) rfl, ⟨n0, by omega⟩, os ⟨_, Cells.cell cq (i := 1) rfl, cn (fun x => absurd (x2.trans y2.symm) x) fun _ => ?_⟩⟩⟩
  rw [wrap_i64 (by omega) (by omega)]
  exact ⟨⟨by omega, by omega, rfl⟩, falls hn⟩
theorem sameActs_spec {a b : Option Addr} {l m c c2 : Nat} {xs ys : List Ent} {ts : List (Int × Int × List UInt8)} {h : Heap} {K : Value → Heap → Prop} (A : Rot h a l xs ts) (B : Rot h b m ys ts) (hl : l ≤ 140737488355328) (hK : K (.bool true) h) :
    C.bolelaw03_sameActs a l c b m c2 h K := by
  have e1 := A.num
  have e2 := B.num
  have e3 := A.len
  have e4 := B.len
  refine bolelaw03_sameActs.ok (sameKinds_spec A B hl ⟨_, rfl, cnot (ct rfl ?_)⟩)
  refine ⟨fun n hh => 0 ≤ n ∧ n ≤ l ∧ hh = h, fun n _ => (l - n).toNat, ⟨by omega, by omega, rfl⟩, ?_⟩
  rintro n _ ⟨n0, n1, rfl⟩
  refine cd (fun hn => ?_) fun _ => hK
  obtain ⟨p, rfl, cp⟩ := row_part A.cells (i := n.toNat) (by omega)
  obtain ⟨q, rfl, cq⟩ := row_part B.cells (i := n.toNat) (by omega)
  obtain ⟨_, _, x3⟩ := A.at_ n.toNat (by omega) (by omega)
  obtain ⟨_, _, y3⟩ := B.at_ n.toNat (by omega) (by omega)
  refine ⟨⟨n0, hn⟩, os ⟨_, _, _, Cells.cell cp (i := 2) rfl, _, x3, ⟨n0, by omega⟩, os ⟨_, _, _, Cells.cell cq (i := 2) rfl, _, y3, cnot (ct (beq_self_eq_true _) ?_)⟩⟩⟩
  rw [wrap_i64 (by omega) (by omega)]
  exact ⟨⟨by omega, by omega, rfl⟩, falls hn⟩

/-- what is known of a disk behind i orders, none refused, its power on; N: its blocks -/
structure On3 (ls : List (List UInt8)) (N : Nat) (i : Nat) (S : RD) : Prop where
  calm : Calm S
  num : S.lasts.length = N
  tl : S.tape.length = i
  pl : S.pend.length ≤ i
  w0 : 0 ≤ S.writes
  f0 : 0 ≤ S.flushes
  wf : S.writes + S.flushes = i
  fine : ∀ t ∈ S.tape, Fine N t
  like : Like (replay (Ad.fresh ls) S.tape) S
  rcalm : Calm (replay (Ad.fresh ls) S.tape)
theorem On3.step {ls : List (List UInt8)} {N i : Nat} {S : RD} (c : On3 ls N i S) (hN : 0 < N) (hi : i < 1000000) (o : Ord) : On3 ls N (i + 1) (doOrd S o).1 ∧ (doOrd S o).2 = 0 := by
  have hw := c.w0
  have hf := c.f0
  have hwf := c.wf
  have hnum := c.num
  have htl := c.tl
  have hpl := c.pl
  cases ho : o.flush with
  | true =>
    rw [doOrd_flush ho c.calm.down c.calm.left]
    have er : replay (Ad.fresh ls) (S.tape ++ [(2, 0, [])]) = (replay (Ad.fresh ls) S.tape).flush.1 := by rw [replay, List.foldl_append]; rfl
    refine ⟨⟨⟨c.calm.down, c.calm.left, applyTo_len _ _ c.calm.lw c.calm.pw, fun x hx => by simp [RD.flushed] at hx⟩, ?_, ?_, Nat.zero_le _, hw, ?_, ?_, ?_, ?_, ?_⟩, rfl⟩
    · exact (applyTo_length _ _).trans hnum
    · show (S.tape ++ [_]).length = _
      rw [List.length_append, List.length_singleton, htl]
    · show 0 ≤ IntKind.wrap .i64 (S.flushes + 1)
      rw [wrap_i64 (by omega) (by omega)]; omega
    · show S.writes + IntKind.wrap .i64 (S.flushes + 1) = _
      rw [wrap_i64 (by omega) (by omega)]; omega
    · intro t ht
      rcases List.mem_append.mp ht with ht | ht
      · exact c.fine t ht
      · rw [List.mem_singleton.mp ht]; exact Or.inl ⟨rfl, rfl⟩
    · show Like (replay _ (S.tape ++ [_])) _
      rw [er, c.rcalm.flush]
      exact ⟨by show applyTo _ _ = applyTo _ _; rw [c.like.1, c.like.2], rfl⟩
    · show Calm (replay _ (S.tape ++ [_]))
      rw [er, c.rcalm.flush]
      exact ⟨c.rcalm.down, c.rcalm.left, applyTo_len _ _ c.rcalm.lw c.rcalm.pw, fun x hx => by simp [RD.flushed] at hx⟩
  | false =>
    rw [doOrd_write ho c.calm.down c.calm.left (by omega), hnum]
    have e0 := Int.emod_nonneg o.at_ (show (N : Int) ≠ 0 by omega)
    have e1 := Int.emod_lt_of_pos o.at_ (show (0 : Int) < N by omega)
    have er : replay (Ad.fresh ls) (S.tape ++ [(1, o.at_ % (N : Int), rep o.fill)]) = (replay (Ad.fresh ls) S.tape).putW (o.at_ % (N : Int)) (rep o.fill) := by
      rw [replay, List.foldl_append]
      show again (replay (Ad.fresh ls) S.tape) (1, o.at_ % (N : Int), rep o.fill) = _
      rw [again, if_neg (show ¬ (1 : Int) = 2 by decide)]
      have hl : (replay (Ad.fresh ls) S.tape).lasts.length = N := by rw [c.like.1]; exact hnum
      rw [RD.write, if_neg (by rw [c.rcalm.down]; exact Bool.false_ne_true), if_neg (fun x => x ⟨e0, by rw [hl]; exact e1⟩), if_neg (fun x => x (rep_length _)), RD.step, if_neg (by show ¬ 0 < (replay _ _).left; rw [c.rcalm.left]; omega)]
      rfl
    refine ⟨⟨c.calm.putW _ (rep_length _), hnum, ?_, ?_, ?_, hf, ?_, ?_, ?_, ?_⟩, rfl⟩
    · show (S.tape ++ [_]).length = _
      rw [List.length_append, List.length_singleton, htl]
    · show (S.pend ++ [_]).length ≤ _
      rw [List.length_append, List.length_singleton]; omega
    · show 0 ≤ IntKind.wrap .i64 (S.writes + 1)
      rw [wrap_i64 (by omega) (by omega)]; omega
    · show IntKind.wrap .i64 (S.writes + 1) + S.flushes = _
      rw [wrap_i64 (by omega) (by omega)]; omega
    · intro t ht
      rcases List.mem_append.mp ht with ht | ht
      · exact c.fine t ht
      · rw [List.mem_singleton.mp ht]; exact Or.inr ⟨rfl, e0, e1, rep_length _⟩
    · show Like (replay _ (S.tape ++ [_])) _
      rw [er]
      exact ⟨c.like.1, by show (replay _ _).pend ++ _ = S.pend ++ _; rw [c.like.2]⟩
    · show Calm (replay _ (S.tape ++ [_]))
      rw [er]
      exact c.rcalm.putW _ (rep_length _)
/-- the armed disk: as the other, till its power goes -/
def armed (S : RD) (n : Int) (keep : List Bool) : RD := { S with left := n, keep := keep }
theorem armed_on {S : RD} (hd : S.down = false) (hl : S.left = 0) {n : Int} (hn : 1 < n) (keep : List Bool) (o : Ord) (h0 : 0 < S.lasts.length) :
    doOrd (armed S n keep) o = (armed (doOrd S o).1 (n - 1) keep, 0) := by
  have e0 := Int.emod_nonneg o.at_ (show (S.lasts.length : Int) ≠ 0 by omega)
  have e1 := Int.emod_lt_of_pos o.at_ (show (0 : Int) < S.lasts.length by omega)
  cases ho : o.flush with
  | true =>
    rw [doOrd_flush ho hd hl, doOrd, if_pos ho, RD.flush, if_neg (by show ¬ S.down = true; rw [hd]; exact Bool.false_ne_true), RD.step, if_pos (by show 0 < n; omega), if_neg (by show ¬ n - 1 = 0; omega)]
    rfl
  | false =>
    rw [doOrd_write ho hd hl h0, doOrd, if_neg (by rw [ho]; exact Bool.false_ne_true), RD.write, if_neg (by show ¬ S.down = true; rw [hd]; exact Bool.false_ne_true), if_neg (fun x => x ⟨e0, e1⟩), if_neg (fun x => x (rep_length _)), RD.step, if_pos (by show 0 < n; omega), if_neg (by show ¬ n - 1 = 0; omega)]
    rfl
theorem armed_out {S : RD} (hd : S.down = false) (hl : S.left = 0) (keep : List Bool) (o : Ord) (h0 : 0 < S.lasts.length) :
    doOrd (armed S 1 keep) o = (if o.flush then RD.cut { S with flushes := IntKind.wrap .i64 (S.flushes + 1) } keep else (doOrd S o).1.cut keep, 30) := by
  have e0 := Int.emod_nonneg o.at_ (show (S.lasts.length : Int) ≠ 0 by omega)
  have e1 := Int.emod_lt_of_pos o.at_ (show (0 : Int) < S.lasts.length by omega)
  cases ho : o.flush with
  | true =>
    rw [if_pos rfl, doOrd, if_pos ho, RD.flush, if_neg (by show ¬ S.down = true; rw [hd]; exact Bool.false_ne_true), RD.step, if_pos (by show (0 : Int) < 1; omega), if_pos (by show (1 : Int) - 1 = 0; omega)]
    rfl
  | false =>
    rw [if_neg Bool.false_ne_true, doOrd_write ho hd hl h0, doOrd, if_neg (by rw [ho]; exact Bool.false_ne_true), RD.write, if_neg (by show ¬ S.down = true; rw [hd]; exact Bool.false_ne_true), if_neg (fun x => x ⟨e0, e1⟩), if_neg (fun x => x (rep_length _)), RD.step, if_pos (by show (0 : Int) < 1; omega), if_pos (by show (1 : Int) - 1 = 0; omega)]
    rfl
theorem down_ord {S : RD} (hd : S.down = true) (o : Ord) : doOrd S o = (S, 30) := by
  rw [doOrd]
  split
  · rw [RD.flush, if_pos hd]
  · rw [RD.write, if_pos hd]
end Go.Proofs.Ytnbfaokpaiiojaa.L3
/-
  LAW AdiskCuts, the whole.
-/
namespace Go.Proofs.Ytnbfaokpaiiojaa.L3
open Go Go.Proofs Go.Proofs.Ytnbfaokpaiiojaa.Wx Go.Proofs.Ytnbfaokpaiiojaa.Hp Go.Proofs.Ytnbfaokpaiiojaa.W Go.Proofs.Ytnbfaokpaiiojaa.Ad

/-- two disks and the first image -/
structure Two (h0 : Heap) (n : Int) (q1 q2 ia : Option Addr) (ic : Nat) (h : Heap) (col : Nat → Nat) (S T : RD) : Prop where
  fr : Fr No h0 h
  base : ∀ b, b < h0.size → col b = 0
  D : DiskAt h q1 S col 10
  C : DiskAt h q2 T col 20
  im : Sl h 1 ia (many n * 512) ic ((blocks0 (many n)).flatten.map bv) (On col 1)
theorem Two.keep {h0 : Heap} {n : Int} {q1 q2 ia : Option Addr} {ic : Nat} {h h' : Heap} {col col' : Nat → Nat} {S T : RD} (t : Two h0 n q1 q2 ia ic h col S T) (f : Fr No h h') (g : Ag h.size col col') : Two h0 n q1 q2 ia ic h' col' S T :=
  ⟨t.fr.no f, fun x hx => (g x (Nat.lt_of_lt_of_le hx t.fr.size)).trans (t.base x hx), t.D.keep f g fun _ _ _ x => x, t.C.keep f g fun _ _ _ x => x, t.im.keep f g fun _ _ x => x⟩
theorem Two.d {h0 : Heap} {n : Int} {q1 q2 ia : Option Addr} {ic : Nat} {h h' : Heap} {col col' : Nat → Nat} {S S' T : RD} (t : Two h0 n q1 q2 ia ic h col S T) (f : Fr (Dk col 10) h h') (g : Ag h.size col col') (D' : DiskAt h' q1 S' col' 10) : Two h0 n q1 q2 ia ic h' col' S' T :=
  ⟨t.fr.trans f fun x hx y => by have := t.base x hx; have := y.1; omega, fun x hx => (g x (Nat.lt_of_lt_of_le hx t.fr.size)).trans (t.base x hx), D', t.C.keep f g fun b h1 h2 y => by have := y.2; omega, t.im.keep f g fun b h1 y => by have := y.1; omega⟩
theorem Two.c {h0 : Heap} {n : Int} {q1 q2 ia : Option Addr} {ic : Nat} {h h' : Heap} {col col' : Nat → Nat} {S T T' : RD} (t : Two h0 n q1 q2 ia ic h col S T) (f : Fr (Dk col 20) h h') (g : Ag h.size col col') (C' : DiskAt h' q2 T' col' 20) : Two h0 n q1 q2 ia ic h' col' S T' :=
  ⟨t.fr.trans f fun x hx y => by have := t.base x hx; have := y.1; omega, fun x hx => (g x (Nat.lt_of_lt_of_le hx t.fr.size)).trans (t.base x hx), t.D.keep f g fun b h1 h2 y => by have := y.1; omega, C', t.im.keep f g fun b h1 y => by have := y.1; omega⟩
/-- behind i orders -/
def Ph (ls : List (List UInt8)) (N : Nat) (at_ : Int) (keep : List Bool) (i acts : Int) (S T : RD) : Prop :=
  ∃ j : Nat, On3 ls N j S ∧ acts = j ∧ (j : Int) ≤ i ∧
    ((i < at_ ∧ i = j ∧ T = armed S (at_ - i) keep) ∨
     (at_ ≤ i ∧ T.down = true ∧ T.lasts = (S.cut keep).lasts ∧ T.tape = S.tape ∧ T.pend = [] ∧ T.writes + T.flushes = at_))
theorem cut_len (S : RD) (keep : List Bool) : (S.cut keep).lasts.length = S.lasts.length := applyTo_length _ _
theorem cut_flushes (S : RD) (x : Int) (keep : List Bool) : (RD.cut { S with flushes := x } keep).lasts = (S.cut keep).lasts := rfl

section
variable {n : Int} {q1 q2 ia ka pa aa : Option Addr} {ic kl kc pl al ac L : Nat} {h0 h : Heap} {col : Nat → Nat} {S T : RD} {os : List Ord} {keep : List Bool} {at_ at1 acts i : Int} {K : Value → Heap → Prop}

theorem cuts5 {cl : Nat → Nat} {b : Nat} {xs : List Ent} (hat : 1 + at1 = at_) (hat1 : 0 ≤ at1) (hat2 : at1 ≤ 100) (hL : L ≤ 60) (Kp : SlCells h0 ka (keep.map .bool)) (hkl : keep.length = kl)
    (W : Two h0 n q1 q2 ia ic h col S T) {j : Nat} (O : On3 (blocks0 (many n)) (many n) j S) (hj : j ≤ 60) (R : Tp h b cl aa al ac xs S.tape)
    (hT : T.lasts = (S.cut keep).lasts) (hs : T.writes + T.flushes = if at_ < L then at_ else L) (hK : ∀ h', Fr No h0 h' → K (.bool true) h') :
    bolelaw03_AdiskCuts.k5 ka kl kc ia (many n * 512) ic q2 L at1 aa al ac h K := by
  have hm0 := Int.emod_nonneg n (show (9 : Int) ≠ 0 by decide)
  have hm1 := Int.emod_lt_of_pos n (show (0 : Int) < 9 by decide)
  have hN : 1 ≤ many n ∧ many n ≤ 9 := by unfold many; omega
  have htl := O.tl
  have hnum := O.num
  refine After_tape W.im.str W.im.le hN.1 (by omega) rfl R O.fine (by omega) (SlCells.fr W.fr Kp fun _ _ x => x) hkl fun a1 c1 h1 f1 s1 => ⟨_, _, _, _, rfl, ?_⟩
  rw [chunks_of _ (blocks0_len _)] at s1
  have W1 := W.keep f1 (Ag.refl _ _)
  refine Ad.Steps_spec W1.C ⟨_, _, rfl, ?_⟩
  have e1 : IntKind.wrap .i64 (1 + at1) = at_ := by rw [wrap_i64 (by omega) (by omega)]; exact hat
  have e2 : IntKind.wrap .i64 (T.writes + T.flushes) = if at_ < L then at_ else L := by rw [hs]; split <;> rw [wrap_i64 (by omega) (by omega)]
  have same : ((replay (Ad.fresh (blocks0 (many n))) S.tape).cut keep).lasts = T.lasts := by
    rw [hT]
    show applyTo _ (chosen _ keep) = applyTo _ (chosen _ keep)
    rw [O.like.1, O.like.2]
  have go : ∀ steps : Int, steps = (if at_ < L then at_ else L) → bolelaw03_AdiskCuts.k6 q2 a1 (many n * 512) 0 h1 T.writes T.flushes steps K := by
    intro steps hst
    refine ct rfl ⟨_, s1.str, Ad.Image_spec W1.C fun a3 c3 h3 f3 s3 => ⟨_, _, _, rfl, ?_, _, s3.str, ct ?_ ?_⟩⟩
    · rw [toList_mkStr]; exact StrAt.fr f3 s1.str fun _ _ x => x
    · rw [same]; exact beq_self_eq_true _
    · rw [e2, hst, beq_self_eq_true]; exact hK h3 (W1.fr.no f3)
  rw [e1]
  exact cd (fun hlt => go at_ (by rw [if_pos hlt])) fun hlt => go (L : Int) (by rw [if_neg hlt])

theorem cuts4 (hat : 1 + at1 = at_) (hat1 : 0 ≤ at1) (hat2 : at1 ≤ 100) (hL : L ≤ 60) (Kp : SlCells h0 ka (keep.map .bool)) (hkl : keep.length = kl) (hkm : kl ≤ 140737488355328)
    (W : Two h0 n q1 q2 ia ic h col S T) (P : Ph (blocks0 (many n)) (many n) at_ keep L acts S T) (hK : ∀ h', Fr No h0 h' → K (.bool true) h') :
    C.adisk_Disk_Tape q1 0 h fun r9 h14 =>
    ∃ (sA3 : Option Addr) (sL3 : Nat) (sC3 : Nat), r9 = .slice sA3 sL3 sC3 ∧
    C.adisk_Disk_Tape q2 0 h14 fun r10 h15 =>
    ∃ (sA4 : Option Addr) (sL4 : Nat) (sC4 : Nat), r10 = .slice sA4 sL4 sC4 ∧
    bif ((sL3 : Int) != acts) then (
    K (.bool false) h15) else (
    C.bolelaw03_sameActs sA3 sL3 sC3 sA4 sL4 sC4 h15 fun r11 h16 =>
    ∃ (b3 : Bool), r11 = .bool b3 ∧
    bif (!b3) then (
    K (.bool false) h16) else (
    bolelaw03_AdiskCuts.k4 ka kl kc ia (many n * 512) ic q2 L at1 sA3 sL3 sC3 h16 K)) := by
  obtain ⟨j, O, ha, hj, hP⟩ := P
  have htl := O.tl
  have htape : T.tape = S.tape := by
    rcases hP with ⟨_, _, e⟩ | ⟨_, _, _, e, _⟩
    · rw [e]; rfl
    · exact e
  have hw : ∀ x ∈ S.tape, x.2.2.length ≤ 140737488355328 := fun x hx => by
    rcases O.fine x hx with h | h
    · rw [h.2]; exact Nat.zero_le _
    · have := h.2.2.2; omega
  refine Tape_spec W.D (by omega) hw fun a1 l1 c1 h1 cl1 xs1 f1 R1 => ⟨_, _, _, rfl, ?_⟩
  have g1 : Ag h.size col (upd col h.size 40) := ag_upd _ _ _
  have W1 := W.keep f1 g1
  refine Tape_spec W1.C (by rw [htape]; omega) (by rw [htape]; exact hw) fun a2 l2 c2 h2 cl2 xs2 f2 R2 => ⟨_, _, _, rfl, ?_⟩
  have z0 : (0 : Int).toNat = 0 := rfl
  rw [z0, List.drop_zero] at R1 R2
  rw [htape] at R2
  have R1b := R1.keep f1.size f2 (Ag.refl _ _) fun _ _ x => x
  have W2 := W1.keep f2 (Ag.refl _ _)
  have hn1 := R1.num
  refine cn (fun x => absurd (show (l1 : Int) = acts by omega) x) fun _ => sameActs_spec (Tp.rot R1b) (Tp.rot R2) (by omega) ⟨_, rfl, cnot (ct rfl ?_)⟩
  have e1 : IntKind.wrap .i64 (1 + at1) = at_ := by rw [wrap_i64 (by omega) (by omega)]; exact hat
  refine cd (fun hgt => ?_) fun hgt => ?_
  · rw [e1] at hgt
    rcases hP with ⟨p1, p2, rfl⟩ | ⟨p1, _⟩
    rotate_left
    · exact absurd p1 (by omega)
    refine Ad.Down_spec W2.C ⟨_, rfl, cf O.calm.down (Crash_spec W2.C hkl (SlCells.fr W2.fr Kp fun _ _ x => x) (fun p hp hne x => ?_) fun h3 f3 C3 => ⟨rfl, ?_⟩)⟩
    · cases keep with
      | nil => exact hne rfl
      | cons k r =>
        subst hp
        have := (cellOf_some (Kp 0 (.bool k) rfl)).2
        have hb : (p.add 0).block = p.block := by rw [Addr.add_zero]
        rw [hb] at this
        have := W2.base _ (rd_lt this)
        omega
    · have hd : (armed S (at_ - L) keep).down = false := O.calm.down
      rw [hd] at C3
      have R3 := R1b.keep (Nat.le_trans f1.size f2.size) f3 (Ag.refl _ _) fun x hx y => by
        have hge := R1b.from_ hx
        have y1 : 20 ≤ upd col h.size 40 x := y.1
        have y2 : upd col h.size 40 x ≤ 25 := y.2
        rw [upd_ge hge] at y1 y2; omega
      exact cuts5 hat hat1 hat2 hL Kp hkl (W2.c f3 (Ag.refl _ _) C3) O (by omega) R3 rfl (by show S.writes + S.flushes = _; rw [O.wf, if_neg (by omega)]; omega) hK
  · rw [e1] at hgt
    rcases hP with ⟨p1, p2, rfl⟩ | ⟨p1, p2, p3, p4, p5, p6⟩
    · exact absurd p1 (by omega)
    · exact cuts5 hat hat1 hat2 hL Kp hkl W2 O (by omega) R1b p3 (by rw [p6]; split <;> omega) hK
end
end Go.Proofs.Ytnbfaokpaiiojaa.L3
/-
  LAW AdiskCuts, the whole.
-/
namespace Go.Proofs.Ytnbfaokpaiiojaa.L3
open Go Go.Proofs Go.Proofs.Ytnbfaokpaiiojaa.Wx Go.Proofs.Ytnbfaokpaiiojaa.Hp Go.Proofs.Ytnbfaokpaiiojaa.W Go.Proofs.Ytnbfaokpaiiojaa.Ad

theorem ord_one (o : Ord) : ∀ v ∈ o.cells, v.oneCell' = true := by
  intro v hv; simp only [Ord.cells, List.mem_cons, List.not_mem_nil, or_false] at hv; rcases hv with rfl | rfl | rfl <;> rfl
theorem cuts2 {n : Int} {q1 q2 ia ka pa : Option Addr} {ic kl kc pc L : Nat} {h0 h : Heap} {col : Nat → Nat} {os : List Ord} {keep : List Bool} {at0 : Int} {K : Value → Heap → Prop}
    (hL : L ≤ 60) (hLo : L ≤ os.length) (P : SlCells h0 pa (os.flatMap Ord.cells)) (Kp : SlCells h0 ka (keep.map .bool)) (hkl : keep.length = kl) (hkm : kl ≤ 140737488355328)
    (W : Two h0 n q1 q2 ia ic h col (Ad.fresh (blocks0 (many n))) (Ad.fresh (blocks0 (many n)))) (hK : ∀ h', Fr No h0 h' → K (.bool true) h') :
    bolelaw03_AdiskCuts.k2 at0 ka kl kc q1 ia (many n * 512) ic h q2 pa L pc K := by
  have hm0 := Int.emod_nonneg n (show (9 : Int) ≠ 0 by decide)
  have hm1 := Int.emod_lt_of_pos n (show (0 : Int) < 9 by decide)
  have hN : 1 ≤ many n ∧ many n ≤ 9 := by unfold many; omega
  have hbn : (blocks0 (many n)).length = many n := by rw [blocks0, List.length_map, List.length_range]
  unfold bolelaw03_AdiskCuts.k2
  have w3 : IntKind.wrap .i64 ((L : Int) + 3) = (L : Int) + 3 := wrap_i64 (by omega) (by omega)
  rw [w3]
  have a0 := Int.emod_nonneg at0 (show ((L : Int) + 3) ≠ 0 by omega)
  have a1 := Int.emod_lt_of_pos at0 (show (0 : Int) < (L : Int) + 3 by omega)
  refine mod_spec (by omega) (by omega) ⟨_, rfl, ?_⟩
  have w1 : IntKind.wrap .i64 (1 + at0 % ((L : Int) + 3)) = 1 + at0 % ((L : Int) + 3) := wrap_i64 (by omega) (by omega)
  rw [w1]
  refine Arm_spec W.C (by omega) hkl (SlCells.fr W.fr Kp fun _ _ x => x) hkm fun h5 col5 f5 g5 C5 => ⟨_, rfl, cn (fun x => absurd rfl x) fun _ => ?_⟩
  have eA : ((Ad.fresh (blocks0 (many n))).arm (1 + at0 % ((L : Int) + 3)) keep).1 = armed (Ad.fresh (blocks0 (many n))) (1 + at0 % ((L : Int) + 3)) keep := by
    rw [RD.arm, if_neg (show ¬ (Ad.fresh (blocks0 (many n))).down = true from Bool.false_ne_true), if_neg (by omega)]; rfl
  rw [eA] at C5
  have W5 := W.c f5 g5 C5
  generalize hat : 1 + at0 % ((L : Int) + 3) = at_ at W5 ⊢
  have O5 : On3 (blocks0 (many n)) (many n) 0 (Ad.fresh (blocks0 (many n))) :=
    ⟨Calm.fresh (blocks0_len _), hbn, rfl, Nat.le_refl _, Int.le_refl _, Int.le_refl _, rfl, fun _ h => absurd h List.not_mem_nil, ⟨rfl, rfl⟩, Calm.fresh (blocks0_len _)⟩
  refine ⟨fun acts i hh => 0 ≤ i ∧ i ≤ L ∧ ∃ S T col, Two h0 n q1 q2 ia ic hh col S T ∧ Ph (blocks0 (many n)) (many n) at_ keep i acts S T, fun _ i _ => ((L : Nat) - i).toNat,
    ⟨by omega, by omega, _, _, col5, W5, 0, O5, rfl, by omega, Or.inl ⟨by omega, rfl, by rw [Int.sub_zero]⟩⟩, ?_⟩
  rintro acts i h6 ⟨i0, i1, S, T, col6, W6, Q6⟩
  refine cd (fun hi => ?_) fun hi => ?_
  rotate_left
  · have e : i = L := by omega
    rw [e] at Q6
    exact cuts4 hat a0 (by omega) hL Kp hkl hkm W6 Q6 hK
  have hi' : i.toNat < os.length := by omega
  obtain ⟨p, rfl, hc⟩ := ord_part (pl := L) (SlCells.fr W6.fr P fun _ _ x => x) hi'
  refine ⟨⟨i0, hi⟩, Hp.os ⟨_, rfl, hc, NewRow.intro rfl (ord_one _) rfl fun h8 n8 => ⟨_, rfl, cellsAll n8.rd, ?_⟩⟩⟩
  generalize os[i.toNat] = o at n8
  have g8 : Ag h6.size col6 (upd col6 h6.size 40) := ag_upd _ _ _
  have W8 := W6.keep n8.fr g8
  have lt8 := n8.own.lt
  have c8 : upd col6 h6.size 40 h6.size = 40 := upd_ge (Nat.le_refl _)
  have wi : IntKind.wrap .i64 (i + 1) = i + 1 := wrap_i64 (by omega) (by omega)
  obtain ⟨j, O, ha, hj, hP⟩ := Q6
  have htl := O.tl
  have hnum := O.num
  have hpl := O.pl
  have hTl : T.lasts.length = many n ∧ T.pend.length ≤ 60 ∧ T.tape.length ≤ 60 := by
    rcases hP with ⟨_, _, e⟩ | ⟨_, _, e1, e2, e3, _⟩
    · rw [e]; exact ⟨hnum, by show S.pend.length ≤ 60; omega, by show S.tape.length ≤ 60; omega⟩
    · exact ⟨by rw [e1, cut_len]; exact hnum, by rw [e3]; exact Nat.zero_le _, by rw [e2]; omega⟩
  refine do_spec W8.C (by omega) (by omega) (by omega) (by omega) fun h9 col9 f9 g9 C9 => ⟨_, rfl, ?_⟩
  have W9 := W8.c f9 g9 C9
  have c9 : col9 h6.size = 40 := (g9 _ lt8).trans c8
  have r9 := (f9.rd lt8 fun x => by have := x.2; rw [c8] at this; omega).trans n8.rd
  have lt9 : h6.size < h9.size := Nat.lt_of_lt_of_le lt8 f9.size
  rw [wi]
  obtain ⟨O', z'⟩ := O.step (by omega) (by omega) o
  rcases hP with ⟨p1, p2, rfl⟩ | ⟨p1, p2, p3, p4, p5, p6⟩
  · -- the power is on
    by_cases hlt : i + 1 < at_
    · rw [armed_on O.calm.down O.calm.left (by omega) keep o (by omega)] at C9 W9 ⊢
      refine ct (decide_eq_true (by omega)) (cn (fun x => absurd rfl x) fun _ => ⟨_, rfl, cellsAll r9, ?_⟩)
      refine do_spec W9.D (by omega) (by omega) (by omega) (by omega) fun h10 col10 f10 g10 D10 => ⟨_, rfl, ?_⟩
      have W10 := W9.d f10 g10 D10
      rw [z']
      have wa : IntKind.wrap .i64 (acts + 1) = acts + 1 := wrap_i64 (by omega) (by omega)
      refine cn (fun x => absurd rfl x) fun _ => ?_
      rw [wa]
      exact ⟨⟨by omega, by omega, _, _, col10, W10, j + 1, O', by omega, by omega, Or.inl ⟨by omega, by omega, by rw [show at_ - i - 1 = at_ - (i + 1) by omega]⟩⟩, falls hi⟩
    · have he : at_ - i = 1 := by omega
      rw [he, armed_out O.calm.down O.calm.left keep o (by omega)] at C9 W9 ⊢
      refine cf (decide_eq_false (by omega)) (cn (fun x => absurd rfl x) fun _ => ?_)
      refine Ad.Down_spec W9.C ⟨_, rfl, cnot (ct (by cases o.flush <;> rfl) ?_)⟩
      unfold bolelaw03_AdiskCuts.k3
      rw [wi, w1, hat]
      refine ct (by rw [beq_iff_eq]; omega) ⟨_, rda r9 rfl, ?_⟩
      cases ho : o.flush with
      | true =>
        rw [ho] at W9
        refine cf rfl ?_
        refine ⟨⟨by omega, by omega, _, _, col9, W9, j, O, ha, by omega, Or.inr ⟨by omega, rfl, cut_flushes _ _ _, rfl, rfl, ?_⟩⟩, falls hi⟩
        show S.writes + IntKind.wrap .i64 (S.flushes + 1) = at_
        have := O.w0; have := O.f0; have := O.wf
        rw [wrap_i64 (by omega) (by omega)]; omega
      | false =>
        rw [ho] at W9
        refine ct rfl ⟨_, rfl, cellsAll r9, ?_⟩
        refine do_spec W9.D (by omega) (by omega) (by omega) (by omega) fun h10 col10 f10 g10 D10 => ⟨_, rfl, ?_⟩
        have W10 := W9.d f10 g10 D10
        rw [z']
        have wa : IntKind.wrap .i64 (acts + 1) = acts + 1 := wrap_i64 (by omega) (by omega)
        refine cn (fun x => absurd rfl x) fun _ => ?_
        rw [wa]
        refine ⟨⟨by omega, by omega, _, _, col10, W10, j + 1, O', by omega, by omega, Or.inr ⟨by omega, rfl, rfl, rfl, rfl, ?_⟩⟩, falls hi⟩
        have := O'.wf
        show (doOrd S o).1.writes + (doOrd S o).1.flushes = at_
        omega
  · -- it is off
    rw [down_ord p2] at C9 W9 ⊢
    refine cf (decide_eq_false (by omega)) (cn (fun x => absurd rfl x) fun _ => ?_)
    refine Ad.Down_spec W9.C ⟨_, rfl, cnot (ct p2 ?_)⟩
    unfold bolelaw03_AdiskCuts.k3
    rw [wi, w1, hat]
    refine cf (by rw [beq_eq_false_iff_ne]; omega) ⟨⟨by omega, by omega, _, _, col9, W9, j, O, ha, by omega, Or.inr ⟨by omega, p2, p3, p4, p5, p6⟩⟩, falls hi⟩

theorem AdiskCuts_spec {n at0 : Int} {pa ka : Option Addr} {pl pc kl kc : Nat} {os : List Ord} {keep : List Bool} {h : Heap} {K : Value → Heap → Prop}
    (P : SlCells h pa (os.flatMap Ord.cells)) (hos : os.length = pl) (hpc : pl ≤ pc) (Kp : SlCells h ka (keep.map .bool)) (hkl : keep.length = kl) (hkm : kl ≤ 140737488355328)
    (hK : ∀ h', Fr No h h' → K (.bool true) h') : C.bolelaw03_AdiskCuts n pa pl pc at0 ka kl kc h K := by
  refine bolelaw03_AdiskCuts.ok (fresh_spec (fun _ => 0) 10 1 (Or.inl (by omega)) (free0 h (by omega)) fun q1 a c h2 col2 f2 g2 D2 new2 s2 hp2 => ⟨_, _, _, _, rfl, ?_⟩)
  have e1 : ∀ b, col2 b = 1 → (if col2 b = 1 ∨ (10 ≤ col2 b ∧ col2 b ≤ 15) then col2 b else 0) = col2 b := fun b hb => if_pos (Or.inl hb)
  have e2 : ∀ b, 10 ≤ col2 b → col2 b ≤ 10 + 5 → (if col2 b = 1 ∨ (10 ≤ col2 b ∧ col2 b ≤ 15) then col2 b else 0) = col2 b := fun b h1 h2 => if_pos (Or.inr ⟨h1, h2⟩)
  have e3 : Free h2 (fun b => if col2 b = 1 ∨ (10 ≤ col2 b ∧ col2 b ≤ 15) then col2 b else 0) 20 := fun b hb c1 c2 => by
    have c1 : 20 ≤ (if col2 b = 1 ∨ (10 ≤ col2 b ∧ col2 b ≤ 15) then col2 b else 0) := c1
    split at c1 <;> omega
  have e4 : ∀ b, b < h.size → (if col2 b = 1 ∨ (10 ≤ col2 b ∧ col2 b ≤ 15) then col2 b else 0) = 0 := fun b hb => by rw [g2 b hb]; rfl
  generalize hcB : (fun b => if col2 b = 1 ∨ (10 ≤ col2 b ∧ col2 b ≤ 15) then col2 b else 0) = colB at e3
  have e1 : ∀ b, col2 b = 1 → colB b = col2 b := by subst hcB; exact e1
  have e2 : ∀ b, 10 ≤ col2 b → col2 b ≤ 10 + 5 → colB b = col2 b := by subst hcB; exact e2
  have e4 : ∀ b, b < h.size → colB b = 0 := by subst hcB; exact e4
  have D2 := D2.recol e2
  have s2 : Sl h2 1 a (many n * 512) c ((blocks0 (many n)).flatten.map bv) (On colB 1) := s2.mono fun b hb => (e1 b hb).trans hb
  refine fresh_spec colB 20 2 (Or.inl (by omega)) e3 fun q2 a' c' h3 col3 f3 g3 D3 new3 s3 hp3 => ⟨_, _, _, _, rfl, cf rfl (cf rfl ?_)⟩
  have W : Two h n (some q1) (some q2) a c h3 col3 (Ad.fresh (blocks0 (many n))) (Ad.fresh (blocks0 (many n))) :=
    ⟨f2.no f3, fun b hb => (g3 b (Nat.lt_of_lt_of_le hb f2.size)).trans (e4 b hb), D2.keep f3 g3 fun _ _ _ x => x, D3, s2.keep f3 g3 fun _ _ x => x⟩
  refine cd (fun hp => ?_) fun hp => ?_
  · exact ⟨⟨by omega, by omega⟩, cuts2 (Nat.le_refl 60) (by omega) P Kp hkl hkm W hK⟩
  · exact cuts2 (by omega) (by omega) P Kp hkl hkm W hK
end Go.Proofs.Ytnbfaokpaiiojaa.L3
