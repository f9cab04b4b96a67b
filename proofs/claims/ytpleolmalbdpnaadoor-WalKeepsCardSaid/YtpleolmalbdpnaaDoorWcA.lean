/-
  A COMMIT: what wal's functions compute.
-/
import Derived.Test.YtpleolmalbdpnaaDoorWcP
import Derived.Test.YtpleolmalbdpnaaDoorTmC
namespace Go.Proofs.YtpleolmalbdpnaaDoor.Wc
open Go Go.Proofs Go.Proofs.YtpleolmalbdpnaaDoor.Wx Go.Proofs.YtpleolmalbdpnaaDoor.Hp Go.Proofs.YtpleolmalbdpnaaDoor.W Go.Proofs.YtpleolmalbdpnaaDoor.Ad

abbrev Sc := Tm.Sc
theorem DiskF.write {h : Heap} {D : Nat → Prop} {d : Option Addr} {S : RD} {i : Int} {a : Option Addr} {l c : Nat} {bs : List UInt8} {K : Value → Heap → Prop} (A : DiskF h D d S)
    (B : StrAt h a l bs) (hac : ∀ p, a = some p → ¬ D p.block) (hp : S.pend.length < 1000000000) (ht : S.tape.length < 1000000000)
    (hK : ∀ h' D', Fr D h h' → Gw h D h' D' → DiskF h' D' d (S.write i bs).1 → K (.int .i64 (S.write i bs).2) h') : C.adisk_Disk_Write d i a l c h K := by
  obtain ⟨col, A, hz, hD⟩ := A
  refine Write_spec A B (fun p e _ x => hac p e ((hD _).mpr x)) hp ht fun h' col' f g A' => ?_
  obtain ⟨D', g', a', _⟩ := DiskF.gw hD g f.size A'
  exact hK h' D' (f.mono fun b _ x => (hD b).mpr x) g' a'
theorem DiskF.flush {h : Heap} {D : Nat → Prop} {d : Option Addr} {S : RD} {K : Value → Heap → Prop} (A : DiskF h D d S) (ht : S.tape.length < 1000000000)
    (hK : ∀ h' D', Fr D h h' → Gw h D h' D' → DiskF h' D' d S.flush.1 → K (.int .i64 S.flush.2) h') : C.adisk_Disk_Flush d h K := by
  obtain ⟨col, A, hz, hD⟩ := A
  refine Flush_spec A ht fun h' col' f g A' => ?_
  obtain ⟨D', g', a', _⟩ := DiskF.gw hD g f.size A'
  exact hK h' D' (f.mono fun b _ x => (hD b).mpr x) g' a'
theorem DiskF.down {h : Heap} {D : Nat → Prop} {d : Option Addr} {S : RD} {K : Value → Heap → Prop} (A : DiskF h D d S) (hK : K (.bool S.down) h) : C.adisk_Disk_Down d h K := by
  obtain ⟨col, A, _⟩ := A
  exact Down_spec A hK
/-- a step, as a value -/
inductive SV where
  | w (ib bb : Nat) (i : Int) (s : Sc) (b : List UInt8)
  | f
def SV.v : SV → Value
  | .w ib bb _ _ _ => .func (.func 72) #[] ⟨[.pointer (some ⟨ib, 0, none⟩), .pointer (some ⟨bb, 0, none⟩)]⟩
  | .f => .func (.func 74) #[] ⟨[]⟩
def SV.stp : SV → Stp
  | .w _ _ i _ b => .w i b
  | .f => .f
def SV.Ok (h : Heap) (D : Nat → Prop) : SV → Prop
  | .w ib bb i s b => rd h ib = [.int .i64 i] ∧ rd h bb = [s.v] ∧ (ib < h.size ∧ ¬ D ib) ∧ (bb < h.size ∧ ¬ D bb) ∧ StrAt h s.a s.l b ∧ ∀ p, s.a = some p → p.block < h.size ∧ ¬ D p.block
  | .f => True
theorem SV.Ok.fr {h h' : Heap} {D D' : Nat → Prop} {x : SV} (a : x.Ok h D) (f : Fr D h h') (g : Gw h D h' D') : x.Ok h' D' := by
  cases x with
  | f => trivial
  | w ib bb i s b =>
    obtain ⟨a1, a2, a3, a4, a5, a6⟩ := a
    have k : ∀ {c : Nat}, c < h.size ∧ ¬ D c → c < h'.size ∧ ¬ D' c := fun {c} hc => ⟨Nat.lt_of_lt_of_le hc.1 f.size, fun y => hc.2 ((g.old c hc.1).mp y)⟩
    exact ⟨(f.rd a3.1 a3.2).trans a1, (f.rd a4.1 a4.2).trans a2, k a3, k a4, StrAt.fr f a5 fun p e => (a6 p e).2, fun p e => k (a6 p e)⟩
theorem SV.Ok.no {h h' : Heap} {D : Nat → Prop} {x : SV} (a : x.Ok h D) (f : Fr No h h') (hD : ∀ b, D b → b < h.size) : x.Ok h' D :=
  a.fr (f.mono fun _ _ y => y.elim) (Gw.refl f.size hD)
theorem step_len (S : RD) (f : RD → RD) (t p : Nat) (h1 : (∀ S' : RD, S'.tape = S.tape → S'.pend = S.pend → (f S').tape.length ≤ t ∧ (f S').pend.length ≤ p)) (h2 : S.tape.length ≤ t) : (S.step f).1.tape.length ≤ t ∧ (S.step f).1.pend.length ≤ p := by
  unfold RD.step
  by_cases a : 0 < S.left
  · rw [if_pos a]
    by_cases b : S.left - 1 = 0
    · rw [if_pos b]; exact ⟨h2, Nat.zero_le _⟩
    · rw [if_neg b]; exact h1 _ rfl rfl
  · rw [if_neg a]; exact h1 _ rfl rfl
theorem write_len (S : RD) (s : Stp) : (s.on S).1.tape.length ≤ S.tape.length + 1 ∧ (s.on S).1.pend.length ≤ S.pend.length + 1 := by
  have no : S.tape.length ≤ S.tape.length + 1 ∧ S.pend.length ≤ S.pend.length + 1 := ⟨Nat.le_succ _, Nat.le_succ _⟩
  cases s with
  | w i b =>
    show (S.write i b).1.tape.length ≤ _ ∧ (S.write i b).1.pend.length ≤ _
    have e1 : (S.putW i b).tape.length = S.tape.length + 1 := by show (S.tape ++ [_]).length = _; rw [List.length_append]; rfl
    have e2 : (S.putW i b).pend.length = S.pend.length + 1 := by show (S.pend ++ [_]).length = _; rw [List.length_append]; rfl
    unfold RD.write
    split
    · exact no
    · split
      · exact no
      · split
        · exact no
        · exact step_len _ _ _ _ (fun S' h1 h2 => by show S'.tape.length ≤ _ ∧ S'.pend.length ≤ _; rw [h1, h2, e1, e2]; exact ⟨Nat.le_refl _, Nat.le_refl _⟩) (by rw [e1]; exact Nat.le_refl _)
  | f =>
    show S.flush.1.tape.length ≤ _ ∧ S.flush.1.pend.length ≤ _
    unfold RD.flush
    split
    · exact no
    · refine step_len _ _ _ _ (fun S' h1 h2 => ?_) (Nat.le_succ _)
      show (S'.tape ++ [_]).length ≤ _ ∧ ([] : List (Int × List UInt8)).length ≤ _
      rw [List.length_append, h1]
      exact ⟨Nat.le_refl _, Nat.zero_le _⟩
/-- one step is done -/
theorem step_spec {h : Heap} {D : Nat → Prop} {d : Option Addr} {S : RD} {x : SV} {K : Value → Heap → Prop} (A : DiskF h D d S) (o : x.Ok h D) (hp : S.pend.length < 1000000000) (ht : S.tape.length < 1000000000)
    (hK : ∀ h' D', Fr D h h' → Gw h D h' D' → DiskF h' D' d (x.stp.on S).1 → K (.int .i64 (x.stp.on S).2) h') : HCallsV Tryd.prog x.v [.pointer d] h K := by
  cases x with
  | w ib bb i s b =>
    obtain ⟨a1, a2, a3, a4, a5, a6⟩ := o
    show C.wal_steps_write_c1 d (some ⟨ib, 0, none⟩) (some ⟨bb, 0, none⟩) h K
    refine wal_steps_write_c1.ok (os ⟨_, rdc a1 rfl, os ⟨s.a, s.l, s.c, rdc a2 rfl, DiskF.write A a5 (fun p e => (a6 p e).2) hp ht fun h' D' f g A' => ⟨_, rfl, hK h' D' f g A'⟩⟩⟩)
  | f =>
    show C.wal_steps_flush_c1 d h K
    exact wal_steps_flush_c1.ok (DiskF.flush A ht fun h' D' f g A' => ⟨_, rfl, hK h' D' f g A'⟩)
theorem do_spec {h : Heap} {D : Nat → Prop} {d : Option Addr} {S : RD} {xs : List SV} {a : Option Addr} {c : Nat} {K : Value → Heap → Prop} (A : DiskF h D d S) (o : ∀ x ∈ xs, x.Ok h D)
    (s : SlCells h a (xs.map SV.v)) (ha : ∀ p, a = some p → p.block < h.size ∧ ¬ D p.block) (hp : S.pend.length + xs.length < 1000000000) (ht : S.tape.length + xs.length < 1000000000)
    (hK : ∀ h' D', Fr D h h' → Gw h D h' D' → DiskF h' D' d (runS (xs.map SV.stp) S).1 → K (.int .i64 (runS (xs.map SV.stp) S).2) h') : C.wal_steps_do a xs.length c d h K := by
  refine wal_steps_do.ok ⟨fun n hh => 0 ≤ n ∧ n ≤ xs.length ∧ ∃ D' S', DiskF hh D' d S' ∧ Fr D h hh ∧ Gw h D hh D' ∧ S'.tape.length ≤ S.tape.length + n.toNat ∧ S'.pend.length ≤ S.pend.length + n.toNat ∧ runS (xs.map SV.stp) S = runS ((xs.drop n.toNat).map SV.stp) S',
    fun n _ => ((xs.length : Int) - n).toNat, ⟨by omega, by omega, D, S, A, Fr.refl _ _, Gw.refl (Nat.le_refl _) (fun b hb => A.lt hb), by omega, by omega, rfl⟩, ?_⟩
  rintro n h2 ⟨n0, n1, D', S', A', f, g, t1, t2, e⟩
  refine cd (fun hn => ?_) fun hn => ?_
  · have hn' : n.toNat < xs.length := by omega
    refine ⟨⟨n0, hn⟩, ?_⟩
    cases a with
    | none =>
      have s : xs.map SV.v = [] := s
      have := List.map_eq_nil_iff.mp s
      rw [this] at hn'; exact absurd hn' (by simp)
    | some p =>
      have cv : cellOf h2 (p.add n.toNat) = some xs[n.toNat].v := Cells.cell (Cells.fr f s (ha p rfl).2) (by rw [List.getElem?_map, List.getElem?_eq_getElem hn']; rfl)
      rw [List.drop_eq_getElem_cons hn', List.map_cons] at e
      have e : runS (xs.map SV.stp) S = if (xs[n.toNat].stp.on S').2 = 0 then runS ((xs.drop (n.toNat + 1)).map SV.stp) (xs[n.toNat].stp.on S').1 else xs[n.toNat].stp.on S' := e
      refine os ⟨_, cv, step_spec A' ((o _ (List.getElem_mem hn')).fr f g) (by omega) (by omega) fun h3 D3 f3 g3 A3 => ⟨_, rfl, cn (fun he => ?_) fun he => ?_⟩⟩
      · rw [if_neg he] at e
        have F : Fr D h h3 := f.trans f3 fun b hb x => (g.old b hb).mp x
        rw [e] at hK
        exact hK h3 D3 F (g.trans g3 f.size) A3
      · rw [if_pos he] at e
        have F : Fr D h h3 := f.trans f3 fun b hb x => (g.old b hb).mp x
        have l := write_len S' xs[n.toNat].stp
        rw [wrap_i64 (by omega) (by omega)]
        refine ⟨⟨by omega, by omega, D3, _, A3, F, g.trans g3 f.size, by omega, by omega, ?_⟩, falls hn⟩
        rw [e, show (n + 1).toNat = n.toNat + 1 by omega]
  · rw [List.drop_of_length_le (by omega)] at e
    have e : runS (xs.map SV.stp) S = (S', 0) := e
    rw [e] at hK
    exact hK h2 D' f g A'
/-! building the row of steps: R: the blocks of the row -/
structure Bd (n0 : Nat) (D : Nat → Prop) (hh : Heap) (sb : Nat) (R : Nat → Prop) (xs : List SV) : Prop where
  rsb : R sb
  ge : ∀ b, R b → n0 ≤ b ∧ b < hh.size
  own : Own hh sb
  row : ∃ a c, rd hh sb = [.slice a xs.length c] ∧ Sl hh 1 a xs.length c (xs.map SV.v) (fun b => R b ∧ b ≠ sb)
  ok : ∀ x ∈ xs, x.Ok hh (fun b => D b ∨ R b)
theorem Bd.no {n0 : Nat} {D : Nat → Prop} {hh h' : Heap} {sb : Nat} {R : Nat → Prop} {xs : List SV} (b : Bd n0 D hh sb R xs) (f : Fr No hh h') (hD : ∀ b, D b → b < hh.size) : Bd n0 D h' sb R xs := by
  obtain ⟨a, c, e, s⟩ := b.row
  exact ⟨b.rsb, fun x hx => ⟨(b.ge x hx).1, Nat.lt_of_lt_of_le (b.ge x hx).2 f.size⟩, f.own b.own.lt (fun x => x) b.own, ⟨a, c, (f.rd b.own.lt fun x => x).trans e, s.fr f fun _ _ _ x => x⟩,
    fun x hx => (b.ok x hx).no f fun y hy => hy.elim (hD y) fun z => (b.ge y z).2⟩
theorem append_one {n0 : Nat} {D : Nat → Prop} {hh : Heap} {sb : Nat} {R : Nat → Prop} {xs : List SV} {x : SV} {elem : TI} {e : Nat} {K : Heap → Prop} {v : Value} (b : Bd n0 D hh sb R xs) (hD : ∀ b, D b → b < n0) (hx : x.Ok hh (fun b => D b ∨ R b)) (hv : v = x.v) (hl : xs.length < 1000000)
    (hz : elem.zero.length = elem.cells) (hc : elem.cells = 1) (hby : elem.bytes ≤ 64)
    (hK : ∀ h' R', Fr R hh h' → (∀ b, R' b → R b ∨ hh.size ≤ b) → Bd n0 D h' sb R' (xs ++ [x]) → K h') :
    ∀ sA sL sC, cellOf hh ⟨sb, 0, none⟩ = some (.slice sA sL sC) →
    New [v] e hh fun h4 => ∃ new1 : List Value, List.length new1 = 1 * 1 ∧ SlCells h4 (some ⟨hh.size, 0, none⟩) new1 ∧ (∀ v ∈ new1, v.oneCell' = true) ∧
      AppendP elem e sA sL sC 1 new1 h4 fun sA2 sL2 sC2 h5 => onSome (some (⟨sb, 0, none⟩ : Addr)) fun p2 => Wx.Put p2 (.slice sA2 sL2 sC2) h5 fun h6 => K h6 := by
  intro sA sL sC hs
  subst hv
  obtain ⟨a, c, er, s⟩ := b.row
  have hs' : some (Value.slice a xs.length c) = some (.slice sA sL sC) := (rdc er rfl).symm.trans hs
  cases hs'
  refine New.intro fun h4 n4 => ?_
  have z4 := n4.size
  have sbl := b.own.lt
  have one : x.v.oneCell' = true := by cases x <;> rfl
  refine ⟨[x.v], rfl, cellsAll n4.rd, by intro v hv; rw [List.mem_singleton.mp hv]; exact one, ?_⟩
  have s4 : Sl h4 elem.cells sA xs.length sC (xs.map SV.v) (fun b => R b ∧ b ≠ sb) := by rw [hc]; exact s.fr n4.fr fun _ _ _ x => x
  refine append_own s4 (by rw [hc]; rfl) hz (Nat.le_trans (Nat.mul_le_mul (show xs.length + 1 ≤ 1000000 by omega) hby) (by decide)) (by omega) fun a' c' h5 f5 s5 => ?_
  rw [hc] at s5
  have z5 := f5.size
  have f45 : Fr (fun b => R b ∧ b ≠ sb) hh h5 := (n4.fr.mono fun _ _ x => x.elim).trans f5 fun b _ x => x
  have o5 : Own h5 sb := f45.own sbl (fun x => x.2 rfl) b.own
  have r5 : rd h5 sb = [.slice sA xs.length sC] := (f45.rd sbl fun x => x.2 rfl).trans er
  refine os (Put.intro o5 (by rw [r5]; exact Nat.one_pos) fun h6 d6 => ?_)
  rw [r5] at d6
  have z6 := d6.size
  have hb := b.rsb
  have f46 : Fr R hh h6 := (f45.mono fun b _ x => x.1).did d6 fun _ => hb
  have s6 : Sl h6 1 a' (xs.length + 1) c' (xs.map SV.v ++ [x.v]) (fun b => (R b ∧ b ≠ sb) ∨ h4.size ≤ b) := s5.fr d6.fr fun b hb x e => by
    have e : b = sb := e
    rcases x with x | x
    · exact x.2 e
    · omega
  have ge := b.ge
  have g : Gw hh (fun b => D b ∨ R b) h6 (fun b => D b ∨ ((R b ∨ h4.size ≤ b) ∧ b < h6.size)) := by
    refine ⟨fun y hy => ?_, fun y hy => ?_⟩
    · constructor
      · rintro (q | ⟨q | q, _⟩)
        · exact .inl q
        · exact .inr q
        · omega
      · rintro (q | q)
        · exact .inl q
        · exact .inr ⟨.inl q, by omega⟩
    · rcases hy with q | q
      · have := hD y q
        have := (ge _ hb).1
        omega
      · exact q.2
  have fx : Fr (fun b => D b ∨ R b) hh h6 := f46.mono fun _ _ x => .inr x
  refine hK h6 (fun b => (R b ∨ h4.size ≤ b) ∧ b < h6.size) f46 (fun y hy => hy.1.imp id fun q => by omega) ⟨⟨.inl hb, by omega⟩, fun y hy => ⟨?_, hy.2⟩, d6.own, ⟨a', c', ?_, ?_⟩, fun y hy => ?_⟩
  · rcases hy.1 with q | q
    · exact (ge y q).1
    · have := (ge _ hb).1
      omega
  · rw [d6.rd, List.length_append, List.length_singleton]; rfl
  · rw [List.length_append, List.length_singleton, List.map_append]
    have l6 : ∀ y, Own h6 y → y < h6.size := fun y o => o.lt
    obtain ⟨q1, q2⟩ := s6
    refine ⟨q1, ?_⟩
    cases a' with
    | none => exact q2
    | some p =>
      obtain ⟨a1, a2, a3, a4⟩ := q2
      refine ⟨a1, ⟨⟨a2.imp (·.1) id, a3.lt⟩, fun e => ?_⟩, a3, a4⟩
      rcases a2 with q | q
      · exact q.2 e
      · omega
  · rcases List.mem_append.mp hy with q | q
    · exact (b.ok y q).fr fx g
    · rw [List.mem_singleton.mp q]; exact hx.fr fx g
theorem steps_write_spec {n0 : Nat} {D : Nat → Prop} {hh : Heap} {sb : Nat} {R : Nat → Prop} {xs : List SV} {i : Int} {s : Sc} {bs : List UInt8} {K : Value → Heap → Prop} (b : Bd n0 D hh sb R xs) (hD : ∀ b, D b → b < n0) (B : StrAt hh s.a s.l bs)
    (hs : ∀ p, s.a = some p → p.block < hh.size ∧ ¬ (D p.block ∨ R p.block)) (hl : xs.length < 1000000)
    (hK : ∀ h' R' ib bb, Fr R hh h' → (∀ b, R' b → R b ∨ hh.size ≤ b) → Bd n0 D h' sb R' (xs ++ [.w ib bb i s bs]) → K (.tuple #[]) h') : C.wal_steps_write (some ⟨sb, 0, none⟩) i s.a s.l s.c hh K := by
  refine wal_steps_write.ok (New.intro fun h2 n2 => New.intro fun h3 n3 => os ?_)
  have F : Fr No hh h3 := n2.fr.new n3
  have z2 := n2.size
  have z3 := n3.size
  have n0s : n0 ≤ hh.size := by have := b.ge sb b.rsb; omega
  have b3 := b.no F fun x hx => by have := hD x hx; omega
  have no : ∀ x, hh.size ≤ x → ¬ (D x ∨ R x) := fun x hx y => by
    rcases y with y | y
    · have := hD x y; omega
    · have := b.ge x y; omega
  have ok : (SV.w hh.size h2.size i s bs).Ok h3 (fun b => D b ∨ R b) :=
    ⟨(n3.fr.rd (by omega) fun x => x).trans n2.rd, n3.rd, ⟨by omega, no _ (Nat.le_refl _)⟩, ⟨by omega, no _ (by omega)⟩, StrAt.fr F B fun _ _ x => x, fun p e => ⟨by have := (hs p e).1; omega, (hs p e).2⟩⟩
  obtain ⟨a, c, er, sl⟩ := b3.row
  exact ⟨a, _, c, rdc er rfl, append_one (x := .w hh.size h2.size i s bs) b3 hD ok rfl hl rfl rfl (Nat.le_of_ble_eq_true rfl) (fun h6 R' f g b6 => hK h6 R' _ _ ((F.mono fun _ _ x => x.elim).trans f fun _ _ x => x) (fun y hy => (g y hy).imp id fun q => by omega) b6) _ _ _ (rdc er rfl)⟩
theorem steps_flush_spec {n0 : Nat} {D : Nat → Prop} {hh : Heap} {sb : Nat} {R : Nat → Prop} {xs : List SV} {K : Value → Heap → Prop} (b : Bd n0 D hh sb R xs) (hD : ∀ b, D b → b < n0) (hl : xs.length < 1000000)
    (hK : ∀ h' R', Fr R hh h' → (∀ b, R' b → R b ∨ hh.size ≤ b) → Bd n0 D h' sb R' (xs ++ [.f]) → K (.tuple #[]) h') : C.wal_steps_flush (some ⟨sb, 0, none⟩) hh K := by
  obtain ⟨a, c, er, sl⟩ := b.row
  exact wal_steps_flush.ok (os ⟨a, _, c, rdc er rfl, append_one (x := .f) b hD trivial rfl hl rfl rfl (Nat.le_of_ble_eq_true rfl) (fun h6 R' f g b6 => hK h6 R' f g b6) _ _ _ (rdc er rfl)⟩)
/-! blocks that are to be written -/
abbrev Rs := List (Int × Sc × Tm.Txt)
def nb (rs : Rs) : Nb := rs.map fun r => (r.1, r.2.2)
def cellsR (r : Int × Sc × Tm.Txt) : List Value := [.int .i64 r.1, r.2.1.v]
theorem cellsR_one (r : Int × Sc × Tm.Txt) : ∀ v ∈ cellsR r, v.oneCell' = true := by
  intro v hv
  rcases List.mem_cons.mp hv with rfl | hv
  · rfl
  · rw [List.mem_singleton.mp hv]; rfl
structure Bl (h : Heap) (F : Nat → Prop) (a : Option Addr) (rs : Rs) : Prop where
  cells : SlCells h a (rs.flatMap cellsR)
  ab : ∀ p, a = some p → p.block < h.size ∧ ¬ F p.block
  ok : ∀ r ∈ rs, StrAt h r.2.1.a r.2.1.l r.2.2 ∧ ∀ p, r.2.1.a = some p → p.block < h.size ∧ ¬ F p.block
theorem Bl.fr {h h' : Heap} {F G F' : Nat → Prop} {a : Option Addr} {rs : Rs} (b : Bl h F a rs) (f : Fr G h h') (hG : ∀ x, x < h.size → G x → F x) (hF : ∀ x, x < h.size → F' x → F x) : Bl h' F' a rs :=
  ⟨SlCells.fr f b.cells fun p e x => (b.ab p e).2 (hG _ (b.ab p e).1 x), fun p e => ⟨Nat.lt_of_lt_of_le (b.ab p e).1 f.size, fun x => (b.ab p e).2 (hF _ (b.ab p e).1 x)⟩,
    fun r hr => ⟨StrAt.fr f (b.ok r hr).1 fun p e x => ((b.ok r hr).2 p e).2 (hG _ ((b.ok r hr).2 p e).1 x), fun p e => ⟨Nat.lt_of_lt_of_le ((b.ok r hr).2 p e).1 f.size, fun x => ((b.ok r hr).2 p e).2 (hF _ ((b.ok r hr).2 p e).1 x)⟩⟩⟩
theorem Bl.no {h h' : Heap} {F : Nat → Prop} {a : Option Addr} {rs : Rs} (b : Bl h F a rs) (f : Fr No h h') : Bl h' F a rs := b.fr f (fun _ _ x => x.elim) fun _ _ x => x
theorem Bl.get {h : Heap} {F : Nat → Prop} {a : Option Addr} {rs : Rs} (b : Bl h F a rs) {i : Nat} (hi : i < rs.length) : ∃ p, a = some p ∧ Cells h (p.add (i * 2)) (cellsR rs[i]) := by
  have c := b.cells
  have hw : ∀ r ∈ rs, (cellsR r).length = 2 := fun _ _ => rfl
  have hl := flat_length cellsR 2 rs hw
  have hp := flat_part cellsR 2 rs hw i hi
  have h2 : (cellsR rs[i]).length = 2 := rfl
  cases a with
  | none =>
    have c : rs.flatMap cellsR = [] := c
    rw [c] at hl
    exact absurd hl (by simp; omega)
  | some p =>
    refine ⟨p, rfl, ?_⟩
    have := (Cells.take (Cells.drop c (i * 2)) 2)
    rw [hp] at this
    exact this
theorem Bd.grow {n0 : Nat} {D R R' : Nat → Prop} {hh h' : Heap} {a : Option Addr} {rs : Rs} (B : Bl hh (fun b => D b ∨ R b) a rs) (f : Fr R hh h') (g : ∀ b, R' b → R b ∨ hh.size ≤ b) : Bl h' (fun b => D b ∨ R' b) a rs :=
  B.fr f (fun _ _ x => .inr x) fun y hy x => x.imp id fun z => (g y z).elim id fun q => by omega
theorem ws_snoc (l : Nb) (p : Int × List UInt8) : ws (l ++ [p]) = ws l ++ [.w p.1 p.2] := List.map_append
theorem home_spec {n0 : Nat} {D : Nat → Prop} {hh : Heap} {sb : Nat} {R : Nat → Prop} {xs : List SV} {a : Option Addr} {c : Nat} {rs : Rs} {K : Value → Heap → Prop} (b : Bd n0 D hh sb R xs) (hD : ∀ b, D b → b < n0) (B : Bl hh (fun b => D b ∨ R b) a rs) (hl : xs.length + rs.length < 100000)
    (hK : ∀ h' R' ys, Fr R hh h' → (∀ b, R' b → R b ∨ hh.size ≤ b) → Bd n0 D h' sb R' (xs ++ ys) → ys.map SV.stp = homeS (nb rs) → ys.length = rs.length + 3 → K (.tuple #[]) h') : C.wal_steps_home (some ⟨sb, 0, none⟩) a rs.length c hh K := by
  refine wal_steps_home.ok ⟨fun n h2 => 0 ≤ n ∧ n ≤ rs.length ∧ ∃ R' ys, Fr R hh h2 ∧ (∀ b, R' b → R b ∨ hh.size ≤ b) ∧ Bd n0 D h2 sb R' (xs ++ ys) ∧ ys.map SV.stp = ws (nb (rs.take n.toNat)) ∧ ys.length = n.toNat,
    fun n _ => ((rs.length : Int) - n).toNat, ⟨by omega, by omega, R, [], Fr.refl _ _, fun b hb => .inl hb, by rw [List.append_nil]; exact b, rfl, rfl⟩, ?_⟩
  rintro n h2 ⟨n0', n1, R', ys, f, g, b2, e, el⟩
  have z2 := f.size
  refine cd (fun hn => ?_) fun hn => ?_
  · have hn' : n.toNat < rs.length := by omega
    have B2 := Bd.grow (n0 := n0) B f g
    obtain ⟨p, rfl, cc⟩ := B2.get hn'
    refine ⟨⟨n0', hn⟩, os ⟨_, rfl, cc, NewRow.intro rfl (cellsR_one _) rfl fun h4 n4 => ⟨_, rda n4.rd rfl, rs[n.toNat].2.1.a, rs[n.toNat].2.1.l, rs[n.toNat].2.1.c, rda n4.rd rfl, ?_⟩⟩⟩
    have b4 := b2.no n4.fr fun x hx => by have := hD x hx; have := b2.ge sb b2.rsb; omega
    have B4 := B2.no n4.fr
    have z4 := n4.size
    obtain ⟨k1, k2⟩ := B4.ok rs[n.toNat] (List.getElem_mem hn')
    refine steps_write_spec b4 hD k1 k2 (by rw [List.length_append]; omega) fun h5 R5 ib bb f5 g5 b5 => ⟨rfl, ?_⟩
    rw [wrap_i64 (by omega) (by omega)]
    refine ⟨⟨by omega, by omega, R5, ys ++ [.w ib bb rs[n.toNat].1 rs[n.toNat].2.1 rs[n.toNat].2.2], (f.new n4).trans f5 fun x hx y => (g x y).elim id fun q => by omega, fun x hx => ?_, by rw [List.append_assoc] at b5; exact b5, ?_, ?_⟩, falls hn⟩
    · rcases g5 x hx with q | q
      · exact g x q
      · exact .inr (by omega)
    · rw [show (n + 1).toNat = n.toNat + 1 by omega, take_snoc _ _ hn', List.map_append, e]
      unfold nb
      rw [List.map_append]
      exact (ws_snoc (List.map (fun r : Int × Sc × Tm.Txt => (r.1, r.2.2)) (rs.take n.toNat)) (rs[n.toNat].1, rs[n.toNat].2.2)).symm
    · rw [List.length_append, el, List.length_singleton]; omega
  · have en : rs.take n.toNat = rs := List.take_of_length_le (by omega)
    rw [en] at e
    refine steps_flush_spec b2 hD (by rw [List.length_append]; omega) fun h6 R6 f6 g6 b6 => ⟨rfl, Hd.Empty_spec fun h7 n7 => ⟨_, _, _, rfl, ?_⟩⟩
    have z6 := f6.size
    have z7 := n7.size
    have lt6 := b6.own.lt
    have b7 := b6.no n7.fr fun x hx => by have := hD x hx; have := b6.ge sb b6.rsb; omega
    refine steps_write_spec (s := ⟨some ⟨h6.size, 0, none⟩, 512, 512⟩) (bs := Hd.zeros 512) b7 hD (strAll n7.rd (Hd.zeros_length 512)) (fun p e => by
        cases e
        refine ⟨by show h6.size < h7.size; omega, fun y => ?_⟩
        rcases y with y | y
        · have := hD h6.size y; have := b6.ge sb b6.rsb; omega
        · have := b6.ge h6.size y; omega) (by rw [List.length_append, List.length_append, List.length_singleton]; omega) fun h8 R8 ib bb f8 g8 b8 => ⟨rfl, ?_⟩
    have z8 := f8.size
    refine steps_flush_spec b8 hD (by simp only [List.length_append, List.length_singleton]; omega) fun h9 R9 f9 g9 b9 => ⟨rfl, ?_⟩
    have G6 : ∀ x, R6 x → R x ∨ hh.size ≤ x := fun x hx => (g6 x hx).elim (g x) fun q => .inr (by omega)
    have G8 : ∀ x, R8 x → R x ∨ hh.size ≤ x := fun x hx => (g8 x hx).elim (G6 x) fun q => .inr (by omega)
    have G9 : ∀ x, R9 x → R x ∨ hh.size ≤ x := fun x hx => (g9 x hx).elim (G8 x) fun q => .inr (by omega)
    have st : ∀ {T : Nat → Prop}, (∀ x, T x → R x ∨ hh.size ≤ x) → ∀ x, x < hh.size → T x → R x := fun G x hx y => (G x y).elim id fun q => by omega
    refine hK h9 R9 (ys ++ [.f, .w ib bb 1 ⟨some ⟨h6.size, 0, none⟩, 512, 512⟩ (Hd.zeros 512), .f]) ((((f.trans f6 (st g)).new n7).trans f8 (st G6)).trans f9 (st G8)) G9 ?_ ?_ ?_
    · rw [List.append_assoc, List.append_assoc, List.append_assoc] at b9; exact b9
    · rw [List.map_append, e]; rfl
    · rw [List.length_append, el]; show n.toNat + 3 = _; omega
/-! may -/
theorem may_spec {F : Nat → Prop} {hh : Heap} {a : Option Addr} {c : Nat} {rs : Rs} {n : Int} {K : Value → Heap → Prop} (B : Bl hh F a rs) (hl : rs.length < 1000000)
    (hK : ∀ h', Fr No hh h' → K (.bool (mayW (nb rs) n)) h') : C.wal_may a rs.length c n hh K := by
  unfold mayW at hK
  refine wal_may.ok ⟨fun last k h2 => 0 ≤ k ∧ k ≤ rs.length ∧ Fr No hh h2 ∧ Hd.okGo n 97 ((nb rs).map (·.1)) = Hd.okGo n last ((nb (rs.drop k.toNat)).map (·.1)),
    fun _ k _ => ((rs.length : Int) - k).toNat, ⟨by omega, by omega, Fr.refl _ _, rfl⟩, ?_⟩
  rintro last k h2 ⟨k0, k1, f, e⟩
  refine cd (fun hk => ?_) fun hk => ?_
  · have hk' : k.toNat < rs.length := by omega
    obtain ⟨p, rfl, cc⟩ := (B.no f).get hk'
    rw [List.drop_eq_getElem_cons hk'] at e
    have e : Hd.okGo n 97 ((nb rs).map (·.1)) = (!(decide (rs[k.toNat].1 ≤ last) || decide (rs[k.toNat].1 ≥ n)) && Hd.okGo n rs[k.toNat].1 ((nb (rs.drop (k.toNat + 1))).map (·.1))) := e
    refine ⟨⟨k0, hk⟩, os ⟨_, rfl, cc, NewRow.intro rfl (cellsR_one _) rfl fun h4 n4 => ⟨_, rda n4.rd rfl, ?_⟩⟩⟩
    refine cd (fun h1 => ?_) fun h1 => ⟨_, rda n4.rd rfl, ?_⟩
    · rw [e, decide_eq_true h1] at hK; exact hK h4 (f.new n4)
    rw [decide_eq_false h1] at e
    refine cd (fun h3 => ?_) fun h3 => ⟨_, rda n4.rd rfl, ?_⟩
    · rw [e, decide_eq_true h3] at hK; exact hK h4 (f.new n4)
    rw [decide_eq_false h3] at e
    rw [wrap_i64 (by omega) (by omega)]
    exact ⟨⟨by omega, by omega, f.new n4, by rw [show (k + 1).toNat = k.toNat + 1 by omega]; exact e⟩, falls hk⟩
  · rw [List.drop_of_length_le (by omega)] at e
    have e : Hd.okGo n 97 ((nb rs).map (·.1)) = true := e
    have el : (nb rs).length = rs.length := List.length_map ..
    rw [e, el] at hK
    exact hK h2 f
theorem okGo_mono {n m : Int} (h : n ≤ m) : ∀ (l : List Int) (last : Int), Hd.okGo n last l = true → Hd.okGo m last l = true
  | [], _, _ => rfl
  | a :: r, last, e => by
    have e : (!(decide (a ≤ last) || decide (a ≥ n)) && Hd.okGo n a r) = true := e
    show (!(decide (a ≤ last) || decide (a ≥ m)) && Hd.okGo m a r) = true
    rw [Bool.and_eq_true] at e
    rw [okGo_mono h r a e.2]
    have h1 := e.1
    by_cases x : a ≤ last
    · rw [decide_eq_true x] at h1; cases h1
    · by_cases y : a ≥ n
      · rw [decide_eq_true y, Bool.or_true] at h1; cases h1
      · rw [decide_eq_false x, decide_eq_false (by omega)]; rfl
end Go.Proofs.YtpleolmalbdpnaaDoor.Wc
