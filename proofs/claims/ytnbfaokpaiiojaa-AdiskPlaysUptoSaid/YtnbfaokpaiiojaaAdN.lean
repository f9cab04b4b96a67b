import Derived.Test.YtnbfaokpaiiojaaAdD
import Derived.Test.YtnbfaokpaiiojaaAdK
/-
  THE DISK of package adisk: a step.
-/
namespace Go.Proofs.Ytnbfaokpaiiojaa.Ad
open Go Go.Proofs Go.Proofs.Ytnbfaokpaiiojaa.Wx Go.Proofs.Ytnbfaokpaiiojaa.Hp Go.Proofs.Ytnbfaokpaiiojaa.W

def RD.step (S : RD) (f : RD → RD) : RD × Int :=
  if 0 < S.left then (if S.left - 1 = 0 then (RD.cut { S with left := S.left - 1 } S.keep, 30) else (f { S with left := S.left - 1 }, 0)) else (f S, 0)

theorem step_spec {d : Option Addr} {v : Value} {h : Heap} {K : Value → Heap → Prop} {S : RD} {col : Nat → Nat} {m : Nat} {f : RD → RD} (D : DiskAt h d S col m) (hv : isFnV v = true)
    (hn : isNilFn v = true → ∀ S', f S' = S')
    (hc : isNilFn v = false → ∀ (S' : RD) (h2 : Heap) (K' : Value → Heap → Prop), (S' = S ∨ S' = { S with left := S.left - 1 }) → Fr (Dk col m) h h2 → DiskAt h2 d S' col m →
      (∀ h3 col', Fr (Dk col m) h2 h3 → Ag h2.size col col' → DiskAt h3 d (f S') col' m → K' (.tuple #[]) h3) → HCallsV Try.prog v [] h2 K')
    (hK : ∀ h' col', Fr (Dk col m) h h' → Ag h.size col col' → DiskAt h' d (S.step f).1 col' m → K (.int .i64 (S.step f).2) h') : C.adisk_Disk_step d v h K := by
  have D0 := D
  obtain ⟨b, r, es, rfl, D⟩ := D
  have go : ∀ S' h2, (S' = S ∨ S' = { S with left := S.left - 1 }) → Fr (Dk col m) h h2 → DiskAt h2 (some ⟨b, 0, none⟩) S' col m → (S.step f) = (f S', 0) →
      (isFnV v = true ∧ bif !(isNilFn v) then (HCallsV Try.prog v [] h2 fun r2 h4 => r2 = .tuple #[] ∧ K (.int .i64 0) h4) else (K (.int .i64 0) h2)) := by
    intro S' h2 hS f2 D2 e
    refine ⟨hv, cnot (cs (fun e1 => ?_) fun e1 => ?_)⟩
    · have := hK h2 col f2 (Ag.refl _ _) (by rw [e, hn e1]; exact D2)
      rw [e] at this; exact this
    · refine hc e1 S' h2 _ hS f2 D2 fun h3 col' f3 g3 D3 => ⟨rfl, ?_⟩
      have := hK h3 col' (f2.trans f3 fun _ _ x => x) (g3.le f2.size) (by rw [e]; exact D3)
      rw [e] at this; exact this
  have hlb := D.leftb
  refine adisk_Disk_step.ok ⟨_, D.field 2, ?_⟩
  rw [D.left]
  refine cd (fun hp => ?_) fun hp => go S h (Or.inl rfl) (Fr.refl _ _) D0 (by rw [RD.step, if_neg (by omega)])
  refine os ⟨_, D.field 2, os (Put.add D.so (by rw [D.sr]; exact (by decide : 0 + 2 < 8)) fun h2 d2 => ?_)⟩
  rw [D.left, wrap_i64 (by omega) (by omega), D.sr] at d2
  have D2 : Disk h2 b { S with left := S.left - 1 } col m { r with left := S.left - 1 } es := by
    refine Disk.re ?_ D.sc d2
    exact ⟨rfl, ⟨by show 0 ≤ S.left - 1; omega, by show S.left - 1 ≤ _; omega⟩, D.down, D.writes, D.flushes, D.l, D.lw, D.ln, D.lmax, D.p, D.pw, D.pn, D.pi, D.pmax, D.k, D.kn, D.t, D.tn, D.tmax, D.ts⟩
  have f2 : Fr (Dk col m) h h2 := (Fr.refl _ _).did d2 fun _ => ⟨by rw [D.sc]; omega, by rw [D.sc]; omega⟩
  refine os ⟨_, D2.field 2, ce (fun e => ?_) fun e => go _ h2 (Or.inr rfl) f2 ⟨_, _, _, rfl, D2⟩ (by rw [RD.step, if_pos (by omega), if_neg e])⟩
  have e : S.left - 1 = 0 := e
  refine os ⟨_, _, _, D2.field 3, ?_⟩
  refine cut_spec (keep := S.keep) ⟨_, _, _, rfl, D2⟩ D2.kn.symm D2.k.cells (fun p hp _ => ?_) fun h3 f3 D3 => ⟨rfl, ?_⟩
  · have hk := D2.k
    rw [show ({ r with left := S.left - 1 } : Raw).ka = some p from hp] at hk
    have : col p.block = m + 3 := hk.2.2.1
    omega
  · have hs : S.step f = (RD.cut { S with left := S.left - 1 } S.keep, 30) := by rw [RD.step, if_pos (by omega), if_pos e]
    have := hK h3 col (f2.trans f3 fun _ _ x => x) (Ag.refl _ _) (by rw [hs]; exact D3)
    rw [hs] at this; exact this

theorem Ents.snoc {h : Heap} {col : Nat → Nat} {k : Nat} {e : Ent} {t : Int × Int × List UInt8} (h1 : e.kind = t.1) (h2 : e.at_ = t.2.1) (h3 : StrAt h e.a e.l t.2.2) (h4 : ∀ p, e.a = some p → p.block < h.size ∧ col p.block = k) :
    ∀ {es : List Ent} {ts : List (Int × Int × List UInt8)}, Ents h col k es ts → Ents h col k (es ++ [e]) (ts ++ [t]) := by
  intro es
  induction es with
  | nil => intro ts x; cases ts with
    | nil => exact ⟨h1, h2, h3, h4, trivial⟩
    | cons _ _ => exact x.elim
  | cons y r ih => intro ts x; cases ts with
    | nil => exact x.elim
    | cons t' s => exact ⟨x.1, x.2.1, x.2.2.1, x.2.2.2.1, ih x.2.2.2.2⟩

def RD.putW (S : RD) (i : Int) (b : List UInt8) : RD := { S with pend := S.pend ++ [(i, b)], tape := S.tape ++ [(1, i, b)], writes := IntKind.wrap .i64 (S.writes + 1) }
def RD.write (S : RD) (i : Int) (b : List UInt8) : RD × Int :=
  if S.down then (S, 30) else if ¬ (0 ≤ i ∧ i < S.lasts.length) then (S, 31) else if b.length ≠ 512 then (S, 32) else (S.putW i b).step id

theorem Write_spec {d : Option Addr} {i : Int} {a : Option Addr} {l c : Nat} {bs : List UInt8} {h : Heap} {K : Value → Heap → Prop} {S : RD} {col : Nat → Nat} {m : Nat} (D : DiskAt h d S col m)
    (B : StrAt h a l bs) (hac : ∀ p, a = some p → bs ≠ [] → ¬ Dk col m p.block) (hp : S.pend.length < 1000000000) (ht : S.tape.length < 1000000000)
    (hK : ∀ h' col', Fr (Dk col m) h h' → Ag h.size col col' → DiskAt h' d (S.write i bs).1 col' m → K (.int .i64 (S.write i bs).2) h') : C.adisk_Disk_Write d i a l c h K := by
  have D0 := D
  obtain ⟨b, r, es, rfl, D⟩ := D
  have hbl := B.1
  refine adisk_Disk_Write.ok ⟨_, D.field 4, ?_⟩
  rw [D.down]
  refine cs (fun e => ?_) fun e => ?_
  · have := hK h col (Fr.refl _ _) (Ag.refl _ _)
    rw [RD.write, if_pos e] at this; exact this D0
  refine has_spec D0 ⟨_, rfl, cnot (cd (fun hi => cn (fun x => ?_) fun x => ?_) fun hi => ?_)⟩
  rotate_left
  rotate_left
  · have := hK h col (Fr.refl _ _) (Ag.refl _ _)
    rw [RD.write, if_neg (by rw [e]; exact Bool.false_ne_true), if_pos hi] at this; exact this D0
  · have := hK h col (Fr.refl _ _) (Ag.refl _ _)
    rw [RD.write, if_neg (by rw [e]; exact Bool.false_ne_true), if_neg (fun y => y hi), if_pos (by omega)] at this; exact this D0
  have hl : bs.length = 512 := by omega
  have hcl : (bs.map bv).length = 512 := by rw [List.length_map, hl]
  refine os ⟨_, _, _, D.field 1, by omega, ?_⟩
  have B2 := B.2
  cases a with
  | none => have : bs.map bv = [] := B2; rw [this] at hcl; exact absurd hcl (by decide)
  | some ap =>
  have hn : (pcell (i, bs)).length = 513 := pcell_len hl
  refine os ⟨bs.map bv, hcl, B2, hcl, hn, New.intro fun h3 n3 => ?_⟩
  have D3 := D.keep' n3.fr (Ag.refl _ _) (fun _ _ _ x => x)
  refine ⟨D3.field 1, pcell (i, bs), by rw [hn], cellsAll n3.rd, pcell_one _, ?_⟩
  rw [D.pn]
  have Dp := D3.p
  rw [D.pn] at Dp
  refine append_col Dp (by rw [hn]; rfl) (List.length_cons.trans (congrArg (· + 1) List.length_replicate)) (by show (S.pend.length + 1) * 520 ≤ _; omega) (by omega) fun a4 c4 h4 f4 s4 => ?_
  -- after the append to what is pending
  have g4 : Ag h3.size col (upd col h3.size (m + 2)) := ag_upd _ _ _
  have e4 : (S.pend ++ [(i, bs)]).flatMap pcell = S.pend.flatMap pcell ++ pcell (i, bs) := by rw [List.flatMap_append, List.flatMap_singleton]
  have hne : ∀ k, k ≠ m + 2 → ∀ x, col x = k → ¬ On col (m + 2) x := fun k hk x hx y => hk (hx.symm.trans y)
  have sb3 := D3.so.lt
  have nsb : ¬ On col (m + 2) b := hne m (by omega) b D.sc
  have P4 : Parts h4 { S with pend := S.pend ++ [(i, bs)] } (upd col h3.size (m + 2)) m { r with pa := a4, pn := S.pend.length + 1, pc := c4 } es := by
    refine ⟨D3.left, D3.leftb, D3.down, D3.writes, D3.flushes, D3.l.keep f4 g4 (hne _ (by omega)), D3.lw, D3.ln, D3.lmax, by rw [e4]; exact s4, ?_, by simp, ?_, by simp only [List.length_append, List.length_singleton]; omega, D3.k.keep f4 g4 (hne _ (by omega)), D3.kn, D3.t.keep f4 g4 (hne _ (by omega)), D3.tn, D3.tmax, Ents.keep f4 g4 (hne _ (by omega)) D3.ts⟩
    · intro x hx; rcases List.mem_append.mp hx with hx | hx
      · exact D3.pw x hx
      · rw [List.mem_singleton.mp hx]; exact hl
    · intro x hx; rcases List.mem_append.mp hx with hx | hx
      · exact D3.pi x hx
      · rw [List.mem_singleton.mp hx]; exact hi
  have sc4 : upd col h3.size (m + 2) b = m := (g4 b sb3).trans D.sc
  have r4 := (f4.rd sb3 nsb).trans D3.sr
  refine os (Put.add (f4.own sb3 nsb D3.so) (by rw [r4]; exact (by decide : 0 + 1 < 8)) fun h5 d5 => ?_)
  rw [r4] at d5
  have D5 := Disk.re P4 sc4 d5
  refine os ⟨_, _, _, D5.field 7, ?_⟩
  have F3 : Fr (Dk col m) h h3 := (n3.fr).mono fun _ _ x => x.elim
  have F4 : Fr (Dk col m) h h4 := F3.trans f4 fun x _ hx => by have hx : col x = m + 2 := hx; exact ⟨by omega, by omega⟩
  have F5 : Fr (Dk col m) h h5 := F4.did d5 fun _ => ⟨by rw [D.sc]; omega, by rw [D.sc]; omega⟩
  refine Clone_spec (StrAt.fr F5 B fun p hp => hac p hp (by rintro rfl; exact absurd hl (by decide))) (by omega) fun a6 c6 h6 f6 s6 => ⟨_, _, _, rfl, ?_⟩
  have g6 : Ag h5.size (upd col h3.size (m + 2)) (upd (upd col h3.size (m + 2)) h5.size (m + 5)) := ag_upd _ _ _
  have D6 := D5.keep' f6 g6 (fun _ _ _ x => x)
  refine ⟨D6.field 7, rfl, New.intro fun h7 n7 => ?_⟩
  have D7 := D6.keep' n7.fr (Ag.refl _ _) (fun _ _ _ x => x)
  have s7 := s6.fr n7.fr fun _ _ _ x => x
  refine ⟨D7.field 7, _, rfl, cellsAll n7.rd, ?_, ?_⟩
  · intro v hv; simp only [List.mem_cons, List.not_mem_nil, or_false] at hv; rcases hv with rfl | rfl | rfl <;> rfl
  have hel := Ents.length D.ts
  have htn := D.tn
  refine append_col D7.t rfl rfl (by show (r.tn + 1) * 40 ≤ _; omega) (by show r.tn + 1 ≤ _; omega) fun a8 c8 h8 f8 s8 => ?_
  have hs6 := f6.size
  have hs7 := n7.size
  have c6k : ∀ x, h5.size ≤ x → upd (upd col h3.size (m + 2)) h5.size (m + 5) x = m + 5 := fun x hx => upd_ge hx
  have g8 : Ag h7.size (upd (upd col h3.size (m + 2)) h5.size (m + 5)) (upd (upd (upd col h3.size (m + 2)) h5.size (m + 5)) h7.size (m + 4)) := ag_upd _ _ _
  have hne8 : ∀ k, k ≠ m + 4 → ∀ x, upd (upd col h3.size (m + 2)) h5.size (m + 5) x = k → ¬ On (upd (upd col h3.size (m + 2)) h5.size (m + 5)) (m + 4) x := fun k hk x hx y => hk (hx.symm.trans y)
  have sb7 := D7.so.lt
  have nsb8 := hne8 m (by omega) b D7.sc
  have hnew : ∀ p, a6 = some p → p.block < h7.size ∧ upd (upd col h3.size (m + 2)) h5.size (m + 5) p.block = m + 5 := by
    intro p hp; subst hp; exact ⟨s7.lt, c6k _ s7.2.2.1⟩
  have e8 : (es ++ [Ent.mk 1 i a6 l c6]).flatMap Ent.cells = es.flatMap Ent.cells ++ [.int .i64 1, .int .i64 i, .slice a6 l c6] := by rw [List.flatMap_append, List.flatMap_singleton]; rfl
  have P8 : Parts h8 { S with pend := S.pend ++ [(i, bs)], tape := S.tape ++ [(1, i, bs)] } (upd (upd (upd col h3.size (m + 2)) h5.size (m + 5)) h7.size (m + 4)) m { r with pa := a4, pn := S.pend.length + 1, pc := c4, ta := a8, tn := r.tn + 1, tc := c8 } (es ++ [⟨1, i, a6, l, c6⟩]) := by
    refine ⟨D7.left, D7.leftb, D7.down, D7.writes, D7.flushes, D7.l.keep f8 g8 (hne8 _ (by omega)), D7.lw, D7.ln, D7.lmax, D7.p.keep f8 g8 (hne8 _ (by omega)), D7.pw, D7.pn, D7.pi, D7.pmax, D7.k.keep f8 g8 (hne8 _ (by omega)), D7.kn, ?_, ?_, ?_, ?_⟩
    · rw [e8]; exact s8
    · simp only [List.length_append, List.length_singleton]; omega
    · simp only [List.length_append, List.length_singleton]; omega
    · refine Ents.snoc rfl rfl (StrAt.fr f8 s7.str fun p hp => hne8 _ (by omega) _ (hnew p hp).2) (fun p hp => ⟨Nat.lt_of_lt_of_le (hnew p hp).1 f8.size, (g8 _ (hnew p hp).1).trans (hnew p hp).2⟩) (Ents.keep f8 g8 (hne8 _ (by omega)) D7.ts)
  have r8 := (f8.rd sb7 nsb8).trans D7.sr
  have sc8 := (g8 b sb7).trans D7.sc
  refine os (Put.add (f8.own sb7 nsb8 D7.so) (by rw [r8]; exact (by decide : 0 + 7 < 8)) fun h9 d9 => ?_)
  rw [r8] at d9
  have D9 := Disk.re P8 sc8 d9
  refine os ⟨_, D9.field 5, os (Put.add D9.so (by rw [D9.sr]; exact (by decide : 0 + 5 < 8)) fun h10 d10 => ?_)⟩
  rw [D9.sr] at d10
  have D10 : Disk h10 b (S.putW i bs) (upd (upd (upd col h3.size (m + 2)) h5.size (m + 5)) h7.size (m + 4)) m { r with pa := a4, pn := S.pend.length + 1, pc := c4, ta := a8, tn := r.tn + 1, tc := c8, writes := IntKind.wrap .i64 (r.writes + 1) } (es ++ [⟨1, i, a6, l, c6⟩]) := by
    refine Disk.re ?_ sc8 d10
    exact ⟨D9.left, D9.leftb, D9.down, by show IntKind.wrap .i64 (r.writes + 1) = IntKind.wrap .i64 (S.writes + 1); rw [D.writes], D9.flushes, D9.l, D9.lw, D9.ln, D9.lmax, D9.p, D9.pw, D9.pn, D9.pi, D9.pmax, D9.k, D9.kn, D9.t, D9.tn, D9.tmax, D9.ts⟩
  have dkb : b < h.size → Dk col m b := fun _ => ⟨by rw [D.sc]; omega, by rw [D.sc]; omega⟩
  have hs35 : h.size ≤ h3.size := by have := n3.size; omega
  have hs45 : h3.size ≤ h5.size := by have := f4.size; have := d5.size; omega
  have gg : Ag h.size col (upd (upd (upd col h3.size (m + 2)) h5.size (m + 5)) h7.size (m + 4)) :=
    (g4.le hs35).trans ((g6.le hs45).trans (g8.le (by omega)) (Nat.le_refl _)) (by omega)
  have F8 : Fr (Dk col m) h h8 := ((F5.no f6).new n7).trans f8 fun x hx y => by
    have y : upd (upd col h3.size (m + 2)) h5.size (m + 5) x = m + 4 := y
    rw [upd_lt (by omega), upd_lt (by omega)] at y
    exact ⟨by omega, by omega⟩
  have F10 := (F8.did d9 dkb).did d10 dkb
  refine step_spec (v := .nilFunc) (f := id) ⟨b, _, _, rfl, D10⟩ rfl (fun _ _ => rfl) (fun x => Bool.noConfusion x) fun h' col' f' g' D' => ⟨_, rfl, ?_⟩
  have hw : S.write i bs = (S.putW i bs).step id := by rw [RD.write, if_neg (by rw [e]; exact Bool.false_ne_true), if_neg (fun y => y hi), if_neg (fun y => y hl)]
  have := hK h' col' (F10.trans f' fun x hx y => by have e := gg x hx; exact ⟨by have := y.1; omega, by have := y.2; omega⟩) (gg.trans g' F10.size) (by rw [hw]; exact D')
  rw [hw] at this; exact this
end Go.Proofs.Ytnbfaokpaiiojaa.Ad
/-
  THE DISK of package adisk: a flush; what is pending.
-/
namespace Go.Proofs.Ytnbfaokpaiiojaa.Ad
open Go Go.Proofs Go.Proofs.Ytnbfaokpaiiojaa.Wx Go.Proofs.Ytnbfaokpaiiojaa.Hp Go.Proofs.Ytnbfaokpaiiojaa.W

def RD.flushed (S : RD) : RD := { S with lasts := applyTo S.lasts S.pend, pend := [], tape := S.tape ++ [(2, 0, [])] }
def RD.flush (S : RD) : RD × Int := if S.down then (S, 30) else RD.step { S with flushes := IntKind.wrap .i64 (S.flushes + 1) } RD.flushed

theorem Flush_c1_spec {d : Option Addr} {cb : Nat} {h : Heap} {K : Value → Heap → Prop} {S : RD} {col : Nat → Nat} {m : Nat} (D : DiskAt h d S col m)
    (hc : rd h cb = [.pointer d]) (hcl : cb < h.size) (hcc : ¬ Dk col m cb) (ht : S.tape.length < 1000000000)
    (hK : ∀ h' col', Fr (Dk col m) h h' → Ag h.size col col' → DiskAt h' d S.flushed col' m → K (.tuple #[]) h') : C.adisk_Disk_Flush_c1 (some ⟨cb, 0, none⟩) h K := by
  obtain ⟨b, r, es, rfl, D⟩ := D
  refine adisk_Disk_Flush_c1.ok (os ⟨_, rdc hc rfl, os ⟨_, _, _, D.field 1, ?_⟩⟩)
  rw [D.pn]
  refine ⟨fun n hh => 0 ≤ n ∧ n ≤ S.pend.length ∧ Fr (On col (m + 1)) h hh ∧ Disk hh b { S with lasts := applyTo S.lasts (S.pend.take n.toNat) } col m r es,
    fun n _ => (S.pend.length - n).toNat, ⟨by omega, by omega, Fr.refl _ _, D⟩, ?_⟩
  rintro n h2 ⟨n0, n1, f2, D2⟩
  have hc1 : ¬ On col (m + 1) cb := fun x => hcc ⟨by have x : col cb = m + 1 := x; omega, by have x : col cb = m + 1 := x; omega⟩
  have c2 : rd h2 cb = [.pointer (some ⟨b, 0, none⟩)] := (f2.rd hcl hc1).trans hc
  have hcl2 : cb < h2.size := Nat.lt_of_lt_of_le hcl f2.size
  have hbc : b ≠ cb := fun e => hcc ⟨by rw [← e, D.sc]; omega, by rw [← e, D.sc]; omega⟩
  refine cd (fun hn => ?_) fun hn => ?_
  · have hn1 : n.toNat < S.pend.length := by omega
    obtain ⟨q, e', c'⟩ := D2.pendCells (S := { S with lasts := applyTo S.lasts (S.pend.take n.toNat) }) hn1 D2.p
    refine ⟨⟨n0, hn⟩, ?_⟩
    rw [e']
    have hp2 := D.pw _ (List.getElem_mem hn1)
    have hpl := pcell_len hp2
    refine os ⟨_, hpl, c', NewRow.intro hpl (pcell_one _) (List.length_cons.trans (congrArg (· + 1) List.length_replicate)) fun h4 n4 => ?_⟩
    have f4 := f2.new n4
    have D4 := D2.keep' n4.fr (Ag.refl _ _) (fun _ _ _ x => x)
    have hw2 : IntKind.wrap .i64 (n + 1) = n + 1 := wrap_i64 (by omega) (by have := D.pmax; omega)
    have ht : (n + 1).toNat = n.toNat + 1 := by omega
    obtain ⟨i0, i1⟩ := D.pi _ (List.getElem_mem hn1)
    have hlen := applyTo_length (S.pend.take n.toNat) S.lasts
    have hbl := blk_len hp2
    refine os ⟨_, rdc ((n4.at_ hcl2).trans c2) rfl, os ⟨_, _, _, D4.field 0, _, rda n4.rd rfl, _, hbl, cellsa n4.rd (pcell_data _), ⟨i0, by rw [D4.ln]; show _ < ((applyTo _ _).length : Int); rw [hlen]; exact i1⟩, ?_⟩⟩
    obtain ⟨p, e, _⟩ := D4.l.get (by rw [D4.ln]; show 0 < (applyTo _ _).length; rw [hlen]; omega)
    rw [e]
    have L := D4.l
    rw [e] at L
    have hpm := L.mk
    rw [hpm] at e L ⊢
    obtain ⟨w1, w2⟩ := L.wr
    have hi : S.pend[n.toNat].1.toNat < (applyTo S.lasts (S.pend.take n.toNat)).length := by rw [hlen]; omega
    have hr : S.pend[n.toNat].1.toNat * 512 + 512 ≤ r.ln * 512 := by
      have : r.ln = (applyTo S.lasts (S.pend.take n.toNat)).length := D4.ln
      rw [this]; omega
    rw [hw2]
    refine os (PutRow.add w1 hbl (bv_one _) (by omega) fun h5 d5 => ⟨⟨by omega, by omega, f4.did d5 (fun _ => L.2.2.1), ?_⟩, falls hn⟩)
    have D5 := D4.putLast hi hp2 e d5
    rw [ht, take_snoc _ _ hn1, applyTo, List.foldl_append]
    exact D5
  · rw [List.take_of_length_le (by omega)] at D2
    have dk : b < h.size → Dk col m b := fun _ => ⟨by rw [D.sc]; omega, by rw [D.sc]; omega⟩
    have F2 : Fr (Dk col m) h h2 := f2.mono fun x _ hx => by have hx : col x = m + 1 := hx; exact ⟨by omega, by omega⟩
    refine os ⟨_, rdc c2 rfl, os (Put.add D2.so (by rw [D2.sr]; exact (by decide : 0 + 1 < 8)) fun h6 d6 => ?_)⟩
    rw [D2.sr] at d6
    have D6 : Disk h6 b { S with lasts := applyTo S.lasts S.pend, pend := [] } col m { r with pa := none, pn := 0, pc := 0 } es := by
      refine Disk.re ?_ D.sc d6
      have Q := D2.toParts
      exact ⟨Q.left, Q.leftb, Q.down, Q.writes, Q.flushes, Q.l, Q.lw, Q.ln, Q.lmax, Sl.nil _ _ _, (fun x hx => by simp at hx), rfl, (fun x hx => by simp at hx), Nat.zero_le _, Q.k, Q.kn, Q.t, Q.tn, Q.tmax, Q.ts⟩
    have c6 : rd h6 cb = [.pointer (some ⟨b, 0, none⟩)] := (d6.at_ hcl2 (Ne.symm hbc)).trans c2
    have hcl6 : cb < h6.size := by rw [d6.size]; exact hcl2
    refine os ⟨_, rdc c6 rfl, os ⟨_, rdc c6 rfl, os ⟨_, _, _, D6.field 7, rfl, New.intro fun h7 n7 => ?_⟩⟩⟩
    have c7 := (n7.at_ hcl6).trans c6
    have D7 := D6.keep' n7.fr (Ag.refl _ _) (fun _ _ _ x => x)
    refine ⟨rdc c7 rfl, rdc c7 rfl, D7.field 7, _, rfl, cellsAll n7.rd, ?_, ?_⟩
    · intro v hv; simp only [List.mem_cons, List.not_mem_nil, or_false] at hv; rcases hv with rfl | rfl | rfl <;> rfl
    have hel := Ents.length D.ts
    have htn := D.tn
    refine append_col D7.t rfl rfl (by show (r.tn + 1) * 40 ≤ _; omega) (by show r.tn + 1 ≤ _; omega) fun a8 c8 h8 f8 s8 => ?_
    have g8 : Ag h7.size col (upd col h7.size (m + 4)) := ag_upd _ _ _
    have hne8 : ∀ k, k ≠ m + 4 → ∀ x, col x = k → ¬ On col (m + 4) x := fun k hk x hx y => hk (hx.symm.trans y)
    have hcc8 : ¬ On col (m + 4) cb := fun x => hcc ⟨by have x : col cb = m + 4 := x; omega, by have x : col cb = m + 4 := x; omega⟩
    have hcl7 : cb < h7.size := by rw [n7.size]; omega
    have sb7 := D7.so.lt
    have nsb8 := hne8 m (by omega) b D7.sc
    have e8 : (es ++ [Ent.mk 2 0 none 0 0]).flatMap Ent.cells = es.flatMap Ent.cells ++ [.int .i64 2, .int .i64 0, .slice none 0 0] := by rw [List.flatMap_append, List.flatMap_singleton]; rfl
    have P8 : Parts h8 S.flushed (upd col h7.size (m + 4)) m { r with pa := none, pn := 0, pc := 0, ta := a8, tn := r.tn + 1, tc := c8 } (es ++ [⟨2, 0, none, 0, 0⟩]) := by
      refine ⟨D7.left, D7.leftb, D7.down, D7.writes, D7.flushes, D7.l.keep f8 g8 (hne8 _ (by omega)), D7.lw, D7.ln, D7.lmax, D7.p.keep f8 g8 (hne8 _ (by omega)), D7.pw, D7.pn, D7.pi, D7.pmax, D7.k.keep f8 g8 (hne8 _ (by omega)), D7.kn, ?_, ?_, ?_, ?_⟩
      · rw [e8]; exact s8
      · simp only [List.length_append, List.length_singleton]; omega
      · simp only [List.length_append, List.length_singleton]; omega
      · exact Ents.snoc rfl rfl (StrAt.nil _ _) (fun p hp => by cases hp) (Ents.keep f8 g8 (hne8 _ (by omega)) D7.ts)
    have r8 := (f8.rd sb7 nsb8).trans D7.sr
    have sc8 := (g8 b sb7).trans D7.sc
    refine ⟨rdc ((f8.rd hcl7 hcc8).trans c7) rfl, os (Put.add (f8.own sb7 nsb8 D7.so) (by rw [r8]; exact (by decide : 0 + 7 < 8)) fun h9 d9 => ?_)⟩
    rw [r8] at d9
    have D9 := Disk.re P8 sc8 d9
    have hs := f2.size
    have F8 : Fr (Dk col m) h h8 := ((F2.did d6 dk).new n7).trans f8 fun x hx y => by
      have y : col x = m + 4 := y
      exact ⟨by omega, by omega⟩
    refine hK h9 (upd col h7.size (m + 4)) (F8.did d9 dk) (g8.le ?_) ⟨b, _, _, rfl, D9⟩
    have := n7.size; have := d6.size; omega

theorem Flush_spec {d : Option Addr} {h : Heap} {K : Value → Heap → Prop} {S : RD} {col : Nat → Nat} {m : Nat} (D : DiskAt h d S col m) (ht : S.tape.length < 1000000000)
    (hK : ∀ h' col', Fr (Dk col m) h h' → Ag h.size col col' → DiskAt h' d S.flush.1 col' m → K (.int .i64 S.flush.2) h') : C.adisk_Disk_Flush d h K := by
  refine adisk_Disk_Flush.ok (New.intro fun h2 n2 => ⟨_, rdc n2.rd rfl, ?_⟩)
  have g2 : Ag h.size col (upd col h.size (m + 6)) := ag_upd _ _ _
  have D2 := D.keep n2.fr g2 (fun _ _ _ x => x)
  have D20 := D2
  have F2 : Fr (Dk col m) h h2 := n2.fr.mono fun _ _ x => x.elim
  obtain ⟨b, r, es, rfl, D2⟩ := D2
  refine os ⟨_, D2.field 4, ?_⟩
  rw [D2.down]
  refine cs (fun e => ?_) fun e => ?_
  · have := hK h2 _ F2 g2
    rw [RD.flush, if_pos e] at this; exact this D20
  have hcb : upd col h.size (m + 6) h.size = m + 6 := upd_ge (Nat.le_refl _)
  have hbc : h.size ≠ b := fun x => by have := D2.sc; rw [← x] at this; omega
  have hs2 := n2.size
  refine ⟨_, rdc n2.rd rfl, os ⟨_, D2.field 6, os (Put.add D2.so (by rw [D2.sr]; exact (by decide : 0 + 6 < 8)) fun h3 d3 => ?_)⟩⟩
  rw [D2.sr] at d3
  have D3 : Disk h3 b { S with flushes := IntKind.wrap .i64 (S.flushes + 1) } (upd col h.size (m + 6)) m { r with flushes := IntKind.wrap .i64 (r.flushes + 1) } es := by
    refine Disk.re ?_ D2.sc d3
    exact ⟨D2.left, D2.leftb, D2.down, D2.writes, by show IntKind.wrap .i64 (r.flushes + 1) = IntKind.wrap .i64 (S.flushes + 1); rw [D2.flushes], D2.l, D2.lw, D2.ln, D2.lmax, D2.p, D2.pw, D2.pn, D2.pi, D2.pmax, D2.k, D2.kn, D2.t, D2.tn, D2.tmax, D2.ts⟩
  have c3 : rd h3 h.size = [.pointer (some ⟨b, 0, none⟩)] := (d3.at_ (by omega) hbc).trans n2.rd
  have F3 : Fr (Dk col m) h h3 := F2.did d3 fun hb => by
    have e := g2 b hb
    exact ⟨by have := D2.sc; omega, by have := D2.sc; omega⟩
  have hncb : ¬ Dk (upd col h.size (m + 6)) m h.size := fun x => by have := x.2; omega
  refine ⟨_, rdc c3 rfl, step_spec (f := RD.flushed) ⟨b, _, _, rfl, D3⟩ rfl (fun x => Bool.noConfusion x) (fun _ S' h4 K' hS' f4 D4 k' => ?_) fun h' col' f' g' D' => ⟨_, rfl, ?_⟩⟩
  · refine Flush_c1_spec (S := S') D4 ((f4.rd (by rw [d3.size]; omega) hncb).trans c3) (by have := f4.size; have := d3.size; omega) hncb ?_ k'
    rcases hS' with rfl | rfl <;> exact ht
  · have hf : S.flush = RD.step { S with flushes := IntKind.wrap .i64 (S.flushes + 1) } RD.flushed := by rw [RD.flush, if_neg (by rw [e]; exact Bool.false_ne_true)]
    have hs3 := d3.size
    have := hK h' col' (F3.trans f' fun x hx y => by have e := g2 x hx; exact ⟨by have := y.1; omega, by have := y.2; omega⟩) (g2.trans g' (by omega)) (by rw [hf]; exact D')
    rw [hf] at this; exact this
end Go.Proofs.Ytnbfaokpaiiojaa.Ad
/-
  THE DISK of package adisk: what is pending.
-/
namespace Go.Proofs.Ytnbfaokpaiiojaa.Ad
open Go Go.Proofs Go.Proofs.Ytnbfaokpaiiojaa.Wx Go.Proofs.Ytnbfaokpaiiojaa.Hp Go.Proofs.Ytnbfaokpaiiojaa.W

def numbers (ps : List (Int × List UInt8)) : List Value := ps.map fun p => .int .i64 p.1
theorem Pending_spec {d : Option Addr} {h : Heap} {K : Value → Heap → Prop} {S : RD} {col : Nat → Nat} {m : Nat} (D : DiskAt h d S col m) (hp : S.pend.length < 1000000000)
    (hK : ∀ a c h', Fr No h h' → Sl h' 1 a S.pend.length c (numbers S.pend) (From h.size) → K (.slice a S.pend.length c) h') : C.adisk_Disk_Pending d h K := by
  obtain ⟨b, r, es, rfl, D⟩ := D
  refine adisk_Disk_Pending.ok (os ⟨_, _, _, D.field 1, ?_⟩)
  rw [D.pn]
  refine ⟨fun a l c n hh => 0 ≤ n ∧ n ≤ S.pend.length ∧ l = n.toNat ∧ Fr No h hh ∧ Sl hh 1 a l c (numbers (S.pend.take n.toNat)) (From h.size), fun _ _ _ n _ => (S.pend.length - n).toNat,
    ⟨by omega, by omega, rfl, Fr.refl _ _, Sl.nil _ _ _⟩, ?_⟩
  rintro a l c n h2 ⟨n0, n1, hl, f2, s2⟩
  have D2 := D.keep' f2 (Ag.refl _ _) (fun _ _ _ x => x)
  refine cd (fun hn => ?_) fun hn => ?_
  rotate_left
  · have e : n.toNat = S.pend.length := by omega
    rw [hl, e]
    rw [hl, e, List.take_length] at s2
    exact hK _ _ _ f2 s2
  have hn1 : n.toNat < S.pend.length := by omega
  obtain ⟨q, e', c'⟩ := D2.pendCells hn1 D2.p
  refine ⟨⟨n0, hn⟩, ?_⟩
  rw [e']
  have hp2 := D.pw _ (List.getElem_mem hn1)
  have hpl := pcell_len hp2
  refine os ⟨_, hpl, c', NewRow.intro hpl (pcell_one _) (List.length_cons.trans (congrArg (· + 1) List.length_replicate)) fun h4 n4 => ⟨_, rda n4.rd rfl, New.intro fun h5 n5 => ?_⟩⟩
  refine ⟨[.int .i64 S.pend[n.toNat].1], rfl, cellsAll n5.rd, by intro v hv; rw [List.mem_singleton.mp hv]; rfl, ?_⟩
  have hs4 := n4.size
  have hs5 := n5.size
  have hs2 := f2.size
  refine append_own ((s2.fr n4.fr fun _ _ _ x => x).fr n5.fr fun _ _ _ x => x) rfl rfl (by show (l + 1) * 8 ≤ _; omega) (by omega) fun a' c2 h6 f6 s6 => ?_
  rw [wrap_i64 (by omega) (by omega)]
  have ht : (n + 1).toNat = n.toNat + 1 := by omega
  refine ⟨⟨by omega, by omega, by omega, ?_, ?_⟩, falls hn⟩
  · exact ((f2.new n4).new n5).trans f6 (fun b hb e => by have : h.size ≤ b := e; omega)
  · rw [ht, take_snoc _ _ hn1, numbers, List.map_append]
    exact s6.mono fun b hb => by rcases hb with hb | hb; exact hb; show h.size ≤ b; omega
end Go.Proofs.Ytnbfaokpaiiojaa.Ad
