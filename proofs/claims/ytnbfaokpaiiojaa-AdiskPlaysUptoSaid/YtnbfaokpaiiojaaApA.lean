/-
  bolelaw03.AdiskPlays: a pair of disks; its calls but those that answer lists.
-/
import Derived.Test.YtnbfaokpaiiojaaRfG
import Derived.Test.YtnbfaokpaiiojaaAfC
namespace Go.Proofs.Ytnbfaokpaiiojaa.Ap
open Go Go.Proofs Go.Proofs.Ytnbfaokpaiiojaa.Wx Go.Proofs.Ytnbfaokpaiiojaa.Hp Go.Proofs.Ytnbfaokpaiiojaa.W Go.Proofs.Ytnbfaokpaiiojaa.Ad Go.Proofs.Ytnbfaokpaiiojaa.L3 Go.Proofs.Ytnbfaokpaiiojaa.Rf

def Dk2 (col : Nat → Nat) (m : Nat) : Nat → Prop := fun b => m ≤ col b ∧ col b ≤ m + 11
theorem dk_lo {col : Nat → Nat} {m b : Nat} (h : Dk col m b) : Dk2 col m b := ⟨h.1, by have := h.2; omega⟩
theorem dk_hi {col : Nat → Nat} {m b : Nat} (h : Dk col (m + 6) b) : Dk2 col m b := ⟨by have := h.1; omega, by have := h.2; omega⟩
/-- a pair of disks, alike -/
structure Pr (h : Heap) (col : Nat → Nat) (m : Nat) (d r : Option Addr) (D : RD) (S : FD) (c : Nat) : Prop where
  d : DiskAt h d D col m
  r : RefAt h r S col (m + 6)
  s : Sm D S
  pos : 0 < S.N
  n : S.acts.length ≤ c
  w : ∀ t ∈ S.acts, t.2.2.length ≤ 512
section
variable {h h' : Heap} {col col' : Nat → Nat} {m c : Nat} {d r : Option Addr} {D : RD} {S : FD}
theorem Pr.keep (P : Pr h col m d r D S c) {F : Nat → Prop} (f : Fr F h h') (g : Ag h.size col col') (hF : ∀ b, m ≤ col b → col b ≤ m + 11 → ¬ F b) : Pr h' col' m d r D S c :=
  { P with d := P.d.keep f g fun b h1 h2 => hF b h1 (by omega), r := P.r.keep f g fun b h1 h2 => hF b (by omega) (by omega) }
theorem Pr.no (P : Pr h col m d r D S c) (f : Fr No h h') (g : Ag h.size col col') : Pr h' col' m d r D S c := P.keep f g fun _ _ _ y => y
theorem Pr.le (P : Pr h col m d r D S c) {c' : Nat} (hc : c ≤ c') : Pr h col m d r D S c' := { P with n := Nat.le_trans P.n hc }
theorem Pr.pend (P : Pr h col m d r D S c) : D.pend.length ≤ c := by
  have e := P.s.pending P.pos
  have e2 := congrArg List.length e
  rw [List.length_map] at e2
  rw [e2]
  unfold FD.pending
  split
  · exact Nat.zero_le _
  · have := pendF_len S.acts S.acts.length
    rw [List.take_length] at this
    exact Nat.le_trans this P.n
theorem Pr.tape (P : Pr h col m d r D S c) : D.tape.length ≤ c := by rw [P.s.tape]; exact P.n
end
/-! what a call does to the rows of acts -/
theorem goes_acts (S : FD) : S.goes.1.acts = S.acts ∧ S.goes.1.first = S.first := by unfold FD.goes; split <;> exact ⟨rfl, rfl⟩
theorem write_acts (S : FD) (i : Int) (bs : List UInt8) (hw : ∀ t ∈ S.acts, t.2.2.length ≤ 512) : (S.write i bs).1.acts.length ≤ S.acts.length + 1 ∧ (∀ t ∈ (S.write i bs).1.acts, t.2.2.length ≤ 512) ∧ (S.write i bs).1.first = S.first := by
  unfold FD.write
  split
  · exact ⟨Nat.le_succ _, hw, rfl⟩
  · split
    · exact ⟨Nat.le_succ _, hw, rfl⟩
    · rename_i h1 h2
      have h2 : refT (S.N : Nat) (1, i, bs) = 0 := by simpa using h2
      obtain ⟨e1, e2⟩ := goes_acts (S.putW i bs)
      refine ⟨?_, fun t ht => ?_, e2⟩
      · rw [e1]; show (S.acts ++ [_]).length ≤ _; rw [List.length_append]; exact Nat.le_refl _
      · rw [e1] at ht
        have ht : t ∈ S.acts ++ [(1, i, bs)] := ht
        rcases List.mem_append.mp ht with ht | ht
        · exact hw t ht
        · rw [List.mem_singleton.mp ht]
          rcases refT_may h2 with h | ⟨_, _, _, h⟩
          · have h : (1 : Int) = 2 := h
            exact absurd h (by decide)
          · have h : bs.length = 512 := h
            show bs.length ≤ 512
            omega
theorem flush_acts (S : FD) (hw : ∀ t ∈ S.acts, t.2.2.length ≤ 512) : S.flush.1.acts.length ≤ S.acts.length + 1 ∧ (∀ t ∈ S.flush.1.acts, t.2.2.length ≤ 512) ∧ S.flush.1.first = S.first := by
  obtain ⟨e1, e2⟩ := goes_acts { S with flushes := IntKind.wrap .i64 (S.flushes + 1) }
  have e1 : (FD.goes { S with flushes := IntKind.wrap .i64 (S.flushes + 1) }).1.acts = S.acts := e1
  have e2 : (FD.goes { S with flushes := IntKind.wrap .i64 (S.flushes + 1) }).1.first = S.first := e2
  unfold FD.flush
  split
  · exact ⟨Nat.le_succ _, hw, rfl⟩
  · split
    · exact ⟨by rw [e1]; exact Nat.le_succ _, by rw [e1]; exact hw, e2⟩
    · refine ⟨?_, fun t ht => ?_, e2⟩
      · show ((FD.goes { S with flushes := IntKind.wrap .i64 (S.flushes + 1) }).1.acts ++ [_]).length ≤ _
        rw [e1, List.length_append]; exact Nat.le_refl _
      · have ht : t ∈ (FD.goes { S with flushes := IntKind.wrap .i64 (S.flushes + 1) }).1.acts ++ [(2, 0, [])] := ht
        rw [e1] at ht
        rcases List.mem_append.mp ht with ht | ht
        · exact hw t ht
        · rw [List.mem_singleton.mp ht]; exact Nat.zero_le _
theorem N_of {S S' : FD} (h : S'.first = S.first) : S'.N = S.N := by unfold FD.N; rw [h]
/-- a call's record -/
def opV (kind : Int) (two : Bool) (n : Int) (ba : Option Addr) (bl bc : Nat) (ka : Option Addr) (kl kc : Nat) : List Value := [.int .i64 kind, .bool two, .int .i64 n, .slice ba bl bc, .slice ka kl kc]
def prV (d r : Option Addr) : List Value := [.pointer d, .pointer r]
theorem str_fr {F : Nat → Prop} {h h' : Heap} (f : Fr F h h') {a : Option Addr} {l : Nat} {bs : List UInt8} (c : StrAt h a l bs) (hF : ∀ p, a = some p → bs ≠ [] → ¬ F p.block) : StrAt h' a l bs := by
  by_cases hb : bs = []
  · subst hb
    cases a with
    | none => exact c
    | some p => exact ⟨c.1, Cells.nil _ _⟩
  · exact StrAt.fr f c fun p ep => hF p ep hb
theorem bools_fr {F : Nat → Prop} {h h' : Heap} (f : Fr F h h') {a : Option Addr} {keep : List Bool} (c : SlCells h a (keep.map .bool)) (hF : ∀ p, a = some p → keep ≠ [] → ¬ F p.block) : SlCells h' a (keep.map .bool) := by
  by_cases hb : keep = []
  · subst hb
    cases a with
    | none => exact c
    | some p => exact Cells.nil _ _
  · exact SlCells.fr f c fun p ep => hF p ep hb
theorem boolAt_lt {h : Heap} {p : Addr} {keep : List Bool} (c : SlCells h (some p) (keep.map .bool)) (hx : keep ≠ []) : p.block < h.size := by
  cases keep with
  | nil => exact absurd rfl hx
  | cons b r =>
    have := (cellOf_some (c 0 (.bool b) rfl)).2
    have hb : (p.add 0).block = p.block := by rw [Addr.add_zero]
    rw [hb] at this
    exact rd_lt this
/-- both disks were called; what was lent is written over -/
theorem both {h h4 h5 h6 h7 : Heap} {col col4 col5 col6 : Nat → Nat} {m : Nat} {d r : Option Addr} {D' : RD} {S' : FD} {X : Nat → Prop} (hm : 0 < m) (F4 : Fr No h h4) (g4 : Ag h.size col col4) (c0 : ∀ x, h.size ≤ x → x < h4.size → col4 x = 0)
    (f5 : Fr (Dk col4 m) h4 h5) (g5 : Ag h4.size col4 col5) (D5 : DiskAt h5 d D' col5 m) (f6 : Fr (Dk col5 (m + 6)) h5 h6) (g6 : Ag h5.size col5 col6) (R6 : RefAt h6 r S' col6 (m + 6)) (f7 : Fr X h6 h7) (hX : ∀ x, X x → h.size ≤ x ∧ x < h4.size) :
    Fr (Dk2 col m) h h7 ∧ Ag h.size col col6 ∧ DiskAt h7 d D' col6 m ∧ RefAt h7 r S' col6 (m + 6) := by
  have s4 := F4.size
  have s5 := f5.size
  have s6 := f6.size
  have G5 : Ag h.size col col5 := g4.trans g5 s4
  have G6 : Ag h.size col col6 := G5.trans g6 (by omega)
  have z6 : ∀ x, X x → col6 x = 0 := fun x hx => by
    obtain ⟨a, b⟩ := hX x hx
    rw [g6 x (by omega), g5 x b]; exact c0 x a b
  refine ⟨((F4.mono fun _ _ y => y.elim).trans f5 fun x hx y => ?_).trans f6 (fun x hx y => ?_) |>.trans f7 fun x hx y => ?_, G6, ?_, ?_⟩
  · have := g4 x hx
    obtain ⟨a, b⟩ := y
    exact ⟨by omega, by omega⟩
  · have := G5 x hx
    obtain ⟨a, b⟩ := y
    exact ⟨by omega, by omega⟩
  · have := (hX x y).1; omega
  · exact (D5.keep f6 g6 fun b a1 a2 y => by have := y.1; omega).keep f7 (Ag.refl _ _) fun b a1 a2 y => by have := z6 b y; omega
  · exact R6.keep f7 (Ag.refl _ _) fun b a1 a2 y => by have := z6 b y; omega
section
variable {h : Heap} {col : Nat → Nat} {m c : Nat} {d r : Option Addr} {D : RD} {S : FD}
/-- what a call leaves -/
def Left (h : Heap) (col : Nat → Nat) (m c : Nat) (d r : Option Addr) (K : Value → Heap → Prop) : Prop :=
  ∀ h' col' D' S', Fr (Dk2 col m) h h' → Ag h.size col col' → Pr h' col' m d r D' S' (c + 1) → K (.bool true) h'
theorem plays_spec {kind n : Int} {two : Bool} {ba ka : Option Addr} {bl bc kl kc : Nat} {bs : List UInt8} {keep : List Bool} {bk : Option Addr} {K : Value → Heap → Prop} (P : Pr h col m d r D S c) (hm : 0 < m) (hc : c < 1000000)
    (B : StrAt h ba bl bs) (hbl : bl < 140737488355328) (hba : ∀ p, ba = some p → bs ≠ [] → col p.block = 0) (Kp : SlCells h ka (keep.map .bool)) (hkl : keep.length = kl) (hkm : kl < 140737488355328) (hka : ∀ p, ka = some p → keep ≠ [] → col p.block = 0) (hn : n ≤ 9223372036854775807)
    (hK : Left h col m c d r K) (hL : ∀ h', Fr No h h' → C.bolelaw03_Pair_looks (prV d r) (opV kind two n ba bl bc ka kl kc) bk h' fun r16 h19 => ∃ b5 : Bool, r16 = .bool b5 ∧ K (.bool b5) h19) :
    C.bolelaw03_Pair_plays (prV d r) (opV kind two n ba bl bc ka kl kc) bk h K := by
  refine bolelaw03_Pair_plays.ok (New.intro fun h2 n2 => New.intro fun h3 n3 => ?_)
  have z2 := n2.size
  have z3 := n3.size
  have F3 : Fr No h h3 := n2.fr.new n3
  have rp3 : rd h3 h.size = prV d r := (n3.at_ (by omega)).trans n2.rd
  have ro3 : rd h3 h2.size = opV kind two n ba bl bc ka kl kc := n3.rd
  have B3 : StrAt h3 ba bl bs := StrAt.fr F3 B fun _ _ y => y
  have K3 : SlCells h3 ka (keep.map .bool) := SlCells.fr F3 Kp fun _ _ y => y
  have hlen : bs.length = bl := B.1
  have bnd := P.s.leftb
  have hpp := P.pend
  have htp := P.tape
  have hnn := P.n
  refine ⟨_, rda ro3 rfl, ce (fun _ => ?_) fun _ => ce (fun _ => ?_) fun _ => ce (fun _ => ?_) fun _ => ce (fun _ => ?_) fun _ => ce (fun _ => ?_) fun _ => ?_⟩
  · -- Write
    refine ⟨_, _, _, rda ro3 rfl, lent_spec B3 hbl fun fa fc h4 f4 s4 => ⟨_, _, _, _, _, _, rfl, ?_⟩⟩
    have z4 := f4.size
    have g4 : Ag h.size col (upd col h.size 0) := ag_upd _ _ _
    have F4 := F3.no f4
    have P4 := P.no F4 g4
    have rp4 := (f4.rd (by omega) fun y => y).trans rp3
    have ro4 := (f4.rd (by omega) fun y => y).trans ro3
    have c0 : ∀ x, h.size ≤ x → upd col h.size 0 x = 0 := fun x hx => upd_ge hx
    have BL : StrAt h4 fa bl bs := by
      have := StrAt.take s4.str (n := bl) (by omega)
      rw [← hlen, List.take_left] at this
      rw [← hlen]; exact this
    refine ⟨_, rda rp4 rfl, _, rda ro4 rfl, _, rda rp4 rfl, _, rda ro4 rfl, _, _, _, rda ro4 rfl, ?_⟩
    have c4 : ∀ p : Addr, (ba = some p) → bs ≠ [] → upd col h.size 0 p.block = 0 := fun p ep hk => by
      by_cases hl : p.block < h.size
      · rw [g4 _ hl]; exact hba p ep hk
      · exact c0 _ (by omega)
    have B4 := StrAt.fr F4 B fun _ _ y => y
    refine Ad.Write_spec P4.d BL (fun p ep _ y => ?_) (by omega) (by omega) fun h5 col5 f5 g5 D5 => ⟨_, rfl, ?_⟩
    · subst ep
      have := s4.2.2.1.1
      have e0 := c0 p.block (by omega)
      have := y.1
      omega
    have z5 := f5.size
    have nd : ∀ x, h.size ≤ x → ¬ Dk (upd col h.size 0) m x := fun x hx y => by have := c0 x hx; have := y.1; omega
    have rp5 := (f5.rd (by omega) (nd _ (Nat.le_refl _))).trans rp4
    have ro5 := (f5.rd (by omega) (nd _ (by omega))).trans ro4
    have R5 := P4.r.keep f5 g5 fun b h1 h2 y => by have := y.2; omega
    have B5 : StrAt h5 ba bl bs := str_fr f5 B4 fun p ep hk y => by have := c4 p ep hk; have := y.1; omega
    refine ⟨rda rp5 rfl, rda ro5 rfl, rda ro5 rfl, Rf.Write_spec R5 B5 (by omega) bnd (by omega) fun h6 col6 f6 g6 R6 => ⟨_, rfl, ?_⟩⟩
    have z6 := f6.size
    have nd6 : ∀ x, h.size ≤ x → x < h4.size → ¬ Dk col5 (m + 6) x := fun x hx hl y => by have := g5 x hl; have := c0 x hx; have := y.1; omega
    have ro6 := (f6.rd (by omega) (nd6 _ (by omega) (by omega))).trans ro5
    have B6 : StrAt h6 ba bl bs := by
      by_cases hb : bs = []
      · subst hb
        cases ba with
        | none => exact B
        | some p => exact ⟨B.1, Cells.nil _ _⟩
      · exact StrAt.fr f6 B5 fun p ep y => by
          subst ep
          have hl := strAt_lt B hb
          have := g5 p.block (Nat.lt_of_lt_of_le hl F4.size)
          have := c4 p rfl hb
          have := y.1
          omega
    have s6 := (s4.fr f5 fun x _ y z => nd x (by have := y.1; omega) z).fr f6 fun x _ y z => nd6 x (by have := y.1; omega) y.2 z
    refine ⟨_, _, _, rda ro6 rfl, kept_spec s6 B6 hbl fun h7 f7 => ⟨_, rfl, ct rfl ?_⟩⟩
    obtain ⟨W1, W2⟩ := P.s.write n bs
    obtain ⟨a1, a2, a3⟩ := write_acts S n bs P.w
    obtain ⟨q1, q2, q3, q4⟩ := both hm F4 g4 (fun x hx _ => c0 x hx) f5 g5 D5 f6 g6 R6 f7 fun x y => ⟨by have := y.1; omega, y.2⟩
    rw [W1, beq_self_eq_true]
    exact hK h7 col6 _ _ q1 q2 ⟨q3, q4, W2, by rw [N_of a3]; exact P.pos, by have := P.n; omega, a2⟩
  · -- Flush
    refine ⟨_, rda rp3 rfl, _, rda rp3 rfl, ?_⟩
    have g3 : Ag h.size col (upd col h.size 0) := ag_upd _ _ _
    have P3 := P.no F3 g3
    have c0 : ∀ x, h.size ≤ x → upd col h.size 0 x = 0 := fun x hx => upd_ge hx
    refine Ad.Flush_spec P3.d (by omega) fun h5 col5 f5 g5 D5 => ⟨_, rfl, ?_⟩
    have z5 := f5.size
    have nd : ∀ x, h.size ≤ x → ¬ Dk (upd col h.size 0) m x := fun x hx y => by have := c0 x hx; have := y.1; omega
    have rp5 := (f5.rd (by omega) (nd _ (Nat.le_refl _))).trans rp3
    have R5 := P3.r.keep f5 g5 fun b h1 h2 y => by have := y.2; omega
    refine ⟨rda rp5 rfl, Rf.Flush_spec R5 bnd (by omega) fun h6 col6 f6 g6 R6 => ⟨_, rfl, ?_⟩⟩
    obtain ⟨W1, W2⟩ := P.s.flush
    obtain ⟨a1, a2, a3⟩ := flush_acts S P.w
    obtain ⟨q1, q2, q3, q4⟩ := both hm F3 g3 (fun x hx _ => c0 x hx) f5 g5 D5 f6 g6 R6 (Fr.refl No h6) fun x y => y.elim
    rw [W1, beq_self_eq_true]
    exact hK h6 col6 _ _ q1 q2 ⟨q3, q4, W2, by rw [N_of a3]; exact P.pos, by have := P.n; omega, a2⟩
  · -- Arm
    refine ⟨_, _, _, rda ro3 rfl, L3.marks_spec K3 hkl hkm fun fa fc h4 f4 s4' => ⟨_, _, _, _, _, _, rfl, ?_⟩⟩
    have s4 := Sl.bound s4'
    have z4 := f4.size
    have g4 : Ag h.size col (upd col h.size 0) := ag_upd _ _ _
    have F4 := F3.no f4
    have P4 := P.no F4 g4
    have rp4 := (f4.rd (by omega) fun y => y).trans rp3
    have ro4 := (f4.rd (by omega) fun y => y).trans ro3
    have c0 : ∀ x, h.size ≤ x → upd col h.size 0 x = 0 := fun x hx => upd_ge hx
    have BL : SlCells h4 fa (keep.map .bool) := by
      have e := s4.cells
      rw [List.map_append] at e
      cases fa with
      | none => exact absurd s4.2.1 (by omega)
      | some p =>
        have := Cells.take e (keep.map Value.bool).length
        rw [List.take_left] at this
        exact this
    have c4 : ∀ p : Addr, (ka = some p) → keep ≠ [] → upd col h.size 0 p.block = 0 := fun p ep hk => by
      by_cases hl : p.block < h.size
      · rw [g4 _ hl]; exact hka p ep hk
      · exact c0 _ (by omega)
    have B4 : SlCells h4 ka (keep.map .bool) := SlCells.fr f4 K3 fun _ _ y => y
    refine ⟨_, rda rp4 rfl, _, rda ro4 rfl, _, rda rp4 rfl, _, rda ro4 rfl, _, _, _, rda ro4 rfl, ?_⟩
    refine Ad.Arm_spec P4.d hn hkl BL (by omega) fun h5 col5 f5 g5 D5 => ⟨_, rfl, ?_⟩
    have z5 := f5.size
    have nd : ∀ x, h.size ≤ x → ¬ Dk (upd col h.size 0) m x := fun x hx y => by have := c0 x hx; have := y.1; omega
    have rp5 := (f5.rd (by omega) (nd _ (Nat.le_refl _))).trans rp4
    have ro5 := (f5.rd (by omega) (nd _ (by omega))).trans ro4
    have R5 := P4.r.keep f5 g5 fun b h1 h2 y => by have := y.2; omega
    have B5 : SlCells h5 ka (keep.map .bool) := bools_fr f5 B4 fun p ep hk y => by have := c4 p ep hk; have := y.1; omega
    have c5 : ∀ p, ka = some p → keep ≠ [] → p.block < h.size ∧ col5 p.block = 0 := fun p ep hk => by
      subst ep
      have hl := boolAt_lt Kp hk
      have := g5 p.block (Nat.lt_of_lt_of_le hl F4.size)
      have := c4 p rfl hk
      exact ⟨hl, by omega⟩
    refine ⟨rda rp5 rfl, rda ro5 rfl, rda ro5 rfl, Rf.Arm_spec R5 B5 hkl (by omega) (fun p ep hk y => by have := (c5 p ep hk).2; have := y.1; omega) fun h6 col6 f6 g6 R6 => ⟨_, rfl, ?_⟩⟩
    have z6 := f6.size
    have nd6 : ∀ x, h.size ≤ x → x < h4.size → ¬ Dk col5 (m + 6) x := fun x hx hl y => by have := g5 x hl; have := c0 x hx; have := y.1; omega
    have ro6 := (f6.rd (by omega) (nd6 _ (by omega) (by omega))).trans ro5
    have B6 : SlCells h6 ka (keep.map .bool) := by
      by_cases hb : keep = []
      · subst hb
        cases ka with
        | none => exact rfl
        | some p => exact Cells.nil _ _
      · exact SlCells.fr f6 B5 fun p ep y => by have := (c5 p ep hb).2; have := y.1; omega
    have s6 := (s4.fr f5 fun x _ y z => nd x (by have y := y.1; have y : h3.size ≤ x := y; omega) z).fr f6 fun x _ y z => nd6 x (by have y := y.1; have y : h3.size ≤ x := y; omega) y.2 z
    refine ⟨_, _, _, rda ro6 rfl, unmarked_spec s6 B6 hkl hkm fun h7 ys f7 _ => ⟨_, rfl, ct rfl ?_⟩⟩
    obtain ⟨W1, W2⟩ := P.s.arm hn keep
    obtain ⟨q1, q2, q3, q4⟩ := both hm F4 g4 (fun x hx _ => c0 x hx) f5 g5 D5 f6 g6 R6 f7 fun x y => ⟨by have y := y.1; have y : h3.size ≤ x := y; omega, y.2⟩
    have ea : (S.arm n keep).1.acts = S.acts ∧ (S.arm n keep).1.first = S.first := by
      unfold FD.arm
      split
      · exact ⟨rfl, rfl⟩
      · split <;> exact ⟨rfl, rfl⟩
    rw [W1, beq_self_eq_true]
    exact hK h7 col6 _ _ q1 q2 ⟨q3, q4, W2, by rw [N_of ea.2]; exact P.pos, by rw [ea.1]; have := P.n; omega, by rw [ea.1]; exact P.w⟩
  · -- Crash
    refine ⟨_, _, _, rda ro3 rfl, L3.marks_spec K3 hkl hkm fun fa fc h4 f4 s4' => ⟨_, _, _, _, _, _, rfl, ?_⟩⟩
    have s4 := Sl.bound s4'
    have z4 := f4.size
    have g4 : Ag h.size col (upd col h.size 0) := ag_upd _ _ _
    have F4 := F3.no f4
    have P4 := P.no F4 g4
    have rp4 := (f4.rd (by omega) fun y => y).trans rp3
    have ro4 := (f4.rd (by omega) fun y => y).trans ro3
    have c0 : ∀ x, h.size ≤ x → upd col h.size 0 x = 0 := fun x hx => upd_ge hx
    have BL : SlCells h4 fa (keep.map .bool) := by
      have e := s4.cells
      rw [List.map_append] at e
      cases fa with
      | none => exact absurd s4.2.1 (by omega)
      | some p =>
        have := Cells.take e (keep.map Value.bool).length
        rw [List.take_left] at this
        exact this
    have c4 : ∀ p : Addr, (ka = some p) → keep ≠ [] → upd col h.size 0 p.block = 0 := fun p ep hk => by
      by_cases hl : p.block < h.size
      · rw [g4 _ hl]; exact hka p ep hk
      · exact c0 _ (by omega)
    have B4 : SlCells h4 ka (keep.map .bool) := SlCells.fr f4 K3 fun _ _ y => y
    refine ⟨_, rda rp4 rfl, Ad.Crash_spec P4.d hkl BL (fun p ep hk y => ?_) fun h5 f5 D5 => ⟨rfl, ?_⟩⟩
    · subst ep
      have y1 := s4.2.2.1.1
      have y1 : h3.size ≤ p.block := y1
      have := c0 p.block (by omega)
      omega
    have g5 : Ag h4.size (upd col h.size 0) (upd col h.size 0) := Ag.refl _ _
    have z5 := f5.size
    have nd : ∀ x, h.size ≤ x → ¬ Dk (upd col h.size 0) m x := fun x hx y => by have := c0 x hx; have := y.1; omega
    have rp5 := (f5.rd (by omega) (nd _ (Nat.le_refl _))).trans rp4
    have ro5 := (f5.rd (by omega) (nd _ (by omega))).trans ro4
    have R5 := P4.r.keep f5 g5 fun b h1 h2 y => by have := y.2; omega
    have B5 : SlCells h5 ka (keep.map .bool) := bools_fr f5 B4 fun p ep hk y => by have := c4 p ep hk; have := y.1; omega
    refine ⟨_, rda rp5 rfl, _, _, _, rda ro5 rfl, Rf.Crash_spec R5 B5 hkl (by omega) (fun p ep hk y => by have := c4 p ep hk; have := y.1; omega) fun h6 col6 f6 g6 R6 => ⟨rfl, ?_⟩⟩
    have z6 := f6.size
    have nd6 : ∀ x, h.size ≤ x → ¬ Dk (upd col h.size 0) (m + 6) x := fun x hx y => by have := c0 x hx; have := y.1; omega
    have ro6 := (f6.rd (by omega) (nd6 _ (by omega))).trans ro5
    have B6 : SlCells h6 ka (keep.map .bool) := bools_fr f6 B5 fun p ep hk y => by have := c4 p ep hk; have := y.1; omega
    have s6 := (s4.fr f5 fun x _ y z => nd x (by have y := y.1; have y : h3.size ≤ x := y; omega) z).fr f6 fun x _ y z => nd6 x (by have y := y.1; have y : h3.size ≤ x := y; omega) z
    refine ⟨_, _, _, rda ro6 rfl, unmarked_spec s6 B6 hkl hkm fun h7 ys f7 _ => ⟨_, rfl, ?_⟩⟩
    obtain ⟨q1, q2, q3, q4⟩ := both hm F4 g4 (fun x hx _ => c0 x hx) f5 g5 D5 f6 g6 R6 f7 fun x y => ⟨by have y := y.1; have y : h3.size ≤ x := y; omega, y.2⟩
    have ea : (S.crash keep).acts = S.acts ∧ (S.crash keep).first = S.first := by unfold FD.crash; split <;> exact ⟨rfl, rfl⟩
    exact hK h7 col6 _ _ q1 q2 ⟨q3, q4, P.s.crash keep, by rw [N_of ea.2]; exact P.pos, by rw [ea.1]; have := P.n; omega, by rw [ea.1]; exact P.w⟩
  · -- asks
    have P3 := P.no F3 (Ag.refl _ _)
    refine ⟨_, rfl, cellsAll rp3, asks_spec P3.d P3.r P.s.len P.s.down P.s.writes P.s.flushes fun h' f => ⟨_, rfl, hK h' col D S ((F3.no f).mono fun _ _ y => y.elim) (Ag.refl _ _) ((P3.no f (Ag.refl _ _)).le (Nat.le_succ _))⟩⟩
  · exact ⟨_, rfl, cellsAll rp3, _, rfl, cellsAll ro3, hL h3 F3⟩
end
end Go.Proofs.Ytnbfaokpaiiojaa.Ap
