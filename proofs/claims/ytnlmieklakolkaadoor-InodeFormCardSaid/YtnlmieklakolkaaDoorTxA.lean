/-
  A TRANSACTION over a disk of 128 blocks of zeros that takes no step.
-/
import Derived.Test.YtnlmieklakolkaaDoorInC
namespace Go.Proofs.YtnlmieklakolkaaDoor.Tx
open Go Go.Proofs Go.Proofs.YtnlmieklakolkaaDoor.Wx Go.Proofs.YtnlmieklakolkaaDoor.Hp Go.Proofs.YtnlmieklakolkaaDoor.W Go.Proofs.YtnlmieklakolkaaDoor.Su Go.Proofs.YtnlmieklakolkaaDoor.Re Go.Proofs.YtnlmieklakolkaaDoor.Hd Go.Proofs.YtnlmieklakolkaaDoor.In

theorem oe {α : Type} {a : Option α} {p : α} {k : α → Prop} (e : a = some p) (h : k p) : onSome a k := by rw [e]; exact h
theorem append_grow {elem : TI} {e : Nat} {a : Option Addr} {l c n : Nat} {old new : List Value} {h : Heap} {k : Option Addr → Nat → Nat → Heap → Prop}
    (ho : old.length = l * elem.cells) (S : SlCells h a old) (hn : new.length = n * elem.cells) (hz : elem.zero.length = elem.cells) (hb : (l + n) * elem.bytes ≤ 140737488355328) (hb' : l + n ≤ 140737488355328) (hc : c < l + n)
    (hk : ∀ c' h', Fr No h h' → Sl h' elem.cells (some ⟨h.size, 0, none⟩) (l + n) c' (old ++ new) (fun b => b = h.size) → k (some ⟨h.size, 0, none⟩) (l + n) c' h') :
    AppendP elem e a l c n new h k := by
  refine ⟨old, ho, S, hb, hb', fun x => absurd x (by omega), fun _ cap hcap => ?_⟩
  refine hk cap _ (fr_newO _ _) (Sl.new h elem.cells e (l + n) cap (old ++ new) _ _ rfl (by rw [List.length_append, ho, hn, Nat.add_mul]) hcap ?_)
  rw [length_repCells, hz]

/-! Maps of numbers -/
abbrev DI : D := .int .i64
theorem mget_mput (v : Value) (i j : Int) : ∀ m : MapC, mget (mput m (.i i) v) (.i j) = if j = i then some v else mget m (.i j)
  | [] => by
    show (bif (j == i) then some v else none) = _
    cases e : (j == i) with
    | true => rw [if_pos (beq_iff_eq.mp e)]; rfl
    | false => rw [if_neg (by intro h; rw [h, beq_self_eq_true] at e; cases e)]; rfl
  | (k, u) :: r => by
    have ih := mget_mput v i j r
    cases k with
    | s b =>
      show mget ((MKey.s b, u) :: mput r (.i i) v) (.i j) = _
      exact ih
    | i a =>
      show mget (bif (i == a) then (MKey.i i, v) :: r else (MKey.i a, u) :: mput r (.i i) v) (.i j) = if j = i then some v else (bif (j == a) then some u else mget r (.i j))
      cases e : (i == a) with
      | true =>
        have e' := beq_iff_eq.mp e
        subst e'
        show (bif (j == i) then some v else mget r (.i j)) = _
        cases e2 : (j == i) with
        | true => rw [if_pos (beq_iff_eq.mp e2)]; rfl
        | false => rw [if_neg (by intro h; rw [h, beq_self_eq_true] at e2; cases e2)]; rfl
      | false =>
        show (bif (j == a) then some u else mget (mput r (.i i) v) (.i j)) = _
        rw [ih]
        cases e2 : (j == a) with
        | true =>
          have := beq_iff_eq.mp e2
          show some u = _
          rw [if_neg (by intro h; rw [← h, this, beq_self_eq_true] at e; cases e)]; rfl
        | false => rfl
theorem mput_length (x : MKey) (v : Value) : ∀ m : MapC, (mput m x v).length ≤ m.length + 1
  | [] => Nat.le_refl _
  | (k, u) :: r => by
    have ih := mput_length x v r
    show (bif MKey.same x k then (x, v) :: r else (k, u) :: mput r x v).length ≤ _
    cases MKey.same x k with
    | true => exact Nat.le_succ _
    | false => exact Nat.succ_le_succ ih
theorem map_lt {d : D} {h : Heap} {r : Nat} {m : MapC} (a : MapAt d h r m) : r < h.size := by
  obtain ⟨es, ck, e, _⟩ := a
  exact (Array.getElem?_eq_some_iff.mp e).1
theorem map_fr {d : D} {h h' : Heap} {r : Nat} {m : MapC} {F : Nat → Prop} (a : MapAt d h r m) (f : Fr F h h') (hF : ¬ F r) : MapAt d h' r m := by
  have hl := map_lt a
  obtain ⟨es, ck, e, q⟩ := a
  exact ⟨es, ck, (f.same r hl hF).trans e, q⟩
theorem mapTo_fr {d : D} {h h' : Heap} {r : Nat} {m : MapC} (t : MapTo d h r m h') : Fr (fun b => b = r) h h' := ⟨by rw [t.size]; exact Nat.le_refl _, fun b _ hb => t.same b hb⟩
theorem newM_size (h : Heap) : (newM h).size = h.size + 1 := by simp [newM]
theorem newM_fr (h : Heap) : Fr No h (newM h) := ⟨by rw [newM_size]; omega, fun b hb _ => by simp only [newM]; rw [Array.getElem?_push, if_neg (by omega)]⟩
theorem newM_at (h : Heap) : MapAt DI (newM h) h.size [] := ⟨#[], 0, by simp [newM], rfl, fun p hp => by cases hp⟩

/-- a disk of 128 blocks of zeros at d, its image at s -/
structure ZD (h : Heap) (d s : Nat) : Prop where
  rd : rd h d = [.slice (some ⟨s, 0, none⟩) 128 128, .slice none 0 0, .int .i64 0, .slice none 0 0, .bool false, .int .i64 0, .int .i64 0, .slice none 0 0]
  img : Hp.rd h s = (List.replicate 128 (zeros 512)).flatMap (List.map bv)
theorem map_zeros (n : Nat) : (zeros n).map bv = List.replicate n (bv 0) := by rw [zeros, List.map_replicate]
theorem flat128 (i : Nat) (hi : i < 128) : ((((List.replicate 128 (zeros 512)).flatMap (List.map bv)).drop (i * 512)).take 512) = (zeros 512).map bv := by
  have := flat_part (List.map bv) 512 (List.replicate 128 (zeros 512)) (by intro x hx; rw [List.eq_of_mem_replicate hx, List.length_map, zeros_length]) i (by rw [List.length_replicate]; exact hi)
  rw [this, List.getElem_replicate]
theorem ZD.lt {h : Heap} {d s : Nat} (z : ZD h d s) : d < h.size ∧ s < h.size := by
  refine ⟨rd_lt (o := 0) (v := .slice (some ⟨s, 0, none⟩) 128 128) (by rw [z.rd]; rfl), rd_lt (o := 0) (v := bv 0) ?_⟩
  have e := flat128 0 (by decide)
  rw [← z.img] at e
  have e1 : ((Hp.rd h s).drop (0 * 512)).take 512 = (Hp.rd h s).take 512 := by rw [Nat.zero_mul, List.drop_zero]
  rw [e1] at e
  have : ((Hp.rd h s).take 512)[0]? = some (bv 0) := by rw [e]; rfl
  rw [List.getElem?_take_of_lt (by decide)] at this
  exact this
theorem ZD.fr {h h' : Heap} {d s : Nat} {F : Nat → Prop} (z : ZD h d s) (f : Fr F h h') (h1 : ¬ F d) (h2 : ¬ F s) : ZD h' d s := ⟨(f.rd z.lt.1 h1).trans z.rd, (f.rd z.lt.2 h2).trans z.img⟩
theorem New_spec {h : Heap} {K : Value → Heap → Prop} (hK : ∀ h', Fr No h h' → h'.size = h.size + 2 → ZD h' (h.size + 1) h.size → K (.tuple #[.pointer (some ⟨h.size + 1, 0, none⟩), .int .i64 0]) h') : C.adisk_New 128 h K := by
  refine adisk_New.ok (cf rfl (cf rfl ⟨by decide, New.intro fun h2 n2 => New.intro fun h3 n3 => ?_⟩))
  have s2 := n2.size
  have s3 := n3.size
  have e := n3.rd
  rw [s2] at e ⊢
  refine hK h3 (n2.fr.new n3) (by omega) ⟨e, ?_⟩
  rw [n3.at_ (by omega), n2.rd, repCells_eq, List.flatMap_replicate, map_zeros]
  rfl
theorem Blocks_spec {h : Heap} {d s : Nat} {K : Value → Heap → Prop} (z : ZD h d s) (hK : K (.int .i64 128) h) : C.adisk_Disk_Blocks (some ⟨d, 0, none⟩) h K :=
  adisk_Disk_Blocks.ok (os ⟨_, _, _, rda z.rd rfl, hK⟩)
theorem dRead_spec {h : Heap} {d s : Nat} {i : Int} {K : Value → Heap → Prop} (z : ZD h d s) (h0 : 0 ≤ i) (h1 : i < 128)
    (hK : ∀ h', Newly h h' ((zeros 512).map bv) → K (.tuple #[.slice (some ⟨h.size, 0, none⟩) 512 512, .int .i64 0]) h') : C.adisk_Disk_Read (some ⟨d, 0, none⟩) i h K := by
  refine adisk_Disk_Read.ok (os ⟨_, rda z.rd rfl, cf rfl (adisk_Disk_has.ok (ct (decide_eq_true h0) (os ⟨_, _, _, rda z.rd rfl, _, rfl, cnot (ct (decide_eq_true h1) ?_)⟩)))⟩)
  have hi : i.toNat < 128 := by omega
  have lz : ((zeros 512).map bv).length = 512 := by rw [List.length_map, zeros_length]
  refine os ⟨_, _, _, rda z.rd rfl, ⟨h0, h1⟩, os ⟨(zeros 512).map bv, lz, cellsa z.img ?_, NewRow.intro lz (bv_one _) List.length_replicate fun h4 n4 => os ⟨_, _, _, rda (((n4.at_ z.lt.1)).trans z.rd) rfl, ?_⟩⟩⟩
  · rw [lz, Nat.zero_add]; exact flat128 _ hi
  refine ⟨fun n hh => n = 0 ∧ h4 = hh, fun _ _ => 0, ⟨rfl, rfl⟩, ?_⟩
  rintro n _ ⟨rfl, rfl⟩
  exact cf rfl (hK h4 n4)
theorem sClone_spec {p : Addr} {c : Nat} {bs : List UInt8} {h : Heap} {K : Value → Heap → Prop} (B : StrAt h (some p) 512 bs)
    (hK : ∀ b c' h', Fr No h h' → h.size ≤ b → Sl h' 1 (some ⟨b, 0, none⟩) 512 c' (bs.map bv) (fun x => x = b) → K (.slice (some ⟨b, 0, none⟩) 512 c') h') : C.slices_Clone_byte_byte (some p) 512 c h K := by
  refine slices_Clone_byte_byte.ok (cf rfl (New.intro fun h2 n2 => ?_))
  have s2 := n2.size
  obtain ⟨s1, s2', s3⟩ := StrAt.src (StrAt.fr n2.fr B (fun _ _ x => x))
  refine ⟨_, s1, s2', s3, append_grow (old := []) rfl (cellsAll n2.rd) s1 rfl (by decide) (by decide) (by decide) fun c' h' f s => ?_⟩
  exact hK h2.size c' h' (n2.fr.no f) (by omega) s

/-- what a transaction has put over the zeros -/
def upL (L : Int → Option (List UInt8)) (i : Int) (bs : List UInt8) : Int → Option (List UInt8) := fun j => if j = i then some bs else L j
def cont (L : Int → Option (List UInt8)) (i : Int) : List UInt8 := (L i).getD (zeros 512)
structure Raw where
  ua : Option Addr
  ul : Nat
  uc : Nat
  xs : List Value
  mm : MapC
def own1 (a : Option Addr) : Nat → Prop := fun b => ∃ p, a = some p ∧ p.block = b
theorem sl_own1 {h : Heap} {ec l c : Nat} {a : Option Addr} {xs : List Value} {F : Nat → Prop} (s : Sl h ec a l c xs F) : Sl h ec a l c xs (own1 a) := by
  cases a with
  | none => exact ⟨s.1, s.2⟩
  | some p => exact ⟨s.1, s.2.1, ⟨p, rfl, rfl⟩, s.2.2.2⟩
structure Tx (h : Heap) (n0 : Nat) (S : Nat → Prop) (t d s m : Nat) (L : Int → Option (List UInt8)) (k : Nat) (r : Raw) : Prop where
  zd : ZD h d s
  own : Own h t
  cell : rd h t = [.pointer (some ⟨d, 0, none⟩), .map (some m), .slice r.ua r.ul r.uc, .bool false]
  map : MapAt DI h m r.mm
  few : r.mm.length ≤ k
  ulen : r.ul ≤ k
  undo : Sl h 1 r.ua r.ul r.uc r.xs (own1 r.ua)
  at_ : ∀ i, match L i with
    | none => mget r.mm (.i i) = none
    | some bs => ∃ q c, mget r.mm (.i i) = some (.slice (some q) 512 c) ∧ StrAt h (some q) 512 bs ∧ q.block ≠ t ∧ q.block ≠ m ∧ q.block < h.size ∧ ∀ p, r.ua = some p → p.block ≠ q.block
  ua : ∀ p, r.ua = some p → S p.block ∧ p.block < h.size ∧ p.block ≠ t ∧ p.block ≠ m ∧ p.block ≠ d ∧ p.block ≠ s
  st : S t ∧ S m ∧ m ≠ t ∧ d ≠ t ∧ d ≠ m ∧ s ≠ t ∧ s ≠ m
  ge : ∀ b, S b → n0 ≤ b
  lt : ∀ b, S b → b < h.size
theorem Tx.no {h h' : Heap} {n0 : Nat} {S : Nat → Prop} {t d s m : Nat} {L : Int → Option (List UInt8)} {k : Nat} {r : Raw} (T : Tx h n0 S t d s m L k r) (f : Fr No h h') : Tx h' n0 S t d s m L k r := by
  have hs := f.size
  refine ⟨T.zd.fr f (fun x => x) (fun x => x), f.own T.own.lt (fun x => x) T.own, (f.rd T.own.lt (fun x => x)).trans T.cell, map_fr T.map f (fun x => x), T.few, T.ulen, T.undo.fr f (fun _ _ _ x => x), fun i => ?_, fun p e => ?_, T.st, T.ge, fun b hb => Nat.lt_of_lt_of_le (T.lt b hb) hs⟩
  · have a := T.at_ i
    revert a
    cases L i with
    | none => exact id
    | some bs =>
      rintro ⟨q, c, e, B, a1, a2, a3, a4⟩
      exact ⟨q, c, e, StrAt.fr f B fun _ _ x => x, a1, a2, by omega, a4⟩
  · obtain ⟨a, b, c⟩ := T.ua p e; exact ⟨a, by omega, c⟩
theorem Begin_spec {h : Heap} {d s : Nat} {K : Value → Heap → Prop} (z : ZD h d s) (n0 : Nat) (hn : n0 ≤ h.size)
    (hK : ∀ h', Fr No h h' → h'.size = h.size + 2 → Tx h' n0 (fun b => b = h.size ∨ b = h.size + 1) (h.size + 1) d s h.size (fun _ => none) 0 ⟨none, 0, 0, [], []⟩ → K (.pointer (some ⟨h.size + 1, 0, none⟩)) h') : C.txn_Begin (some ⟨d, 0, none⟩) h K := by
  refine txn_Begin.ok ?_
  show New _ _ (newM h) _
  refine New.intro fun h3 n3 => ?_
  have sm := newM_size h
  have s3 := n3.size
  have zl := z.lt
  have F := (newM_fr h).new n3
  have e := n3.rd
  have o := n3.own
  rw [sm] at e o ⊢
  exact hK h3 F (by omega) ⟨z.fr F (fun x => x) (fun x => x), o, e, map_fr (newM_at h) n3.fr (fun x => x), Nat.le_refl _, Nat.le_refl _, Sl.nil _ _ _, fun _ => rfl, (fun p e => by cases e), ⟨Or.inr rfl, Or.inl rfl, by omega, by omega, by omega, by omega, by omega⟩, (fun b hb => by rcases hb with hb | hb <;> omega), fun b hb => by rcases hb with hb | hb <;> omega⟩
theorem Read_spec {h : Heap} {n0 : Nat} {S : Nat → Prop} {t d s m : Nat} {L : Int → Option (List UInt8)} {k : Nat} {r : Raw} {i : Int} {K : Value → Heap → Prop} (T : Tx h n0 S t d s m L k r) (h0 : 0 ≤ i) (h1 : i < 128)
    (hK : ∀ b c h', Fr No h h' → h.size ≤ b → Sl h' 1 (some ⟨b, 0, none⟩) 512 c ((cont L i).map bv) (fun x => x = b) → K (.tuple #[.slice (some ⟨b, 0, none⟩) 512 c, .int .i64 0]) h') : C.txn_Txn_Read (some ⟨t, 0, none⟩) i h K := by
  refine txn_Txn_Read.ok (os ⟨_, rda T.cell rfl, cf rfl (cf (decide_eq_false (by omega)) (os ⟨_, rda T.cell rfl, Blocks_spec T.zd ⟨_, rfl, cf (decide_eq_false (by omega)) ?_⟩⟩))⟩)
  refine os ⟨_, rda T.cell rfl, _, T.map, ?_⟩
  dsimp only
  have a := T.at_ i
  cases e : L i with
  | none =>
    rw [e] at a
    have a : mget r.mm (.i i) = none := a
    rw [a]
    refine ⟨none, 0, 0, rfl, cf rfl (os ⟨_, rda T.cell rfl, dRead_spec T.zd h0 h1 fun h' n' => ⟨_, _, _, _, rfl, ?_⟩⟩)⟩
    refine hK h.size 512 h' n'.fr (Nat.le_refl _) ?_
    rw [cont, e]
    show Sl h' 1 _ 512 512 ((zeros 512).map bv) _
    exact Sl.made (zs := []) n' (by rw [List.append_nil]) rfl (by rw [List.length_map, zeros_length]) (Nat.le_refl _) rfl
  | some bs =>
    rw [e] at a
    obtain ⟨q, c, a0, B, _⟩ := a
    rw [a0]
    refine ⟨_, _, _, rfl, ct rfl (sClone_spec B fun b c' h' f hb s' => ⟨_, _, _, rfl, ?_⟩)⟩
    refine hK b c' h' f hb ?_
    rw [cont, e]; exact s'
theorem sl_F {h : Heap} {ec l c : Nat} {p : Addr} {xs : List Value} {F : Nat → Prop} (s : Sl h ec (some p) l c xs F) : F p.block := s.2.2.1
theorem tl {c : Bool} {A B : Prop} (b : B) (a : c = true → B → A) : bif c then A else B := by
  cases c with
  | false => exact b
  | true => exact a rfl b
/-- the write itself: the block is not refused -/
theorem Write_k1 {h h8 : Heap} {n0 : Nat} {S : Nat → Prop} {t d s m : Nat} {L : Int → Option (List UInt8)} {k : Nat} {r : Raw} {i : Int} {a : Option Addr} {c ob : Nat} {wa : Addr} {bs : List UInt8} {h1 h2 : Heap} {K : Value → Heap → Prop}
    (T : Tx h n0 S t d s m L k r) (hn : n0 ≤ h.size) (hk : k < 96) (h0 : 98 ≤ i) (hi : i < 128) (f : Fr No h h8) (hb1 : h.size ≤ h1.size) (hb2 : h.size ≤ h2.size) (hw1 : h1.size < h8.size) (hw2 : h2.size < h8.size)
    (r1 : rd h8 h1.size = [.pointer (some ⟨t, 0, none⟩)]) (r2 : rd h8 h2.size = [.int .i64 i]) (ro : rd h8 ob = [.bool (mget r.mm (.i i)).isSome])
    (B : StrAt h a 512 bs) (ha : ∀ p, a = some p → p.block ≠ t ∧ ¬ S p.block)
    (hK : ∀ r' h', Fr S h h' → Tx h' n0 (fun b => S b ∨ (h.size ≤ b ∧ b < h'.size)) t d s m (upL L i bs) (k + 1) r' → K (.int .i64 0) h') :
    txn_Txn_Write.k1 a 512 c h1 h2 (some wa) (some ⟨ob, 0, none⟩) h8 K := by
  have T8 := T.no f
  have B8 := StrAt.fr f B fun _ _ x => x
  have fs := f.size
  have tl8 := T.own.lt
  have ml := map_lt T.map
  obtain ⟨zdl, zsl⟩ := T.zd.lt
  obtain ⟨p, rfl⟩ : ∃ p, a = some p := by
    cases a with
    | none => have e : bs.map bv = [] := B.2; have := B.1; rw [List.map_eq_nil_iff.mp e] at this; cases this
    | some p => exact ⟨p, rfl⟩
  refine ⟨_, rdc r1 rfl, os ⟨_, rda T8.cell rfl, cf rfl ⟨_, rdc r2 rfl, cf (decide_eq_false (by omega)) ⟨_, rdc r2 rfl, _, rdc r1 rfl, os ⟨_, rda T8.cell rfl, Blocks_spec T8.zd ⟨_, rfl, rdc r2 rfl, cf (decide_eq_false (by omega)) (cf rfl (os ⟨_, rdc ro rfl, tl ?_ fun _ b => ?_⟩))⟩⟩⟩⟩⟩⟩
  · have nu : ∀ b, h.size ≤ b → ¬ own1 r.ua b := fun b hb => by
      rintro ⟨q, e, rfl⟩; have := (T.ua q e).2.1; omega
    have nt : ¬ own1 r.ua t := by rintro ⟨q, e, e2⟩; exact (T.ua q e).2.2.1 e2
    have nm : ¬ own1 r.ua m := by rintro ⟨q, e, e2⟩; exact (T.ua q e).2.2.2.1 e2
    have nd : ¬ own1 r.ua d := by rintro ⟨q, e, e2⟩; exact (T.ua q e).2.2.2.2.1 e2
    have ns : ¬ own1 r.ua s := by rintro ⟨q, e, e2⟩; exact (T.ua q e).2.2.2.2.2 e2
    have uS : ∀ b, own1 r.ua b → S b := by rintro b ⟨q, e, rfl⟩; exact (T.ua q e).1
    obtain ⟨hSt, hSm, hmt, hdt, hdm, hst, hsm⟩ := T.st
    refine ⟨_, rdc r1 rfl, _, rdc r1 rfl, os ⟨_, _, _, rda T8.cell rfl, New.intro fun h10 n10 => ?_⟩⟩
    have s10 := n10.size
    have T10 := T8.no n10.fr
    have r1' := (n10.at_ hw1).trans r1
    have r2' := (n10.at_ hw2).trans r2
    have hul := T.ulen
    refine ⟨rdc r1' rfl, rdc r1' rfl, rda T10.cell rfl, _, rfl, cellsAll n10.rd, by intro v hv; rw [List.mem_singleton.mp hv]; rfl, ?_⟩
    refine append_own T10.undo rfl rfl (by show (r.ul + 1) * _ ≤ _; have b16 : ti1.bytes ≤ 16 := (by decide); have := Nat.mul_le_mul (show r.ul + 1 ≤ 200 from (by omega)) b16; exact Nat.le_trans this (by decide)) (by omega) fun a' c' h11 f11 s11 => ?_
    have z11 := f11.size
    revert s11
    generalize r.xs ++ _ = ys
    intro s11
    have g1 : rd h11 h1.size = [.pointer (some ⟨t, 0, none⟩)] := (f11.rd (by omega) (nu _ hb1)).trans r1'
    have g2 : rd h11 h2.size = [.int .i64 i] := (f11.rd (by omega) (nu _ hb2)).trans r2'
    have gt := (f11.rd T10.own.lt nt).trans T10.cell
    refine ⟨rdc g1 rfl, os (Put.add (f11.own T10.own.lt nt T10.own) (by rw [gt]; show 0 + 2 < 4; omega) fun h12 d12 => ?_)⟩
    have s12 := d12.size
    have g1 : rd h12 h1.size = [.pointer (some ⟨t, 0, none⟩)] := (d12.at_ (by omega) (by omega)).trans g1
    have g2 : rd h12 h2.size = [.int .i64 i] := (d12.at_ (by omega) (by omega)).trans g2
    have gt : rd h12 t = [.pointer (some ⟨d, 0, none⟩), .map (some m), .slice a' (r.ul + 1) c', .bool false] := d12.rd.trans (by rw [gt]; rfl)
    have B12 : StrAt h12 (some p) 512 bs := StrAt.fr d12.fr (StrAt.fr f11 (StrAt.fr n10.fr B8 fun _ _ x => x) fun q e x => (ha q e).2 (uS _ x)) fun q e x => (ha q e).1 x
    refine ⟨_, rdc g1 rfl, os ⟨_, rda gt rfl, _, rdc g2 rfl, sClone_spec B12 fun b13 c13 h13 f13 hb13 s13 => ?_⟩⟩
    have z13 := f13.size
    have l13 := s13.lt
    have l13 : b13 < h13.size := l13
    have g1 : rd h13 h1.size = [.pointer (some ⟨t, 0, none⟩)] := (f13.rd (by omega) fun x => x).trans g1
    have g2 : rd h13 h2.size = [.int .i64 i] := (f13.rd (by omega) fun x => x).trans g2
    have gt := (f13.rd (by omega) fun x => x).trans gt
    have ot := f13.own d12.own.lt (fun x => x) d12.own
    have m13 : MapAt DI h13 m r.mm := map_fr (map_fr (map_fr T10.map f11 nm) d12.fr hmt) f13 fun x => x
    refine ⟨_, _, _, rfl, rdc g1 rfl, rda gt rfl, rdc g2 rfl, os ⟨_, m13, fun h14 t14 => ?_⟩⟩
    have f14 := mapTo_fr t14
    have z14 := t14.size
    have G : Fr (fun b => own1 r.ua b ∨ b = t ∨ b = m) h h14 :=
      ((((((f.new n10).mono (G := fun b => own1 r.ua b ∨ b = t ∨ b = m) fun _ _ x => x.elim).trans f11 fun b _ x => Or.inl x).did d12 fun _ => Or.inr (Or.inl rfl)).no f13).trans f14 fun b _ x => Or.inr (Or.inr x))
    have u11 := sl_own1 s11
    have ua' : ∀ q, a' = some q → (own1 r.ua q.block ∨ h10.size ≤ q.block) ∧ q.block < h11.size := by
      rintro q rfl; exact ⟨sl_F s11, s11.lt⟩
    have ut : ∀ b, own1 a' b → b ≠ t ∧ b ≠ m ∧ b ≠ d ∧ b ≠ s := by
      rintro b ⟨q, e, rfl⟩
      rcases (ua' q e).1 with ⟨q', e', e2⟩ | hq
      · have := T.ua q' e'
        rw [e2] at this; exact this.2.2
      · exact ⟨by omega, by omega, by omega, by omega⟩
    refine hK ⟨a', r.ul + 1, c', ys, _⟩ h14 (G.mono fun b _ x => by rcases x with x | rfl | rfl; exact uS _ x; exact hSt; exact hSm) ⟨?_, ?_, ?_, t14.at_, ?_, ?_, ?_, fun j => ?_, fun q e => ?_, ⟨Or.inl hSt, Or.inl hSm, hmt, hdt, hdm, hst, hsm⟩, fun b hb => ?_, fun b hb => ?_⟩
    · exact T.zd.fr G (by rintro (x | x | x); exact nd x; exact hdt x; exact hdm x) (by rintro (x | x | x); exact ns x; exact hst x; exact hsm x)
    · exact f14.own ot.lt (fun x => hmt x.symm) ot
    · exact (f14.rd ot.lt fun x => hmt x.symm).trans gt
    · have := mput_length (.i i) (.slice (some ⟨b13, 0, none⟩) 512 c13) r.mm
      have := T.few
      show (mput _ _ _).length ≤ k + 1; omega
    · show r.ul + 1 ≤ k + 1; omega
    · exact (((u11.fr d12.fr fun b _ x e => (ut b x).1 e).fr f13 fun _ _ _ x => x).fr f14 fun b _ x e => (ut b x).2.1 e)
    · show match upL L i bs j with | none => mget (mput r.mm (.i i) _) (.i j) = none | some bs => ∃ q c, mget (mput r.mm (.i i) _) (.i j) = some (.slice (some q) 512 c) ∧ _
      rw [mget_mput]
      by_cases ej : j = i
      · rw [upL, if_pos ej, if_pos ej]
        exact ⟨_, _, rfl, StrAt.fr f14 s13.str fun q e x => by cases e; have x : b13 = m := x; omega, by show b13 ≠ t; omega, by show b13 ≠ m; omega, by show b13 < h14.size; omega, fun q e => by have := (ua' q e).2; show q.block ≠ b13; omega⟩
      · rw [upL, if_neg ej, if_neg ej]
        have A := T.at_ j
        revert A
        cases L j with
        | none => exact id
        | some cs =>
          rintro ⟨q, c, e, B, a1, a2, a3, a4⟩
          refine ⟨q, c, e, StrAt.fr G B fun q' e' x => ?_, a1, a2, by omega, fun q' e' x => ?_⟩
          · cases e'
            rcases x with ⟨u, e1, e2⟩ | x | x
            · exact a4 u e1 e2
            · exact a1 x
            · exact a2 x
          · rcases (ua' q' e').1 with ⟨u, e1, e2⟩ | hq
            · exact a4 u e1 (e2.trans x)
            · omega
    · have hq := ua' q e
      have := ut q.block ⟨q, e, rfl⟩
      refine ⟨?_, by omega, this⟩
      rcases hq.1 with x | x
      · exact Or.inl (uS _ x)
      · exact Or.inr ⟨by omega, by omega⟩
    · rcases hb with hb | hb
      · exact T.ge b hb
      · omega
    · rcases hb with hb | hb
      · have := T.lt b hb; omega
      · exact hb.2
  · refine ⟨_, rdc r1 rfl, os ⟨_, rda T8.cell rfl, _, T8.map, ?_⟩⟩
    have := T.few
    exact cf (decide_eq_false (by omega)) b
/-- Write of a block that is not refused -/
theorem Write_spec {h : Heap} {n0 : Nat} {S : Nat → Prop} {t d s m : Nat} {L : Int → Option (List UInt8)} {k : Nat} {r : Raw} {i : Int} {a : Option Addr} {c : Nat} {bs : List UInt8} {K : Value → Heap → Prop}
    (T : Tx h n0 S t d s m L k r) (hn : n0 ≤ h.size) (hk : k < 96) (h0 : 98 ≤ i) (hi : i < 128) (B : StrAt h a 512 bs) (ha : ∀ p, a = some p → p.block ≠ t ∧ ¬ S p.block)
    (hK : ∀ r' h', Fr S h h' → Tx h' n0 (fun b => S b ∨ (h.size ≤ b ∧ b < h'.size)) t d s m (upL L i bs) (k + 1) r' → K (.int .i64 0) h') : C.txn_Txn_Write (some ⟨t, 0, none⟩) i a 512 c h K := by
  refine txn_Txn_Write.ok (New.intro fun h2 n2 => New.intro fun h3 n3 => ?_)
  have s2 := n2.size
  have s3 := n3.size
  have F3 := n2.fr.new n3
  have T3 := T.no F3
  have r1 : rd h3 h.size = [.pointer (some ⟨t, 0, none⟩)] := (n3.at_ (by omega)).trans n2.rd
  have r2 : rd h3 h2.size = [.int .i64 i] := n3.rd
  refine ⟨_, rdc r1 rfl, os ⟨_, rda T3.cell rfl, _, rdc r2 rfl, ?_⟩⟩
  have sl : ∃ (sA1 : Option Addr) (sL1 : Nat) (sC1 : Nat), Option.getD (mget r.mm (.i i)) (zeroV ti26) = .slice sA1 sL1 sC1 := by
    have A := T.at_ i
    revert A
    cases L i with
    | none => intro e; have e : mget r.mm (.i i) = none := e; rw [e]; exact ⟨_, _, _, rfl⟩
    | some bs => rintro ⟨q, c, e, _⟩; rw [e]; exact ⟨_, _, _, rfl⟩
  obtain ⟨sA, sL, sC, esl⟩ := sl
  have C1 : ∀ {hq : Heap}, Fr No h3 hq → cellOf hq ⟨h.size, 0, none⟩ = some (.pointer (some ⟨t, 0, none⟩)) := fun fq => rdc ((fq.rd (by omega) fun x => x).trans r1) rfl
  have C2 : ∀ {hq : Heap}, Fr No h3 hq → cellOf hq (Addr.add ⟨t, 0, none⟩ 1) = some (.map (some m)) := fun fq => rda (T3.no fq).cell rfl
  have C3 : ∀ {hq : Heap}, Fr No h3 hq → cellOf hq ⟨h2.size, 0, none⟩ = some (.int .i64 i) := fun fq => rdc ((fq.rd (by omega) fun x => x).trans r2) rfl
  -- two new blocks, written: then the rest
  have fin : ∀ {hq : Heap} {wb ob : Nat} {zw zo : Value}, Fr No h3 hq → wb ≠ ob → h3.size ≤ wb → h3.size ≤ ob → Own hq wb → Own hq ob → rd hq wb = [zw] → rd hq ob = [zo] →
      Put ⟨wb, 0, none⟩ (.slice sA sL sC) hq fun h6 => Put ⟨ob, 0, none⟩ (.bool (Option.isSome (mget r.mm (.i i)))) h6 fun h7 => txn_Txn_Write.k1 a 512 c h h2 (some ⟨wb, 0, none⟩) (some ⟨ob, 0, none⟩) h7 K := by
    intro hq wb ob zw zo fq hne hw ho ow oo rw' ro'
    refine Put.intro ow (by rw [rw']; exact Nat.one_pos) fun h6 d6 => ?_
    have ro6 : rd h6 ob = [zo] := (d6.at_ oo.lt (fun e => hne e.symm)).trans ro'
    refine Put.intro (d6.ow oo) (by rw [ro6]; exact Nat.one_pos) fun h7 d7 => ?_
    have F7 : Fr No h h7 := ((F3.no fq).did d6 fun hlt => by omega).did d7 fun hlt => by omega
    have F7' : Fr No h3 h7 := (fq.did d6 fun hlt => by omega).did d7 fun hlt => by omega
    have z7 := F7'.size
    refine Write_k1 T hn hk h0 hi F7 (Nat.le_refl _) (by omega) (by omega) (by omega) ((F7'.rd (by omega) fun x => x).trans r1) ((F7'.rd (by omega) fun x => x).trans r2) (by rw [d7.rd, ro6]; rfl) B ha hK
  have fin2 : ∀ {hq hr hs : Heap} {v1 v2 : Value}, Fr No h3 hq → Newly hq hr [v1] → Newly hr hs [v2] → 
      (Put ⟨hq.size, 0, none⟩ (.slice sA sL sC) hs fun h6 => Put ⟨hr.size, 0, none⟩ (.bool (Option.isSome (mget r.mm (.i i)))) h6 fun h7 => txn_Txn_Write.k1 a 512 c h h2 (some ⟨hq.size, 0, none⟩) (some ⟨hr.size, 0, none⟩) h7 K) ∧
      (Put ⟨hr.size, 0, none⟩ (.slice sA sL sC) hs fun h6 => Put ⟨hq.size, 0, none⟩ (.bool (Option.isSome (mget r.mm (.i i)))) h6 fun h7 => txn_Txn_Write.k1 a 512 c h h2 (some ⟨hr.size, 0, none⟩) (some ⟨hq.size, 0, none⟩) h7 K) := by
    intro hq hr hs v1 v2 fq n1 n2'
    have z1 := n1.size
    have z2 := n2'.size
    have zq := fq.size
    have g : rd hs hq.size = [v1] := (n2'.at_ (by omega)).trans n1.rd
    exact ⟨fin ((fq.new n1).new n2') (by omega) (by omega) (by omega) (n2'.ow n1.own) n2'.own g n2'.rd, fin ((fq.new n1).new n2') (by omega) (by omega) (by omega) n2'.own (n2'.ow n1.own) n2'.rd g⟩
  refine ⟨⟨_, T3.map, _, _, _, esl, New.intro fun h4 n4 => ⟨C1 n4.fr, C2 n4.fr, C3 n4.fr, New.intro fun h5 n5 => ⟨C1 (n4.fr.new n5), C2 (n4.fr.new n5), C3 (n4.fr.new n5), (fin2 (Fr.refl _ _) n4 n5).1⟩⟩,
    New.intro fun h4 n4 => ⟨C1 n4.fr, C2 n4.fr, C3 n4.fr, New.intro fun h5 n5 => ⟨C1 (n4.fr.new n5), C2 (n4.fr.new n5), C3 (n4.fr.new n5), (fin2 (Fr.refl _ _) n4 n5).2⟩⟩⟩,
    New.intro fun h4 n4 => ⟨C1 n4.fr, C2 n4.fr, C3 n4.fr, ⟨_, (T3.no n4.fr).map, _, _, _, esl, New.intro fun h5 n5 => ⟨C1 (n4.fr.new n5), C2 (n4.fr.new n5), C3 (n4.fr.new n5), (fin2 (Fr.refl _ _) n4 n5).1⟩⟩,
      New.intro fun h5 n5 => ⟨C1 (n4.fr.new n5), C2 (n4.fr.new n5), C3 (n4.fr.new n5), ⟨_, (T3.no (n4.fr.new n5)).map, _, _, _, esl, (fin2 (Fr.refl _ _) n4 n5).1⟩⟩⟩,
    New.intro fun h4 n4 => ⟨C1 n4.fr, C2 n4.fr, C3 n4.fr, ⟨_, (T3.no n4.fr).map, _, _, _, esl, New.intro fun h5 n5 => ⟨C1 (n4.fr.new n5), C2 (n4.fr.new n5), C3 (n4.fr.new n5), (fin2 (Fr.refl _ _) n4 n5).2⟩⟩,
      New.intro fun h5 n5 => ⟨C1 (n4.fr.new n5), C2 (n4.fr.new n5), C3 (n4.fr.new n5), ⟨_, (T3.no (n4.fr.new n5)).map, _, _, _, esl, (fin2 (Fr.refl _ _) n4 n5).2⟩⟩⟩⟩
end Go.Proofs.YtnlmieklakolkaaDoor.Tx
