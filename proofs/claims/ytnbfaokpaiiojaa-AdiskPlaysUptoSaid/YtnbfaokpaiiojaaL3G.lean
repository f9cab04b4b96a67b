import Derived.Test.YtnbfaokpaiiojaaL3C
import Derived.Test.YtnbfaokpaiiojaaAdH
/-
  PACKAGE bolelaw03: its smallest functions; a write or a flush by an order.
-/
namespace Go.Proofs.Ytnbfaokpaiiojaa.L3
open Go Go.Proofs Go.Proofs.Ytnbfaokpaiiojaa.Wx Go.Proofs.Ytnbfaokpaiiojaa.Hp Go.Proofs.Ytnbfaokpaiiojaa.W Go.Proofs.Ytnbfaokpaiiojaa.Ad

theorem mod_spec {v n : Int} {h : Heap} {K : Value → Heap → Prop} (h0 : 0 < n) (h1 : n ≤ 4294967296) (hK : K (.int .i64 (v % n)) h) : C.bolelaw03_mod v n h K := by
  refine bolelaw03_mod.ok ?_
  unfold bolelaw03_mod
  rw [if_neg (by omega)]
  have e := Int.tmod_eq_emod (a := v) (b := n)
  have p0 := Int.emod_nonneg v (show n ≠ 0 by omega)
  have p1 := Int.emod_lt_of_pos v h0
  refine cd (fun x => ?_) fun x => ?_
  · have : v.tmod n + n = v % n := by
      rw [e] at x ⊢
      split at x
      · omega
      · rename_i c; rw [if_neg c]; omega
    rw [this, wrap_i64 (by omega) (by omega)]; exact hK
  · have : v.tmod n = v % n := by
      rw [e] at x ⊢
      split at x
      · rename_i c; rw [if_pos c]; omega
      · rename_i c; omega
    rw [this]; exact hK
def rep (x : UInt8) : List UInt8 := List.replicate 512 x
theorem rep_length (x : UInt8) : (rep x).length = 512 := List.length_replicate
theorem block_spec {x : UInt8} {h : Heap} {K : Value → Heap → Prop} (hK : ∀ h', Fr No h h' → Own h' h.size → rd h' h.size = (rep x).map bv → K (.slice (some ⟨h.size, 0, none⟩) 512 512) h') : C.bolelaw03_block (x.toNat : Int) h K := by
  refine bolelaw03_block.ok ⟨by omega, New.intro fun h2 n2 => ?_⟩
  refine ⟨fun n hh => 0 ≤ n ∧ n ≤ 512 ∧ Fr No h hh ∧ Own hh h.size ∧ rd hh h.size = List.replicate n.toNat (bv x) ++ List.replicate (512 - n.toNat) (bv 0), fun n _ => ((512 : Nat) - n).toNat, ⟨by omega, by omega, n2.fr, n2.own, n2.rd⟩, ?_⟩
  rintro n h3 ⟨n0, n1, f3, o3, r3⟩
  refine cd (fun hn => ?_) fun hn => ?_
  · have hn : n < 512 := hn
    refine ⟨⟨n0, hn⟩, Put.add o3 (by rw [r3, List.length_append, List.length_replicate, List.length_replicate]; omega) fun h4 d4 => ?_⟩
    rw [wrap_i64 (by omega) (by omega)]
    refine ⟨⟨by omega, by omega, f3.did d4 (fun y => by omega), d4.own, ?_⟩, falls (m := 512) hn⟩
    rw [d4.rd, r3, Nat.zero_add, show (n + 1).toNat = n.toNat + 1 by omega, List.set_append_right _ _ (by rw [List.length_replicate]; omega), List.length_replicate, Nat.sub_self, show 512 - n.toNat = (512 - (n.toNat + 1)) + 1 by omega, List.replicate_succ, List.set_cons_zero, List.replicate_succ', List.append_assoc]
    rfl
  · have hn : ¬ n < 512 := hn
    have e : n.toNat = 512 := by omega
    rw [e, Nat.sub_self, List.replicate_zero, List.append_nil] at r3
    exact hK _ f3 o3 (by rw [r3, rep, List.map_replicate])

/-- an order: a block, what fills it, whether it is a flush -/
structure Ord where
  at_ : Int
  fill : UInt8
  flush : Bool
def Ord.cells (o : Ord) : List Value := [.int .i64 o.at_, bv o.fill, .bool o.flush]
def doOrd (S : RD) (o : Ord) : RD × Int := if o.flush then S.flush else S.write (o.at_ % S.lasts.length) (rep o.fill)
theorem do_spec {d : Option Addr} {o : Ord} {h : Heap} {K : Value → Heap → Prop} {S : RD} {col : Nat → Nat} {m : Nat} (D : DiskAt h d S col m) (h0 : 0 < S.lasts.length) (h1 : S.lasts.length ≤ 16384)
    (hp : S.pend.length < 1000000000) (ht : S.tape.length < 1000000000)
    (hK : ∀ h' col', Fr (Dk col m) h h' → Ag h.size col col' → DiskAt h' d (doOrd S o).1 col' m → K (.int .i64 (doOrd S o).2) h') : C.bolelaw03_do d o.cells h K := by
  refine bolelaw03_do.ok (New.intro fun h2 n2 => ⟨_, rda n2.rd rfl, ?_⟩)
  have g2 : Ag h.size col (upd col h.size (m + 6)) := ag_upd _ _ _
  have D2 := D.keep n2.fr g2 (fun _ _ _ x => x)
  have F2 : Fr (Dk col m) h h2 := n2.fr.mono fun _ _ x => x.elim
  have hs2 := n2.size
  refine cs (fun e => ?_) fun e => ?_
  · refine Flush_spec D2 ht fun h' col' f' g' D' => ⟨_, rfl, ?_⟩
    have hd : doOrd S o = S.flush := by rw [doOrd, if_pos e]
    have := hK h' col' (F2.trans f' fun x hx y => by have e := g2 x hx; exact ⟨by have := y.1; omega, by have := y.2; omega⟩) (g2.trans g' (by omega)) (by rw [hd]; exact D')
    rw [hd] at this; exact this
  · have hd : doOrd S o = S.write (o.at_ % S.lasts.length) (rep o.fill) := by rw [doOrd, if_neg (by rw [e]; exact Bool.false_ne_true)]
    refine ⟨_, rda n2.rd rfl, _, rda n2.rd rfl, Ad.Blocks_spec D2 ⟨_, rfl, rda n2.rd rfl, rda n2.rd rfl, mod_spec (by omega) (by omega) ⟨_, rfl, rda n2.rd rfl, ?_⟩⟩⟩
    refine block_spec fun h6 f6 o6 r6 => ⟨_, _, _, rfl, ?_⟩
    have g6 : Ag h2.size (upd col h.size (m + 6)) (upd (upd col h.size (m + 6)) h2.size (m + 6)) := ag_upd _ _ _
    have D6 := D2.keep f6 g6 (fun _ _ _ x => x)
    have hc6 : upd (upd col h.size (m + 6)) h2.size (m + 6) h2.size = m + 6 := upd_ge (Nat.le_refl _)
    refine Write_spec D6 (strAll r6 (rep_length _)) (fun p hp _ x => by cases hp; have x2 : upd (upd col h.size (m + 6)) h2.size (m + 6) h2.size ≤ m + 5 := x.2; omega) hp ht fun h' col' f' g' D' => ⟨_, rfl, ?_⟩
    have hs6 := f6.size
    have := hK h' col' ((F2.no f6).trans f' fun x hx y => by
      have e := g2 x hx
      have e2 := g6 x (by omega)
      exact ⟨by have := y.1; omega, by have := y.2; omega⟩) ((g2.trans g6 (by omega)).trans g' (by omega)) (by rw [hd]; exact D')
    rw [hd] at this; exact this
end Go.Proofs.Ytnbfaokpaiiojaa.L3
/-
  PACKAGE bolelaw03: a fresh disk, and what stands on it.
-/
namespace Go.Proofs.Ytnbfaokpaiiojaa.L3
open Go Go.Proofs Go.Proofs.Ytnbfaokpaiiojaa.Wx Go.Proofs.Ytnbfaokpaiiojaa.Hp Go.Proofs.Ytnbfaokpaiiojaa.W Go.Proofs.Ytnbfaokpaiiojaa.Ad

def many (n : Int) : Nat := 1 + (n % 9).toNat
def blocks0 (n : Nat) : List (List UInt8) := (List.range n).map fun i => rep (UInt8.ofNat i)
theorem blocks0_len (n : Nat) : ∀ x ∈ blocks0 n, x.length = 512 := by
  intro x hx; obtain ⟨i, _, rfl⟩ := List.mem_map.mp hx; exact rep_length _
theorem join_length : ∀ (xs : List (List UInt8)), (∀ x ∈ xs, x.length = 512) → xs.flatten.length = xs.length * 512 := by
  intro xs
  induction xs with
  | nil => intro _; rfl
  | cons x r ih => intro h; rw [List.flatten_cons, List.length_append, ih (fun y hy => h y (List.mem_cons_of_mem _ hy)), h x (List.mem_cons_self ..), List.length_cons]; omega
theorem join_part : ∀ (xs : List (List UInt8)), (∀ x ∈ xs, x.length = 512) → ∀ (i : Nat) (hi : i < xs.length), (xs.flatten.drop (i * 512)).take 512 = xs[i] := by
  intro xs
  induction xs with
  | nil => intro _ i hi; exact absurd hi (by simp)
  | cons x r ih =>
    intro hw i hi
    have hx := hw x (List.mem_cons_self ..)
    rw [List.flatten_cons]
    cases i with
    | zero => rw [Nat.zero_mul, List.drop_zero, List.take_left' hx]; rfl
    | succ i =>
      rw [Nat.add_mul, Nat.one_mul, Nat.add_comm, ← List.drop_drop, List.drop_left' hx]
      exact ih (fun y hy => hw y (List.mem_cons_of_mem _ hy)) i (by simpa using hi)
theorem chunks_of (xs : List (List UInt8)) (h : ∀ x ∈ xs, x.length = 512) : chunks xs.flatten = xs := by
  have hl := join_length xs h
  apply List.ext_getElem
  · rw [chunks_length, hl]; omega
  · intro i h1 h2
    rw [chunks_get _ h1, join_part xs h i h2]
theorem fresh_spec {n : Int} {h : Heap} {K : Value → Heap → Prop} (col : Nat → Nat) (m k : Nat) (hk : k < m ∨ m + 5 < k) (hf : Free h col m)
    (hK : ∀ q a c h' col', Fr No h h' → Ag h.size col col' → DiskAt h' (some q) (fresh (blocks0 (many n))) col' m → (∀ b, m ≤ col' b → col' b ≤ m + 5 → h.size ≤ b) →
      Sl h' 1 a (many n * 512) c ((blocks0 (many n)).flatten.map bv) (On col' k) → (∀ p, a = some p → h.size ≤ p.block) → K (.tuple #[.pointer (some q), .slice a (many n * 512) c]) h') : C.bolelaw03_fresh n h K := by
  have hm0 := Int.emod_nonneg n (show (9 : Int) ≠ 0 by decide)
  have hm1 := Int.emod_lt_of_pos n (show (0 : Int) < 9 by decide)
  have hN : (many n : Int) = 1 + n % 9 := by unfold many; omega
  refine bolelaw03_fresh.ok ?_
  refine ⟨fun a l c i hh => 0 ≤ i ∧ i ≤ many n ∧ l = i.toNat * 512 ∧ Fr No h hh ∧ Sl hh 1 a l c ((blocks0 i.toNat).flatten.map bv) (From h.size), fun _ _ _ i _ => ((many n : Nat) - i).toNat,
    ⟨by omega, by omega, rfl, Fr.refl _ _, Sl.nil _ _ _⟩, ?_⟩
  rintro a l c i h2 ⟨i0, i1, hl, f2, s2⟩
  refine mod_spec (by decide) (by decide) ⟨_, rfl, ?_⟩
  rw [wrap_i64 (by omega) (by omega), ← hN]
  have hs2 := f2.size
  refine cd (fun hi => ?_) fun hi => ?_
  · have hb : IntKind.wrap .u8 i = ((UInt8.ofNat i.toNat).toNat : Int) := by
      rw [wrap_u8 (by omega) (by omega), UInt8.toNat_ofNat']; omega
    rw [hb]
    refine block_spec fun h4 f4 o4 r4 => ⟨_, _, _, rfl, (rep (UInt8.ofNat i.toNat)).map bv, by rw [List.length_map, rep_length], cellsAll r4, bv_one _, ?_⟩
    have hs4 := f4.size
    refine append_own (s2.fr f4 fun _ _ _ x => x) (by rw [List.length_map, rep_length]; rfl) rfl (by show (l + 512) * 1 ≤ _; omega) (by omega) fun a' c' h5 f5 s5 => ?_
    rw [wrap_i64 (by omega) (by omega)]
    have ht : (i + 1).toNat = i.toNat + 1 := by omega
    refine ⟨⟨by omega, by omega, by omega, ?_, ?_⟩, falls hi⟩
    · exact (f2.no f4).trans f5 (fun b hb e => by have : h.size ≤ b := e; omega)
    · have e : (blocks0 (i.toNat + 1)).flatten.map bv = (blocks0 i.toNat).flatten.map bv ++ (rep (UInt8.ofNat i.toNat)).map bv := by
        rw [blocks0, List.range_succ, List.map_append, List.flatten_append, List.map_append]; simp [blocks0]
      rw [ht, e]
      exact s5.mono fun b hb => by rcases hb with hb | hb; exact hb; show h.size ≤ b; omega
  have e : i.toNat = many n := by omega
  rw [e] at hl s2
  have s2c : Sl h2 1 a l c ((blocks0 (many n)).flatten.map bv) (On (upd col h.size k) k) := s2.mono fun b hb => upd_ge hb
  have hfl := join_length _ (blocks0_len (many n))
  have hbl : (blocks0 (many n)).length = many n := by rw [blocks0, List.length_map, List.length_range]
  have hf2 := hf.upd (k := k) hk h2
  have hmany : 1 ≤ many n ∧ many n ≤ 9 := by omega
  refine Open_spec (upd col h.size k) m hf2 s2.str s2.le (by omega) (fun bad => by omega) fun y1 y2 y3 q h6 col6 f6 g6 D6 => ⟨_, _, rfl, cn (fun x => absurd rfl x) fun _ => cf rfl ?_⟩
  rw [chunks_of _ (blocks0_len _)] at D6
  have hlen : (fresh (blocks0 (many n))).lasts.length = many n := hbl
  refine Ad.Blocks_spec D6 ⟨_, rfl, mod_spec (by decide) (by decide) ⟨_, rfl, ?_⟩⟩
  rw [hlen, wrap_i64 (by omega) (by omega), ← hN]
  refine cn (fun x => absurd rfl x) fun _ => Ad.Down_spec D6 ⟨_, rfl, cf rfl ?_⟩
  have hlast : readAt (fresh (blocks0 (many n))) (n % 9).toNat = rep (UInt8.ofNat (n % 9).toNat) := by
    have : (n % 9).toNat < many n := by omega
    simp only [readAt, readFrom, fresh, List.foldl_nil, List.getD_eq_getElem?_getD, blocks0, List.getElem?_map, List.getElem?_range this]
    rfl
  refine mod_spec (by decide) (by decide) ⟨_, rfl, Read_spec D6 (fun x => Bool.noConfusion x) (fun _ x => absurd ⟨hm0, by rw [hlen]; omega⟩ x) fun _ _ _ b h12 f12 hb12 o12 r12 l12 => ⟨_, _, _, _, rfl, cn (fun x => absurd rfl x) fun _ => ?_⟩⟩
  rw [hlast] at r12 l12
  refine ⟨_, strAll r12 l12, mod_spec (by decide) (by decide) ⟨_, rfl, by rw [toList_mkStr]; exact strAll r12 l12, ?_⟩⟩
  have hb : IntKind.wrap .u8 (n % 9) = ((UInt8.ofNat (n % 9).toNat).toNat : Int) := by
    rw [wrap_u8 (by omega) (by omega), UInt8.toNat_ofNat']; omega
  rw [hb]
  refine block_spec fun h14 f14 o14 r14 => ⟨_, _, _, rfl, by rw [toList_mkStr]; exact strAll ((f14.rd o12.lt (fun x => x)).trans r12) l12, _, strAll r14 (rep_length _), cnot (ct (beq_self_eq_true _) ?_)⟩
  have F14 := f12.no f14
  have g : Ag h.size col col6 := (ag_upd _ _ _).trans g6 hs2
  rw [hl]
  refine hK q a c h14 col6 ((f2.no f6).no F14) g (D6.keep F14 (Ag.refl _ _) (fun _ _ _ x => x)) (fun b c1 c2 => Nat.le_trans hs2 (hf2.new g6 c1 c2)) ?_ ?_
  · rw [← hl]
    exact ((s2c.keep f6 g6 (fun _ _ x => x)).fr F14 (fun _ _ _ x => x))
  · intro p hp; subst hp; exact s2.2.2.1
end Go.Proofs.Ytnbfaokpaiiojaa.L3
/-
  LAW AdiskChosen.
-/
namespace Go.Proofs.Ytnbfaokpaiiojaa.L3
open Go Go.Proofs Go.Proofs.Ytnbfaokpaiiojaa.Wx Go.Proofs.Ytnbfaokpaiiojaa.Hp Go.Proofs.Ytnbfaokpaiiojaa.W Go.Proofs.Ytnbfaokpaiiojaa.Ad

theorem strSub {h : Heap} {a : Option Addr} {l c o k : Nat} {bs : List UInt8} (B : StrAt h a l bs) (hlc : l ≤ c) (h1 : o + k ≤ l) (hk : 0 < k) : StrAt h (if c = o then a else a.map (·.add o)) k ((bs.drop o).take k) := by
  rw [if_neg (by omega)]; exact StrAt.take (StrAt.drop B o) (by omega)
theorem SlCells.lt {h : Heap} {p : Addr} {xs : List Value} (c : SlCells h (some p) xs) (hx : xs ≠ []) : p.block < h.size := by
  cases xs with
  | nil => exact absurd rfl hx
  | cons x r =>
    have := (cellOf_some (c 0 x rfl)).2
    have hb : (p.add 0).block = p.block := by rw [Addr.add_zero]
    rw [hb] at this
    exact rd_lt this
theorem chosen_add (ps : List (Int × List UInt8)) (x : Int × List UInt8) : ∀ keep : List Bool, chosen (ps ++ [x]) keep = chosen ps keep ++ (if keep[ps.length]? = some true then [x] else []) := by
  induction ps with
  | nil => intro keep; cases keep with
    | nil => simp [chosen]
    | cons k r => cases k <;> simp [chosen]
  | cons p r ih => intro keep; cases keep with
    | nil => simp [chosen]
    | cons k s =>
      have e := ih s
      simp only [chosen] at e ⊢
      cases k <;> simp [e]
theorem sub_ok {i : Int} {n : Nat} (h0 : 0 ≤ i) (h : i < n) : i.toNat * 512 + 512 ≤ n * 512 := by omega
theorem chosen1 {ka : Option Addr} {kl kc : Nat} {q : Option Addr} {h3 h : Heap} {n2 k2 : Int} {K : Value → Heap → Prop} {S : RD} {col : Nat → Nat} {m : Nat} {keep : List Bool} {ws : List UInt8} {h0 : Heap}
    (D : DiskAt h q S col m) (hd : S.down = false) (hp : S.pend.length < 1000000000) (hk2 : k2 = S.pend.length) (hn2 : n2 = S.lasts.length) (hN : S.lasts.length ≤ 16384) (hw : rd h h3.size = ws.map bv) (hwl : ws.length = S.lasts.length)
    (hrel : ws.map rep = applyTo S.lasts (chosen S.pend keep)) (hcw : col h3.size = m + 6) (hwlt : h3.size < h.size) (hkl : keep.length = kl) (hk : SlCells h ka (keep.map .bool)) (hkc : ∀ p, ka = some p → keep ≠ [] → p.block < h0.size)
    (F0 : Fr No h0 h) (hf : Free h0 col m) (hK : ∀ h', Fr No h0 h' → K (.bool true) h') : bolelaw03_AdiskChosen.k1 ka kl kc q h3 n2 k2 h K := by
  refine Pending_spec D hp fun a c h11 f11 s11 => ⟨_, _, _, rfl, cn (fun x => absurd hk2.symm x) fun _ => ?_⟩
  have D1 := D.keep f11 (Ag.refl _ _) (fun _ _ _ x => x)
  refine Crash_spec D1 hkl (SlCells.fr f11 hk fun _ _ x => x) (fun p hp hne x => hf p.block (hkc p hp hne) (by omega) (by omega)) fun h12 f12 D2 => ⟨rfl, ?_⟩
  rw [if_neg (by rw [hd]; exact Bool.false_ne_true)] at D2
  refine Image_spec D2 fun a3 c3 h13 f13 s13 => ⟨_, _, _, rfl, ?_⟩
  have hlen : (S.cut keep).lasts.length = S.lasts.length := applyTo_length _ _
  rw [hlen] at s13
  rw [hlen, hn2, wrap_i64 (by omega) (by omega)]
  refine cn (fun x => absurd (by omega) x) fun _ => ?_
  rw [Int.toNat_natCast]
  have F13 : Fr No h0 h13 := ((F0.no f11).trans f12 (fun b hb x => hf b hb x.1 x.2)).no f13
  have nw : ¬ Dk col m h3.size := fun x => by have := x.2; omega
  have w13 : rd h13 h3.size = ws.map bv := by
    have hs := f11.size
    rw [f13.rd (Nat.lt_of_lt_of_le (Nat.lt_of_lt_of_le hwlt hs) f12.size) (fun x => x), f12.rd (Nat.lt_of_lt_of_le hwlt hs) nw, f11.rd hwlt (fun x => x), hw]
  have wlt13 : h3.size < h13.size := Nat.lt_of_lt_of_le hwlt (Nat.le_trans f11.size (Nat.le_trans f12.size f13.size))
  have hws : ∀ x ∈ ws.map rep, x.length = 512 := by intro x hx; obtain ⟨y, _, rfl⟩ := List.mem_map.mp hx; exact rep_length _
  refine ⟨fun i hh => 0 ≤ i ∧ i ≤ S.lasts.length ∧ Fr No h13 hh, fun i _ => ((S.lasts.length : Nat) - i).toNat, ⟨by omega, by omega, Fr.refl _ _⟩, ?_⟩
  rintro i h14 ⟨i0, i1, f14⟩
  refine cd (fun hi => ?_) fun hi => hK _ (F13.no f14)
  have hi' : i.toNat < ws.length := by omega
  rw [wrap_i64 (n := i * 512) (by omega) (by omega), wrap_i64 (n := i * 512 + 512) (by omega) (by omega), wrap_i64 (n := i + 1) (by omega) (by omega)]
  have e1 : (i * 512).toNat = i.toNat * 512 := by omega
  have e2 : (i * 512 + 512).toNat - i.toNat * 512 = 512 := by omega
  rw [e1, e2]
  have hle : S.lasts.length * 512 ≤ c3 := s13.le
  have B0 : StrAt h14 a3 (S.lasts.length * 512) (S.cut keep).lasts.flatten := StrAt.fr f14 s13.str (fun _ _ x => x)
  have hok : i.toNat * 512 + 512 ≤ S.lasts.length * 512 := sub_ok i0 hi
  have B := strSub B0 hle hok (Nat.succ_pos 511)
  have hpart : ((S.cut keep).lasts.flatten.drop (i.toNat * 512)).take 512 = rep ws[i.toNat] := by
    have : (S.cut keep).lasts = ws.map rep := hrel.symm
    rw [this, join_part _ hws _ (by rw [List.length_map]; exact hi'), List.getElem_map]
  rw [hpart] at B
  have hcell : cellOf h14 (Addr.add ⟨h3.size, 0, none⟩ i.toNat) = some (bv ws[i.toNat]) := rda ((f14.rd wlt13 (fun x => x)).trans w13) (by rw [Nat.zero_add, List.getElem?_map, List.getElem?_eq_getElem hi']; rfl)
  refine ⟨by omega, _, B, ⟨i0, hi⟩, _, hcell, ?_⟩
  refine block_spec fun h15 f15 o15 r15 => ⟨_, _, _, rfl, ?_, rep ws[i.toNat], ?_, ?_⟩
  · rw [toList_mkStr]; exact StrAt.fr f15 B (fun _ _ x => x)
  · exact strAll r15 (rep_length _)
  · rw [beq_self_eq_true]
    exact ⟨⟨by omega, by omega, f14.no f15⟩, falls hi⟩
end Go.Proofs.Ytnbfaokpaiiojaa.L3
/-
  LAW AdiskChosen, the whole.
-/
namespace Go.Proofs.Ytnbfaokpaiiojaa.L3
open Go Go.Proofs Go.Proofs.Ytnbfaokpaiiojaa.Wx Go.Proofs.Ytnbfaokpaiiojaa.Hp Go.Proofs.Ytnbfaokpaiiojaa.W Go.Proofs.Ytnbfaokpaiiojaa.Ad

theorem doOrd_write {S : RD} {o : Ord} (ho : o.flush = false) (hd : S.down = false) (hl : S.left = 0) (h0 : 0 < S.lasts.length) : doOrd S o = (S.putW (o.at_ % S.lasts.length) (rep o.fill), 0) := by
  have h1 := Int.emod_nonneg o.at_ (show (S.lasts.length : Int) ≠ 0 by omega)
  have h2 := Int.emod_lt_of_pos o.at_ (show (0 : Int) < S.lasts.length by omega)
  rw [doOrd, if_neg (by rw [ho]; exact Bool.false_ne_true), RD.write, if_neg (by rw [hd]; exact Bool.false_ne_true), if_neg (fun y => y ⟨h1, h2⟩), if_neg (fun y => y (rep_length _)), RD.step, if_neg (by show ¬ 0 < S.left; omega)]
  rfl
/-- what stands before put i -/
structure ChI (h0 : Heap) (wb N : Nat) (keep : List Bool) (q : Option Addr) (i : Nat) (hh : Heap) (S : RD) (col : Nat → Nat) (ws : List UInt8) : Prop where
  D : DiskAt hh q S col 10
  down : S.down = false
  left : S.left = 0
  lasts : S.lasts = blocks0 N
  pend : S.pend.length = i
  tape : S.tape.length = i
  own : Own hh wb
  rd : rd hh wb = ws.map bv
  len : ws.length = N
  rel : ws.map rep = applyTo S.lasts (chosen S.pend keep)
  cw : col wb = 16
  fr : Fr No h0 hh
  free : Free h0 col 10
theorem blocks0_length (N : Nat) : (blocks0 N).length = N := by rw [blocks0, List.length_map, List.length_range]
theorem AdiskChosen_spec {n : Int} {pa : Option Addr} {pl pc : Nat} {os : List Ord} {ka : Option Addr} {kl kc : Nat} {keep : List Bool} {h : Heap} {K : Value → Heap → Prop}
    (P : SlCells h pa (os.flatMap Ord.cells)) (hos : os.length = pl) (hpl : pl ≤ 140737488355328) (Kp : SlCells h ka (keep.map .bool)) (hkl : keep.length = kl)
    (hK : ∀ h', Fr No h h' → K (.bool true) h') : C.bolelaw03_AdiskChosen n pa pl pc ka kl kc h K := by
  have hm0 := Int.emod_nonneg n (show (9 : Int) ≠ 0 by decide)
  have hm1 := Int.emod_lt_of_pos n (show (0 : Int) < 9 by decide)
  have hN1 : 1 ≤ many n ∧ many n ≤ 9 := by unfold many; omega
  refine bolelaw03_AdiskChosen.ok (fresh_spec (fun _ => 0) 10 1 (Or.inl (by omega)) (free0 h (by omega)) fun q a c h2 col2 f2 g2 D2 new2 s2 hp2 => ⟨_, _, _, _, rfl, cf rfl (Ad.Blocks_spec D2 ⟨_, rfl, ?_⟩)⟩)
  have hlen : (fresh (blocks0 (many n))).lasts.length = many n := blocks0_length _
  rw [hlen]
  refine ⟨by omega, New.intro fun h4 n4 => ?_⟩
  rw [Int.toNat_natCast]
  refine ⟨fun i hh => 0 ≤ i ∧ i ≤ many n ∧ Fr No h2 hh ∧ Own hh h2.size ∧ rd hh h2.size = (List.range i.toNat).map (fun j => bv (UInt8.ofNat j)) ++ List.replicate (many n - i.toNat) (bv 0), fun i _ => ((many n : Nat) - i).toNat,
    ⟨by omega, by omega, n4.fr, n4.own, by rw [n4.rd, Int.toNat_natCast]; rfl⟩, ?_⟩
  rintro i h5 ⟨i0, i1, f5, o5, r5⟩
  refine cd (fun hi => ?_) fun hi => ?_
  · refine ⟨⟨i0, hi⟩, Put.add o5 (by rw [r5, List.length_append, List.length_map, List.length_range, List.length_replicate]; omega) fun h6 d6 => ?_⟩
    have hb : IntKind.wrap .u8 i = ((UInt8.ofNat i.toNat).toNat : Int) := by
      rw [wrap_u8 (by omega) (by omega), UInt8.toNat_ofNat']; omega
    rw [hb, r5] at d6
    rw [wrap_i64 (by omega) (by omega)]
    refine ⟨⟨by omega, by omega, f5.did d6 (fun y => by omega), d6.own, ?_⟩, falls hi⟩
    have e : ((List.range i.toNat).map (fun j => bv (UInt8.ofNat j))).length = i.toNat := by rw [List.length_map, List.length_range]
    rw [d6.rd, Nat.zero_add, show (i + 1).toNat = i.toNat + 1 by omega, List.set_append_right _ _ (by omega), e, Nat.sub_self, show many n - i.toNat = (many n - (i.toNat + 1)) + 1 by omega, List.replicate_succ, List.set_cons_zero, List.range_succ, List.map_append, List.append_assoc]
    rfl
  have ei : i.toNat = many n := by omega
  rw [ei, Nat.sub_self, List.replicate_zero, List.append_nil] at r5
  have g5 : Ag h2.size col2 (upd col2 h2.size 16) := ag_upd _ _ _
  have lt5 : h2.size < h5.size := o5.lt
  have free5 : Free h (upd col2 h2.size 16) 10 := fun b hb c1 c2 => by
    rw [upd_lt (Nat.lt_of_lt_of_le hb f2.size), g2 b hb] at c1
    have c1 : (10 : Nat) ≤ 0 := c1
    omega
  refine ⟨fun k i hh => 0 ≤ i ∧ i ≤ 200 ∧ i ≤ pl ∧ k = i ∧ ∃ S col ws, ChI h h2.size (many n) keep q i.toNat hh S col ws, fun _ i _ => ((pl : Nat) - i).toNat,
    ⟨by omega, by omega, by omega, rfl, fresh (blocks0 (many n)), upd col2 h2.size 16, (List.range (many n)).map UInt8.ofNat, ⟨D2.keep f5 g5 (fun _ _ _ x => x), rfl, rfl, rfl, rfl, rfl, o5, ?_, ?_, ?_, upd_ge (Nat.le_refl _), f2.no f5, free5⟩⟩, ?_⟩
  · rw [r5, List.map_map]; rfl
  · rw [List.length_map, List.length_range]
  · rw [List.map_map]; simp only [fresh, chosen, List.zip_nil_left, List.filter_nil, List.map_nil, applyTo, List.foldl_nil]; rfl
  rintro k i h7 ⟨i0, i2, i1, rfl, S, col, ws, I⟩
  have hSl : S.lasts.length = many n := by rw [I.lasts, blocks0_length]
  have hkc : ∀ p, ka = some p → keep ≠ [] → p.block < h.size := by
    intro p hp hne; subst hp; exact SlCells.lt Kp (by intro x; exact hne (List.map_eq_nil_iff.mp x))
  have fin : ∀ h9, Fr No h7 h9 → bolelaw03_AdiskChosen.k1 ka kl kc q h2 (many n : Nat) k h9 K := by
    intro h9 f9
    exact chosen1 (I.D.keep f9 (Ag.refl _ _) (fun _ _ _ x => x)) I.down (by rw [I.pend]; omega) (by rw [I.pend]; omega) (by rw [hSl]) (by omega) ((f9.rd I.own.lt (fun x => x)).trans I.rd) (I.len.trans hSl.symm) I.rel I.cw
      (Nat.lt_of_lt_of_le I.own.lt f9.size) hkl (SlCells.fr (I.fr.no f9) Kp (fun _ _ x => x)) hkc (I.fr.no f9) I.free hK
  refine cd (fun hi => ?_) fun hi => fin h7 (Fr.refl _ _)
  have hi' : k.toNat < os.length := by omega
  cases pa with
  | none =>
    have P : os.flatMap Ord.cells = [] := P
    have := flat_length Ord.cells 3 os (fun _ _ => rfl)
    rw [P] at this; simp at this; omega
  | some p =>
  have hcell : Cells h7 (p.add (k.toNat * 3)) (Ord.cells os[k.toNat]) := by
    have := Cells.part (SlCells.fr I.fr P (fun _ _ x => x)) (k.toNat * 3) 3
    rw [flat_part Ord.cells 3 os (fun _ _ => rfl) _ hi'] at this
    exact this
  refine ⟨⟨i0, hi⟩, Hp.os ⟨_, rfl, hcell, NewRow.intro rfl ?_ rfl fun h9 n9 => ?_⟩⟩
  · intro v hv; simp only [Ord.cells, List.mem_cons, List.not_mem_nil, or_false] at hv; rcases hv with rfl | rfl | rfl <;> rfl
  refine cd (fun _ => fin h9 n9.fr) fun h200 => ?_
  refine Put.add n9.own (by rw [n9.rd]; exact (by decide : 0 + 2 < 3)) fun h16 d16 => ?_
  have r16 : rd h16 h7.size = Ord.cells { os[k.toNat] with flush := false } := by rw [d16.rd, n9.rd]; rfl
  have F16 : Fr No h7 h16 := n9.fr.did d16 (fun x => by omega)
  have g16 : Ag h7.size col (upd col h7.size 16) := ag_upd _ _ _
  have lt16 : h7.size < h16.size := d16.own.lt
  have wlt7 := I.own.lt
  have D16 := I.D.keep F16 g16 (fun _ _ _ x => x)
  have hs7 := I.fr.size
  have free16 : Free h (upd col h7.size 16) 10 := fun b hb c1 c2 => by
    rw [upd_lt (by omega)] at c1 c2
    exact I.free b hb c1 c2
  refine ⟨_, rfl, cellsAll r16, do_spec D16 (by omega) (by omega) (by rw [I.pend]; omega) (by rw [I.tape]; omega) fun h17 col17 f17 g17 D17 => ⟨_, rfl, ?_⟩⟩
  rw [doOrd_write rfl I.down I.left (by omega)] at D17 ⊢
  refine cn (fun x => absurd rfl x) fun _ => ?_
  have nl : ¬ Dk (upd col h7.size 16) 10 h7.size := fun x => by have := x.2; rw [upd_ge (Nat.le_refl _)] at this; omega
  have nw : ¬ Dk (upd col h7.size 16) 10 h2.size := fun x => by have := x.2; rw [upd_lt wlt7, I.cw] at this; omega
  have r17 := (f17.rd lt16 nl).trans r16
  have w16 : rd h16 h2.size = ws.map bv := (F16.rd wlt7 (fun x => x)).trans I.rd
  have o16 : Own h16 h2.size := F16.own wlt7 (fun x => x) I.own
  have w17 := (f17.rd o16.lt nw).trans w16
  have o17 := f17.own o16.lt nw o16
  have F17 : Fr No h h17 := (I.fr.no F16).trans f17 (fun b hb x => free16 b hb x.1 x.2)
  have hk1 : (k + 1).toNat = k.toNat + 1 := by omega
  have hwr : IntKind.wrap .i64 (k + 1) = k + 1 := wrap_i64 (by omega) (by omega)
  have cl : ∀ h' ws', Fr (fun x => x = h2.size) h17 h' → Own h' h2.size → rd h' h2.size = ws'.map bv → ws'.length = many n →
      ws'.map rep = applyTo S.lasts (chosen (S.pend ++ [(os[k.toNat].at_ % S.lasts.length, rep os[k.toNat].fill)]) keep) →
      ChI h h2.size (many n) keep q (k + 1).toNat h' (S.putW (os[k.toNat].at_ % S.lasts.length) (rep os[k.toNat].fill)) col17 ws' := by
    intro h' ws' f' o' r' l' e'
    have cw17 : col17 h2.size = 16 := by rw [g17 _ o16.lt, upd_lt wlt7, I.cw]
    refine ⟨D17.keep f' (Ag.refl _ _) (fun b c1 c2 e => by rw [e, cw17] at c2; omega), I.down, I.left, I.lasts, ?_, ?_, o', r', l', e', cw17, F17.trans f' (fun b hb e => by have := f2.size; omega), fun b hb c1 c2 => ?_⟩
    · show (S.pend ++ [_]).length = _
      rw [List.length_append, I.pend, List.length_singleton, hk1]
    · show (S.tape ++ [_]).length = _
      rw [List.length_append, I.tape, List.length_singleton, hk1]
    · rw [g17 b (by omega)] at c1 c2
      exact free16 b hb c1 c2
  rw [hwr]
  have hpk : S.pend.length = k.toNat := I.pend
  have same : keep[k.toNat]? ≠ some true → ChI h h2.size (many n) keep q (k + 1).toNat h17 (S.putW (os[k.toNat].at_ % S.lasts.length) (rep os[k.toNat].fill)) col17 ws := fun hne =>
    cl h17 ws (Fr.refl _ _) o17 w17 I.len (by rw [chosen_add, hpk, if_neg hne, List.append_nil]; exact I.rel)
  refine cd (fun hkk => ⟨⟨i0, hkk⟩, ?_⟩) fun hkk => ?_
  · have hkl' : k.toNat < keep.length := by omega
    have K17 := SlCells.fr F17 Kp (fun _ _ x => x)
    cases ka with
    | none => have Kp : keep.map Value.bool = [] := Kp; rw [List.map_eq_nil_iff.mp Kp] at hkl'; simp at hkl'
    | some kp =>
      refine Hp.os ⟨keep[k.toNat], K17 k.toNat _ (by rw [List.getElem?_map, List.getElem?_eq_getElem hkl']; rfl), cs (fun hb => ?_) fun hb => ?_⟩
      · refine ⟨_, rda r17 rfl, _, rda r17 rfl, mod_spec (by omega) (by omega) ⟨_, rfl, rda r17 rfl, ?_⟩⟩
        have e0 := Int.emod_nonneg os[k.toNat].at_ (show ((many n : Nat) : Int) ≠ 0 by omega)
        have e1 := Int.emod_lt_of_pos os[k.toNat].at_ (show (0 : Int) < (many n : Nat) by omega)
        refine ⟨⟨e0, e1⟩, Put.add o17 (by rw [w17, List.length_map, I.len]; show 0 + (os[k.toNat].at_ % (many n : Nat)).toNat < _; omega) fun h19 d19 => ⟨⟨by omega, by omega, by omega, rfl, _, _, ws.set (os[k.toNat].at_ % (many n : Nat)).toNat os[k.toNat].fill, cl h19 _ d19.fr d19.own ?_ ?_ ?_⟩, falls hi⟩⟩
        · rw [d19.rd, w17, Nat.zero_add, List.map_set]; rfl
        · rw [List.length_set]; exact I.len
        · rw [chosen_add, hpk, if_pos (by rw [List.getElem?_eq_getElem hkl', hb]), applyTo, List.foldl_append, List.map_set, I.rel, hSl]; rfl
      · exact ⟨⟨by omega, by omega, by omega, rfl, _, _, _, same (by rw [List.getElem?_eq_getElem hkl', hb]; simp)⟩, falls hi⟩
  · exact ⟨⟨by omega, by omega, by omega, rfl, _, _, _, same (by rw [List.getElem?_eq_none (by omega)]; simp)⟩, falls hi⟩
end Go.Proofs.Ytnbfaokpaiiojaa.L3
