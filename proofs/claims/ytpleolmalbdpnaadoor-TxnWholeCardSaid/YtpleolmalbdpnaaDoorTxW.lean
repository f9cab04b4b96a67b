/-
  TxnWhole: the law's function answers true.
-/
import Derived.Test.YtpleolmalbdpnaaDoorTxR
import Derived.Test.YtpleolmalbdpnaaDoorTxE
import Derived.Test.YtpleolmalbdpnaaDoorWqP
namespace Go.Proofs.YtpleolmalbdpnaaDoor.Txl
open Go Go.Proofs Go.Proofs.YtpleolmalbdpnaaDoor.Wx Go.Proofs.YtpleolmalbdpnaaDoor.Hp Go.Proofs.YtpleolmalbdpnaaDoor.W Go.Proofs.YtpleolmalbdpnaaDoor.Ad Go.Proofs.YtpleolmalbdpnaaDoor.Tm Go.Proofs.YtpleolmalbdpnaaDoor.Spc

theorem chunk_flat {ls : List Txt} (h : ∀ x ∈ ls, x.length = 512) {i : Nat} (hi : i < ls.length) : (ls.flatten.drop (i * 512)).take 512 = ls[i] := by
  have e := chunks_flatten h
  have hl := flatten_len ls h
  have hc : (chunks ls.flatten).length = ls.length := by rw [chunks_length, hl]; omega
  rw [← chunks_get ls.flatten (by omega)]
  exact List.getElem_of_eq e (by omega)
theorem Kx.rise {m : Nat} {now : List UInt8} {is : List Bool} {T : TM} (a : Kx m now is T) (d : New T.disk) : Wc.Rise 118 T.blocks ∧ T.blocks.length = (lsI is 118).length ∧ T.blocks.length ≤ 20 := by
  have g := a.good d
  refine ⟨⟨by rw [g.fst]; exact sortZ_lt g.keys, fun p hp => ?_, fun p hp => g.len p (g.mem hp).2⟩, by rw [g.blocksLen, a.putLen], by rw [g.blocksLen]; exact a.room⟩
  exact a.rng p.1 (List.mem_map.mpr ⟨p, (g.mem hp).2, rfl⟩)
theorem Kx.last {m : Nat} {now : List UInt8} {is : List Bool} {T : TM} (a : Kx m now is T) (e : T.disk = fresh (freshL 118)) {k : Nat} (h1 : 98 ≤ k) (h2 : k < 118) :
    (applyTo (freshL 118) T.blocks)[k]? = some (if is.getD k false = true then blk1 (now.getD k 0) else blk1 (byteI k)) := by
  have g := a.good (by rw [e]; exact fresh_new 118)
  have get : ∀ c, ((k : Int), c) ∈ T.blocks → c = blk1 (now.getD k 0) := fun c hc => by
    have e1 := (g.mem hc).1
    have := a.data k h1 h2
    rw [TM.read_live a.live, a.N, if_neg (by omega), TM.get_some e1] at this
    exact this
  have rng : ∀ p ∈ T.blocks, 98 ≤ p.1 := fun p hp => (g.rng p (g.mem hp).2).1
  by_cases hk : is.getD k false = true
  · rw [if_pos hk]
    have hm : (k : Int) ∈ T.blocks.map (·.1) := by rw [g.fst]; exact (sortZ_perm _).mem_iff.mpr ((a.isk k h1 h2).mp hk)
    obtain ⟨p, hp, ep⟩ := List.mem_map.mp hm
    have hc : ((k : Int), p.2) ∈ T.blocks := by rw [← ep]; exact hp
    have ec := get _ hc
    rw [ec] at hc
    exact Wc.applyTo_of (by rw [freshL_length]; exact h2) hc (fun c' hc' => get c' hc') fun p hp => by have := rng p hp; omega
  · rw [if_neg hk, Wc.applyTo_get, freshL_get h2]
    intro p hp
    refine ⟨fun e => hk ((a.isk k h1 h2).mpr ?_), by have := rng p hp; omega⟩
    rw [← e]; exact List.mem_map.mpr ⟨p, (g.mem hp).2, rfl⟩
theorem commit_eq {T : TM} (h : T.over = false) : T.commit = (TM.ended (Wc.wal T.disk T.blocks).1, (Wc.wal T.disk T.blocks).2) := by
  unfold TM.commit
  rw [h, if_neg (by simp)]
  split
  · rename_i e
    have eb : T.blocks = [] := by unfold TM.blocks TM.written; rw [e]; simp [sortZ]
    rw [eb]; unfold Wc.wal; rw [if_pos rfl]
  · rfl
theorem fresh_log : (fresh (freshL 118)).lasts[1]? = some (Hd.zeros 512) := by
  show (freshL 118)[1]? = _
  rw [freshL_get (by decide)]; rfl
/-- what lasts of the block k -/
def lastK (new : Bool) (nw : List UInt8) (iz : List Bool) (k : Nat) : Txt := if new = true ∧ iz.getD k false = true then blk1 (nw.getD k 0) else blk1 (byteI k)
theorem whole_loop {h0 h6 h7 hh : Heap} {ls : List Txt} {nw : List UInt8} {iz : List Bool} {new : Bool} {n3 : Int} {sA : Option Addr} {sC : Nat} {K : Value → Heap → Prop}
    (f : Fr No h0 hh) (r1 : rd hh h6.size = nw.map bv) (n1 : h6.size < hh.size) (r2 : rd hh h7.size = iz.map .bool) (n2 : h7.size < hh.size) (s : StrAt hh sA 60416 ls.flatten) (hc : 60416 ≤ sC) (hl : ls.length = 118) (h5 : ∀ x ∈ ls, x.length = 512)
    (ln : nw.length = 118) (li : iz.length = 118) (hw : ∀ k, 98 ≤ k → k < 118 → ls[k]? = some (lastK new nw iz k)) (hn : new = false → n3 ≠ 0)
    (hK : ∀ h', Fr No h0 h' → K (.bool true) h') : bolelaw06_TxnWhole.k8 h6 h7 n3 sA sC hh K := by
  unfold bolelaw06_TxnWhole.k8
  refine ⟨fun all none i h' => ∃ k : Nat, i = k ∧ 98 ≤ k ∧ k ≤ 118 ∧ Fr No hh h' ∧ (if new = true then all = true else none = true), fun _ _ i _ => (118 - i).toNat, ⟨98, rfl, Nat.le_refl _, by decide, Fr.refl _ _, by split <;> rfl⟩, ?_⟩
  rintro all none i h33 ⟨k, ei, k0, k1, f33, way⟩
  refine cd (fun hlt => ?_) fun hlt => ?_
  · have hk : k < 118 := by omega
    subst ei
    have e1 : IntKind.wrap .i64 ((k : Int) * 512) = ((k * 512 : Nat) : Int) := by rw [wrap_i64 (by omega) (by omega)]; omega
    have e2 : IntKind.wrap .i64 (((k * 512 : Nat) : Int) + 512) = ((k * 512 + 512 : Nat) : Int) := by rw [wrap_i64 (by omega) (by omega)]; omega
    rw [e1, e2, Int.toNat_natCast, Int.toNat_natCast, Int.toNat_natCast]
    have B := Re.StrAt.cut (StrAt.fr f33 s fun _ _ y => y) hc (show k * 512 ≤ k * 512 + 512 by omega) (by omega)
    have ecut : (ls.flatten.drop (k * 512)).take (k * 512 + 512 - k * 512) = lastK new nw iz k := by
      have := hw k k0 hk
      rw [List.getElem?_eq_getElem (by omega)] at this
      rw [← Option.some.inj this, ← chunk_flat h5 (show k < ls.length by omega), show k * 512 + 512 - k * 512 = 512 by omega]
    rw [ecut] at B
    refine ⟨⟨by omega, by omega, by omega⟩, _, B, ⟨by omega, by omega⟩, _, row_getB ((f33.rd n2 fun y => y).trans r2) (by omega), ?_⟩
    have ew : IntKind.wrap .i64 ((k : Int) + 1) = ((k + 1 : Nat) : Int) := by rw [wrap_i64 (by omega) (by omega)]; omega
    rw [ew]
    have nxt : ∀ {all' none' : Bool} {h' : Heap}, Fr No h33 h' → (if new = true then all' = true else none' = true) → (∃ j : Nat, ((k + 1 : Nat) : Int) = j ∧ 98 ≤ j ∧ j ≤ 118 ∧ Fr No hh h' ∧ (if new = true then all' = true else none' = true)) ∧ ((118 : Int) - ((k + 1 : Nat) : Int)).toNat < ((118 : Int) - (k : Int)).toNat :=
      fun f' w => ⟨⟨k + 1, rfl, by omega, by omega, f33.no f', w⟩, by omega⟩
    have u8k : IntKind.wrap .u8 (k : Int) = ((UInt8.ofNat k).toNat : Int) := u8_of (by omega)
    have ebk : byteI k = UInt8.ofNat k := by unfold byteI; rw [if_neg (by omega)]
    rw [u8k]
    cases hb : iz.getD k false with
    | false =>
      have el : lastK new nw iz k = blk1 (UInt8.ofNat k) := by unfold lastK; rw [hb, if_neg (by simp), ebk]
      refine ct rfl (bl_spec fun b h' f' _ s' => ⟨_, _, _, rfl, two_blk (StrAt.fr f' B fun _ _ y => y) s'.str el (nxt f' way)⟩)
    | true =>
      refine cf rfl ?_
      have k9 : ∀ {all2 : Bool} {h' : Heap}, Fr No h33 h' → (new = true → all2 = true) → bolelaw06_TxnWhole.k9 all none (k : Int) h33 (fun all none i h' => ∃ k : Nat, i = k ∧ 98 ≤ k ∧ k ≤ 118 ∧ Fr No hh h' ∧ (if new = true then all = true else none = true)) (fun _ _ i _ => (118 - i).toNat) (lastK new nw iz k) all2 h' K := by
        intro all2 h' f' h2
        unfold bolelaw06_TxnWhole.k9
        rw [u8k, ew]
        cases none with
        | true =>
          refine ct rfl (bl_spec fun b h'' f'' _ s' => ⟨_, _, _, rfl, _, s'.str, nxt (f'.no f'') ?_⟩)
          cases new with
          | true => rw [if_pos rfl]; exact h2 rfl
          | false =>
            rw [if_neg (by simp)]
            have el : lastK false nw iz k = blk1 (UInt8.ofNat k) := by unfold lastK; rw [if_neg (by simp), ebk]
            rw [toList_mkStr, toList_mkStr, el]; exact beq_self_eq_true _
        | false =>
          refine cf rfl (nxt f' ?_)
          cases new with
          | true => rw [if_pos rfl]; exact h2 rfl
          | false => rw [if_neg (by simp)] at way; cases way
      cases all with
      | true =>
        refine ct rfl ⟨⟨by omega, by omega⟩, _, row_getU ((f33.rd n1 fun y => y).trans r1) (by omega), bl_spec fun b h' f' _ s' => ⟨_, _, _, rfl, _, s'.str, ?_⟩⟩
        refine k9 f' fun e => ?_
        rw [toList_mkStr, toList_mkStr]
        have el : lastK new nw iz k = blk1 (nw.getD k 0) := by unfold lastK; rw [hb, if_pos ⟨e, rfl⟩]
        rw [el]; exact beq_self_eq_true _
      | false =>
        refine cf rfl (k9 (Fr.refl _ _) fun e => ?_)
        rw [if_pos e] at way; exact way
  · cases all with
    | true => exact ct rfl (hK h33 (f.no f33))
    | false =>
      cases new with
      | true => rw [if_pos rfl] at way; cases way
      | false =>
        rw [if_neg (by simp)] at way
        rw [way]
        refine cf rfl (ct rfl ?_)
        have : (n3 == 0) = false := beq_eq_false_iff_ne.mpr (hn rfl)
        rw [this]
        exact hK h33 (f.no f33)
/-- two rows in memory -/
structure Rw (hh h6 h7 : Heap) (nw : List UInt8) (iz : List Bool) : Prop where
  r1 : rd hh h6.size = nw.map bv
  n1 : h6.size < hh.size
  r2 : rd hh h7.size = iz.map .bool
  n2 : h7.size < hh.size
theorem Rw.no {hh hh' h6 h7 : Heap} {nw : List UInt8} {iz : List Bool} (a : Rw hh h6 h7 nw iz) (f : Fr No hh hh') : Rw hh' h6 h7 nw iz :=
  ⟨(f.rd a.n1 fun y => y).trans a.r1, Nat.lt_of_lt_of_le a.n1 f.size, (f.rd a.n2 fun y => y).trans a.r2, Nat.lt_of_lt_of_le a.n2 f.size⟩
theorem Rw.fr {hh hh' h6 h7 : Heap} {nw : List UInt8} {iz : List Bool} {F : Nat → Prop} (a : Rw hh h6 h7 nw iz) (f : Fr F hh hh') (h1 : ¬ F h6.size) (h2 : ¬ F h7.size) : Rw hh' h6 h7 nw iz :=
  ⟨(f.rd a.n1 h1).trans a.r1, Nat.lt_of_lt_of_le a.n1 f.size, (f.rd a.n2 h2).trans a.r2, Nat.lt_of_lt_of_le a.n2 f.size⟩
/-- and a disk beside them -/
structure Wz (h0 hh : Heap) (D : Nat → Prop) (d : Option Addr) (S : RD) (h6 h7 : Heap) (nw : List UInt8) (iz : List Bool) : Prop where
  z : Wc.Dz h0 hh D d S
  r : Rw hh h6 h7 nw iz
  n : ¬ D h6.size ∧ ¬ D h7.size
theorem Wz.no {h0 hh hh' h6 h7 : Heap} {D : Nat → Prop} {d : Option Addr} {S : RD} {nw : List UInt8} {iz : List Bool} (a : Wz h0 hh D d S h6 h7 nw iz) (f : Fr No hh hh') : Wz h0 hh' D d S h6 h7 nw iz := ⟨a.z.no f, a.r.no f, a.n⟩
theorem Wz.call {h0 hh hh' h6 h7 : Heap} {D D' : Nat → Prop} {d : Option Addr} {S S' : RD} {nw : List UInt8} {iz : List Bool} (a : Wz h0 hh D d S h6 h7 nw iz) (f : Fr D hh hh') (g : Gw hh D hh' D') (A : DiskF hh' D' d S') : Wz h0 hh' D' d S' h6 h7 nw iz :=
  ⟨a.z.call f g A, a.r.fr f a.n.1 a.n.2, fun y => a.n.1 ((g.old _ a.r.n1).mp y), fun y => a.n.2 ((g.old _ a.r.n2).mp y)⟩
/-- what is asked of the image that is wanted -/
structure Wnt (w : List Txt) (new : Bool) (nw : List UInt8) (iz : List Bool) : Prop where
  zero : w[0]? = some (blk1 0)
  one : w[1]? = some (blk1 0)
  at_ : ∀ k, 98 ≤ k → k < 118 → w[k]? = some (lastK new nw iz k)
theorem whole_k7 {h0 h27 h6 h7 : Heap} {D : Nat → Prop} {q : Option Addr} {L w : List Txt} {nw : List UInt8} {iz : List Bool} {new : Bool} {n3 : Int} {K : Value → Heap → Prop} (G : Re.Glo h0) (W : Wz h0 h27 D q (fresh L) h6 h7 nw iz) (hol : Wc.Hol 118 L w) (wn : Wnt w new nw iz) (ln : nw.length = 118) (li : iz.length = 118)
    (hn : new = false → n3 ≠ 0) (hK : ∀ h', Fr No h0 h' → K (.bool true) h') : bolelaw06_TxnWhole.k7 h6 h7 n3 h27 q K := by
  unfold bolelaw06_TxnWhole.k7
  obtain ⟨S3, m, e, er, _, hol3, c0⟩ := Wc.recover_cut (c := 0) (S := fresh L) ⟨by decide, by decide⟩ hol rfl rfl rfl rfl ⟨Int.le_refl 0, by show (0 : Int) ≤ 1000000; decide⟩ ⟨Int.le_refl 0, by show (0 : Int) ≤ 1000000; decide⟩
  obtain ⟨rfl, cl, al⟩ := c0 rfl
  refine Wc.Recover_spec (G.no W.z.f) W.z.A (by show 0 < 100000000; omega) (by show 0 < 100000000; omega) fun h28 D3 f28 g28 A28 => ⟨_, _, rfl, ?_⟩
  rw [er] at A28 ⊢
  have W3 := W.call f28 g28 A28
  have h5 := W3.z.lasts
  have hl : S3.lasts.length = 118 := al.1
  refine cn (fun y => absurd rfl y) fun _ => Wc.diskImage W3.z.A fun a c h29 f29 s29 => ⟨_, _, _, rfl, ?_⟩
  have e6 : S3.lasts.length * 512 = 60416 := by rw [hl]
  have s29 : Sl h29 1 a (S3.lasts.length * 512) c (S3.lasts.flatten.map bv) (From h28.size) := s29
  have W4 := W3.no f29
  show bif ((S3.lasts.length * 512 : Nat) : Int) != 60416 then _ else _
  rw [e6] at s29 ⊢
  have hc : 60416 ≤ c := s29.le
  have B := s29.str
  have get : ∀ i, i < 2 ∨ 98 ≤ i → S3.lasts[i]? = w[i]? := al.2.2.2.2
  have p0 : (S3.lasts.flatten.drop 0).take 512 = blk1 0 := by
    have := chunk_flat h5 (show 0 < S3.lasts.length by omega)
    rw [Nat.zero_mul] at this
    rw [this]
    have := (get 0 (by omega)).trans wn.zero
    rw [List.getElem?_eq_getElem (by omega)] at this
    exact Option.some.inj this
  have p1 : (S3.lasts.flatten.drop 512).take 512 = blk1 0 := by
    have := chunk_flat h5 (show 1 < S3.lasts.length by omega)
    rw [Nat.one_mul] at this
    rw [this]
    have := (get 1 (by omega)).trans wn.one
    rw [List.getElem?_eq_getElem (by omega)] at this
    exact Option.some.inj this
  have t512 : Int.toNat 512 = 512 := rfl
  have t1024 : Int.toNat 1024 = 1024 := rfl
  rw [t512, t1024]
  have B0 := StrAt.take B (show 512 ≤ 60416 by decide)
  rw [List.drop_zero] at p0
  rw [p0] at B0
  have B1 := Re.StrAt.cut B hc (show 512 ≤ 1024 by decide) (by decide)
  rw [show 1024 - 512 = 512 from rfl, p1] at B1
  refine cn (fun y => absurd rfl y) fun _ => ⟨⟨by omega, by omega⟩, _, B0, ?_⟩
  have zz : (0 : Int) = (((0 : UInt8)).toNat : Int) := rfl
  rw [zz]
  refine bl_spec fun b30 h30 f30 _ s30 => ⟨_, _, _, rfl, blk_eq (StrAt.fr f30 B0 fun _ _ y => y) s30.str rfl ⟨⟨by omega, by omega, by omega⟩, _, StrAt.fr f30 B1 fun _ _ y => y, ?_⟩⟩
  refine bl_spec fun b31 h31 f31 _ s31 => ⟨_, _, _, rfl, blk_eq (StrAt.fr f31 (StrAt.fr f30 B1 fun _ _ y => y) fun _ _ y => y) s31.str rfl ?_⟩
  have W5 := (W4.no f30).no f31
  exact whole_loop W5.z.f W5.r.r1 W5.r.n1 W5.r.r2 W5.r.n2 (StrAt.fr (f30.no f31) B fun _ _ y => y) hc hl h5 ln li (fun k k0 k1 => (get k (.inr k0)).trans (wn.at_ k k0 k1)) hn hK
/-- a disk is opened of what lasts on another one -/
theorem whole_open {h0 hh h1 h6 h7 : Heap} {D : Nat → Prop} {d : Option Addr} {S : RD} {nw : List UInt8} {iz : List Bool} {a : Option Addr} {c : Nat} {K : Value → Heap → Prop} (W : Wz h0 hh D d S h6 h7 nw iz) (hl : S.lasts.length = 118) (f1 : Fr No hh h1) (s : Sl h1 1 a (S.lasts.length * 512) c (S.lasts.flatten.map bv) (From hh.size))
    (hK : ∀ q h' D', Wz h0 h' D' (some q) (fresh S.lasts) h6 h7 nw iz → K (.tuple #[.pointer (some q), .int .i64 0]) h') : C.adisk_Open a (S.lasts.length * 512) c h1 K := by
  refine openF_spec s.str s.le (by omega) (fun y => by exfalso; omega) fun _ _ _ q h2 D2 f2 hD2 A2 => ?_
  rw [chunks_flatten W.z.lasts] at A2
  have z1 := f1.size
  have z0 := W.z.f.size
  have n1 := W.r.n1
  have n2 := W.r.n2
  exact hK q h2 D2 ⟨⟨W.z.f.no (f1.no f2), A2, fun b y => by have := hD2 b y; omega⟩, W.r.no (f1.no f2), fun y => by have := hD2 _ y; omega, fun y => by have := hD2 _ y; omega⟩
theorem whole_k4 {h0 h18 h6 h7 : Heap} {D : Nat → Prop} {q1 : Option Addr} {S : RD} {w : List Txt} {nw : List UInt8} {iz : List Bool} {new : Bool} {n3 again : Int} {leftA : Option Addr} {leftL leftC sL : Nat} {left : List Bool} {K : Value → Heap → Prop} (G : Re.Glo h0) (W : Wz h0 h18 D q1 S h6 h7 nw iz) (hol : Wc.Hol 118 S.lasts w) (wn : Wnt w new nw iz) (ln : nw.length = 118) (li : iz.length = 118)
    (hkl : left.length = leftL) (hk : SlCells h0 leftA (left.map .bool)) (hll : leftL ≤ 140737488355328) (hs : sL ≤ 1000) (hn : new = false → n3 ≠ 0) (hK : ∀ h', Fr No h0 h' → K (.bool true) h') : bolelaw06_TxnWhole.k4 again leftA leftL leftC q1 h6 h7 sL n3 h18 K := by
  unfold bolelaw06_TxnWhole.k4
  have hl : S.lasts.length = 118 := hol.len.1
  refine Wc.diskImage W.z.A fun a c h19 f19 s19 => ⟨_, _, _, rfl, ?_⟩
  refine whole_open W hl f19 s19 fun q h20 D20 W20 => ⟨_, _, rfl, cn (fun y => absurd rfl y) fun _ => cf rfl ?_⟩
  unfold bolelaw06_TxnWhole.k5
  rw [wrap_i64 (n := (sL : Int) + 4) (by omega) (by omega)]
  have hm := modI_range (v := again) (n := (sL : Int) + 4) (by omega)
  refine mod_spec (by omega) (by omega) ⟨_, rfl, ?_⟩
  refine Wc.DiskF.arm W20.z.A rfl (by omega) hkl (SlCells.fr W20.z.f hk fun _ _ y => y) hll fun h22 D22 f22 g22 A22 => ⟨_, rfl, cn (fun y => absurd rfl y) fun _ => ?_⟩
  have W22 := W20.call f22 g22 A22
  obtain ⟨S', m, e, er, way, hol', _⟩ := Wc.recover_cut (c := (modI again ((sL : Int) + 4)).toNat) (S := { fresh S.lasts with left := ((modI again ((sL : Int) + 4)).toNat : Int), keep := left }) ⟨by decide, by decide⟩ hol rfl rfl rfl rfl ⟨Int.le_refl 0, by show (0 : Int) ≤ 1000000; decide⟩ ⟨Int.le_refl 0, by show (0 : Int) ≤ 1000000; decide⟩
  refine Wc.Recover_spec (G.no W22.z.f) W22.z.A (by show 0 < 100000000; omega) (by show 0 < 100000000; omega) fun h23 D23 f23 g23 A23 => ⟨_, _, rfl, ?_⟩
  rw [er] at A23 ⊢
  have W23 := W22.call f23 g23 A23
  have k6 : ∀ h, h = h23 → bolelaw06_TxnWhole.k6 h6 h7 n3 (some q) h K := by
    intro h eh
    subst eh
    unfold bolelaw06_TxnWhole.k6
    refine Wc.diskImage W23.z.A fun a c h26 f26 s26 => ⟨_, _, _, rfl, ?_⟩
    refine whole_open W23 hol'.len.1 f26 s26 fun q4 h27 D27 W27 => ⟨_, _, rfl, cn (fun y => absurd rfl y) fun _ => cf rfl ?_⟩
    exact whole_k7 G W27 hol' wn ln li hn hK
  rcases way with ⟨rfl, hd⟩ | ⟨rfl, hd⟩
  · refine cn (fun _ => cn (fun y => absurd rfl y) fun _ => ?_) fun y => absurd (show (30 : Int) = 0 from y) (by decide)
    refine Wc.DiskF.down W23.z.A ⟨_, rfl, ?_⟩
    have eS : (S', m, (30 : Int)).1.down = true := hd
    rw [eS]
    exact cf rfl (k6 h23 rfl)
  · exact cn (fun y => absurd rfl y) fun _ => k6 h23 rfl
theorem low_want {l : Wc.Nb} (r : Wc.Rise 118 l) : (applyTo (freshL 118) l)[0]? = some (blk1 0) ∧ (applyTo (freshL 118) l)[1]? = some (blk1 0) := by
  have e : ∀ i, i < 98 → (applyTo (freshL 118) l)[i]? = (freshL 118)[i]? := fun i hi => Wc.low_get r (fun _ h => h) hi
  rw [e 0 (by decide), e 1 (by decide), freshL_get (by decide), freshL_get (by decide)]
  exact ⟨rfl, rfl⟩
theorem TxnWhole_spec {h : Heap} {a : Option Addr} {c : Nat} {ps : List Pt} {at_ again : Int} {keepA leftA : Option Addr} {keepL keepC leftL leftC : Nat} {keep left : List Bool} {K : Value → Heap → Prop} (G : Re.Glo h) (P : SlCells h a (ps.flatMap ptV))
    (hkl : keep.length = keepL) (hk : SlCells h keepA (keep.map .bool)) (hkm : keepL ≤ 140737488355328) (hll : left.length = leftL) (hlk : SlCells h leftA (left.map .bool)) (hlm : leftL ≤ 140737488355328)
    (hK : ∀ h', Fr No h h' → K (.bool true) h') : C.bolelaw06_TxnWhole a ps.length c at_ keepA keepL keepC again leftA leftL leftC h K := by
  refine bolelaw06_TxnWhole.ok (fresh_spec (N := 118) (by decide) (by decide) fun q h2 D f2 hD A => ⟨_, rfl, cf rfl ?_⟩)
  refine known_spec (G.no f2) fun h3 f3 => ⟨_, rfl, cf rfl ?_⟩
  unfold bolelaw06_TxnWhole.k1
  refine begin_spec (f2.no f3) hD (A.no f3) fun tb h5 F Z5 => ⟨_, rfl, cf rfl ?_⟩
  refine Fill_spec Z5.x Kx.start (Z5.cells P) (by decide) fun h6 F6 f6 g6 x6 => ⟨_, _, _, rfl, ?_⟩
  have Z6 := Z5.call f6 g6 x6
  have K1 := Kx.start.fill ps
  generalize hnw : fillN (now0 118) ps = nw at K1 ⊢
  generalize hiz : fillI (List.replicate 118 false) ps = iz at K1 ⊢
  have ln : nw.length = 118 := K1.nl
  have li : iz.length = 118 := K1.il
  have edk : (fillT (begun 118) ps).disk = fresh (freshL 118) := fill_disk _ _
  clear x6 hnw hiz
  generalize fillT (begun 118) ps = T at K1 Z6 edk
  have live := K1.live
  refine lay_two (K := fun h7 h10 => _) (by rw [List.length_map, ln]) (by rw [List.length_map, li]) (bv_one _) (bool_one _) fun h7 h10 z7 f10 z10 r1 r2 => ?_
  have Z10 := Z6.no f10
  have F6lt : ∀ b, F6 b → b < h6.size := fun b y => Z6.x.lt y
  refine cf rfl (Written_spec Z10.x (by have := K1.room; omega) fun wa wl wc h11 f11 ewl sw => ⟨_, _, _, rfl, ?_⟩)
  rw [K1.written] at sw
  have ewl2 : wl = (lsI iz 118).length := by have := sw.1; rw [List.length_map] at this; omega
  have N : New T.disk := by rw [edk]; exact fresh_new 118
  obtain ⟨rise, many, m20⟩ := K1.rise N
  rw [← ewl2] at many
  have Z11 := Z10.no f11
  have R11 : Rw h11 h6 h7 nw iz := ⟨(f11.rd (by omega) fun y => y).trans r1, by have := f11.size; omega, (f11.rd (by omega) fun y => y).trans r2, by have := f11.size; omega⟩
  rw [wrap_i64 (n := 2 * (wl : Int)) (by omega) (by omega), wrap_i64 (n := 2 * (wl : Int) + 8) (by omega) (by omega)]
  have hm := modI_range (v := at_) (n := 2 * (wl : Int) + 8) (by omega)
  refine mod_spec (by omega) (by omega) ⟨_, rfl, ?_⟩
  generalize modI at_ (2 * (wl : Int) + 8) = n1 at hm ⊢
  obtain ⟨D12, A12, sub, back⟩ := Z11.x.onDisk
  refine Wc.DiskF.arm A12 N.q.down (by omega) hkl (SlCells.fr Z11.f hk fun _ _ y => y) hkm fun h13 D13 f13 g13 A13 => ⟨_, rfl, cn (fun y => absurd rfl y) fun _ => ?_⟩
  obtain ⟨F13, gF, x13⟩ := back h13 D13 _ f13 g13 A13 rfl
  have fF13 : Fr F6 h11 h13 := f13.mono fun b _ y => sub b y
  have Z13 := Z11.call fF13 gF x13
  have nF6 : ¬ F6 h6.size ∧ ¬ F6 h7.size := ⟨fun y => by have := F6lt _ y; omega, fun y => by have := F6lt _ y; omega⟩
  have R13 := R11.fr fF13 nF6.1 nF6.2
  have nF13 : ¬ F13 h6.size ∧ ¬ F13 h7.size := ⟨fun y => nF6.1 ((gF.old _ R11.n1).mp y), fun y => nF6.2 ((gF.old _ R11.n2).mp y)⟩
  have ec := commit_eq (T := { T with disk := { T.disk with left := (n1.toNat : Int), keep := keep } }) live
  have eb : TM.blocks { T with disk := { T.disk with left := (n1.toNat : Int), keep := keep } } = T.blocks := rfl
  rw [eb] at ec
  have any := Wc.commit_any (N := 118) (S := { T.disk with left := (n1.toNat : Int), keep := keep }) (l := T.blocks) (c := n1.toNat) (keep := keep) N.q.down N.pend ⟨by decide, by decide⟩ K1.N (by show T.disk.lasts[1]? = _; rw [edk]; exact fresh_log) (by show ∀ x ∈ T.disk.lasts, _; rw [edk]; exact freshL_len 118) rise (by omega) rfl rfl
    ⟨by show 0 ≤ T.disk.writes; rw [N.w]; exact Int.le_refl 0, by show T.disk.writes ≤ _; rw [N.w]; decide⟩ ⟨by show 0 ≤ T.disk.flushes; rw [N.f]; exact Int.le_refl 0, by show T.disk.flushes ≤ _; rw [N.f]; decide⟩
  refine Tm.Commit_spec (G.no Z13.f) Z13.x (by have := K1.room; show T.put.length < 10000; omega) (by show T.disk.pend.length < 100000000; rw [N.pend]; show 0 < 100000000; decide) (by show T.disk.tape.length < 100000000; rw [N.tape]; show 0 < 100000000; decide) fun h14 F14 f14 g14 x14 => ?_
  rw [ec] at x14 ⊢
  have Z14 := Z13.call f14 g14 x14
  have R14 := R13.fr f14 nF13.1 nF13.2
  have nF14 : ¬ F14 h6.size ∧ ¬ F14 h7.size := ⟨fun y => nF13.1 ((g14.old _ R13.n1).mp y), fun y => nF13.2 ((g14.old _ R13.n2).mp y)⟩
  obtain ⟨D14, A14, sub14⟩ := Z14.x.dk
  have want : ∀ new : Bool, Wnt (if new = true then applyTo T.disk.lasts T.blocks else T.disk.lasts) new nw iz := by
    intro new
    have el : T.disk.lasts = freshL 118 := by rw [edk]; rfl
    rw [el]
    cases new with
    | true =>
      rw [if_pos rfl]
      refine ⟨(low_want rise).1, (low_want rise).2, fun k k0 k1 => ?_⟩
      rw [K1.last edk k0 k1]
      unfold lastK
      cases iz.getD k false <;> rfl
    | false =>
      rw [if_neg (by simp)]
      refine ⟨freshL_get (by decide), freshL_get (by decide), fun k k0 k1 => ?_⟩
      rw [freshL_get k1]; rfl
  have k3 : ∀ (S' : RD) (e : Int) (w : List Txt) (new : Bool), Wc.wal { T.disk with left := (n1.toNat : Int), keep := keep } T.blocks = (S', e) → Wc.Hol 118 S'.lasts w → Wnt w new nw iz → (new = false → e ≠ 0) → ((e == 0) = true ↔ (n1 = 0 ∨ wl = 0 ∨ n1 > 2 * (wl : Int) + 6)) → 
      bolelaw06_TxnWhole.k2 again leftA leftL leftC (some q) (some ⟨tb, 0, none⟩) h6 h7 wl n1 e h14 K := by
    intro S' e w new ew hol wn hn hd
    rw [ew] at A14 Z14
    have W14 : Wz h h14 D14 (some q) S' h6 h7 nw iz := ⟨⟨Z14.f, A14, fun b y => Z14.nf b (sub14 b y)⟩, R14, fun y => nF14.1 (sub14 _ y), fun y => nF14.2 (sub14 _ y)⟩
    have fin := whole_k4 (again := again) (leftC := leftC) G W14 hol wn ln li hll hlk hlm (show wl ≤ 1000 by omega) hn hK
    have over : C.txn_Txn_Over (some ⟨tb, 0, none⟩) h14 fun r10 h17 => ∃ (b4 : Bool), r10 = .bool b4 ∧ bif (!b4) then (K (.bool false) h17) else (bolelaw06_TxnWhole.k4 again leftA leftL leftC (some q) h6 h7 wl e h17 K) := Over_spec Z14.x ⟨_, rfl, cf rfl fin⟩
    have k3' : ∀ steps : Int, ((e == 0) = true ↔ (n1 = 0 ∨ n1 > steps)) → bolelaw06_TxnWhole.k3 again leftA leftL leftC (some q) (some ⟨tb, 0, none⟩) h6 h7 wl n1 e h14 steps K := by
      intro steps hs
      unfold bolelaw06_TxnWhole.k3
      refine ce (fun h0 => ?_) fun h0 => ?_
      · have : (e == 0) = true := hs.mpr (.inl h0)
        rw [this]
        exact cf rfl over
      · have : (e == 0) = decide (n1 > steps) := by
          rw [Bool.eq_iff_iff, hs, decide_eq_true_iff]
          exact ⟨fun y => y.resolve_left h0, .inr⟩
        rw [this]
        refine cf ?_ over
        cases decide (n1 > steps) <;> rfl
    unfold bolelaw06_TxnWhole.k2
    refine ce (fun h0 => ?_) fun h0 => ?_
    · have h0 : wl = 0 := by omega
      exact k3' 0 (hd.trans ⟨fun _ => by omega, fun _ => .inr (.inl h0)⟩)
    · rw [wrap_i64 (n := 2 * (wl : Int)) (by omega) (by omega), wrap_i64 (n := 2 * (wl : Int) + 6) (by omega) (by omega)]
      exact k3' _ (hd.trans ⟨fun y => by omega, fun y => by omega⟩)
  rcases any with ⟨hc, S', ew, hd, hol⟩ | ⟨hc, S', ew, hd, hol⟩
  · have go := fun new (h1 : (if new = true then applyTo T.disk.lasts T.blocks else T.disk.lasts) = (if n1.toNat < T.blocks.length + 2 ∨ n1.toNat < T.blocks.length + 4 ∧ keep.getD 0 false = false then T.disk.lasts else applyTo T.disk.lasts T.blocks)) =>
      k3 S' 30 _ new ew hol (by have := want new; rw [h1] at this; exact this) (fun _ => by decide) ⟨fun y => (by cases y), fun y => by omega⟩
    have k2 : bolelaw06_TxnWhole.k2 again leftA leftL leftC (some q) (some ⟨tb, 0, none⟩) h6 h7 wl n1 30 h14 K := by
      by_cases hcut : n1.toNat < T.blocks.length + 2 ∨ n1.toNat < T.blocks.length + 4 ∧ keep.getD 0 false = false
      · exact go false (by rw [if_pos hcut, if_neg (by simp)])
      · exact go true (by rw [if_neg hcut, if_pos rfl])
    rw [ew] at A14 ⊢
    refine ⟨_, rfl, ct rfl (cn (fun y => absurd rfl y) fun _ => Wc.DiskF.down A14 ⟨_, rfl, ?_⟩)⟩
    have eS : (TM.ended S').disk.down = true := hd
    rw [eS]
    exact cf rfl k2
  · have k2 := k3 S' 0 _ true ew hol (by have := want true; rw [if_pos rfl] at this; exact this) (fun y => by cases y) ⟨fun _ => by omega, fun _ => rfl⟩
    rw [ew]
    exact ⟨_, rfl, cf rfl k2⟩
end Go.Proofs.YtpleolmalbdpnaaDoor.Txl
