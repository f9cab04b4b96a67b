/-
  A COMMIT AND RECOVERIES THAT ARE CUT: what the laws' loops keep.
-/
import Derived.Test.YtpleolmalbdpnaaDoorWkK
import Derived.Test.YtpleolmalbdpnaaDoorWqP
import Derived.Test.YtpleolmalbdpnaaDoorTxL
namespace Go.Proofs.YtpleolmalbdpnaaDoor.Wc
open Go Go.Proofs Go.Proofs.YtpleolmalbdpnaaDoor.Wx Go.Proofs.YtpleolmalbdpnaaDoor.Hp Go.Proofs.YtpleolmalbdpnaaDoor.W Go.Proofs.YtpleolmalbdpnaaDoor.Ad Go.Proofs.YtpleolmalbdpnaaDoor.Pn

/-- what the loop keeps: a disk that stands for w, and w as an image -/
structure Ka (h0 hh : Heap) (D : Nat → Prop) (d : Option Addr) (S : RD) (w : List (List UInt8)) (wa : Option Addr) (wc : Nat) : Prop where
  z : Dz h0 hh D d S
  k : Hol 128 S.lasts w
  W : StrAt hh wa 65536 w.flatten
  wc : 65536 ≤ wc
  wn : ∀ p, wa = some p → p.block < hh.size ∧ ¬ D p.block
theorem Ka.no {h0 hh hh' : Heap} {D : Nat → Prop} {d : Option Addr} {S : RD} {w : List (List UInt8)} {wa : Option Addr} {wc : Nat} (a : Ka h0 hh D d S w wa wc) (f : Fr No hh hh') : Ka h0 hh' D d S w wa wc :=
  ⟨a.z.no f, a.k, StrAt.fr f a.W fun _ _ x => x, a.wc, fun p e => ⟨Nat.lt_of_lt_of_le (a.wn p e).1 f.size, (a.wn p e).2⟩⟩
theorem Ka.call {h0 hh hh' : Heap} {D D' : Nat → Prop} {d : Option Addr} {S S' : RD} {w : List (List UInt8)} {wa : Option Addr} {wc : Nat} (a : Ka h0 hh D d S w wa wc) (f : Fr D hh hh') (g : Gw hh D hh' D') (A : DiskF hh' D' d S') (k : Hol 128 S'.lasts w) : Ka h0 hh' D' d S' w wa wc :=
  ⟨a.z.call f g A, k, StrAt.fr f a.W fun p e => (a.wn p e).2, a.wc, fun p e => ⟨Nat.lt_of_lt_of_le (a.wn p e).1 f.size, fun y => (a.wn p e).2 ((g.old _ (a.wn p e).1).mp y)⟩⟩
/-- another disk, made of what lasts -/
theorem Ka.open_ {h0 hh h1 h2 : Heap} {D D2 : Nat → Prop} {d q : Option Addr} {S : RD} {w : List (List UInt8)} {wa : Option Addr} {wc : Nat} (a : Ka h0 hh D d S w wa wc) (f1 : Fr No hh h1) (f2 : Fr No h1 h2) (hD : ∀ b, D2 b → h1.size ≤ b) (A : DiskF h2 D2 q (fresh S.lasts)) : Ka h0 h2 D2 q (fresh S.lasts) w wa wc :=
  ⟨⟨a.z.f.no (f1.no f2), A, fun b y => by have := hD b y; have := a.z.f.size; have := f1.size; omega⟩, a.k, StrAt.fr (f1.no f2) a.W fun _ _ x => x, a.wc,
    fun p e => ⟨Nat.lt_of_lt_of_le (a.wn p e).1 (f1.no f2).size, fun y => by have := hD _ y; have := (a.wn p e).1; have := f1.size; omega⟩⟩
theorem n128 : 98 ≤ 128 ∧ 128 ≤ 16384 := ⟨by decide, by decide⟩
/-- the end: two recoveries that are not cut -/
theorem atomic_end {h0 hh : Heap} {D : Nat → Prop} {d : Option Addr} {S : RD} {w : List (List UInt8)} {wa : Option Addr} {wc : Nat} {K : Value → Heap → Prop} (G : Re.Glo h0) (a : Ka h0 hh D d S w wa wc) (hK : ∀ h', Fr No h0 h' → K (.bool true) h') : bolelaw05_WalAtomic.k7 wa 65536 wc d hh K := by
  unfold bolelaw05_WalAtomic.k7
  have hlen := a.k.len
  refine diskImage a.z.A fun a8 c8 h23 f23 s8 => ⟨_, _, _, rfl, ?_⟩
  refine openF_spec s8.str s8.le (by omega) (fun y => by exfalso; omega) fun _ _ _ q h24 D2 f24 hD2 A2 => ⟨_, _, rfl, cn (fun y => absurd rfl y) fun _ => cf rfl ?_⟩
  rw [Txl.chunks_flatten a.z.lasts] at A2
  have K2 := a.open_ f23 f24 hD2 A2
  unfold bolelaw05_WalAtomic.k8
  obtain ⟨S3, m, e, er, _, hol3, c0⟩ := recover_cut (c := 0) (S := fresh S.lasts) n128 a.k rfl rfl rfl rfl ⟨Int.le_refl 0, by show (0 : Int) ≤ 1000000; decide⟩ ⟨Int.le_refl 0, by show (0 : Int) ≤ 1000000; decide⟩
  obtain ⟨rfl, cl, al⟩ := c0 rfl
  have tp := rec_tape (S := fresh S.lasts) n128 a.k ⟨rfl, rfl⟩ rfl rfl ⟨Int.le_refl 0, by show (0 : Int) ≤ 1000000; decide⟩ ⟨Int.le_refl 0, by show (0 : Int) ≤ 1000000; decide⟩
  rw [er] at tp
  have tp : S3.tape.length ≤ 100 := by have tp : S3.tape.length ≤ 0 + 100 := tp; omega
  refine Recover_spec (G.no K2.z.f) K2.z.A (by show 0 < 100000000; omega) (by show 0 < 100000000; omega) fun h25 D3 f25 g25 A25 => ⟨_, _, rfl, ?_⟩
  rw [er] at A25 ⊢
  have K3 := K2.call f25 g25 A25 hol3
  refine diskSteps K3.z.A ⟨_, _, rfl, ?_⟩
  refine Recover_spec (G.no K3.z.f) K3.z.A (by show S3.pend.length < 100000000; rw [cl.pend]; show 0 < 100000000; omega) (by show S3.tape.length < 100000000; omega) fun h27 D4 f27 g27 A27 => ⟨_, _, rfl, ?_⟩
  have e4 : recM (S3, m, (0 : Int)).1 = (S3, 0, 0) := cl.recM
  rw [e4] at A27 ⊢
  have K4 := K3.call f27 g27 A27 hol3
  refine diskSteps K4.z.A ⟨_, _, rfl, ce (fun _ => ce (fun _ => ce (fun _ => ce (fun _ => ce (fun _ => ?_) fun y => absurd rfl y) fun y => absurd rfl y) fun y => absurd rfl y) fun y => absurd rfl y) fun y => absurd rfl y⟩
  refine diskPending K4.z.A (by show S3.pend.length < 1000000000; rw [cl.pend]; show 0 < 1000000000; omega) fun a9 c9 h29 f29 => ⟨_, _, _, rfl, ?_⟩
  have K5 := K4.no f29
  refine ce (fun _ => ?_) fun y => absurd (by show (S3.pend.length : Int) = 0; rw [cl.pend]; rfl) y
  refine diskImage K5.z.A fun a10 c10 h30 f30 s10 => ⟨_, _, _, rfl, ?_⟩
  have K6 := K5.no f30
  have e65 : S3.lasts.length * 512 = 65536 := by rw [al.1]
  have s10 : Sl h30 1 a10 (S3.lasts.length * 512) c10 (S3.lasts.flatten.map bv) (From h29.size) := s10
  show C.bolelaw05_sameBut a10 (S3.lasts.length * 512) c10 wa 65536 wc h30 _
  rw [e65] at s10 ⊢
  obtain ⟨t1, t2⟩ := Alike.two al
  exact sameBut_spec s10.str K6.W s10.le K6.wc t1 t2 ⟨_, rfl, hK h30 K6.z.f⟩
/-! the loop -/
abbrev Cr := Int × Hd.Sc
def crV (p : Cr) : List Value := [.int .i64 p.1, p.2.v]
theorem cr_at {h : Heap} {a : Option Addr} {ps : List Cr} (P : SlCells h a (ps.flatMap crV)) {i : Nat} (hi : i < ps.length) : ∃ p, a = some p ∧ Cells h (p.add (i * 2)) (crV ps[i]) := by
  have hw : ∀ r ∈ ps, (crV r).length = 2 := fun _ _ => rfl
  have hl := flat_length crV 2 ps hw
  have hp := flat_part crV 2 ps hw i hi
  cases a with
  | none =>
    have c : ps.flatMap crV = [] := P
    rw [c] at hl
    exact absurd hl (by simp; omega)
  | some p =>
    refine ⟨p, rfl, ?_⟩
    have := (Cells.take (Cells.drop P (i * 2)) 2)
    rw [hp] at this
    exact this
/-- the keeps of a row of crashes -/
structure Crs (h : Heap) (a : Option Addr) (ps : List Cr) (ks : List (List Bool)) : Prop where
  cells : SlCells h a (ps.flatMap crV)
  len : ks.length = ps.length
  max : ps.length ≤ 140737488355328
  each : ∀ i (h1 : i < ps.length) (h2 : i < ks.length), ps[i].1 ≤ 9223372036854775807 ∧ SlCells h ps[i].2.a (ks[i].map .bool) ∧ ks[i].length = ps[i].2.l ∧ ps[i].2.l ≤ 140737488355328
theorem atomic_loop {h0 hh : Heap} {D : Nat → Prop} {d la : Option Addr} {S : RD} {w : List (List UInt8)} {wa : Option Addr} {wc : Nat} {ps : List Cr} {ks : List (List Bool)} {K : Value → Heap → Prop} (G : Re.Glo h0) (R : Crs h0 la ps ks) (a : Ka h0 hh D d S w wa wc) (hK : ∀ h', Fr No h0 h' → K (.bool true) h') : bolelaw05_WalAtomic.k3 la ps.length d hh wa 65536 wc K := by
  unfold bolelaw05_WalAtomic.k3
  refine ⟨fun d1 i1 hh => ∃ (k : Nat) (S : RD) (D : Nat → Prop), i1 = k ∧ Ka h0 hh D d1 S w wa wc, fun _ i _ => ((6 : Int) - i).toNat, ⟨0, S, D, rfl, a⟩, ?_⟩
  clear a
  clear D S
  rintro d1 i1 h13 ⟨k, S, D, ei, a⟩
  refine cd (fun hle => cd (fun h6 => ?_) fun _ => atomic_end G a hK) fun _ => atomic_end G a hK
  have hmx := R.max
  unfold bolelaw05_WalAtomic.k4
  have hlen := a.k.len
  refine diskImage a.z.A fun a6 c6 h14 f14 s6 => ⟨_, _, _, rfl, ?_⟩
  refine openF_spec s6.str s6.le (by omega) (fun y => by exfalso; omega) fun _ _ _ q h15 D2 f15 hD2 A2 => ⟨_, _, rfl, cn (fun y => absurd rfl y) fun _ => cf rfl ?_⟩
  rw [Txl.chunks_flatten a.z.lasts] at A2
  have K2 := a.open_ f14 f15 hD2 A2
  unfold bolelaw05_WalAtomic.k5
  obtain ⟨b, eb, al⟩ := Hol.beh (S := fresh S.lasts) n128 a.k rfl rfl rfl
  refine Behind_spec (G.no K2.z.f) K2.z.A K2.z.readLen fun a7 l7 c7 h16 f16 s7 => ⟨_, _, _, _, rfl, ?_⟩
  rw [eb] at s7 ⊢
  have K3 := K2.no f16
  refine cn (fun y => absurd rfl y) fun _ => ?_
  have s7 : Sl h16 1 a7 l7 c7 (b.flatten.map bv) (From h15.size) := s7
  have e7 : l7 = 65536 := by
    have := s7.1
    rw [List.length_map, flat_len _ al.2.2.1, al.1] at this; omega
  subst e7
  obtain ⟨t1, t2⟩ := Alike.two al
  refine sameBut_spec s7.str K3.W s7.le K3.wc t1 t2 ⟨_, rfl, cf rfl ?_⟩
  unfold bolelaw05_WalAtomic.k6
  have nxt : ∀ {h' : Heap} {D' : Nat → Prop} {S' : RD}, Ka h0 h' D' (some q) S' w wa wc → (∃ (k : Nat) (S : RD) (D : Nat → Prop), IntKind.wrap .i64 (i1 + 1) = k ∧ Ka h0 h' D (some q) S w wa wc) ∧ ((6 : Int) - IntKind.wrap .i64 (i1 + 1)).toNat < ((6 : Int) - i1).toNat := fun {h' D' S'} k' => by
    rw [wrap_i64 (by omega) (by omega)]
    exact ⟨⟨k + 1, S', D', by omega, k'⟩, falls h6⟩
  refine cd (fun hlt => cd (fun h5 => ?_) fun _ => nxt K3) fun _ => nxt K3
  have hk : k < ps.length := by omega
  have et : Int.toNat i1 = k := by omega
  rw [et]
  obtain ⟨p, rfl, cc⟩ := cr_at (SlCells.fr K3.z.f R.cells fun _ _ x => x) hk
  obtain ⟨r1, r2, r3, r4⟩ := R.each k hk (by rw [R.len]; exact hk)
  refine ⟨⟨by omega, hlt⟩, os ⟨crV ps[k], rfl, cc, DiskF.arm K3.z.A rfl r1 r3 (SlCells.fr K3.z.f r2 fun _ _ x => x) r4 fun h19 D4 f19 g19 A19 => ⟨_, rfl, ?_⟩⟩⟩
  have K4 := K3.call f19 g19 A19 K3.k
  obtain ⟨S', m, e, er, way, hol, _⟩ := recover_cut (c := ps[k].1.toNat) (S := { fresh S.lasts with left := (ps[k].1.toNat : Int), keep := ks[k]'(by rw [R.len]; exact hk) }) n128 K3.k rfl rfl rfl rfl ⟨Int.le_refl 0, by show (0 : Int) ≤ 1000000; decide⟩ ⟨Int.le_refl 0, by show (0 : Int) ≤ 1000000; decide⟩
  refine Recover_spec (G.no K4.z.f) K4.z.A (by show 0 < 100000000; omega) (by show 0 < 100000000; omega) fun h20 D5 f20 g20 A20 => ⟨_, _, rfl, ?_⟩
  rw [er] at A20 ⊢
  have K5 := K4.call f20 g20 A20 hol
  refine cn (fun y => absurd rfl y) fun _ => DiskF.down K5.z.A ⟨_, rfl, ?_⟩
  have eS : (S', m, e).1.down = S'.down := rfl
  rw [eS]
  rcases way with ⟨rfl, hd⟩ | ⟨rfl, hd⟩
  · rw [hd]
    exact cf rfl (cn (fun _ => cn (fun y => absurd rfl y) fun _ => nxt K5) fun y => absurd (show (30 : Int) = 0 from y) (by decide))
  · rw [hd]
    exact cf rfl (cn (fun y => absurd rfl y) fun _ => nxt K5)
theorem Bl.call {h h' : Heap} {D D' : Nat → Prop} {a : Option Addr} {rs : Rs} (b : Bl h D a rs) (f : Fr D h h') (g : Gw h D h' D') : Bl h' D' a rs := b.fr f (fun _ _ x => x) fun x hx y => (g.old x hx).mp y
/-- an image in memory, beside a disk -/
structure Im (hh : Heap) (D : Nat → Prop) (w : List (List UInt8)) (wa : Option Addr) (wc : Nat) : Prop where
  W : StrAt hh wa 65536 w.flatten
  wc : 65536 ≤ wc
  wn : ∀ p, wa = some p → p.block < hh.size ∧ ¬ D p.block
theorem Im.no {hh hh' : Heap} {D : Nat → Prop} {w : List (List UInt8)} {wa : Option Addr} {wc : Nat} (a : Im hh D w wa wc) (f : Fr No hh hh') : Im hh' D w wa wc :=
  ⟨StrAt.fr f a.W fun _ _ x => x, a.wc, fun p e => ⟨Nat.lt_of_lt_of_le (a.wn p e).1 f.size, (a.wn p e).2⟩⟩
theorem Im.call {hh hh' : Heap} {D D' : Nat → Prop} {w : List (List UInt8)} {wa : Option Addr} {wc : Nat} (a : Im hh D w wa wc) (f : Fr D hh hh') (g : Gw hh D hh' D') : Im hh' D' w wa wc :=
  ⟨StrAt.fr f a.W fun p e => (a.wn p e).2, a.wc, fun p e => ⟨Nat.lt_of_lt_of_le (a.wn p e).1 f.size, fun y => (a.wn p e).2 ((g.old _ (a.wn p e).1).mp y)⟩⟩
theorem Im.mk' {hh : Heap} {D : Nat → Prop} {w : List (List UInt8)} {wa : Option Addr} {wc n m : Nat} (s : Sl hh 1 wa m wc (w.flatten.map bv) (From n)) (hm : m = 65536) (hD : ∀ b, D b → b < n) : Im hh D w wa wc := by
  subst hm
  refine ⟨s.str, s.le, fun p e => ?_⟩
  subst e
  obtain ⟨_, _, g, o, _⟩ := s
  have g : n ≤ p.block := g
  exact ⟨o.lt, fun y => by have := hD _ y; omega⟩
theorem Im.ka {h0 hh : Heap} {D : Nat → Prop} {d : Option Addr} {S : RD} {w : List (List UInt8)} {wa : Option Addr} {wc : Nat} (a : Im hh D w wa wc) (z : Dz h0 hh D d S) (k : Hol 128 S.lasts w) : Ka h0 hh D d S w wa wc := ⟨z, k, a.W, a.wc, a.wn⟩
theorem begun5_spec {h : Heap} {a : Option Addr} {c : Nat} {ps : List Pt} {K : Value → Heap → Prop} (G : Re.Glo h) (P : SlCells h a (ps.flatMap ptV)) (hl : ps.length ≤ 140737488355328)
    (hK : ∀ q h' D S, Dz h h' D (some q) S → Clean S → S.lasts.length = 128 → (0 ≤ S.writes ∧ S.writes ≤ 1000) → (0 ≤ S.flushes ∧ S.flushes ≤ 1000) → S.tape.length ≤ 100 → K (.tuple #[.pointer (some q), .bool true]) h') : C.bolelaw05_begun a ps.length c h K := by
  refine bolelaw05_begun.ok (newF_spec (n := 128) (by omega) (by omega) fun q h2 D f2 hD A => ⟨_, _, rfl, cn (fun y => absurd rfl y) fun _ => cf rfl ?_⟩)
  unfold bolelaw05_begun.k1
  have e128 : (128 : Int).toNat = 128 := rfl
  rw [e128] at A
  refine rows_spec (SlCells.fr f2 P fun _ _ x => x) hl fun a3 c3 h3 rs f3 B3 ri => ⟨_, _, _, rfl, ?_⟩
  have Z3 : Dz h h3 D (some q) (fresh (List.replicate 128 zeroBlk)) := ⟨f2.no f3, A.no f3, hD⟩
  have cl := fresh_clean (n := 128) (by decide)
  have n1 : (fresh (List.replicate 128 zeroBlk)).lasts.length = 128 := List.length_replicate
  have z0 : (0 : Int) ≤ 0 ∧ (0 : Int) ≤ 10000000 := ⟨Int.le_refl 0, by decide⟩
  obtain ⟨S', T, mo⟩ := more cl n1 z0 z0 ri
  have B : Bl h3 D a3 rs := B3.fr (Fr.refl No _) (fun _ _ x => x.elim) fun x _ y => A.lt y
  have lrs : (nb rs).length = rs.length := List.length_map ..
  have l30 := ri.length
  refine Commit_spec (G.no Z3.f) Z3.A B (by omega) (by show 0 < 100000000; omega) (by show 0 < 100000000; omega) fun h4 D4 f4 g4 A4 => ⟨_, rfl, ?_⟩
  rw [mo.run] at A4 ⊢
  have hb : (0 ≤ S'.writes ∧ S'.writes ≤ 1000) ∧ (0 ≤ S'.flushes ∧ S'.flushes ≤ 1000) ∧ S'.lasts.length = 128 := by
    by_cases e : nb rs = []
    · rw [mo.none e]
      exact ⟨⟨Int.le_refl 0, by show (0 : Int) ≤ 1000; decide⟩, ⟨Int.le_refl 0, by show (0 : Int) ≤ 1000; decide⟩, n1⟩
    · obtain ⟨x, y, d⟩ := mo.some e
      have w0 : (fresh (List.replicate 128 zeroBlk)).writes = 0 := rfl
      have f0 : (fresh (List.replicate 128 zeroBlk)).flushes = 0 := rfl
      exact ⟨by omega, by omega, by rw [d.n]; exact n1⟩
  have tp : S'.tape.length ≤ 100 := by
    rw [mo.tape, List.length_append]
    have := mo.many
    have t0 : (fresh (List.replicate 128 zeroBlk)).tape.length = 0 := rfl
    omega
  exact hK q h4 D4 S' (Z3.call f4 g4 A4) mo.clean hb.2.2 hb.1 hb.2.1 tp
theorem WalAtomic_spec {h : Heap} {s0 s1 : Hd.Sc} {q0 q1 : List Pt} {n : Int} {ka : Option Addr} {kl kc : Nat} {keep : List Bool} {la : Option Addr} {lc : Nat} {ps : List Cr} {ks : List (List Bool)} {K : Value → Heap → Prop} (G : Re.Glo h)
    (P0 : SlCells h s0.a (q0.flatMap ptV)) (l0 : q0.length = s0.l) (m0 : s0.l ≤ 140737488355328) (P1 : SlCells h s1.a (q1.flatMap ptV)) (l1 : q1.length = s1.l) (m1 : s1.l ≤ 140737488355328)
    (hn : n ≤ 9223372036854775807) (hkl : keep.length = kl) (hk : SlCells h ka (keep.map .bool)) (hl : kl ≤ 140737488355328) (R : Crs h la ps ks) (hK : ∀ h', Fr No h h' → K (.bool true) h') :
    C.bolelaw05_WalAtomic [s0.v, s1.v] [.int .i64 n, .slice ka kl kc] la ps.length lc h K := by
  refine bolelaw05_WalAtomic.ok (New.intro fun h2 n2 => New.intro fun h3 n3 => ?_)
  have z2 := n2.size
  have z3 := n3.size
  have F3 : Fr No h h3 := n2.fr.new n3
  refine fixed_spec (G.no F3) fun h4 f4 => ⟨_, rfl, cf rfl ?_⟩
  have z4 := f4.size
  have F4 := F3.no f4
  have r24 : rd h4 h.size = [s0.v, s1.v] := (f4.rd (by omega) fun x => x).trans ((n3.fr.rd (by omega) fun x => x).trans n2.rd)
  have r34 : rd h4 h2.size = [.int .i64 n, .slice ka kl kc] := (f4.rd (by omega) fun x => x).trans n3.rd
  refine ⟨⟨by omega, by omega⟩, s0.a, s0.l, s0.c, rda r24 rfl, ?_⟩
  rw [← l0]
  refine begun5_spec (G.no F4) (SlCells.fr F4 P0 fun _ _ x => x) (by omega) fun q h5 D5 S z5 cl hN hw hf ht => ⟨_, _, rfl, cf rfl ?_⟩
  have zz5 := z5.f.size
  have Z5 : Dz h h5 D5 (some q) S := ⟨F4.no z5.f, z5.A, fun b y => by have := z5.nf b y; have := F4.size; omega⟩
  have r25 : rd h5 h.size = [s0.v, s1.v] := (z5.f.rd (by omega) fun x => x).trans r24
  have r35 : rd h5 h2.size = [.int .i64 n, .slice ka kl kc] := (z5.f.rd (by omega) fun x => x).trans r34
  have nD5 : ¬ D5 h2.size := fun y => by have := z5.nf _ y; omega
  have h5s : ∀ x ∈ S.lasts, x.length = 512 := Z5.lasts
  have e65 : S.lasts.length * 512 = 65536 := by rw [hN]
  refine diskImage Z5.A fun a2 c2 h6 f6 s6 => ⟨_, _, _, rfl, ⟨by omega, by omega⟩, s1.a, s1.l, s1.c, ?_⟩
  have z6 := f6.size
  have Z6 := Z5.no f6
  have I6 : Im h6 D5 S.lasts a2 c2 := Im.mk' s6 e65 fun b y => Z5.A.lt y
  refine ⟨rda ((f6.rd (by omega) fun x => x).trans r25) rfl, ?_⟩
  rw [← l1]
  refine rows_spec (SlCells.fr Z6.f P1 fun _ _ x => x) (by omega) fun a4 c4 h7 rs f7 B7 ri => ⟨_, _, _, rfl, ?_⟩
  have Z7 := Z6.no f7
  have lrs : (nb rs).length = rs.length := List.length_map ..
  have l30 := ri.length
  refine laid_spec (StrAt.fr f7 s6.str fun _ _ x => x) h5s (by omega) B7 (by rw [hN]; exact ri) (by omega) fun a5 c5 h8 f8 s8 => ⟨_, _, _, rfl, ?_⟩
  have z7 := f7.size
  have z8 := f8.size
  have Z8 := Z7.no f8
  have I8 : Im h8 D5 (applyTo S.lasts (nb rs)) a5 c5 := Im.mk' s8 e65 fun b y => by have := Z5.A.lt y; omega
  have J8 := (I6.no f7).no f8
  have r38 : rd h8 h2.size = [.int .i64 n, .slice ka kl kc] := (f8.rd (by omega) fun x => x).trans ((f7.rd (by omega) fun x => x).trans ((f6.rd (by omega) fun x => x).trans r35))
  rw [e65]
  refine ⟨[.int .i64 n, .slice ka kl kc], rfl, cellsAll r38, DiskF.arm Z8.A cl.q.down hn hkl (SlCells.fr Z8.f hk fun _ _ x => x) hl fun h9 D9 f9 g9 A9 => ⟨_, rfl, ?_⟩⟩
  have z9 := f9.size
  have Z9 := Z8.call f9 g9 A9
  have nD9 : ¬ D9 h2.size := fun y => nD5 ((g9.old _ (by omega)).mp y)
  have r39 : rd h9 h2.size = [.int .i64 n, .slice ka kl kc] := (f9.rd (by omega) nD5).trans r38
  have B8 : Bl h8 D5 a4 rs := (B7.no f8).fr (Fr.refl No _) (fun _ _ x => x.elim) fun x _ y => by show x < h6.size; have := Z5.A.lt y; omega
  have B9 := B8.call f9 g9
  refine Commit_spec (G.no Z9.f) Z9.A B9 (by omega) (by show S.pend.length < 100000000; rw [cl.pend]; show 0 < 100000000; omega) (by show S.tape.length < 100000000; omega) fun h10 D10 f10 g10 A10 => ⟨_, rfl, ?_⟩
  have Z10 := Z9.call f10 g10 A10
  have I10 := (I8.call f9 g9).call f10 g10
  have J10 := (J8.call f9 g9).call f10 g10
  have r310 : rd h10 h2.size = [.int .i64 n, .slice ka kl kc] := (f10.rd (by omega) nD9).trans r39
  have cell0 : cellOf h10 (Addr.add ⟨h2.size, 0, none⟩ 0) = some (.int .i64 n) := rda r310 rfl
  have cell1 : cellOf h10 (Addr.add ⟨h2.size, 0, none⟩ 1) = some (.slice ka kl kc) := rda r310 rfl
  have any := commit_any (S := { S with left := (n.toNat : Int), keep := keep }) (l := nb rs) cl.q.down cl.pend n128 hN cl.log h5s ri (by omega) rfl rfl ⟨hw.1, by have := hw.2; show S.writes ≤ _; omega⟩ ⟨hf.1, by have := hf.2; show S.flushes ≤ _; omega⟩
  have keepC := SlCells.fr Z10.f hk fun _ _ x => x
  have fin : ∀ fb : Bool, (fb = true ↔ (0 < (nb rs).length ∧ 1 ≤ n.toNat ∧ n.toNat ≤ 2 * (nb rs).length + 6)) →
      bolelaw05_WalAtomic.k1 la ps.length h2 (some q) a2 65536 c2 rs.length a5 65536 c5 0 h10 (Wc.wal { S with left := (n.toNat : Int), keep := keep } (nb rs)).2 fb K := by
    intro fb hfb
    unfold bolelaw05_WalAtomic.k1
    refine cn (fun y => absurd rfl y) fun _ => DiskF.down Z10.A ⟨_, rfl, ?_⟩
    rcases any with ⟨hc, S', ew, hd, hol⟩ | ⟨hc, S', ew, hd, hol⟩
    · rw [ew] at Z10 ⊢
      have : fb = true := hfb.mpr hc
      subst this
      rw [show (S', (30 : Int)).1.down = true from hd]
      refine cf rfl (cf rfl (cn (fun _ => cn (fun y => absurd rfl y) fun _ => ?_) fun y => absurd (show (30 : Int) = 0 from y) (by decide)))
      unfold bolelaw05_WalAtomic.k2
      refine ct rfl ⟨n, cell0, ?_⟩
      rw [wrap_i64 (by omega) (by omega), wrap_i64 (by omega) (by omega)]
      rw [lrs] at hc hol
      have old : (n.toNat < rs.length + 2 ∨ n.toNat < rs.length + 4 ∧ keep.getD 0 false = false) → bolelaw05_WalAtomic.k3 la ps.length (some q) h10 a2 65536 c2 K := fun y =>
        atomic_loop G R (J10.ka Z10 (by rw [if_pos y] at hol; exact hol)) hK
      have new : ¬ (n.toNat < rs.length + 2 ∨ n.toNat < rs.length + 4 ∧ keep.getD 0 false = false) → bolelaw05_WalAtomic.k3 la ps.length (some q) h10 a5 65536 c5 K := fun y =>
        atomic_loop G R (I10.ka Z10 (by rw [if_neg y] at hol; exact hol)) hK
      refine cd (fun y => old (.inl (by omega))) fun y1 => ⟨n, cell0, cd (fun y2 => ⟨ka, kl, kc, cell1, ce (fun y3 => ?_) fun y3 => ⟨ka, kl, kc, cell1, ⟨Int.le_refl 0, by omega⟩, ?_⟩⟩) fun y2 => new fun y => by omega⟩
      · have e0 : keep = [] := List.eq_nil_of_length_eq_zero (by omega)
        exact old (.inr ⟨by omega, by rw [e0]; rfl⟩)
      · cases keep with
        | nil => exact absurd (show (kl : Int) = 0 by rw [← hkl]; rfl) y3
        | cons b r =>
          cases ka with
          | none => exact absurd (show (b :: r).map Value.bool = [] from keepC) (by simp)
          | some p =>
            refine os ⟨b, keepC 0 _ rfl, ?_⟩
            cases b with
            | false => exact ct rfl (old (.inr ⟨by omega, rfl⟩))
            | true => exact cf rfl (new fun y => y.elim (fun z => by omega) fun z => absurd z.2 (by simp))
    · rw [ew] at Z10 ⊢
      have : fb = false := by
        cases fb with
        | false => rfl
        | true => exact absurd (hfb.mp rfl) hc
      subst this
      rw [show (S', (0 : Int)).1.down = false from hd]
      refine cf rfl (cf rfl (cn (fun y => absurd rfl y) fun _ => ?_))
      unfold bolelaw05_WalAtomic.k2
      exact cf rfl (atomic_loop G R (I10.ka Z10 hol) hK)
  refine cd (fun y0 => ⟨n, cell0, cd (fun y1 => ⟨n, cell0, fin _ ?_⟩) fun y1 => fin _ ⟨fun y => absurd y (by simp), fun y => by omega⟩⟩) fun y0 => fin _ ⟨fun y => absurd y (by simp), fun y => by omega⟩
  rw [wrap_i64 (n := 2 * (rs.length : Int)) (by omega) (by omega), wrap_i64 (by omega) (by omega), decide_eq_true_iff]
  omega
end Go.Proofs.YtpleolmalbdpnaaDoor.Wc
