/-
  WalKeeps: the law's function answers true.
-/
import Derived.Test.YtpleolmalbdpnaaDoorWkA
namespace Go.Proofs.YtpleolmalbdpnaaDoor.Wc
open Go Go.Proofs Go.Proofs.YtpleolmalbdpnaaDoor.Wx Go.Proofs.YtpleolmalbdpnaaDoor.Hp Go.Proofs.YtpleolmalbdpnaaDoor.W Go.Proofs.YtpleolmalbdpnaaDoor.Ad Go.Proofs.YtpleolmalbdpnaaDoor.Pn

def EntOk (l : Nb) (e : Int × Int × List UInt8) : Prop := (e.1 ≠ 1 ∨ (1 ≤ e.2.1 ∧ e.2.1 ≤ 97) ∨ ∃ p ∈ l, p.1 = e.2.1) ∧ e.2.2.length ≤ 512
theorem commit_ents {l : Nb} {hdr : List UInt8} (hl : l.length ≤ 96) (h5 : ∀ p ∈ l, p.2.length = 512) (hh : hdr.length = 512) : ∀ e ∈ (commitS l hdr).map Stp.ent, EntOk l e := by
  intro e he
  obtain ⟨s, hs, rfl⟩ := List.mem_map.mp he
  have fl : EntOk l (Stp.f).ent := ⟨.inl (by show (2 : Int) ≠ 1; decide), Nat.zero_le _⟩
  have hd : ∀ b : List UInt8, b.length = 512 → EntOk l (Stp.w 1 b).ent := fun b hb => ⟨.inr (.inl ⟨by show (1 : Int) ≤ 1; decide, by show (1 : Int) ≤ 97; decide⟩), by show b.length ≤ 512; omega⟩
  unfold commitS homeS at hs
  rcases List.mem_append.mp hs with hs | hs
  · rcases List.mem_append.mp hs with hs | hs
    · obtain ⟨p, hp, rfl⟩ := List.mem_map.mp hs
      obtain ⟨j, hj, rfl⟩ := List.getElem_of_mem hp
      rw [logL_get]
      rw [logL_length] at hj
      refine ⟨.inr (.inl ⟨by show (1 : Int) ≤ 2 + (j : Int); omega, by show 2 + (j : Int) ≤ 97; omega⟩), ?_⟩
      show l[j].2.length ≤ 512
      rw [h5 _ (List.getElem_mem hj)]; omega
    · rcases List.mem_cons.mp hs with rfl | hs
      · exact fl
      · rcases List.mem_cons.mp hs with rfl | hs
        · exact hd _ hh
        · rw [List.mem_singleton.mp hs]; exact fl
  · rcases List.mem_append.mp hs with hs | hs
    · obtain ⟨p, hp, rfl⟩ := List.mem_map.mp hs
      exact ⟨.inr (.inr ⟨p, hp, rfl⟩), by show p.2.length ≤ 512; rw [h5 p hp]; omega⟩
    · rcases List.mem_cons.mp hs with rfl | hs
      · exact fl
      · rcases List.mem_cons.mp hs with rfl | hs
        · exact hd _ (Hd.zeros_length 512)
        · rw [List.mem_singleton.mp hs]; exact fl
/-- one commit more -/
structure More (S S' : RD) (l : Nb) (T : List (Int × Int × List UInt8)) : Prop where
  run : wal S l = (S', 0)
  clean : Clean S'
  tape : S'.tape = S.tape ++ T
  ents : ∀ e ∈ T, EntOk l e
  many : T.length ≤ 100
  none : l = [] → S' = S
  some : l ≠ [] → S'.writes = S.writes + 2 * l.length + 2 ∧ S'.flushes = S.flushes + 4 ∧ Done S S' l (hdrOf l)
theorem more {S : RD} {l : Nb} (c : Clean S) (hn : S.lasts.length = 128) (hw : 0 ≤ S.writes ∧ S.writes ≤ 10000000) (hf : 0 ≤ S.flushes ∧ S.flushes ≤ 10000000) (r : Rise 128 l) : ∃ S' T, More S S' l T := by
  by_cases h : l = []
  · subst h
    exact ⟨S, [], by unfold wal; rw [if_pos rfl], c, (List.append_nil _).symm, fun e he => absurd he List.not_mem_nil, by decide, fun _ => rfl, fun y => absurd rfl y⟩
  · have hl := r.length
    obtain ⟨S', e, d, c', et⟩ := wal_clean c hw hf h (by rw [hn]; exact r.may) r.len
    have hh : (hdrOf l).length = 512 := Hd.laid_length _ _ (by rw [List.length_map]; omega)
    refine ⟨S', _, e, c', et, commit_ents (by omega) r.len hh, ?_, fun y => absurd y h, fun _ => ⟨d.writes, d.flushes, d⟩⟩
    rw [List.length_map]
    unfold commitS homeS ws
    simp only [List.length_append, List.length_map, logL_length, List.length_cons, List.length_nil]
    omega
/-- what the law keeps: the disk, and the image that is wanted -/
structure Kp (h0 hh : Heap) (D : Nat → Prop) (d : Option Addr) (S : RD) (w : List (List UInt8)) (wa : Option Addr) (wc : Nat) : Prop where
  z : Dz h0 hh D d S
  c : Clean S
  k : Alike S.lasts w
  W : StrAt hh wa (w.length * 512) w.flatten
  wc : 65536 ≤ wc
  wn : ∀ p, wa = some p → p.block < hh.size ∧ ¬ D p.block
theorem Kp.no {h0 hh hh' : Heap} {D : Nat → Prop} {d : Option Addr} {S : RD} {w : List (List UInt8)} {wa : Option Addr} {wc : Nat} (a : Kp h0 hh D d S w wa wc) (f : Fr No hh hh') : Kp h0 hh' D d S w wa wc :=
  ⟨a.z.no f, a.c, a.k, StrAt.fr f a.W fun _ _ x => x, a.wc, fun p e => ⟨Nat.lt_of_lt_of_le (a.wn p e).1 f.size, (a.wn p e).2⟩⟩
theorem WalKeeps_spec {h : Heap} {la : Option Addr} {lc : Nat} {ss : List Hd.Sc} {pss : List (List Pt)} {K : Value → Heap → Prop} (G : Re.Glo h) (L : SlCells h la (ss.map Hd.Sc.v)) (hll : ss.length ≤ 140737488355328) (hps : pss.length = ss.length)
    (hP : ∀ i (h1 : i < ss.length) (h2 : i < pss.length), SlCells h ss[i].a (pss[i].flatMap ptV) ∧ pss[i].length = ss[i].l ∧ ss[i].l ≤ 140737488355328) (hK : ∀ h', Fr No h h' → K (.bool true) h') : C.bolelaw05_WalKeeps la ss.length lc h K := by
  refine bolelaw05_WalKeeps.ok (fixed_spec G fun h2 f2 => ⟨_, rfl, cf rfl ?_⟩)
  refine newF_spec (n := 128) (by omega) (by omega) fun q h3 D f3 hD A => ⟨_, _, rfl, cn (fun y => absurd rfl y) fun _ => cf rfl ?_⟩
  unfold bolelaw05_WalKeeps.k1
  have F3 := f2.no f3
  have e128 : (128 : Int).toNat = 128 := rfl
  rw [e128] at A
  refine ⟨⟨by omega, by omega, by omega, by omega⟩, New.intro fun h4 n4 => ?_⟩
  have z4 := n4.size
  have z2 := f2.size
  have w0 : (List.replicate 128 zeroBlk).length = 128 := List.length_replicate
  have wz : (List.replicate 128 zeroBlk).flatten = List.replicate 65536 (0 : UInt8) := by
    unfold zeroBlk
    rw [List.flatten_replicate_replicate]
  have z5 : ∀ x ∈ List.replicate 128 zeroBlk, x.length = 512 := fun x hx => by rw [List.eq_of_mem_replicate hx]; exact List.length_replicate
  have e65 : Int.toNat 65536 = 65536 := rfl
  have hDl : ∀ b, D b → b < h3.size := fun b y => A.lt y
  have K4 : Kp h h4 D (some q) (fresh (List.replicate 128 zeroBlk)) (List.replicate 128 zeroBlk) (some ⟨h3.size, 0, none⟩) 65536 := by
    refine ⟨⟨F3.new n4, A.no n4.fr, fun b y => by have := hD b y; omega⟩, fresh_clean (by decide), ⟨w0, w0, z5, z5, fun _ _ => rfl⟩, ?_, Nat.le_refl _, fun p e => ?_⟩
    · rw [w0, wz]
      exact strAll (by rw [n4.rd, e65, List.map_replicate]; rfl) List.length_replicate
    · cases e
      exact ⟨by show h3.size < h4.size; omega, fun y => by have y : D h3.size := y; have := hDl _ y; omega⟩
  rw [e65]
  refine ⟨fun wa wl wc i hh => ∃ (k : Nat) (S : RD) (D : Nat → Prop) (w : List (List UInt8)), i = k ∧ k ≤ 12 ∧ wl = w.length * 512 ∧ Kp h hh D (some q) S w wa wc ∧ (0 ≤ S.writes ∧ S.writes ≤ 1000 * k) ∧ (0 ≤ S.flushes ∧ S.flushes ≤ 1000 * k) ∧ S.tape.length ≤ 1000 * k ∧ ∀ x ∈ S.tape, x.2.2.length ≤ 512,
    fun _ _ _ i _ => (12 - i).toNat, ⟨0, _, D, _, rfl, by decide, by rw [w0], K4, ⟨Int.le_refl 0, Int.le_refl 0⟩, ⟨Int.le_refl 0, Int.le_refl 0⟩, Nat.le_refl 0, fun x hx => absurd hx List.not_mem_nil⟩, ?_⟩
  rintro wa wl wc i h5 ⟨k, S, D5, w, ei, hk12, rfl, Kp5, hw, hf, ht, htl⟩
  refine cd (fun hlt => cd (fun h12 => ?_) fun _ => hK h5 Kp5.z.f) fun _ => hK h5 Kp5.z.f
  unfold bolelaw05_WalKeeps.k2
  have hk : k < ss.length := by omega
  have et : Int.toNat i = k := by omega
  rw [et]
  have cells := SlCells.fr Kp5.z.f L fun _ _ x => x
  cases la with
  | none =>
    have c : ss.map Hd.Sc.v = [] := cells
    have := List.map_eq_nil_iff.mp c
    rw [this] at hk; exact absurd hk (by simp)
  | some p1 =>
  have cv : cellOf h5 (p1.add k) = some (Hd.Sc.v ss[k]) := cells k _ (by rw [List.getElem?_map, List.getElem?_eq_getElem hk]; rfl)
  obtain ⟨P1, P2, P3⟩ := hP k hk (by omega)
  refine ⟨⟨by omega, hlt⟩, os ⟨ss[k].a, ss[k].l, ss[k].c, cv, ?_⟩⟩
  rw [← P2]
  refine rows_spec (SlCells.fr Kp5.z.f P1 fun _ _ x => x) (by omega) fun a6 c6 h6 rs f6 B6 ri => ⟨_, _, _, rfl, ?_⟩
  have Kp6 := Kp5.no f6
  refine diskSteps Kp6.z.A ⟨_, _, rfl, ?_⟩
  have htw : ∀ x ∈ S.tape, x.2.2.length ≤ 140737488355328 := fun x hx => by have := htl x hx; omega
  refine diskTape (n := 0) Kp6.z.A (by omega) htw fun a8 l8 c8 h8 xs0 f8 _ _ en8 _ => ⟨_, _, _, rfl, ?_⟩
  have en8 : S.tape.length = l8 := en8
  subst en8
  have Kp8 := Kp6.no f8
  have hn : S.lasts.length = 128 := Kp5.k.1
  obtain ⟨S', T, mo⟩ := more Kp5.c hn ⟨hw.1, by omega⟩ ⟨hf.1, by omega⟩ ri
  have lrs : (nb rs).length = rs.length := List.length_map ..
  have l30 := ri.length
  have B8 : Bl h8 D5 a6 rs := B6.fr f8 (fun _ _ x => x.elim) fun x _ y => by show x < h5.size; exact Kp5.z.A.lt y
  refine Commit_spec (G.no Kp8.z.f) Kp8.z.A B8 (by omega) (by rw [Kp5.c.pend]; show 0 < 100000000; omega) (by omega) fun h9 D9 f9 g9 A9 => ?_
  rw [mo.run] at A9 ⊢
  have Z9 := Kp8.z.call f9 g9 A9
  refine ⟨_, rfl, diskSteps Z9.A ⟨_, _, rfl, cn (fun y => absurd rfl y) fun _ => ?_⟩⟩
  have W9 : StrAt h9 wa (w.length * 512) w.flatten := StrAt.fr f9 Kp8.W fun p e => (Kp8.wn p e).2
  have ali : Alike S'.lasts (applyTo w (nb rs)) := by
    by_cases e : nb rs = []
    · rw [mo.none e, e]; exact Kp5.k
    · exact (mo.some e).2.2.alike Kp5.c.pend Kp5.c ri Kp5.k Z9.lasts
  have B9 : Bl h9 (fun b => D9 b) a6 rs := by
    refine ⟨SlCells.fr f9 B8.cells fun p e => (B8.ab p e).2, fun p e => ⟨by have := (B8.ab p e).1; have := f9.size; omega, fun y => (B8.ab p e).2 ((g9.old _ (B8.ab p e).1).mp y)⟩, fun r hr => ⟨StrAt.fr f9 (B8.ok r hr).1 fun p e => ((B8.ok r hr).2 p e).2, fun p e => ?_⟩⟩
    have q := (B8.ok r hr).2 p e
    exact ⟨by have := f9.size; omega, fun y => q.2 ((g9.old _ q.1).mp y)⟩
  have wlen : w.length = 128 := Kp5.k.2.1
  have w5 : ∀ x ∈ w, x.length = 512 := Kp5.k.2.2.2.1
  have bw : 0 ≤ S'.writes ∧ S'.writes ≤ 1000 * ((k + 1 : Nat) : Int) ∧ 0 ≤ S'.flushes ∧ S'.flushes ≤ 1000 * ((k + 1 : Nat) : Int) := by
    by_cases e : nb rs = []
    · rw [mo.none e]; omega
    · obtain ⟨x, y, _⟩ := mo.some e
      omega
  have bt : S'.tape.length ≤ 1000 * (k + 1) := by rw [mo.tape, List.length_append]; have := mo.many; omega
  have btl : ∀ x ∈ S'.tape, x.2.2.length ≤ 512 := fun x hx => by
    rw [mo.tape] at hx
    rcases List.mem_append.mp hx with hx | hx
    · exact htl x hx
    · exact (mo.ents x hx).2
  have k3 : bolelaw05_WalKeeps.k3 (some q) wa (w.length * 512) wc i h5 (fun wa wl wc i hh => ∃ (k : Nat) (S : RD) (D : Nat → Prop) (w : List (List UInt8)), i = k ∧ k ≤ 12 ∧ wl = w.length * 512 ∧ Kp h hh D (some q) S w wa wc ∧ (0 ≤ S.writes ∧ S.writes ≤ 1000 * k) ∧ (0 ≤ S.flushes ∧ S.flushes ≤ 1000 * k) ∧ S.tape.length ≤ 1000 * k ∧ ∀ x ∈ S.tape, x.2.2.length ≤ 512)
      (fun _ _ _ i _ => (12 - i).toNat) a6 rs.length c6 S.tape.length h9 K := by
    unfold bolelaw05_WalKeeps.k3
    refine diskTape Z9.A (by show S'.tape.length < 1000000000; omega) (fun x hx => by have := btl x hx; omega) fun a11 l11 c11 h11 xs f11 s11 ex en ek => ⟨_, _, _, rfl, ?_⟩
    have ed : S'.tape.drop ((S.tape.length : Nat) : Int).toNat = T := by
      rw [mo.tape]; exact List.drop_left
    rw [ed] at en ek
    have tmany := mo.many
    have Z11 := Z9.no f11
    have B11 := B9.no f11
    refine ⟨fun j hh => ∃ m : Nat, j = m ∧ m ≤ l11 ∧ hh = h11, fun j _ => ((l11 : Int) - j).toNat, ⟨0, rfl, Nat.zero_le _, rfl⟩, ?_⟩
    rintro j h12 ⟨m, ej, hm, rfl⟩
    refine cd (fun hlt2 => ?_) fun hlt2 => ?_
    · have hm' : m < xs.length := by omega
      have hm2 : m < T.length := by omega
      have etj : Int.toNat j = m := by omega
      obtain ⟨p2, rfl, cc⟩ := ent_at s11 hm'
      obtain ⟨e1, e2⟩ := ek m hm' hm2
      obtain ⟨hok, _⟩ := mo.ents _ (List.getElem_mem hm2)
      rw [← e1, ← e2] at hok
      have c0 := cc 0 _ rfl
      have c1 := cc 1 _ rfl
      have k4 : ∀ nm : Bool, (nm = true ∨ ∃ p ∈ nb rs, p.1 = xs[m].at_) → bolelaw05_WalKeeps.k4 a6 rs.length (some p2) l11 j h12 (fun j hh => ∃ m : Nat, j = m ∧ m ≤ l11 ∧ hh = h12) (fun j _ => ((l11 : Int) - j).toNat) nm K := by
        intro nm hnm
        unfold bolelaw05_WalKeeps.k4
        refine ⟨fun nm y hh => hh = h12 ∧ ∃ t : Nat, y = t ∧ t ≤ rs.length ∧ (nm = true ∨ ∃ u : Nat, t ≤ u ∧ ∃ hu : u < rs.length, rs[u].1 = xs[m].at_), fun _ y _ => ((rs.length : Int) - y).toNat, ⟨rfl, 0, rfl, Nat.zero_le _, ?_⟩, ?_⟩
        · refine hnm.imp id fun ⟨p, hp, e⟩ => ?_
          obtain ⟨u, hu, rfl⟩ := List.getElem_of_mem hp
          have hu' : u < rs.length := by omega
          refine ⟨u, Nat.zero_le _, hu', ?_⟩
          rw [← e]
          have := nb_get rs hu'
          rw [this]
        · rintro nm2 y h13 ⟨rfl, t, ey, ht', hn2⟩
          refine cd (fun hyl => ?_) fun hyl => ?_
          · have ht2 : t < rs.length := by omega
            have ety : Int.toNat y = t := by omega
            have nx : ∀ b : Bool, (b = true ∨ ∃ u : Nat, t + 1 ≤ u ∧ ∃ hu : u < rs.length, rs[u].1 = xs[m].at_) → (h13 = h13 ∧ ∃ t : Nat, IntKind.wrap .i64 (y + 1) = t ∧ t ≤ rs.length ∧ (b = true ∨ ∃ u : Nat, t ≤ u ∧ ∃ hu : u < rs.length, rs[u].1 = xs[m].at_)) ∧ ((rs.length : Int) - IntKind.wrap .i64 (y + 1)).toNat < ((rs.length : Int) - y).toNat := fun b hb => by
              rw [wrap_i64 (by omega) (by omega)]
              exact ⟨⟨rfl, t + 1, by omega, by omega, hb⟩, by omega⟩
            refine cs (fun hb => nx true (.inl rfl)) fun hb => ?_
            rw [ety, etj]
            obtain ⟨p3, rfl, cb⟩ := B11.get ht2
            refine ⟨⟨by omega, hyl⟩, os ⟨_, cb 0 _ rfl, ⟨by omega, hlt2⟩, os ⟨_, c1, ?_⟩⟩⟩
            refine nx _ ?_
            rcases hn2 with hn2 | ⟨u, hu1, hu2, hu3⟩
            · rw [hb] at hn2; cases hn2
            · by_cases e : u = t
              · subst e
                left
                rw [hu3]; exact beq_self_eq_true _
              · exact .inr ⟨u, by omega, hu2, hu3⟩
          · rcases hn2 with rfl | ⟨u, hu1, hu2, _⟩
            · refine cf rfl ?_
              rw [wrap_i64 (by omega) (by omega)]
              exact ⟨⟨m + 1, by omega, by omega, rfl⟩, by show ((l11 : Int) - (j + 1)).toNat < ((l11 : Int) - j).toNat; omega⟩
            · omega
      rw [etj]
      refine ⟨⟨by omega, hlt2⟩, os ⟨_, c0, cn (fun _ => k4 true (.inl rfl)) fun h1 => ?_⟩⟩
      refine ⟨⟨by omega, hlt2⟩, os ⟨_, c1, cd (fun h1' => ?_) fun h1' => ?_⟩⟩
      · refine ⟨⟨by omega, hlt2⟩, os ⟨_, c1, k4 _ ?_⟩⟩
        rcases hok with q | q | q
        · exact absurd h1 q
        · exact .inl (decide_eq_true q.2)
        · exact .inr q
      · refine k4 false ?_
        rcases hok with q | q | q
        · exact absurd h1 q
        · omega
        · exact .inr q
    · have W11 := StrAt.fr f11 W9 fun _ _ x => x
      refine laid_spec W11 w5 (by omega) B11 (by rw [wlen]; exact ri) (by omega) fun a14 c14 h14 f14 s14 => ⟨_, _, _, rfl, ?_⟩
      have Z14 := Z11.no f14
      refine Behind_spec (G.no Z14.f) Z14.A Z14.readLen fun a15 l15 c15 h15 f15 s15 => ⟨_, _, _, _, rfl, ?_⟩
      rw [mo.clean.beh] at s15 ⊢
      have Z15 := Z14.no f15
      refine cn (fun y => absurd rfl y) fun _ => ?_
      have e65' : w.length * 512 = 65536 := by rw [wlen]
      have S14 : Sl h15 1 a14 (w.length * 512) c14 ((applyTo w (nb rs)).flatten.map bv) (From h12.size) := s14.fr f15 fun _ _ _ x => x
      have l15e : l15 = 65536 := by
        have := s15.1
        rw [List.length_map, flat_len _ Z15.lasts, ali.1] at this; omega
      subst l15e
      rw [e65'] at S14 ⊢
      obtain ⟨t1, t2⟩ := ali.two
      refine sameBut_spec s15.str S14.str s15.le S14.le t1 t2 ⟨_, rfl, cf rfl ?_⟩
      refine diskImage Z15.A fun a17 c17 h17 f17 s17 => ⟨_, _, _, rfl, ?_⟩
      have en17 : S'.lasts.length * 512 = 65536 := by rw [ali.1]
      have s17 : Sl h17 1 a17 (S'.lasts.length * 512) c17 (S'.lasts.flatten.map bv) (From h15.size) := s17
      show C.bolelaw05_sameBut a17 (S'.lasts.length * 512) c17 a14 65536 c14 h17 _
      rw [en17] at s17 ⊢
      have S17 : Sl h17 1 a14 65536 c14 ((applyTo w (nb rs)).flatten.map bv) (From h12.size) := S14.fr f17 fun _ _ _ x => x
      refine sameBut_spec s17.str S17.str s17.le S17.le t1 t2 ⟨_, rfl, cf rfl ?_⟩
      have Z17 := Z15.no f17
      refine diskPending Z17.A (by show S'.pend.length < 1000000000; rw [mo.clean.pend]; show 0 < 1000000000; omega) fun a19 c19 h19 f19 => ⟨_, _, _, rfl, ?_⟩
      have Z19 := Z17.no f19
      refine cn (fun y => absurd (by show (S'.pend.length : Int) = 0; rw [mo.clean.pend]; rfl) y) fun _ => ?_
      rw [wrap_i64 (by omega) (by omega)]
      refine ⟨⟨k + 1, S', D9, applyTo w (nb rs), by omega, by omega, by rw [applyTo_length, wlen], ⟨Z19, mo.clean, ali, ?_, S17.le, fun p e => ?_⟩, ⟨bw.1, bw.2.1⟩, ⟨bw.2.2.1, bw.2.2.2⟩, bt, btl⟩, by show ((12 : Int) - (i + 1)).toNat < ((12 : Int) - i).toNat; omega⟩
      · rw [applyTo_length, wlen]
        exact (S17.fr f19 fun _ _ _ x => x).str
      · subst e
        obtain ⟨_, _, g, o, _⟩ := S17
        have g : h12.size ≤ p.block := g
        have := f19.size
        have := o.lt
        exact ⟨by omega, fun y => by have := Z11.A.lt y; omega⟩
  rw [wrap_i64 (n := 2 * (rs.length : Int)) (by omega) (by omega), wrap_i64 (n := 2 * (rs.length : Int) + 2) (by omega) (by omega)]
  dsimp only
  refine cd (fun hp => ?_) fun hp => ?_
  · have hne : nb rs ≠ [] := fun e => by rw [e] at lrs; have lrs : (0 : Nat) = rs.length := lrs; omega
    obtain ⟨x, y, _⟩ := mo.some hne
    rw [wrap_i64 (by omega) (by omega), wrap_i64 (by omega) (by omega)]
    refine cn (fun v => absurd (by omega) v) fun _ => cn (fun v => absurd (by omega) v) fun _ => ce (fun v => absurd v (by omega)) fun _ => k3
  · have he : nb rs = [] := List.eq_nil_of_length_eq_zero (by omega)
    have e := mo.none he
    refine ce (fun _ => cn (fun v => absurd (by show S'.writes = S.writes; rw [e]) v) fun _ => cn (fun v => absurd (by show S'.flushes = S.flushes; rw [e]) v) fun _ => k3) fun v => absurd (by omega) v
end Go.Proofs.YtpleolmalbdpnaaDoor.Wc
