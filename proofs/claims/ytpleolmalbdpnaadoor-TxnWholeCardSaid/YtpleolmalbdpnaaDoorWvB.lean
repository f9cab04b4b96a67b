/-
  RECOVERY: Recover and Behind.
-/
import Derived.Test.YtpleolmalbdpnaaDoorWvA
namespace Go.Proofs.YtpleolmalbdpnaaDoor.Wc
open Go Go.Proofs Go.Proofs.YtpleolmalbdpnaaDoor.Wx Go.Proofs.YtpleolmalbdpnaaDoor.Hp Go.Proofs.YtpleolmalbdpnaaDoor.W Go.Proofs.YtpleolmalbdpnaaDoor.Ad Go.Proofs.YtpleolmalbdpnaaDoor.Pn

/-- what a recovery leaves, and answers -/
def recM (S : RD) : RD × Int × Int :=
  if (heldM S).2 ≠ 0 then (S, 0, (heldM S).2) else if (heldM S).1 = [] then (S, 0, 0)
  else if (runS (homeS (heldM S).1) S).2 ≠ 0 then ((runS (homeS (heldM S).1) S).1, 0, (runS (homeS (heldM S).1) S).2) else ((runS (homeS (heldM S).1) S).1, (heldM S).1.length, 0)
theorem do_steps {n0 : Nat} {D : Nat → Prop} {d : Option Addr} {hh : Heap} {sb : Nat} {R : Nat → Prop} {S : RD} {xs : List SV} {K : Int → Heap → Prop} (b : Bd n0 D hh sb R xs) (hD : ∀ b, D b → b < n0) (A : DiskF hh D d S) (hp : S.pend.length + xs.length < 1000000000) (ht : S.tape.length + xs.length < 1000000000)
    (hK : ∀ h' D', Fr D hh h' → Gw hh D h' D' → DiskF h' D' d (runS (xs.map SV.stp) S).1 → K (runS (xs.map SV.stp) S).2 h') :
    ∃ (sA6 : Option Addr) (sL6 : Nat) (sC6 : Nat), cellOf hh ⟨sb, 0, none⟩ = some (.slice sA6 sL6 sC6) ∧ C.wal_steps_do sA6 sL6 sC6 d hh fun r10 h22 => ∃ (n6 : Int), r10 = .int .i64 n6 ∧ K n6 h22 := by
  obtain ⟨a, c, e, s⟩ := b.row
  refine ⟨a, _, c, rdc e rfl, do_spec A (fun x hx => (b.ok x hx).weak fun _ y => .inl y) s.cells (fun p e => ?_) hp ht fun h' D' f g A' => ⟨_, rfl, hK h' D' f g A'⟩⟩
  subst e
  obtain ⟨_, _, q, o, _⟩ := s
  exact ⟨o.lt, fun y => by have := hD _ y; have := (b.ge _ q.1).1; omega⟩
theorem Recover_spec {h : Heap} {D : Nat → Prop} {d : Option Addr} {S : RD} {K : Value → Heap → Prop} (G : Re.Glo h) (A : DiskF h D d S) (hp : S.pend.length < 100000000) (ht : S.tape.length < 100000000)
    (hK : ∀ h' D', Fr D h h' → Gw h D h' D' → DiskF h' D' d (recM S).1 → K (.tuple #[.int .i64 (recM S).2.1, .int .i64 (recM S).2.2]) h') : C.wal_Recover d h K := by
  have hDl : ∀ b, D b → b < h.size := fun b x => A.lt x
  refine wal_Recover.ok (New.intro fun h2 n2 => ?_)
  have z2 := n2.size
  have no : ∀ {h'}, Fr No h h' → Fr D h h' ∧ Gw h D h' D ∧ DiskF h' D d S := fun f => ⟨f.mono fun _ _ x => x.elim, Gw.refl f.size hDl, A.no f⟩
  have eRet : ∀ {h3 h4 : Heap} {v : Int}, Fr No h h3 → Did h.size h3 h4 [.int .i64 v] → Fr No h h4 := fun f dd => f.did dd fun hb => by omega
  refine held_spec (G.no n2.fr) (A.no n2.fr) (fun e he hne h13 f13 => ?_) fun l hl la lc h3 rs f3 er lr bl => ⟨_, _, _, rfl, ?_⟩
  · have er : recM S = (S, 0, e) := by unfold recM; rw [he, if_pos hne]
    rw [er] at hK
    refine recover_pan (v := 0) (f13.own (by omega) (fun x => x) n2.own) ((f13.rd (by omega) fun x => x).trans n2.rd) fun h14 d14 => ⟨_, rdc d14.rd rfl, ?_⟩
    have f := eRet (n2.fr.no f13) d14
    obtain ⟨x, y, z⟩ := no f
    exact hK h14 D x y z
  have z3 := f3.size
  have F3 := n2.fr.no f3
  have o3 : Own h3 h.size := f3.own (by omega) (fun x => x) n2.own
  have r3 : rd h3 h.size = [.int .i64 0] := (f3.rd (by omega) fun x => x).trans n2.rd
  have ll : l.length = rs.length := by rw [← er]; exact List.length_map ..
  refine ce (fun h0 => ?_) fun h0 => ?_
  · have el : l = [] := List.eq_nil_of_length_eq_zero (by omega)
    have er : recM S = (S, 0, 0) := by unfold recM; rw [hl, if_neg (fun x => x rfl), if_pos el]
    rw [er] at hK
    refine Put.intro o3 (by rw [r3]; exact Nat.one_pos) fun h4 d4 => ?_
    rw [r3] at d4
    refine recover_ret (v := 0) d4.own d4.rd fun h5 d5 => ⟨_, rdc d5.rd rfl, ?_⟩
    have z4 := d4.size
    have f : Fr No h h5 := (F3.did d4 fun hb => by omega).did d5 fun hb => by omega
    obtain ⟨x, y, z⟩ := no f
    exact hK h5 D x y z
  have hne : l ≠ [] := fun e => by rw [e] at ll; have ll : (0 : Nat) = rs.length := ll; omega
  refine New.intro fun h6 n6 => ?_
  have z6 := n6.size
  have F6 := F3.new n6
  have b6 : Bd h3.size D h6 h3.size (fun b => b = h3.size) [] :=
    ⟨rfl, fun b e => ⟨by omega, by omega⟩, n6.own, ⟨none, 0, n6.rd, Sl.nil _ _ _⟩, fun x hx => absurd hx List.not_mem_nil⟩
  have hD : ∀ b, D b → b < h3.size := fun b x => by have := hDl b x; omega
  have bl6 : Bl h6 (fun b => D b ∨ b = h3.size) la rs := bl.fr n6.fr (fun _ _ x => x.elim) fun x hx y => by
    rcases y with y | y
    · have := hDl x y; omega
    · omega
  refine home_spec b6 hD bl6 (by show 0 + rs.length < 100000; omega) fun h7 R7 ys f7 g7 b7 ey ly => ⟨rfl, ?_⟩
  have z7 := f7.size
  have F7 : Fr No h h7 := F6.trans f7 fun x hx e => by have e : x = h3.size := e; omega
  rw [er] at ey
  have ey : ([] ++ ys).map SV.stp = homeS l := ey
  refine do_steps b7 hD (A.no F7) (by rw [List.nil_append, ly]; omega) (by rw [List.nil_append, ly]; omega) fun h8 D8 f8 g8 A8 => ?_
  rw [ey] at A8 ⊢
  have z8 := f8.size
  have nD : ¬ D h.size := fun x => by have := hDl _ x; omega
  have o8 : Own h8 h.size := f8.own (by omega) nD (f7.own (by omega) (fun e => by have e : h.size = h3.size := e; omega) (n6.fr.own (by omega) (fun x => x) o3))
  have r8 : rd h8 h.size = [.int .i64 0] := (f8.rd (by omega) nD).trans ((f7.rd (by omega) fun e => by have e : h.size = h3.size := e; omega).trans ((n6.fr.rd (by omega) fun x => x).trans r3))
  have F8 : Fr D h h8 := (F7.mono fun _ _ x => x.elim).trans f8 fun _ _ x => x
  have G8 : Gw h D h8 D8 := ⟨fun b hb => g8.old b (by omega), g8.lt⟩
  have nD8 : ¬ D8 h.size := fun x => nD ((g8.old _ (by omega)).mp x)
  have fin : ∀ {m e : Int}, recM S = ((runS (homeS l) S).1, m, e) → Wx.Put ⟨h.size, 0, none⟩ (.int .i64 e) h8 fun h9 => W.D.wal_Recover_c1 (some ⟨h.size, 0, none⟩) h9 fun h10 => ∃ (res2 : Int), cellOf h10 ⟨h.size, 0, none⟩ = some (.int .i64 res2) ∧ K (.tuple #[.int .i64 m, .int .i64 res2]) h10 := by
    intro m e em
    rw [em] at hK
    refine Put.intro o8 (by rw [r8]; exact Nat.one_pos) fun h9 d9 => ?_
    rw [r8] at d9
    refine recover_ret (v := e) d9.own d9.rd fun h10 d10 => ⟨_, rdc d10.rd rfl, ?_⟩
    have z9 := d9.size
    have z10 := d10.size
    have f810 : Fr (fun x => x = h.size) h8 h10 := d9.fr.trans d10.fr fun _ _ x => x
    refine hK h10 D8 (F8.trans f810 fun x hx e => by have e : x = h.size := e; omega) ⟨G8.old, fun b x => by have := G8.lt b x; omega⟩ (A8.fr f810 fun b x e => ?_)
    have e : b = h.size := e
    subst e; exact nD8 x
  refine cn (fun hx => fin ?_) fun hx => fin ?_
  · unfold recM
    rw [hl, if_neg (fun y => y rfl), if_neg hne, if_pos hx]
  · unfold recM
    rw [hl, if_neg (fun y => y rfl), if_neg hne, if_neg (fun y => y hx)]
    show (_, ((l.length : Nat) : Int), (0 : Int)) = _
    rw [ll]
/-! Behind -/
/-- the disk's blocks, as they read -/
def seen (S : RD) : List (List UInt8) := (List.range S.lasts.length).map (readAt S)
def behL (S : RD) (l : Nb) : List (List UInt8) := applyTo (applyTo (seen S) l) [(1, Hd.zeros 512)]
def behM (S : RD) : List UInt8 × Int := if (heldM S).2 ≠ 0 then ([], (heldM S).2) else ((behL S (heldM S).1).flatten, 0)
theorem seen_length (S : RD) : (seen S).length = S.lasts.length := by unfold seen; rw [List.length_map, List.length_range]
theorem numsM_may {hd : List UInt8} {n : Int} (h : (Hd.numsM hd n).2 = 0) (hne : (Hd.numsM hd n).1 ≠ []) : Hd.mayM (Hd.numsM hd n).1 n = true := by
  unfold Hd.numsM at h hne ⊢
  split
  · rename_i c0; rw [if_pos c0] at h; cases h
  · rename_i c0
    rw [if_neg c0] at h hne
    split
    · rename_i c1; rw [if_pos c1] at hne; exact absurd rfl hne
    · rename_i c1
      rw [if_neg c1] at h hne
      split
      · rename_i c2; rw [if_pos c2] at h; cases h
      · rename_i c2
        rw [if_neg c2] at h hne
        split
        · rename_i c3; rw [if_pos c3] at h; cases h
        · rename_i c3
          rw [if_neg c3] at h hne
          split
          · rename_i c4; rw [if_pos c4] at h; cases h
          · rename_i c4
            rw [if_neg c4] at h hne
            split
            · rename_i c5; rw [if_pos c5] at h; cases h
            · rename_i c5
              rw [if_neg c5] at h hne
              split
              · rename_i c6; rw [if_pos c6] at h; cases h
              · rename_i c6
                cases e : Hd.mayM (Hd.numsL hd (Hd.getAt hd 8 2)) n with
                | true => rfl
                | false => exact absurd e c6
/-- what the log holds are blocks of the disk -/
theorem held_in {S : RD} {l : Nb} (h : heldM S = (l, 0)) : S.down = false ∧ 98 ≤ S.lasts.length ∧ (heldN S).2 = 0 ∧ l = heldL S (heldN S).1.length ∧ ((heldN S).1 = [] ∨ Hd.goodM (readAt S 1) S.lasts.length (l.map (·.2)) = true) := by
  unfold heldM at h
  split at h
  · have e : (30 : Int) = 0 := congrArg Prod.snd h
    exact absurd e (by decide)
  · rename_i h1
    split at h
    · have e : (31 : Int) = 0 := congrArg Prod.snd h
      exact absurd e (by decide)
    · rename_i h2
      split at h
      · have e : (41 : Int) = 0 := congrArg Prod.snd h
        exact absurd e (by decide)
      · rename_i h3
        split at h
        · rename_i h4
          have e : heldL S (heldN S).1.length = l := congrArg Prod.fst h
          rw [e] at h4
          exact ⟨by simpa using h1, by omega, by omega, e.symm, h4⟩
        · have e : (41 : Int) = 0 := congrArg Prod.snd h
          exact absurd e (by decide)
theorem held_mem {S : RD} {l : Nb} (h : heldM S = (l, 0)) {p : Int × List UInt8} (hp : p ∈ l) : 98 ≤ p.1 ∧ p.1 < S.lasts.length := by
  obtain ⟨h1, h2, h3, h4, h5⟩ := held_in h
  subst h4
  obtain ⟨k, hk, rfl⟩ := List.mem_map.mp hp
  have hk := List.mem_range.mp hk
  have hne : (heldN S).1 ≠ [] := fun e => by rw [e] at hk; exact absurd hk (by simp)
  have hm := (Hd.mayM_mem (numsM_may h3 hne)).1
  have := hm ((heldN S).1.getD k 0) (by rw [List.getD_eq_getElem?_getD, List.getElem?_eq_getElem hk]; exact List.getElem_mem hk)
  show 98 ≤ (heldN S).1.getD k 0 ∧ _
  omega
theorem flat_blk (nb : List (List UInt8)) : nb.flatten.map bv = nb.flatMap blk := by rw [List.map_flatten]; rfl
/-- a block is copied into a row of blocks -/
theorem copy_blk {ls : List (List UInt8)} {y : List UInt8} {i : Nat} {hh : Heap} {p : Addr} {c : Nat} {F : Nat → Prop} {src : Option Addr} {sc : Nat} {k : Nat → Heap → Prop} (s : Sl hh 1 (some p) (ls.length * 512) c (ls.flatten.map bv) F)
    (hls : ∀ x ∈ ls, x.length = 512) (hi : i < ls.length) (Y : StrAt hh src 512 y) (hk : ∀ n h', Fr (fun x => x = p.block) hh h' → Sl h' 1 (some p) (ls.length * 512) c ((ls.set i y).flatten.map bv) F → k n h') :
    CopyP ti5 (if c = i * 512 then some p else Option.map (Addr.add · (i * 512)) (some p)) (ls.length * 512 - i * 512) (.slice src 512 sc) hh k := by
  have hle := s.le
  have hm : (i + 1) * 512 ≤ ls.length * 512 := Nat.mul_le_mul_right _ hi
  rw [Nat.add_mul, Nat.one_mul] at hm
  have ly : y.length = 512 := Y.1
  have e := s.mk
  obtain ⟨b, o, sp⟩ := p
  have e : sp = none := congrArg Addr.spot e
  subst e
  rw [if_neg (by omega)]
  show CopyP _ (some (Addr.add ⟨b, o, none⟩ (i * 512))) _ _ _ _
  rw [add_mk]
  obtain ⟨ow, wl⟩ := s.wr
  have hw : ∀ x ∈ ls, (blk x).length = 512 := fun x hx => blk_len (hls x hx)
  refine CopyP.intro (new := blk y) ?_ Y.2 (bv_one _) ow ?_ fun h' d => ?_
  · rw [blk_len ly]
    show 512 = min 512 (ls.length * 512 - i * 512) * 1
    omega
  · rw [blk_len ly]; omega
  · refine hk _ h' d.fr ?_
    rw [flat_blk] at s ⊢
    rw [← put_part blk 512 ls hw i hi y (blk_len ly)]
    have hj : i * 512 + (blk y).length ≤ ls.length * 512 * 1 := by rw [blk_len ly, Nat.mul_one]; exact hm
    exact s.putAt hj d
theorem set_len {ls : List (List UInt8)} {y : List UInt8} {i : Nat} (h : ∀ x ∈ ls, x.length = 512) (hy : y.length = 512) : ∀ x ∈ ls.set i y, x.length = 512 := fun x hx => by
  rcases List.mem_or_eq_of_mem_set hx with h1 | h1
  · exact h x h1
  · rw [h1]; exact hy
theorem apply_len : ∀ (ps : Nb) (ls : List (List UInt8)), (∀ x ∈ ls, x.length = 512) → (∀ p ∈ ps, p.2.length = 512) → ∀ x ∈ applyTo ls ps, x.length = 512
  | [], _, h, _ => h
  | p :: r, ls, h, hp => apply_len r (ls.set p.1.toNat p.2) (set_len h (hp p (List.mem_cons_self ..))) fun q hq => hp q (List.mem_cons_of_mem _ hq)
theorem apply_snoc (ls : List (List UInt8)) (ps : Nb) (p : Int × List UInt8) : applyTo ls (ps ++ [p]) = (applyTo ls ps).set p.1.toNat p.2 := by unfold applyTo; rw [List.foldl_append]; rfl
theorem flat_len : ∀ (ls : List (List UInt8)), (∀ x ∈ ls, x.length = 512) → ls.flatten.length = ls.length * 512
  | [], _ => rfl
  | a :: r, h => by
    rw [List.flatten_cons, List.length_append, h a (List.mem_cons_self ..), flat_len r fun x hx => h x (List.mem_cons_of_mem _ hx), List.length_cons]; omega
theorem Behind_spec {h : Heap} {D : Nat → Prop} {d : Option Addr} {S : RD} {K : Value → Heap → Prop} (G : Re.Glo h) (A : DiskF h D d S) (hq : ∀ i < S.lasts.length, (readAt S i).length = 512)
    (hK : ∀ a l c h', Fr No h h' → Sl h' 1 a l c ((behM S).1.map bv) (From h.size) → K (.tuple #[.slice a l c, .int .i64 (behM S).2]) h') : C.wal_Behind d h K := by
  refine wal_Behind.ok (New.intro fun h2 n2 => ?_)
  have z2 := n2.size
  refine held_spec (G.no n2.fr) (A.no n2.fr) (fun e he hne h13 f13 => ?_) fun l hl la lc h3 rs f3 er lr bl => ⟨_, _, _, rfl, ?_⟩
  · have em : behM S = ([], e) := by unfold behM; rw [he, if_pos hne]
    rw [em] at hK
    refine behind_pan (v := 0) (f13.own (by omega) (fun x => x) n2.own) ((f13.rd (by omega) fun x => x).trans n2.rd) fun h14 d14 => ⟨_, rdc d14.rd rfl, ?_⟩
    exact hK none 0 0 h14 ((n2.fr.no f13).did d14 fun hb => by omega) (Sl.nil _ _ _)
  have em : behM S = ((behL S l).flatten, 0) := by unfold behM; rw [hl, if_neg (fun x => x rfl)]
  rw [em] at hK
  have z3 := f3.size
  have F3 := n2.fr.no f3
  have o3 : Own h3 h.size := f3.own (by omega) (fun x => x) n2.own
  have r3 : rd h3 h.size = [.int .i64 0] := (f3.rd (by omega) fun x => x).trans n2.rd
  have ll : l.length = rs.length := by rw [← er]; exact List.length_map ..
  have hmax := A.max.1
  obtain ⟨hdn, hN, _⟩ := held_in hl
  have A3 := A.no F3
  have toNo : ∀ {h'}, Fr (From h3.size) h3 h' → Fr No h3 h' := fun f => f.mono fun b hb x => by have x : h3.size ≤ b := x; omega
  refine DiskF.blocks A3 ⟨_, rfl, ?_⟩
  refine ⟨fun a al ac n hh => 0 ≤ n ∧ n ≤ S.lasts.length ∧ al = n.toNat * 512 ∧ Fr No h3 hh ∧ Sl hh 1 a al ac (((List.range n.toNat).map (readAt S)).flatten.map bv) (From h3.size), fun _ _ _ n _ => ((S.lasts.length : Int) - n).toNat,
    ⟨by omega, by omega, rfl, Fr.refl _ _, Sl.nil _ _ _⟩, ?_⟩
  rintro a al ac n h5 ⟨n0, n1, rfl, f5, s5⟩
  have z5 := f5.size
  refine cd (fun hn => ?_) fun hn => ?_
  · have hn' : n.toNat < S.lasts.length := by omega
    refine read_ok (A3.no f5) hdn n0 (by omega) fun b h6 f6 s6 l6 => ⟨_, _, _, rfl, (readAt S n.toNat).map bv, by rw [List.length_map, l6], s6.cells, bv_one _, ?_⟩
    have z6 := f6.size
    have s5' : Sl h6 1 a (n.toNat * 512) ac (((List.range n.toNat).map (readAt S)).flatten.map bv) (From h3.size) := s5.fr f6 fun _ _ _ x => x
    refine append_own (elem := ti5) s5' (by rw [List.length_map, l6]; rfl) rfl (by show (n.toNat * 512 + 512) * 1 ≤ _; omega) (by omega) fun a' c' h7 f7 s7 => ?_
    rw [wrap_i64 (by omega) (by omega)]
    have en : (n + 1).toNat = n.toNat + 1 := by omega
    refine ⟨⟨by omega, by omega, by rw [en]; omega, (f5.no f6).trans f7 fun x hx y => by have y : h3.size ≤ x := y; omega, ?_⟩, falls hn⟩
    rw [en, List.range_succ, List.map_append, List.flatten_append, List.map_append]
    have : ([n.toNat].map (readAt S)).flatten = readAt S n.toNat := by simp
    rw [this]
    exact s7.mono fun x y => y.elim id fun q => by show h3.size ≤ x; omega
  have en : n.toNat = S.lasts.length := by omega
  rw [en] at s5 ⊢
  have es : (List.range S.lasts.length).map (readAt S) = seen S := rfl
  rw [es] at s5
  cases a with
  | none => exfalso; have := s5.2.1; omega
  | some p =>
  have hseen : ∀ x ∈ seen S, x.length = 512 := fun x hx => by
    obtain ⟨i, hi, rfl⟩ := List.mem_map.mp hx
    exact hq i (List.mem_range.mp hi)
  have hlen : ∀ x ∈ l, x.2.length = 512 := fun x hx => by
    obtain ⟨_, _, h3', h4, _⟩ := held_in hl
    subst h4
    obtain ⟨k, hk, rfl⟩ := List.mem_map.mp hx
    have := numsM_lim h3'
    have hk := List.mem_range.mp hk
    unfold heldN at hk
    exact hq _ (by omega)
  refine ⟨fun k hh => 0 ≤ k ∧ k ≤ rs.length ∧ Fr No h3 hh ∧ Sl hh 1 (some p) (S.lasts.length * 512) ac ((applyTo (seen S) (l.take k.toNat)).flatten.map bv) (From h3.size), fun k _ => ((rs.length : Int) - k).toNat, ⟨by omega, by omega, f5, s5⟩, ?_⟩
  rintro k h10 ⟨k0, k1, f10, s10⟩
  have z10 := f10.size
  have pb : h3.size ≤ p.block := s10.2.2.1
  have el : (applyTo (seen S) (l.take k.toNat)).length = S.lasts.length := by rw [applyTo_length, seen_length]
  have hap : ∀ x ∈ applyTo (seen S) (l.take k.toNat), x.length = 512 := apply_len _ _ hseen fun x hx => hlen x (List.mem_of_mem_take hx)
  refine cd (fun hk => ?_) fun hk => ?_
  · have hk' : k.toNat < rs.length := by omega
    have hkl : k.toNat < l.length := by omega
    obtain ⟨q, rfl, cc⟩ := (bl.fr f10 (fun _ _ x => x.elim) fun _ _ x => x).get hk'
    have e1 : l[k.toNat] = (rs[k.toNat].1, rs[k.toNat].2.2) := by
      have : (nb rs)[k.toNat]'(by rw [er]; exact hkl) = l[k.toNat] := by simp only [er]
      rw [← this]; exact nb_get rs hk'
    have hm := held_mem hl (List.getElem_mem hkl)
    rw [e1] at hm
    have hm : 98 ≤ rs[k.toNat].1 ∧ rs[k.toNat].1 < S.lasts.length := hm
    refine ⟨⟨k0, hk⟩, os ⟨_, rfl, cc, NewRow.intro rfl (cellsR_one _) rfl fun h12 n12 => ⟨_, rda n12.rd rfl, ?_⟩⟩⟩
    rw [wrap_i64 (n := rs[k.toNat].1 * 512) (by omega) (by omega)]
    have ei : (rs[k.toNat].1 * 512).toNat = rs[k.toNat].1.toNat * 512 := by omega
    rw [ei]
    refine ⟨⟨by omega, by omega⟩, rs[k.toNat].2.1.a, rs[k.toNat].2.1.l, rs[k.toNat].2.1.c, rda n12.rd rfl, ?_⟩
    obtain ⟨y1, _⟩ := bl.ok rs[k.toNat] (List.getElem_mem hk')
    have y2 : rs[k.toNat].2.2.length = 512 := by
      have := hlen _ (List.getElem_mem hkl)
      rw [e1] at this; exact this
    have y3 : rs[k.toNat].2.1.l = 512 := by have := y1.1; omega
    rw [y3] at y1 ⊢
    have s12 : Sl h12 1 (some p) (S.lasts.length * 512) ac ((applyTo (seen S) (l.take k.toNat)).flatten.map bv) (From h3.size) := s10.fr n12.fr fun _ _ _ x => x
    have Y := StrAt.fr (f10.new n12) y1 fun _ _ x => x
    rw [← el] at s12 ⊢
    refine copy_blk s12 hap (by omega) Y fun _ h13 f13 s13 => ?_
    rw [wrap_i64 (by omega) (by omega)]
    have en1 : (k + 1).toNat = k.toNat + 1 := by omega
    refine ⟨⟨by omega, by omega, (f10.new n12).trans f13 fun x hx e => by have e : x = p.block := e; omega, ?_⟩, falls hk⟩
    rw [en1, take_snoc _ _ hkl, apply_snoc, e1]
    exact s13
  · have et : l.take k.toNat = l := List.take_of_length_le (by omega)
    rw [et] at s10 el hap
    refine ⟨⟨by omega, by omega⟩, Hd.Empty_spec fun h14 n14 => ⟨_, _, _, rfl, ?_⟩⟩
    have z14 := n14.size
    have s14 : Sl h14 1 (some p) (S.lasts.length * 512) ac ((applyTo (seen S) l).flatten.map bv) (From h3.size) := s10.fr n14.fr fun _ _ _ x => x
    have Y : StrAt h14 (some ⟨h10.size, 0, none⟩) 512 (Hd.zeros 512) := strAll n14.rd (Hd.zeros_length 512)
    have e5 : Int.toNat 512 = 1 * 512 := rfl
    rw [e5]
    rw [← el] at s14 ⊢
    refine copy_blk s14 hap (by omega) Y fun _ h15 f15 s15 => ?_
    rw [el] at s15 ⊢
    have z15 := f15.size
    have F15 : Fr No h3 h15 := (f10.new n14).trans f15 fun x hx e => by have e : x = p.block := e; omega
    have o15 : Own h15 h.size := F15.own (by omega) (fun x => x) o3
    have r15 : rd h15 h.size = [.int .i64 0] := (F15.rd (by omega) fun x => x).trans r3
    refine Put.intro o15 (by rw [r15]; exact Nat.one_pos) fun h16 d16 => ?_
    rw [r15] at d16
    refine behind_ret (v := 0) d16.own d16.rd fun h17 d17 => ⟨_, rdc d17.rd rfl, ?_⟩
    have z16 := d16.size
    have f1517 : Fr (fun x => x = h.size) h15 h17 := d16.fr.trans d17.fr fun _ _ x => x
    have fin : Fr No h h17 := (F3.no F15).trans f1517 fun x hx e => by have e : x = h.size := e; omega
    exact hK _ _ _ h17 fin ((s15.fr f1517 fun x _ y e => by
      have e : x = h.size := e
      have y : h3.size ≤ x := y
      omega).mono fun x y => by
        have y : h3.size ≤ x := y
        show h.size ≤ x
        omega)
end Go.Proofs.YtpleolmalbdpnaaDoor.Wc
