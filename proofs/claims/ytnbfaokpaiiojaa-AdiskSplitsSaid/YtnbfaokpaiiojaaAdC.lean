/-
  THE DISK of package adisk: its image, and a disk of an image.
-/
import Derived.Test.YtnbfaokpaiiojaaAdB
namespace Go.Proofs.Ytnbfaokpaiiojaa.Ad
open Go Go.Proofs Go.Proofs.Ytnbfaokpaiiojaa.Wx Go.Proofs.Ytnbfaokpaiiojaa.Hp Go.Proofs.Ytnbfaokpaiiojaa.W

theorem Disk.putLast {h h' : Heap} {b : Nat} {S : RD} {col : Nat → Nat} {m : Nat} {r : Raw} {es : List Ent} (d : Disk h b S col m r es) {lb lo i : Nat} {y : List UInt8} (hi : i < S.lasts.length) (hy : y.length = 512)
    (e : r.la = some ⟨lb, lo, none⟩) (D : Did lb h h' (put (rd h lb) (lo + i * 512) (blk y))) : Disk h' b { S with lasts := S.lasts.set i y } col m r es := by
  have L := d.l
  rw [e] at L
  have hc : col lb = m + 1 := L.2.2.1
  have K := d.keep' (F := fun x => x = lb ∧ False) (h' := h) ⟨Nat.le_refl _, fun _ _ _ => rfl⟩ (Ag.refl _ _) (fun _ _ _ x => x.2)
  have hs : b ≠ lb := by intro x; have := d.sc; rw [x] at this; omega
  have g : Ag h.size col col := Ag.refl _ _
  have hk : ∀ k, k ≠ m + 1 → ∀ x, col x = k → ¬ (x = lb) := by intro k hk x hx e; rw [e] at hx; omega
  exact ⟨⟨d.left, d.leftb, d.down, d.writes, d.flushes, by rw [e]; exact L.putPart (fun x hx => blk_len (d.lw x hx)) hi (blk_len hy) D,
    fun x hx => by rcases List.mem_or_eq_of_mem_set hx with hx | rfl; exact d.lw x hx; exact hy, by simp only [List.length_set]; exact d.ln, by simp only [List.length_set]; exact d.lmax,
    d.p.keep D.fr g (hk _ (by omega)), d.pw, d.pn, by simp only [List.length_set]; exact d.pi, d.pmax, d.k.keep D.fr g (hk _ (by omega)), d.kn, d.t.keep D.fr g (hk _ (by omega)), d.tn, d.tmax, Ents.keep D.fr g (hk _ (by omega)) d.ts⟩, d.sc, D.ow d.so, (D.at_ d.so.lt hs).trans d.sr⟩

theorem Image_spec {d : Option Addr} {h : Heap} {K : Value → Heap → Prop} {S : RD} {col : Nat → Nat} {m : Nat} (D : DiskAt h d S col m)
    (hK : ∀ a c h', Fr No h h' → Sl h' 1 a (S.lasts.length * 512) c (S.lasts.flatten.map bv) (From h.size) → K (.slice a (S.lasts.length * 512) c) h') : C.adisk_Disk_Image d h K := by
  obtain ⟨b, r, es, rfl, D⟩ := D
  have hm := D.lmax
  have hw : IntKind.wrap .i64 ((r.ln : Int) * 512) = ((S.lasts.length * 512 : Nat) : Int) := by rw [D.ln]; exact wrap_i64 (by omega) (by omega)
  refine adisk_Disk_Image.ok ⟨_, _, _, D.field 0, ?_⟩
  rw [hw]
  refine ⟨by omega, New.intro fun h2 n2 => ?_⟩
  have D2 := D.keep' n2.fr (Ag.refl _ _) (fun _ _ _ x => x)
  refine ⟨_, _, _, D2.field 0, ?_⟩
  refine ⟨fun a l c n hh => 0 ≤ n ∧ n ≤ S.lasts.length ∧ l = n.toNat * 512 ∧ Fr No h hh ∧ Sl hh 1 a l c ((S.lasts.take n.toNat).flatten.map bv) (From h.size), fun _ _ _ n _ => (S.lasts.length - n).toNat,
    ⟨by omega, by omega, rfl, n2.fr, Sl.made n2 (List.nil_append _).symm (Nat.le_refl _) rfl (by omega) (by rw [length_repCells]; exact Nat.mul_comm _ _ ▸ by rfl)⟩, ?_⟩
  rintro a l c n h3 ⟨n0, n1, hl, f3, s3⟩
  have D3 := D.keep' f3 (Ag.refl _ _) (fun _ _ _ x => x)
  rw [D.ln]
  refine cd (fun hn => ?_) fun hn => ?_
  rotate_left
  · have e : n.toNat = S.lasts.length := by omega
    rw [hl, e]
    rw [hl, e, List.take_length] at s3
    exact hK _ _ _ f3 s3
  have hn' : n.toNat < S.lasts.length := by omega
  obtain ⟨q, e', c'⟩ := D3.lastCells hn' D3.l
  refine ⟨⟨n0, hn⟩, ?_⟩
  rw [e']
  have hx := D.lw _ (List.getElem_mem hn')
  have hlen := blk_len hx
  refine ⟨_, hlen, c', NewRow.intro hlen (bv_one _) List.length_replicate fun h5 n5 => ?_⟩
  refine ⟨blk S.lasts[n.toNat], hlen, cellsAll n5.rd, bv_one _, ?_⟩
  refine append_own (s3.fr n5.fr fun _ _ _ x => x) hlen rfl (by show (l + 512) * 1 ≤ _; omega) (by omega) fun a' c2 h6 f6 s6 => ?_
  have hw2 : IntKind.wrap .i64 (n + 1) = n + 1 := wrap_i64 (by omega) (by omega)
  rw [hw2]
  have hs := f3.size
  have ht : (n + 1).toNat = n.toNat + 1 := by omega
  refine ⟨⟨by omega, by omega, by omega, ?_, ?_⟩, falls hn⟩
  · exact (f3.new n5).trans f6 (fun b hb e => by have : h.size ≤ b := e; omega)
  · rw [ht, List.take_add_one, List.getElem?_eq_getElem hn', Option.toList_some, List.flatten_append, List.map_append, List.flatten_cons, List.flatten_nil, List.append_nil]
    refine s6.mono fun b hb => ?_
    rcases hb with hb | hb
    · exact hb
    · have := n5.size; show h.size ≤ b; omega

theorem take_snoc {α : Type} (xs : List α) (n : Nat) (h : n < xs.length) : xs.take (n + 1) = xs.take n ++ [xs[n]] := by
  rw [List.take_add_one, List.getElem?_eq_getElem h]; rfl
def chunks (bs : List UInt8) : List (List UInt8) := (List.range (bs.length / 512)).map fun i => (bs.drop (i * 512)).take 512
theorem chunks_length (bs : List UInt8) : (chunks bs).length = bs.length / 512 := by simp only [chunks, List.length_map, List.length_range]
theorem chunks_get (bs : List UInt8) {i : Nat} (h : i < (chunks bs).length) : (chunks bs)[i] = (bs.drop (i * 512)).take 512 := by simp only [chunks, List.getElem_map, List.getElem_range]
theorem chunks_len (bs : List UInt8) : ∀ x ∈ chunks bs, x.length = 512 := by
  intro x hx
  obtain ⟨i, hi, rfl⟩ := List.getElem_of_mem hx
  rw [chunks_length] at hi
  rw [chunks_get, List.length_take, List.length_drop]; omega
theorem flatten_parts (bs : List UInt8) : ∀ n, ((List.range n).map fun i => (bs.drop (i * 512)).take 512).flatten = bs.take (n * 512) := by
  intro n
  induction n with
  | zero => simp
  | succ n ih =>
    rw [List.range_succ, List.map_append, List.flatten_append, ih, Nat.add_mul, Nat.one_mul, List.take_add]
    simp
theorem chunks_join {bs : List UInt8} (h : bs.length % 512 = 0) : (chunks bs).flatten = bs := by
  rw [chunks, flatten_parts, List.take_of_length_le]; omega

theorem Open_spec {a : Option Addr} {l c : Nat} {bs : List UInt8} {h : Heap} {K : Value → Heap → Prop} (col : Nat → Nat) (m : Nat) (hf : Free h col m) (B : StrAt h a l bs) (hlc : l ≤ c) (hl : l ≤ 140737488355328)
    (h1 : l % 512 ≠ 0 ∨ l = 0 ∨ 16384 < l / 512 → K (.tuple #[.pointer none, .int .i64 32]) h)
    (h2 : l % 512 = 0 → 0 < l → l / 512 ≤ 16384 → ∀ q h' col', Fr No h h' → Ag h.size col col' → DiskAt h' (some q) (fresh (chunks bs)) col' m → K (.tuple #[.pointer (some q), .int .i64 0]) h') :
    C.adisk_Open a l c h K := by
  have hbl := B.1
  have hd : Int.tdiv (l : Int) 512 = ((l / 512 : Nat) : Int) := by rw [Int.tdiv_eq_ediv_of_nonneg (by omega)]; omega
  have hmd : Int.tmod (l : Int) 512 = ((l % 512 : Nat) : Int) := by rw [Int.tmod_eq_emod_of_nonneg (by omega)]; omega
  have hw : IntKind.wrap .i64 (Int.tdiv (l : Int) 512) = ((l / 512 : Nat) : Int) := by rw [hd]; exact wrap_i64 (by omega) (by omega)
  refine adisk_Open.ok (cn (fun x => h1 (Or.inl (by omega))) fun x => ?_)
  rw [hw]
  refine New_spec col m (fun y => ⟨_, _, rfl, cn (fun _ => h1 (by omega)) (fun z => absurd z (by omega))⟩) fun y1 y2 q h' col' f1 g1 D1 => ⟨_, _, rfl, cn (fun z => absurd rfl z) fun _ => ?_⟩
  obtain ⟨b, r, es, hq, D1⟩ := D1
  have hq : q = ⟨b, 0, none⟩ := by simpa using hq
  subst hq
  rw [Int.toNat_natCast] at D1
  have hN := D1.ln
  simp only [fresh, List.length_replicate] at hN
  refine ⟨_, _, _, D1.field 0, ?_⟩
  refine ⟨fun n hh => 0 ≤ n ∧ n ≤ (l / 512 : Nat) ∧ Fr No h hh ∧ Disk hh b (fresh ((chunks bs).take n.toNat ++ List.replicate (l / 512 - n.toNat) zeroBlk)) col' m r es, fun n _ => ((l / 512 : Nat) - n).toNat,
    ⟨by omega, by omega, f1, by rw [show (0 : Int).toNat = 0 from rfl, List.take_zero, List.nil_append, Nat.sub_zero]; exact D1⟩, ?_⟩
  rintro n h3 ⟨n0, n1, f3, D3⟩
  rw [hN]
  have hcl := chunks_length bs
  refine cd (fun hn => ?_) fun hn => ?_
  rotate_left
  · have e : n.toNat = l / 512 := by omega
    rw [e, List.take_of_length_le (by rw [hcl, hbl]; omega), Nat.sub_self, List.replicate_zero, List.append_nil] at D3
    exact h2 (by omega) (by omega) (by omega) _ _ _ f3 g1 ⟨b, r, es, rfl, D3⟩
  have hn' : n.toNat < l / 512 := by omega
  refine ⟨_, _, _, D3.field 0, ⟨n0, by rw [hN]; exact hn⟩, ?_⟩
  obtain ⟨p, e, _⟩ := D3.l.get (by rw [hN]; omega)
  rw [e]
  have L := D3.l
  rw [e] at L
  obtain ⟨lb, lo, sp⟩ := p
  have hsp : sp = none := L.2.1
  subst hsp
  have hw3 : IntKind.wrap .i64 (n * 512) = ((n.toNat * 512 : Nat) : Int) := by rw [wrap_i64 (by omega) (by omega)]; omega
  have hw2 : IntKind.wrap .i64 (n + 1) = n + 1 := wrap_i64 (by omega) (by omega)
  simp only [hw3, hw2, Int.toNat_natCast]
  refine ⟨by omega, ?_⟩
  rw [if_neg (by omega), add_mk]
  have B3 := StrAt.take (StrAt.drop (StrAt.fr f3 B (fun _ _ x => x)) (n.toNat * 512)) (n := 512) (by omega)
  obtain ⟨w1, w2⟩ := L.wr
  rw [hN] at w2
  have hy : ((bs.drop (n.toNat * 512)).take 512).length = 512 := B3.1
  have hm : min (l - n.toNat * 512) 512 = 512 := by omega
  refine CopyP.intro (new := blk ((bs.drop (n.toNat * 512)).take 512)) (by rw [blk_len hy, hm]; rfl) B3.2 (bv_one _) w1 (by rw [blk_len hy]; omega) fun h4 d4 => ?_
  have hi : n.toNat < ((chunks bs).take n.toNat ++ List.replicate (l / 512 - n.toNat) zeroBlk).length := by rw [List.length_append, List.length_take, List.length_replicate, hcl, hbl]; omega
  have D4 := D3.putLast (i := n.toNat) hi hy e d4
  refine ⟨⟨by omega, by omega, ?_, ?_⟩, falls hn⟩
  · refine f3.did d4 fun x => ?_
    have hc : col' lb = m + 1 := L.2.2.1
    have := hf.new g1 (b := lb) (by omega) (by omega)
    omega
  · have ht : (n + 1).toNat = n.toNat + 1 := by omega
    have hx : n.toNat < (chunks bs).length := by rw [hcl, hbl]; omega
    have e1 : ((chunks bs).take n.toNat ++ List.replicate (l / 512 - n.toNat) zeroBlk).set n.toNat ((bs.drop (n.toNat * 512)).take 512) = (chunks bs).take (n + 1).toNat ++ List.replicate (l / 512 - (n + 1).toNat) zeroBlk := by
      have h1 : ((chunks bs).take n.toNat).length = n.toNat := by rw [List.length_take]; omega
      rw [List.set_append_right _ _ (by omega), h1, Nat.sub_self, show l / 512 - n.toNat = (l / 512 - (n + 1).toNat) + 1 by omega, List.replicate_succ, List.set_cons_zero, ht, take_snoc _ _ hx, chunks_get, List.append_assoc]; rfl
    rw [← e1]; exact D4
end Go.Proofs.Ytnbfaokpaiiojaa.Ad
