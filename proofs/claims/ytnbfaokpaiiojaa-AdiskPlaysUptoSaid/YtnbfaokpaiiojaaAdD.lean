import Derived.Test.YtnbfaokpaiiojaaAdM
/-
  THE DISK of package adisk: steps, down, the image, copies of rows of bools.
-/
namespace Go.Proofs.Ytnbfaokpaiiojaa.Ad
open Go Go.Proofs Go.Proofs.Ytnbfaokpaiiojaa.Wx Go.Proofs.Ytnbfaokpaiiojaa.Hp Go.Proofs.Ytnbfaokpaiiojaa.W

theorem Steps_spec {d : Option Addr} {h : Heap} {K : Value → Heap → Prop} {S : RD} {col : Nat → Nat} {m : Nat} (D : DiskAt h d S col m)
    (hK : K (.tuple #[.int .i64 S.writes, .int .i64 S.flushes]) h) : C.adisk_Disk_Steps d h K := by
  obtain ⟨b, r, es, rfl, D⟩ := D
  refine adisk_Disk_Steps.ok ⟨_, D.field 5, _, D.field 6, ?_⟩
  rw [D.writes, D.flushes]; exact hK
theorem Down_spec {d : Option Addr} {h : Heap} {K : Value → Heap → Prop} {S : RD} {col : Nat → Nat} {m : Nat} (D : DiskAt h d S col m)
    (hK : K (.bool S.down) h) : C.adisk_Disk_Down d h K := by
  obtain ⟨b, r, es, rfl, D⟩ := D
  refine adisk_Disk_Down.ok ⟨_, D.field 4, ?_⟩
  rw [D.down]; exact hK
theorem Image_spec {d : Option Addr} {h : Heap} {K : Value → Heap → Prop} {S : RD} {col : Nat → Nat} {m : Nat} (D : DiskAt h d S col m)
    (hK : ∀ a c h', Fr No h h' → Sl h' 1 a (S.lasts.length * 512) c (S.lasts.flatten.map bv) (From h.size) → K (.slice a (S.lasts.length * 512) c) h') : C.adisk_Disk_Image d h K := by
  obtain ⟨b, r, es, rfl, D⟩ := D
  have hm := D.lmax
  have hw : IntKind.wrap .i64 ((r.ln : Int) * 512) = ((S.lasts.length * 512 : Nat) : Int) := by rw [D.ln]; exact wrap_i64 (by omega) (by omega)
  refine adisk_Disk_Image.ok ⟨_, _, _, D.field 0, ?_⟩
  rw [hw]
  refine ⟨by omega, New.intro fun h2 n2 => ?_⟩
  have D2 := D.keep' n2.fr (Ag.refl _ _) (fun _ _ _ x => x)
  refine ⟨_, _, _, D2.field 0, ?_⟩
  refine ⟨fun a l c n hh => 0 ≤ n ∧ n ≤ S.lasts.length ∧ l = n.toNat * 512 ∧ Fr No h hh ∧ Sl hh 1 a l c ((S.lasts.take n.toNat).flatten.map bv) (From h.size), fun _ _ _ n _ => (S.lasts.length - n).toNat,
    ⟨by omega, by omega, rfl, n2.fr, Sl.made n2 (List.nil_append _).symm (Nat.le_refl _) rfl (by omega) (by rw [length_repCells]; exact Nat.mul_comm _ _ ▸ by rfl)⟩, ?_⟩
  rintro a l c n h3 ⟨n0, n1, hl, f3, s3⟩
  have D3 := D.keep' f3 (Ag.refl _ _) (fun _ _ _ x => x)
  rw [D.ln]
  refine cd (fun hn => ?_) fun hn => ?_
  rotate_left
  · have e : n.toNat = S.lasts.length := by omega
    rw [hl, e]
    rw [hl, e, List.take_length] at s3
    exact hK _ _ _ f3 s3
  have hn' : n.toNat < S.lasts.length := by omega
  obtain ⟨q, e', c'⟩ := D3.lastCells hn' D3.l
  refine ⟨⟨n0, hn⟩, ?_⟩
  rw [e']
  have hx := D.lw _ (List.getElem_mem hn')
  have hlen := blk_len hx
  refine ⟨_, hlen, c', NewRow.intro hlen (bv_one _) List.length_replicate fun h5 n5 => ?_⟩
  refine ⟨blk S.lasts[n.toNat], hlen, cellsAll n5.rd, bv_one _, ?_⟩
  refine append_own (s3.fr n5.fr fun _ _ _ x => x) hlen rfl (by show (l + 512) * 1 ≤ _; omega) (by omega) fun a' c2 h6 f6 s6 => ?_
  have hw2 : IntKind.wrap .i64 (n + 1) = n + 1 := wrap_i64 (by omega) (by omega)
  rw [hw2]
  have hs := f3.size
  have ht : (n + 1).toNat = n.toNat + 1 := by omega
  refine ⟨⟨by omega, by omega, by omega, ?_, ?_⟩, falls hn⟩
  · exact (f3.new n5).trans f6 (fun b hb e => by have : h.size ≤ b := e; omega)
  · rw [ht, List.take_add_one, List.getElem?_eq_getElem hn', Option.toList_some, List.flatten_append, List.map_append, List.flatten_cons, List.flatten_nil, List.append_nil]
    refine s6.mono fun b hb => ?_
    rcases hb with hb | hb
    · exact hb
    · have := n5.size; show h.size ≤ b; omega

theorem ClonesB_spec {a : Option Addr} {l c : Nat} {xs : List Bool} {h : Heap} {K : Value → Heap → Prop} (hx : xs.length = l) (B : SlCells h a (xs.map .bool)) (hl : l ≤ 140737488355328)
    (hK : ∀ a' c' h', Fr No h h' → Sl h' 1 a' l c' (xs.map .bool) (From h.size) → K (.slice a' l c') h') : C.slices_Clone_bool_bool a l c h K := by
  refine slices_Clone_bool_bool.ok (cs (fun e => ?_) fun _ => New.intro fun h2 n2 => ?_)
  · cases a with
    | none =>
      have B : xs.map Value.bool = [] := B
      have e2 : xs = [] := List.map_eq_nil_iff.mp B
      subst e2
      have : l = 0 := hx.symm
      subst this
      exact hK none 0 h (Fr.refl _ _) (Sl.nil _ _ _)
    | some p => simp at e
  · refine ⟨xs.map .bool, by rw [List.length_map, hx, Nat.mul_one], SlCells.fr n2.fr B (fun _ _ x => x), ?_, ?_⟩
    · intro v hv; obtain ⟨b, _, rfl⟩ := List.mem_map.mp hv; rfl
    · refine append_own (xs := []) (F := From h.size) (Sl.made n2 rfl (Nat.le_refl _) rfl (Nat.le_refl _) rfl) (by rw [List.length_map, hx]; exact (Nat.mul_one _).symm) rfl (by show (0 + l) * 1 ≤ _; omega) (by omega) fun a' c' h' f s => ?_
      rw [Nat.zero_add, List.nil_append] at s
      rw [Nat.zero_add]
      have := n2.size
      exact hK a' c' h' (n2.fr.trans f fun b hb e => by have : h.size ≤ b := e; omega) (s.mono fun b hb => by rcases hb with hb | hb; exact hb; show h.size ≤ b; omega)
end Go.Proofs.Ytnbfaokpaiiojaa.Ad
