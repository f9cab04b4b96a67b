/-
  THE DISK of package adisk: what is pending.
-/
import Derived.Test.YtnbfaokpaiiojaaAdG
namespace Go.Proofs.Ytnbfaokpaiiojaa.Ad
open Go Go.Proofs Go.Proofs.Ytnbfaokpaiiojaa.Wx Go.Proofs.Ytnbfaokpaiiojaa.Hp Go.Proofs.Ytnbfaokpaiiojaa.W

def numbers (ps : List (Int × List UInt8)) : List Value := ps.map fun p => .int .i64 p.1
theorem Pending_spec {d : Option Addr} {h : Heap} {K : Value → Heap → Prop} {S : RD} {col : Nat → Nat} {m : Nat} (D : DiskAt h d S col m) (hp : S.pend.length < 1000000000)
    (hK : ∀ a c h', Fr No h h' → Sl h' 1 a S.pend.length c (numbers S.pend) (From h.size) → K (.slice a S.pend.length c) h') : C.adisk_Disk_Pending d h K := by
  obtain ⟨b, r, es, rfl, D⟩ := D
  refine adisk_Disk_Pending.ok (os ⟨_, _, _, D.field 1, ?_⟩)
  rw [D.pn]
  refine ⟨fun a l c n hh => 0 ≤ n ∧ n ≤ S.pend.length ∧ l = n.toNat ∧ Fr No h hh ∧ Sl hh 1 a l c (numbers (S.pend.take n.toNat)) (From h.size), fun _ _ _ n _ => (S.pend.length - n).toNat,
    ⟨by omega, by omega, rfl, Fr.refl _ _, Sl.nil _ _ _⟩, ?_⟩
  rintro a l c n h2 ⟨n0, n1, hl, f2, s2⟩
  have D2 := D.keep' f2 (Ag.refl _ _) (fun _ _ _ x => x)
  refine cd (fun hn => ?_) fun hn => ?_
  rotate_left
  · have e : n.toNat = S.pend.length := by omega
    rw [hl, e]
    rw [hl, e, List.take_length] at s2
    exact hK _ _ _ f2 s2
  have hn1 : n.toNat < S.pend.length := by omega
  obtain ⟨q, e', c'⟩ := D2.pendCells hn1 D2.p
  refine ⟨⟨n0, hn⟩, ?_⟩
  rw [e']
  have hp2 := D.pw _ (List.getElem_mem hn1)
  have hpl := pcell_len hp2
  refine os ⟨_, hpl, c', NewRow.intro hpl (pcell_one _) (List.length_cons.trans (congrArg (· + 1) List.length_replicate)) fun h4 n4 => ⟨_, rda n4.rd rfl, New.intro fun h5 n5 => ?_⟩⟩
  refine ⟨[.int .i64 S.pend[n.toNat].1], rfl, cellsAll n5.rd, by intro v hv; rw [List.mem_singleton.mp hv]; rfl, ?_⟩
  have hs4 := n4.size
  have hs5 := n5.size
  have hs2 := f2.size
  refine append_own ((s2.fr n4.fr fun _ _ _ x => x).fr n5.fr fun _ _ _ x => x) rfl rfl (by show (l + 1) * 8 ≤ _; omega) (by omega) fun a' c2 h6 f6 s6 => ?_
  rw [wrap_i64 (by omega) (by omega)]
  have ht : (n + 1).toNat = n.toNat + 1 := by omega
  refine ⟨⟨by omega, by omega, by omega, ?_, ?_⟩, falls hn⟩
  · exact ((f2.new n4).new n5).trans f6 (fun b hb e => by have : h.size ≤ b := e; omega)
  · rw [ht, take_snoc _ _ hn1, numbers, List.map_append]
    exact s6.mono fun b hb => by rcases hb with hb | hb; exact hb; show h.size ≤ b; omega
end Go.Proofs.Ytnbfaokpaiiojaa.Ad
