/-
  PACKAGE adisk: what is refused of an act.
-/
import Derived.Test.YtnbfaokpaiiojaaAdH
namespace Go.Proofs.Ytnbfaokpaiiojaa.Ad
open Go Go.Proofs Go.Proofs.Ytnbfaokpaiiojaa.Wx Go.Proofs.Ytnbfaokpaiiojaa.Hp Go.Proofs.Ytnbfaokpaiiojaa.W

def refusedOf (e : Ent) (N : Int) : Int := if e.kind = 2 then 0 else if e.kind ≠ 1 then 1 else if e.at_ < 0 then 31 else if e.at_ ≥ N then 31 else if e.l ≠ 512 then 32 else 0
theorem refused_spec {e : Ent} {N : Int} {h : Heap} {K : Value → Heap → Prop} (hK : ∀ h', Fr No h h' → K (.int .i64 (refusedOf e N)) h') : C.adisk_refused e.cells N h K := by
  refine adisk_refused.ok (New.intro fun h2 n2 => ⟨_, rda n2.rd rfl, ?_⟩)
  have k := hK h2 n2.fr
  unfold refusedOf at k
  refine ce (fun a => by rw [if_pos a] at k; exact k) fun a => ⟨_, rda n2.rd rfl, ?_⟩
  rw [if_neg a] at k
  refine cn (fun b => by rw [if_pos b] at k; exact k) fun b => ⟨_, rda n2.rd rfl, ?_⟩
  rw [if_neg (fun x => x b)] at k
  refine cd (fun c => by rw [if_pos c] at k; exact k) fun c => ⟨_, rda n2.rd rfl, ?_⟩
  rw [if_neg c] at k
  refine cd (fun d => by rw [if_pos d] at k; exact k) fun d => ⟨_, _, _, rda n2.rd rfl, ?_⟩
  rw [if_neg d] at k
  refine cn (fun f => by rw [if_pos (by omega)] at k; exact k) fun f => by rw [if_neg (by omega)] at k; exact k
end Go.Proofs.Ytnbfaokpaiiojaa.Ad
