/-
  LOOPS OVER FUNCTIONS: the record of a loop, and frames.
-/
import Derived.Test.YtcdpakjhjmchhaaGreatDoorForms
import Derived.Test.YtcdpakjhjmchhaaGreatDoorHpE
namespace Go.Proofs.YtcdpakjhjmchhaaGreatDoor.Rg
open Go Go.Proofs Go.Proofs.YtcdpakjhjmchhaaGreatDoor.Wx Go.Proofs.YtcdpakjhjmchhaaGreatDoor.Hp

theorem ycalls_mono {P : Program} {l : Nat} {args : List Value} {h : Heap} {k k' : Value → Heap → Prop} (y : YCalls P l args h k) (hk : ∀ v h', k v h' → k' v h') : YCalls P l args h k' :=
  fun w hw => by
    obtain ⟨fn, tmps, a, b, h1, h2⟩ := y w hw
    exact ⟨fn, tmps, a, b, h1, h2.mono fun _ _ ⟨v, e, r, x⟩ => ⟨v, e, r, hk v _ x⟩⟩
theorem loopOn_lt {h : Heap} {l : Nat} {R : Loop} {st : LoopState} {p : Option Code} (o : LoopOn h l R st p) : l < h.size := (Array.getElem?_eq_some_iff.mp o).1
theorem loopOn_fr {F : Nat → Prop} {h h' : Heap} {l : Nat} {R : Loop} {st : LoopState} {p : Option Code} (o : LoopOn h l R st p) (f : Fr F h h') (hF : ¬ F l) : LoopOn h' l R st p := (f.same l (loopOn_lt o) hF).trans o
theorem setLoop_size (h : Heap) (l : Nat) (R : Loop) (st : LoopState) (p : Option Code) : (setLoop h l R st p).size = h.size := by simp [setLoop]
theorem setLoop_fr (h : Heap) (l : Nat) (R : Loop) (st : LoopState) (p : Option Code) : Fr (fun b => b = l) h (setLoop h l R st p) :=
  ⟨by rw [setLoop_size]; exact Nat.le_refl _, fun b _ hb => by simp only [setLoop]; rw [Array.getElem?_setIfInBounds_ne fun e => hb e.symm]⟩
theorem setLoop_on {h : Heap} {l : Nat} (hl : l < h.size) (R : Loop) (st : LoopState) (p : Option Code) : LoopOn (setLoop h l R st p) l R st p := by
  simp [LoopOn, setLoop, hl]
/-- the record was written: what is known then -/
structure Turned (l : Nat) (R : Loop) (st : LoopState) (p : Option Code) (h h' : Heap) : Prop where
  size : h'.size = h.size
  fr : Fr (fun b => b = l) h h'
  on : LoopOn h' l R st p
theorem turned {h : Heap} {l : Nat} (hl : l < h.size) (R : Loop) (st : LoopState) (p : Option Code) : Turned l R st p h (setLoop h l R st p) := ⟨setLoop_size h l R st p, setLoop_fr h l R st p, setLoop_on hl R st p⟩
theorem setL_intro {h : Heap} {l : Nat} {R : Loop} {st : LoopState} {p : Option Code} {k : Heap → Prop} (hl : l < h.size) (H : ∀ h', Turned l R st p h h' → k h') : SetL h l R st p k := H _ (turned hl R st p)
theorem beginL_size (h : Heap) (R : Loop) : (beginL h R).size = h.size + 2 := by simp [beginL]
theorem beginL_fr (h : Heap) (R : Loop) : Fr No h (beginL h R) :=
  ⟨by rw [beginL_size]; omega, fun b hb _ => by simp only [beginL]; rw [Array.getElem?_push, if_neg (by rw [Array.size_push]; omega), Array.getElem?_push, if_neg (by omega)]⟩
theorem beginL_on (h : Heap) (R : Loop) : LoopOn (beginL h R) (h.size + 1) R .ready none := by
  simp only [LoopOn, beginL]
  rw [Array.getElem?_push, if_pos (by rw [Array.size_push])]
theorem beginL_d (h : Heap) (R : Loop) : (beginL h R)[h.size]? = some (.deferred (some [])) := by
  simp only [beginL]
  rw [Array.getElem?_push, if_neg (by rw [Array.size_push]; omega), Array.getElem?_push, if_pos rfl]
theorem endD_size (h : Heap) (b : Nat) : (endD h b).size = h.size := by simp [endD]
theorem endD_fr (h : Heap) (b : Nat) : Fr (fun x => x = b) h (endD h b) :=
  ⟨by rw [endD_size]; exact Nat.le_refl _, fun c _ hc => by simp only [endD]; rw [Array.getElem?_setIfInBounds_ne fun e => hc e.symm]⟩
theorem endD_intro {h : Heap} {b : Nat} {k : Heap → Prop} (hd : h[b]? = some (.deferred (some []))) (H : ∀ h', h'.size = h.size → Fr (fun x => x = b) h h' → k h') : EndD b h k := ⟨hd, H _ (endD_size h b) (endD_fr h b)⟩
theorem pend_none {n r : Prop} {e : Nat → Prop} (h : n) : pendX none n r e := h
theorem pend_ret {n r : Prop} {e : Nat → Prop} (h : r) : pendX (some .ret) n r e := h
end Go.Proofs.YtcdpakjhjmchhaaGreatDoor.Rg
