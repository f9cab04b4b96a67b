/-
  How formulas are printed: steps that change the heap, with what comes after as a function of the new heap.
-/
import Derived.Test.YtnbfaokpaiiojaaWxK
namespace Go.Proofs.Ytnbfaokpaiiojaa.Wx
open Go
/-- a new block -/
def New (cs : List Value) (t : Nat) (h : Heap) (k : Heap → Prop) : Prop := k (newO h cs t)
/-- a new block, filled with cs -/
def NewRow (z : List Value) (t : Nat) (cs : List Value) (n : Nat) (h : Heap) (k : Heap → Prop) : Prop :=
  StRow (newO h z t) ⟨h.size, 0, none⟩ cs n ∧ k (setRow (newO h z t) ⟨h.size, 0, none⟩ cs 0)
/-- a text's bytes: a new block -/
def NewS (s : ByteArray) (t : Nat) (h : Heap) (k : Nat → Heap → Prop) : Prop := ∀ cap : Nat, s.size ≤ cap → k cap (newS h (s.toList.map bv ++ List.replicate (cap - s.size) (bv 0)) t)
/-- a block is marked as come of a text -/
def MarkAt (p : Addr) (h : Heap) (k : Heap → Prop) : Prop := k (markH h p.block)
/-- a new map; a walk along a text begins -/
def NewM (h : Heap) (k : Heap → Prop) : Prop := k (newM h)
def NewI (s : ByteArray) (h : Heap) (k : Heap → Prop) : Prop := k (newI h s)
/-- one cell is written -/
def Put (p : Addr) (v : Value) (h : Heap) (k : Heap → Prop) : Prop := Wr h p ∧ k (setOf h p v)
/-- a row of cells is written -/
def PutRow (p : Addr) (cs : List Value) (n : Nat) (h : Heap) (k : Heap → Prop) : Prop := StRow h p cs n ∧ k (setRow h p cs 0)
/-- the record of a loop over a function is written; the mark of one is taken up -/
def SetL (h : Heap) (l : Nat) (R : Loop) (st : LoopState) (p : Option Code) (k : Heap → Prop) : Prop := k (setLoop h l R st p)
def EndD (b : Nat) (h : Heap) (k : Heap → Prop) : Prop := h[b]? = some (.deferred (some [])) ∧ k (endD h b)
end Go.Proofs.Ytnbfaokpaiiojaa.Wx
