/-
  How formulas are printed: steps that change the heap, with what comes after as a function of the new heap.
-/
import Derived.Test.YtnbfaokpaiiojaaWxK
namespace Go.Proofs.Ytnbfaokpaiiojaa.Wx
open Go
/-- a new block -/
def New (cs : List Value) (t : Nat) (h : Heap) (k : Heap → Prop) : Prop := k (newO h cs t)
/-- a new block, filled with cs -/
def NewRow (z : List Value) (t : Nat) (cs : List Value) (n : Nat) (h : Heap) (k : Heap → Prop) : Prop :=
  StRow (newO h z t) ⟨h.size, 0, none⟩ cs n ∧ k (setRow (newO h z t) ⟨h.size, 0, none⟩ cs 0)
/-- one cell is written -/
def Put (p : Addr) (v : Value) (h : Heap) (k : Heap → Prop) : Prop := Wr h p ∧ k (setOf h p v)
/-- a row of cells is written -/
def PutRow (p : Addr) (cs : List Value) (n : Nat) (h : Heap) (k : Heap → Prop) : Prop := StRow h p cs n ∧ k (setRow h p cs 0)
end Go.Proofs.Ytnbfaokpaiiojaa.Wx
