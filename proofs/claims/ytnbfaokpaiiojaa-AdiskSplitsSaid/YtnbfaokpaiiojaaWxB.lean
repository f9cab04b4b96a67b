import Derived.Test.YtnbfaokpaiiojaaWxA
namespace Go.Proofs.Ytnbfaokpaiiojaa.Wx
open Go

/-- quietly: the value is known, whatever the world, and that stands -/
def Qt {α : Type} (P : Program) (s : Sem α) (k : α → Prop) : Prop := ∃ v, (∀ w : World, s.run P w = .ok v w) ∧ k v

theorem kindEq_eq {a b : IntKind} (h : kindEq a b = true) : a = b := by cases a <;> cases b <;> first | rfl | (simp [kindEq] at h)

theorem intB_to {P : Program} {t : Nat} {op : BinOp} {kd : IntKind} {a b : Int} {k : Value → Prop} (hs : isShift op = false) (h : intB op kd a b k) :
    Qt P (binOp op t (.int kd a) (.int kd b)) k := by
  cases op with
  | shl => simp [isShift] at hs
  | shr => simp [isShift] at hs
  | add => exact ⟨_, by simp [Op.intArith, binOp], h⟩
  | sub => exact ⟨_, by simp [Op.intArith, binOp], h⟩
  | mul => exact ⟨_, by simp [Op.intArith, binOp], h⟩
  | quo =>
    by_cases hb : b = 0
    · simp [intB, hb] at h
    · simp only [intB, if_neg hb] at h
      exact ⟨_, by simp [Op.intDiv, binOp, hb], h⟩
  | rem =>
    by_cases hb : b = 0
    · simp [intB, hb] at h
    · simp only [intB, if_neg hb] at h
      exact ⟨_, by simp [Op.intDiv, binOp, hb], h⟩
  | eql => exact ⟨_, by simp [Op.intCmp, binOp], h⟩
  | neq => exact ⟨_, by simp [Op.intCmp, binOp], h⟩
  | lss => exact ⟨_, by simp [Op.intCmp, binOp], h⟩
  | leq => exact ⟨_, by simp [Op.intCmp, binOp], h⟩
  | gtr => exact ⟨_, fun w => by simp only [Op.intCmp, binOp]; simp, h⟩
  | geq => exact ⟨_, fun w => by simp only [Op.intCmp, binOp]; simp, h⟩
  | and => exact ⟨_, by simp [Op.intBits, binOp, bitsI], h⟩
  | or => exact ⟨_, by simp [Op.intBits, binOp, bitsI], h⟩
  | xor => exact ⟨_, by simp [Op.intBits, binOp, bitsI], h⟩
  | andNot => exact ⟨_, by simp [Op.intBits, binOp, bitsI], h⟩

theorem shiftB_to {P : Program} {t : Nat} {op : BinOp} {kd kd' : IntKind} {a b : Int} {k : Value → Prop} (h : shiftB op kd a b k) :
    Qt P (binOp op t (.int kd a) (.int kd' b)) k := by
  cases op with
  | shl =>
    by_cases hb : b < 0
    · simp [shiftB, hb] at h
    · simp only [shiftB, if_neg hb] at h
      exact ⟨_, fun w => by simp only [binOp, Op.shift]; rw [if_neg hb]; rfl, h⟩
  | shr =>
    by_cases hb : b < 0
    · simp [shiftB, hb] at h
    · simp only [shiftB, if_neg hb] at h
      exact ⟨_, fun w => by simp only [binOp, Op.shift]; rw [if_neg hb]; rfl, h⟩
  | _ => exact h.elim

theorem strB_to {P : Program} {t : Nat} {op : BinOp} {a b : ByteArray} {k : Value → Prop} (h : strB op a b k) :
    Qt P (binOp op t (.string a) (.string b)) k := by
  cases op with
  | add =>
    obtain ⟨h1, h2⟩ := h
    refine ⟨_, fun w => ?_, h2⟩
    have e : IntKind.max .i64 = 9223372036854775807 := by decide
    simp only [binOp, Op.stringOp]
    rw [if_neg (by rw [e]; omega)]
    rfl
  | eql => exact ⟨_, by simp [Op.stringOp, binOp], h⟩
  | neq => exact ⟨_, by simp [Op.stringOp, binOp], h⟩
  | lss => exact ⟨_, by simp [Op.stringOp, binOp], h⟩
  | leq => exact ⟨_, by simp [Op.stringOp, binOp], h⟩
  | gtr => exact ⟨_, fun w => by simp only [Op.stringOp, binOp]; rfl, h⟩
  | geq => exact ⟨_, fun w => by simp only [Op.stringOp, binOp]; rfl, h⟩
  | _ => exact h.elim

theorem eq_to {P : Program} {t : Nat} {op : BinOp} {x y : Value} {b : Bool} {k : Value → Prop} (h : eqB op b k)
    (he : ∀ w : World, (Op.equal t x y).run P w = .ok b w) (h1 : binOp .eql t x y = (do Pure.pure (.bool (← Op.equal t x y)))) (h2 : binOp .neq t x y = (do Pure.pure (.bool (!(← Op.equal t x y))))) :
    Qt P (binOp op t x y) k := by
  cases op with
  | eql => exact ⟨_, fun w => by rw [h1]; simp [he], h⟩
  | neq => exact ⟨_, fun w => by rw [h2]; simp [he], h⟩
  | _ => exact h.elim

theorem equal_run {P : Program} {t : Nat} {d : TypeDesc} (hd : P.underlying t = some d) {x y : Value} {b : Bool}
    (h : (match d, x, y with
      | .bool, .bool a, .bool c => b = (a == c)
      | .pointer _, .pointer none, .pointer q => b = q.isNone
      | .pointer _, .pointer (some _), .pointer none => b = false
      | .slice _, .slice none _ _, .slice q _ _ => b = q.isNone
      | .slice _, .slice (some _) _ _, .slice none _ _ => b = false
      | .func _ _ _, .nilFunc, .nilFunc => b = true
      | .func _ _ _, .func _ _ _, .nilFunc => b = false
      | _, _, _ => False)) : ∀ w : World, (Op.equal t x y).run P w = .ok b w := by
  intro w
  unfold Op.equal Op.maxDepth
  rw [show (10000 : Nat) = 9999 + 1 from rfl]
  unfold Op.equalIn
  rw [Sem.run_bind, run_underlying hd w]
  simp only [Result.andThen_ok]
  split at h <;> first | (subst h; rfl) | exact h.elim

theorem binX_to {P : Program} {t : Nat} {d : TypeDesc} (hd : P.underlying t = some d) {op : BinOp} {x y : Value} {k : Value → Prop} (h : binX (descSum d) op x y k) :
    Qt P (binOp op t x y) k := by
  by_cases hf : descSum d = .fn
  · rw [hf] at h
    cases d <;> simp [descSum] at hf
    simp only [binX] at h
    cases y <;> try exact h.elim
    obtain ⟨h1, h2⟩ := h
    cases x <;> simp [isFnV] at h1
    · exact eq_to h2 (equal_run hd rfl) rfl rfl
    · exact eq_to h2 (equal_run hd rfl) rfl rfl
  · cases x with
    | int kd a =>
      cases y with
      | int kd' b =>
        have h' : bif isShift op then shiftB op kd a b k else bif kindEq kd kd' then intB op kd a b k else False := by
          unfold binX at h; split at h
          · exact (hf (by assumption)).elim
          · exact h
        cases hs : isShift op with
        | true => rw [hs] at h'; exact shiftB_to h'
        | false =>
          rw [hs] at h'
          cases hk : kindEq kd kd' with
          | false => rw [hk] at h'; exact h'.elim
          | true => rw [hk] at h'; obtain rfl := kindEq_eq hk; exact intB_to hs h'
      | _ => unfold binX at h; split at h <;> first | exact (hf (by assumption)).elim | exact h.elim
    | string a =>
      cases y with
      | string b => unfold binX at h; split at h <;> first | exact (hf (by assumption)).elim | exact strB_to h
      | _ => unfold binX at h; split at h <;> first | exact (hf (by assumption)).elim | exact h.elim
    | bool a =>
      cases y with
      | bool b =>
        unfold binX at h; split at h
        · exact (hf (by assumption)).elim
        · cases d <;> simp [descSum] at h
          exact eq_to h (equal_run hd rfl) rfl rfl
      | _ => unfold binX at h; split at h <;> first | exact (hf (by assumption)).elim | exact h.elim
    | pointer a =>
      cases y with
      | pointer b =>
        unfold binX at h; split at h
        · exact (hf (by assumption)).elim
        · cases b with
          | some q => exact h.elim
          | none =>
            cases d <;> simp [descSum] at h
            cases a with
            | none => exact eq_to h (equal_run hd rfl) rfl rfl
            | some p => exact eq_to h (equal_run hd rfl) rfl rfl
      | _ => unfold binX at h; split at h <;> first | exact (hf (by assumption)).elim | exact h.elim
    | slice a l c =>
      cases y with
      | slice b l' c' =>
        unfold binX at h; split at h
        · exact (hf (by assumption)).elim
        · cases b with
          | some q => exact h.elim
          | none =>
            cases d <;> simp [descSum] at h
            cases a with
            | none => exact eq_to h (equal_run hd rfl) rfl rfl
            | some p => exact eq_to h (equal_run hd rfl) rfl rfl
      | _ => unfold binX at h; split at h <;> first | exact (hf (by assumption)).elim | exact h.elim
    | _ => unfold binX at h; split at h <;> first | exact (hf (by assumption)).elim | exact h.elim

theorem unX_to {P : Program} {op : UnOp} {x : Value} {k : Value → Prop} (h : unX op x k) : Qt P (Op.unary op x) k := by
  cases op with
  | not => cases x <;> first | exact h.elim | exact ⟨_, fun _ => rfl, h⟩
  | neg => cases x <;> first | exact h.elim | exact ⟨_, fun _ => rfl, h⟩
  | xor => cases x <;> first | exact h.elim | exact ⟨_, fun _ => rfl, h⟩
  | plus => cases x <;> exact h.elim

def plainPair (a b : Value) : Bool :=
  match a, b with
  | .nilIface, .nilIface => false
  | .agg _, .agg _ => false
  | _, _ => true
theorem eqGuard_run {P : Program} {op : BinOp} {t : Nat} {x y : Operand} {a b : Value} {w : World} (h : plainPair a b = true) :
    (eqGuard op t x y a b).run P w = .ok () w := by
  have key : ∀ c : Bool, (if c = true then (Pure.pure () : Sem Unit) else Pure.pure ()).run P w = .ok () w := fun c => by cases c <;> rfl
  unfold eqGuard
  cases a <;> cases b <;> first | exact key _ | (simp [plainPair] at h; done)
theorem binX_guard {d : D} {op : BinOp} {x y : Value} {k : Value → Prop} (h : binX d op x y k) : plainPair x y = true := by
  unfold binX at h
  cases x <;> cases y <;> first | rfl | (split at h <;> exact h.elim)

end Go.Proofs.Ytnbfaokpaiiojaa.Wx
