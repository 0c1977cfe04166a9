/-
  THE ENGINE FOR UNKNOWN VALUES, part B: what is made ready once more does what the engine's own operations do.
-/
import Derived.Test.YtdbhfmdndiphcaaE3A
namespace Go.Den
noncomputable section

variable {P : Program}

theorem pureRun_bind' {α β : Type} (s : Sem α) (f : α → Sem β) : pureRun P (s.bind f) = (pureRun P s).bind fun a => pureRun P (f a) := pureRun_bind s f

theorem pureRun_pure {α : Type} (a : α) : pureRun P (pure a : Sem α) = some a := rfl
theorem pureRun_under (t : TypeId) {d : TypeDesc} (h : tyU P t = some d) : pureRun P (underlying t) = some d := by
  unfold tyU at h
  unfold underlying
  show pureRun P ((program).bind fun p => _) = _
  rw [pureRun_bind']
  simp only [program, pureRun, Option.bind_some, h]
  rfl

/-- An operation on values without an address, by its run. -/
theorem genA_of {e : Env} {o : Oper} (hf : o.op.operands.toList.all (fun x => flat (evl e x)) = true) {v : Value} (h : pureRun P (execOp (evl e) o) = some (.value v)) (hv : flat v = true) : genA P e o = val v := by
  unfold genA
  rw [hf, cond_true, h]
  simp only [hv, cond_true]

theorem exec_bin (e : Env) (dst : Option Tmp) (op : BinOp) (t : TypeId) (x y : Operand) (b : TypeId) (type : TypeId) (pos : String) (after : Array Edge) (guard : Option (Nat × Bool)) :
    pureRun P (execOp (evl e) ⟨dst, .binOp op t x y b, type, pos, after, guard⟩) = (pureRun P (eqGuard op t x y (evl e x) (evl e y))).bind fun _ => (pureRun P (binOp op t (evl e x) (evl e y))).map Next.value := by
  show pureRun P (((eqGuard op t x y (evl e x) (evl e y)).bind fun _ => binOp op t (evl e x) (evl e y)).bind fun v => Sem.pure (Next.value v)) = _
  rw [pureRun_bind', pureRun_bind']
  cases pureRun P (eqGuard op t x y (evl e x) (evl e y)) with
  | none => rfl
  | some u => cases pureRun P (binOp op t (evl e x) (evl e y)) <;> rfl

theorem guard_int (op : BinOp) (t : TypeId) (x y : Operand) (j k : IntKind) (a b : Int) : pureRun P (eqGuard op t x y (.int j a) (.int k b)) = some () := by
  unfold eqGuard
  cases op <;> rfl

theorem guard_str (op : BinOp) (t : TypeId) (x y : Operand) (a b : ByteArray) : pureRun P (eqGuard op t x y (.string a) (.string b)) = some () := by
  unfold eqGuard
  cases op <;> rfl

theorem guard_bool (op : BinOp) (t : TypeId) (x y : Operand) (a b : Bool) : pureRun P (eqGuard op t x y (.bool a) (.bool b)) = some () := by
  unfold eqGuard
  cases op <;> rfl

theorem pure_int (op : BinOp) (hop : isSh op = false) (t : TypeId) (k : IntKind) (a b : Int) : pureRun P (binOp op t (.int k a) (.int k b)) = intR op k a b := by
  cases op <;> first
    | (exact absurd hop (by decide))
    | (simp only [binOp, ne_eq, not_true_eq_false, if_false, Op.intArith, Op.intBits, Op.intCmp, intR, bitsR, Option.map_some]; rfl)
    | (simp only [binOp, ne_eq, not_true_eq_false, if_false, Op.intDiv, intR]; split <;> rfl)

theorem pure_shift (op : BinOp) (hop : isSh op = true) (t : TypeId) (j k : IntKind) (a b : Int) : pureRun P (binOp op t (.int j a) (.int k b)) = shiftR op j a b := by
  cases op <;> first
    | (exact absurd hop (by decide))
    | (simp only [binOp, Op.shift, shiftR]; split <;> rfl)

theorem pure_str (op : BinOp) (t : TypeId) (a b : ByteArray) : pureRun P (binOp op t (.string a) (.string b)) = strR op a b := by
  cases op <;> first
    | (simp only [binOp, Op.stringOp, strR]; rfl)
    | (simp only [binOp, Op.stringOp, strR]; split <;> rfl)

theorem flat_int {op : BinOp} {k : IntKind} {a b : Int} {v : Value} (h : intR op k a b = some v) : flat v = true := by
  unfold intR at h
  cases op <;> simp only at h <;> first
    | (cases h; rfl)
    | (split at h <;> first | (cases h; rfl) | cases h)
    | (simp only [bitsR, Option.map_some] at h; cases h; rfl)
    | cases h

theorem flat_shift {op : BinOp} {k : IntKind} {a b : Int} {v : Value} (h : shiftR op k a b = some v) : flat v = true := by
  unfold shiftR at h
  split at h
  · cases h
  · cases op <;> simp only at h <;> first | (cases h; rfl) | cases h

theorem flat_str {op : BinOp} {a b : ByteArray} {v : Value} (h : strR op a b = some v) : flat v = true := by
  unfold strR at h
  cases op <;> simp only at h <;> first
    | (cases h; rfl)
    | (split at h <;> first | (cases h; rfl) | cases h)
    | cases h

/-- The engine's quick reckoning is the model's. -/
theorem intsF_eq {op : BinOp} {j k : IntKind} {a b : Int} {v : Value} (hop : isSh op = false) (h : intsF op j k a b = some v) : j = k ∧ intR op k a b = some v := by
  unfold intsF at h
  have h0 : isShift op = false := by revert hop; cases op <;> decide
  rw [h0, cond_false] at h
  cases hs : sameKind j k with
  | false => rw [hs, cond_false] at h; cases h
  | true =>
    rw [hs, cond_true] at h
    have hjk := sameKind_eq hs
    subst hjk
    refine ⟨rfl, ?_⟩
    have h1 := intF_run (P := default) h0 h 0 (default : World)
    cases hq : intR op j a b with
    | none =>
      exfalso
      cases op <;> first
        | (exact absurd hop (by decide))
        | (simp only [intR, bitsR, Option.map_some, reduceCtorEq] at hq; done)
        | (simp only [intF] at h; cases h; done)
        | (simp only [intR, Option.map_eq_none_iff, bitsR, reduceCtorEq] at hq; done)
        | (simp only [intR] at hq
           split at hq
           · rename_i hb
             subst hb
             simp only [intF] at h
             cases h
           · cases hq)
    | some v' =>
      have h2 : pureRun default (binOp op 0 (.int j a) (.int j b)) = some v' := by rw [pure_int op hop, hq]
      have h3 := pureRun_run _ _ h2 (default : World)
      rw [h1] at h3
      cases h3
      rfl

theorem shF_eq {op : BinOp} {j k : IntKind} {a b : Int} {v : Value} (hop : isSh op = true) (h : intsF op j k a b = some v) : shiftR op j a b = some v := by
  unfold intsF at h
  have h0 : isShift op = true := by revert hop; cases op <;> decide
  rw [h0, cond_true] at h
  have h1 := shF_run (P := default) (k := k) h 0 (default : World)
  cases hq : shiftR op j a b with
  | none =>
    exfalso
    unfold shF at h
    split at h
    · rename_i a b
      cases hb : Nat.blt b j.bits with
      | false => rw [hb, cond_false] at h; cases h
      | true =>
        rw [hb, cond_true] at h
        have : ¬ (Int.ofNat b < 0) := by simp
        unfold shiftR at hq
        rw [if_neg this] at hq
        cases op <;> first | (exact absurd hop (by decide)) | (simp only [reduceCtorEq] at hq)
    · cases h
  | some v' =>
    have h2 : pureRun default (binOp op 0 (.int j a) (.int k b)) = some v' := by rw [pure_shift op hop, hq]
    have h3 := pureRun_run _ _ h2 (default : World)
    rw [h1] at h3
    cases h3
    rfl

end
end Go.Den
