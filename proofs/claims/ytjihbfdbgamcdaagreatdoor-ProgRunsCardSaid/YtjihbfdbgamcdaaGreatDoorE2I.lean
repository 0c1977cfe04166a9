/-
  THE ENGINE, part I: integers, references, addresses, reading.
-/
import Derived.Test.YtjihbfdbgamcdaaGreatDoorE2H
namespace Go.Den
noncomputable section

variable {P : Program}

/- INTEGERS -/

theorem bigMod_eq (k : IntKind) : bigMod k = 2 ^ k.bits := by cases k <;> rfl
theorem bigMod_half (k : IntKind) : Nat.div (bigMod k) 2 = 2 ^ (k.bits - 1) := by cases k <;> rfl

theorem cast_mod (k : IntKind) (m : Nat) : ((Nat.mod m (bigMod k) : Nat) : Int) = (m : Int) % (2 ^ k.bits : Int) := by
  show ((m % bigMod k : Nat) : Int) = _
  rw [bigMod_eq, Int.natCast_emod, Int.natCast_pow]
  rfl

theorem wrap_unsigned {k : IntKind} (hs : k.signed = false) (n : Int) : k.wrap n = n % (2 ^ k.bits : Int) := by
  simp [IntKind.wrap, hs]

theorem wrap_signed {k : IntKind} {n : Int} (h : n % (2 ^ k.bits : Int) < (2 ^ (k.bits - 1) : Int)) : k.wrap n = n % (2 ^ k.bits : Int) := by
  have h' : ¬ (n % (2 ^ k.bits : Int) ≥ (2 ^ (k.bits - 1) : Int)) := by omega
  simp only [IntKind.wrap, h', decide_false, Bool.and_false, Bool.false_eq_true, if_false]

theorem wrapF_signed (k : IntKind) (m : Nat) : (bif Nat.blt (Nat.mod m (bigMod k)) (Nat.div (bigMod k) 2) then (Int.ofNat (Nat.mod m (bigMod k))) else k.wrap (.ofNat m)) = k.wrap (.ofNat m) := by
  cases hq : Nat.blt (Nat.mod m (bigMod k)) (Nat.div (bigMod k) 2) with
  | false => rfl
  | true =>
    rw [cond_true]
    have h1 : Nat.mod m (bigMod k) < 2 ^ (k.bits - 1) := by rw [← bigMod_half]; exact Nat.le_of_ble_eq_true hq
    have h2 : ((Nat.mod m (bigMod k) : Nat) : Int) < (2 ^ (k.bits - 1) : Int) := by
      have := Int.ofNat_lt.2 h1
      rw [Int.natCast_pow] at this
      exact this
    rw [cast_mod] at h2
    show ((Nat.mod m (bigMod k) : Nat) : Int) = k.wrap (m : Int)
    rw [wrap_signed h2, cast_mod]

theorem wrapF_eq (k : IntKind) (n : Int) : wrapF k n = k.wrap n := by
  cases n with
  | negSucc m => cases k <;> rfl
  | ofNat m =>
    cases k with
    | u8 => exact (cast_mod .u8 m).trans (wrap_unsigned rfl _).symm
    | u16 => exact (cast_mod .u16 m).trans (wrap_unsigned rfl _).symm
    | u32 => exact (cast_mod .u32 m).trans (wrap_unsigned rfl _).symm
    | u64 => exact (cast_mod .u64 m).trans (wrap_unsigned rfl _).symm
    | i8 => exact wrapF_signed .i8 m
    | i16 => exact wrapF_signed .i16 m
    | i32 => exact wrapF_signed .i32 m
    | i64 => exact wrapF_signed .i64 m

theorem mkI_eq (k : IntKind) (n : Int) : mkI k n = some (.int k n) := forceI_eq n _

theorem leF_eq (a b : Int) : leF a b = decide (a ≤ b) := by
  apply Bool.eq_iff_iff.2
  rw [decide_eq_true_iff]
  cases a with
  | ofNat m => cases b with
    | ofNat n => exact ⟨fun h => Int.ofNat_le.2 (Nat.le_of_ble_eq_true h), fun h => Nat.ble_eq_true_of_le (Int.ofNat_le.1 h)⟩
    | negSucc n => exact ⟨fun h => (by cases h), fun h => (by have h1 : (0 : Int) ≤ Int.ofNat m := Int.natCast_nonneg m; have h2 := Int.negSucc_lt_zero n; omega)⟩
  | negSucc m => cases b with
    | ofNat n => exact ⟨fun _ => (by have h1 : (0 : Int) ≤ Int.ofNat n := Int.natCast_nonneg n; have h2 := Int.negSucc_lt_zero m; omega), fun _ => rfl⟩
    | negSucc n => exact ⟨fun h => (by have h1 : n ≤ m := Nat.le_of_ble_eq_true h; rw [Int.negSucc_eq, Int.negSucc_eq]; omega), fun h => (by rw [Int.negSucc_eq, Int.negSucc_eq] at h; exact Nat.ble_eq_true_of_le (by omega))⟩

theorem eqF_eq (a b : Int) : eqF a b = (a == b) := by
  apply Bool.eq_iff_iff.2
  rw [beq_iff_eq]
  cases a with
  | ofNat m => cases b with
    | ofNat n => exact ⟨fun h => congrArg Int.ofNat (Nat.eq_of_beq_eq_true h), fun h => (by cases Int.ofNat.inj h; exact Nat.beq_refl m)⟩
    | negSucc n => exact ⟨fun h => (by cases h), fun h => (by cases h)⟩
  | negSucc m => cases b with
    | ofNat n => exact ⟨fun h => (by cases h), fun h => (by cases h)⟩
    | negSucc n => exact ⟨fun h => congrArg Int.negSucc (Nat.eq_of_beq_eq_true h), fun h => (by cases Int.negSucc.inj h; exact Nat.beq_refl m)⟩

theorem ofInt_nat {n m : Nat} (h : m < 2 ^ n) : (BitVec.ofInt n (Int.ofNat m)).toNat = m := by
  have : BitVec.ofInt n (Int.ofNat m) = BitVec.ofNat n m := BitVec.ofInt_natCast ..
  rw [this, BitVec.toNat_ofNat, Nat.mod_eq_of_lt h]

theorem bitsF_run {op : BinOp} {k : IntKind} {a b : Int} {v : Value} (h : bitsF op k a b = some v) (w : World) : (Op.intBits op k a b).run P w = .ok v w ∧ (op = .and ∨ op = .or ∨ op = .xor) := by
  unfold bitsF at h
  split at h
  · rename_i a b
    cases hq : (Nat.blt a (bigMod k) && Nat.blt b (bigMod k)) with
    | false => rw [hq, cond_false] at h; cases h
    | true =>
      rw [hq, cond_true] at h
      simp only [Bool.and_eq_true, Nat.blt_eq] at hq
      have ha := ofInt_nat (n := k.bits) (by rw [← bigMod_eq]; exact hq.1)
      have hb := ofInt_nat (n := k.bits) (by rw [← bigMod_eq]; exact hq.2)
      split at h
      · rw [mkI_eq, wrapF_eq] at h; cases h
        refine ⟨?_, .inl rfl⟩
        simp only [Op.intBits, BitVec.toNat_and, ha, hb]; rfl
      · rw [mkI_eq, wrapF_eq] at h; cases h
        refine ⟨?_, .inr (.inl rfl)⟩
        simp only [Op.intBits, BitVec.toNat_or, ha, hb]; rfl
      · rw [mkI_eq, wrapF_eq] at h; cases h
        refine ⟨?_, .inr (.inr rfl)⟩
        simp only [Op.intBits, BitVec.toNat_xor, ha, hb]; rfl
      · cases h
  · cases h

theorem sameKind_eq {j k : IntKind} (h : sameKind j k = true) : j = k := by
  cases j <;> cases k <;> first | rfl | (exact absurd h (by decide))

theorem eqGuard_int (op : BinOp) (t : TypeId) (x y : Operand) (j k : IntKind) (a b : Int) (w : World) : (eqGuard op t x y (.int j a) (.int k b)).run P w = .ok () w := by
  unfold eqGuard
  cases op <;> rfl

theorem intF_run {op : BinOp} {k : IntKind} {a b : Int} {v : Value} (hop : isShift op = false) (h : intF op k a b = some v) (t : TypeId) (w : World) : (binOp op t (.int k a) (.int k b)).run P w = .ok v w := by
  unfold intF at h
  split at h
  · rw [mkI_eq, wrapF_eq] at h; cases h; simp only [binOp, ne_eq, not_true_eq_false, if_false, Op.intArith]; rfl
  · rw [mkI_eq, wrapF_eq] at h; cases h; simp only [binOp, ne_eq, not_true_eq_false, if_false, Op.intArith]; rfl
  · rw [mkI_eq, wrapF_eq] at h; cases h; simp only [binOp, ne_eq, not_true_eq_false, if_false, Op.intArith]; rfl
  · cases h; simp only [binOp, ne_eq, not_true_eq_false, if_false, Op.intCmp, eqF_eq]; rfl
  · cases h; simp only [binOp, ne_eq, not_true_eq_false, if_false, Op.intCmp, eqF_eq]; rfl
  · cases h; simp only [binOp, ne_eq, not_true_eq_false, if_false, Op.intCmp, leF_eq, Sem.run_pure, ← decide_not, Int.not_le]
  · cases h; simp only [binOp, ne_eq, not_true_eq_false, if_false, Op.intCmp, leF_eq, Sem.run_pure]
  · cases h; simp only [binOp, ne_eq, not_true_eq_false, if_false, Op.intCmp, leF_eq, Sem.run_pure, ← decide_not, Int.not_le, gt_iff_lt]
  · cases h; simp only [binOp, ne_eq, not_true_eq_false, if_false, Op.intCmp, leF_eq, Sem.run_pure, ge_iff_le]
  · have := (bitsF_run (P := P) h w).1; simpa only [binOp, ne_eq, not_true_eq_false, if_false] using this
  · have := (bitsF_run (P := P) h w).1; simpa only [binOp, ne_eq, not_true_eq_false, if_false] using this
  · have := (bitsF_run (P := P) h w).1; simpa only [binOp, ne_eq, not_true_eq_false, if_false] using this
  · split at h
    · rename_i a b
      rw [mkI_eq, wrapF_eq] at h; cases h
      have h0 : ¬ (Int.ofNat (b + 1) = 0) := by simp only [Int.ofNat_eq_natCast]; omega
      simp only [binOp, ne_eq, not_true_eq_false, if_false, Op.intDiv, h0]
      rfl
    · cases h
  · split at h
    · rename_i a b
      rw [mkI_eq] at h; cases h
      have h0 : ¬ (Int.ofNat (b + 1) = 0) := by simp only [Int.ofNat_eq_natCast]; omega
      simp only [binOp, ne_eq, not_true_eq_false, if_false, Op.intDiv, h0]
      rfl
    · cases h
  · cases h

theorem shF_run {op : BinOp} {j k : IntKind} {a b : Int} {v : Value} (h : shF op j a b = some v) (t : TypeId) (w : World) : (binOp op t (.int j a) (.int k b)).run P w = .ok v w := by
  unfold shF at h
  split at h
  · rename_i a b
    cases hq : Nat.blt b j.bits with
    | false => rw [hq, cond_false] at h; cases h
    | true =>
      rw [hq, cond_true] at h
      have hb : b < j.bits := Nat.le_of_ble_eq_true hq
      have hneg : ¬ (Int.ofNat b < 0) := by simp
      have hmin : min (Int.ofNat b).toNat j.bits = b := by simp; omega
      split at h
      · rw [mkI_eq, wrapF_eq] at h; cases h
        have e1 : Int.ofNat (Nat.mul a (Nat.pow 2 b)) = Int.ofNat a * 2 ^ b := by
          show ((a * 2 ^ b : Nat) : Int) = _
          rw [Int.natCast_mul, Int.natCast_pow]; rfl
        simp only [binOp, Op.shift, if_neg hneg, hmin, Sem.run_pure, e1]
      · rw [mkI_eq] at h; cases h
        have e1 : Int.ofNat (Nat.div a (Nat.pow 2 b)) = (Int.ofNat a).fdiv (2 ^ b) := by
          show ((a / 2 ^ b : Nat) : Int) = Int.fdiv (a : Int) (2 ^ b)
          have e2 : (2 ^ b : Int) = ((2 ^ b : Nat) : Int) := by rw [Int.natCast_pow]; rfl
          rw [e2, Int.fdiv_eq_ediv_of_nonneg _ (Int.natCast_nonneg _), Int.natCast_ediv]
        simp only [binOp, Op.shift, if_neg hneg, hmin, Sem.run_pure, e1]
      · cases h
  · cases h

end
end Go.Den
