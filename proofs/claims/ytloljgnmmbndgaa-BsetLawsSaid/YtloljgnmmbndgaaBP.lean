/-
  SETS OF BYTES: how many are in them; a set is the join of its bytes. Plain laws.
-/
import Derived.Test.YtloljgnmmbndgaaBS3
namespace Go.Proofs.Ytloljgnmmbndgaa
open Go.Den
noncomputable section

theorem cntW_eq (s : BitVec 256) : ∀ n, n ≤ 4 → cntW s n = (List.range (64 * n)).countP s.getLsbD := by
  intro n
  induction n with
  | zero => intro _; rfl
  | succ n ih =>
    intro h
    rw [show 64 * (n + 1) = 64 * n + 64 by omega, List.range_add, List.countP_append, ← ih (by omega), cntW, swar_count, List.countP_map]
    congr 1
    refine List.countP_congr fun j hj => ?_
    have hj' : j < 64 := List.mem_range.1 hj
    have h1 := wd_bit s n j
    rw [show (wd s n).getLsbD j = (wd s n).toNat.testBit j from rfl] at h1
    rw [h1, decide_eq_true hj', Bool.true_and]
    rfl

theorem cnt_eq (s : BitVec 256) : cnt s = (List.range 256).countP s.getLsbD := cntW_eq s 4 (by omega)
theorem cnt_mem (s : BitVec 256) : cnt s = (mem s 256).length := by
  rw [cnt_eq, List.countP_eq_length_filter]; rfl
theorem cnt_le (s : BitVec 256) : cnt s ≤ 256 := by rw [cnt_mem]; exact mem_len s 256

theorem count_not (p : Nat → Bool) (l : List Nat) : l.countP p + l.countP (fun x => !p x) = l.length := by
  induction l with
  | nil => rfl
  | cons a l ih =>
    rw [List.countP_cons, List.countP_cons, List.length_cons]
    cases p a <;> simp <;> omega

theorem count_or (p q : Nat → Bool) (l : List Nat) : l.countP (fun x => p x || q x) + l.countP (fun x => p x && q x) = l.countP p + l.countP q := by
  induction l with
  | nil => rfl
  | cons a l ih =>
    simp only [List.countP_cons]
    cases p a <;> cases q a <;> simp <;> omega

theorem cnt_not (s : BitVec 256) : cnt s + cnt (~~~s) = 256 := by
  rw [cnt_eq, cnt_eq]
  have h : (List.range 256).countP (~~~s).getLsbD = (List.range 256).countP fun x => !s.getLsbD x := by
    refine List.countP_congr fun j hj => ?_
    have hj' : j < 256 := List.mem_range.1 hj
    rw [BitVec.getLsbD_not, decide_eq_true hj', Bool.true_and]
  rw [h, count_not, List.length_range]

theorem cnt_or (s t : BitVec 256) : cnt (s ||| t) + cnt (~~~(~~~s ||| ~~~t)) = cnt s + cnt t := by
  rw [cnt_eq, cnt_eq, cnt_eq, cnt_eq, ← count_or s.getLsbD t.getLsbD]
  congr 1
  · refine List.countP_congr fun j _ => ?_
    rw [BitVec.getLsbD_or]
  · refine List.countP_congr fun j hj => ?_
    have hj' : j < 256 := List.mem_range.1 hj
    rw [BitVec.getLsbD_not, BitVec.getLsbD_or, BitVec.getLsbD_not, BitVec.getLsbD_not, decide_eq_true hj']
    cases s.getLsbD j <;> cases t.getLsbD j <;> rfl

theorem ofL_fold (l : List Nat) : ∀ (s : BitVec 256) (j : Nat), (l.foldl (fun s x => s ||| one x) s).getLsbD j = (s.getLsbD j || (decide (j < 256) && decide (j ∈ l))) := by
  induction l with
  | nil => intro s j; simp
  | cons a l ih =>
    intro s j
    rw [List.foldl_cons, ih, BitVec.getLsbD_or, one_bit]
    cases s.getLsbD j <;> by_cases h1 : j < 256 <;> by_cases h2 : j = a <;> by_cases h3 : j ∈ l <;> simp [h1, h2, h3] <;> simp_all

theorem ofL_bit (l : List Nat) (j : Nat) : (ofL l).getLsbD j = (decide (j < 256) && decide (j ∈ l)) := by
  unfold ofL
  rw [ofL_fold]
  simp

theorem of_mem (s : BitVec 256) : ofL (mem s 256) = s := by
  apply BitVec.eq_of_getLsbD_eq
  intro j hj
  rw [ofL_bit]
  simp [mem, hj]

theorem or_not (s : BitVec 256) : s ||| ~~~s = ~~~0#256 := by
  apply BitVec.eq_of_getLsbD_eq
  intro j hj
  rw [BitVec.getLsbD_or, BitVec.getLsbD_not, BitVec.getLsbD_not, decide_eq_true hj]
  simp

theorem or_self (s : BitVec 256) : s ||| s = s := by
  apply BitVec.eq_of_getLsbD_eq
  intro j hj
  rw [BitVec.getLsbD_or, Bool.or_self]

theorem not_not (s : BitVec 256) : ~~~(~~~s) = s := by
  apply BitVec.eq_of_getLsbD_eq
  intro j hj
  rw [BitVec.getLsbD_not, BitVec.getLsbD_not, decide_eq_true hj]
  simp

theorem or_three (a b c : BitVec 256) : joinL [a, b, c] = c ||| (b ||| a) := by
  apply BitVec.eq_of_getLsbD_eq
  intro j hj
  show ((((0#256 ||| a) ||| b) ||| c)).getLsbD j = _
  simp only [BitVec.getLsbD_or, BitVec.getLsbD_zero]
  cases a.getLsbD j <;> cases b.getLsbD j <;> cases c.getLsbD j <;> rfl

end
end Go.Proofs.Ytloljgnmmbndgaa
