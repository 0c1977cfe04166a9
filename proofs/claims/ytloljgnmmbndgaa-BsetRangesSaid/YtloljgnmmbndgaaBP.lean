/-
  SETS OF BYTES: how many are in them; a set is the join of its bytes. Plain laws.
-/
import Derived.Test.YtloljgnmmbndgaaBS3
namespace Go.Proofs.Ytloljgnmmbndgaa
open Go.Den
noncomputable section

theorem cntW_eq (s : BitVec 256) : ∀ n, n ≤ 4 → cntW s n = (List.range (64 * n)).countP s.getLsbD := by
  intro n
  induction n with
  | zero => intro _; rfl
  | succ n ih =>
    intro h
    rw [show 64 * (n + 1) = 64 * n + 64 by omega, List.range_add, List.countP_append, ← ih (by omega), cntW, swar_count, List.countP_map]
    congr 1
    refine List.countP_congr fun j hj => ?_
    have hj' : j < 64 := List.mem_range.1 hj
    have h1 := wd_bit s n j
    rw [show (wd s n).getLsbD j = (wd s n).toNat.testBit j from rfl] at h1
    rw [h1, decide_eq_true hj', Bool.true_and]
    rfl

theorem cnt_eq (s : BitVec 256) : cnt s = (List.range 256).countP s.getLsbD := cntW_eq s 4 (by omega)
theorem cnt_mem (s : BitVec 256) : cnt s = (mem s 256).length := by
  rw [cnt_eq, List.countP_eq_length_filter]; rfl
theorem cnt_le (s : BitVec 256) : cnt s ≤ 256 := by rw [cnt_mem]; exact mem_len s 256

theorem count_not (p : Nat → Bool) (l : List Nat) : l.countP p + l.countP (fun x => !p x) = l.length := by
  induction l with
  | nil => rfl
  | cons a l ih =>
    rw [List.countP_cons, List.countP_cons, List.length_cons]
    cases p a <;> simp <;> omega

theorem count_or (p q : Nat → Bool) (l : List Nat) : l.countP (fun x => p x || q x) + l.countP (fun x => p x && q x) = l.countP p + l.countP q := by
  induction l with
  | nil => rfl
  | cons a l ih =>
    simp only [List.countP_cons]
    cases p a <;> cases q a <;> simp <;> omega

theorem cnt_not (s : BitVec 256) : cnt s + cnt (~~~s) = 256 := by
  rw [cnt_eq, cnt_eq]
  have h : (List.range 256).countP (~~~s).getLsbD = (List.range 256).countP fun x => !s.getLsbD x := by
    refine List.countP_congr fun j hj => ?_
    have hj' : j < 256 := List.mem_range.1 hj
    rw [BitVec.getLsbD_not, decide_eq_true hj', Bool.true_and]
  rw [h, count_not, List.length_range]

theorem cnt_or (s t : BitVec 256) : cnt (s ||| t) + cnt (~~~(~~~s ||| ~~~t)) = cnt s + cnt t := by
  rw [cnt_eq, cnt_eq, cnt_eq, cnt_eq, ← count_or s.getLsbD t.getLsbD]
  congr 1
  · refine List.countP_congr fun j _ => ?_
    rw [BitVec.getLsbD_or]
  · refine List.countP_congr fun j hj => ?_
    have hj' : j < 256 := List.mem_range.1 hj
    rw [BitVec.getLsbD_not, BitVec.getLsbD_or, BitVec.getLsbD_not, BitVec.getLsbD_not, decide_eq_true hj']
    cases s.getLsbD j <;> cases t.getLsbD j <;> rfl

theorem ofL_fold (l : List Nat) : ∀ (s : BitVec 256) (j : Nat), (l.foldl (fun s x => s ||| one x) s).getLsbD j = (s.getLsbD j || (decide (j < 256) && decide (j ∈ l))) := by
  induction l with
  | nil => intro s j; simp
  | cons a l ih =>
    intro s j
    rw [List.foldl_cons, ih, BitVec.getLsbD_or, one_bit]
    cases s.getLsbD j <;> by_cases h1 : j < 256 <;> by_cases h2 : j = a <;> by_cases h3 : j ∈ l <;> simp [h1, h2, h3] <;> simp_all

theorem ofL_bit (l : List Nat) (j : Nat) : (ofL l).getLsbD j = (decide (j < 256) && decide (j ∈ l)) := by
  unfold ofL
  rw [ofL_fold]
  simp

theorem of_mem (s : BitVec 256) : ofL (mem s 256) = s := by
  apply BitVec.eq_of_getLsbD_eq
  intro j hj
  rw [ofL_bit]
  simp [mem, hj]

theorem or_not (s : BitVec 256) : s ||| ~~~s = ~~~0#256 := by
  apply BitVec.eq_of_getLsbD_eq
  intro j hj
  rw [BitVec.getLsbD_or, BitVec.getLsbD_not, BitVec.getLsbD_not, decide_eq_true hj]
  simp

theorem or_self (s : BitVec 256) : s ||| s = s := by
  apply BitVec.eq_of_getLsbD_eq
  intro j hj
  rw [BitVec.getLsbD_or, Bool.or_self]

theorem not_not (s : BitVec 256) : ~~~(~~~s) = s := by
  apply BitVec.eq_of_getLsbD_eq
  intro j hj
  rw [BitVec.getLsbD_not, BitVec.getLsbD_not, decide_eq_true hj]
  simp

theorem or_three (a b c : BitVec 256) : joinL [a, b, c] = c ||| (b ||| a) := by
  apply BitVec.eq_of_getLsbD_eq
  intro j hj
  show ((((0#256 ||| a) ||| b) ||| c)).getLsbD j = _
  simp only [BitVec.getLsbD_or, BitVec.getLsbD_zero]
  cases a.getLsbD j <;> cases b.getLsbD j <;> cases c.getLsbD j <;> rfl

/- RANGES -/

theorem rng_bit (lo n j : Nat) : (rng lo n).getLsbD j = (decide (j < 256) && decide (lo ≤ j ∧ j < lo + n)) := by
  unfold rng
  rw [ofL_bit]
  congr 1
  simp only [List.mem_range'_1]

theorem count_between (lo n k : Nat) : (List.range (lo + n + k)).countP (fun j => decide (lo ≤ j ∧ j < lo + n)) = n := by
  rw [List.range_add, List.range_add, List.countP_append, List.countP_append, List.countP_map, List.countP_map]
  have h1 : (List.range lo).countP (fun j => decide (lo ≤ j ∧ j < lo + n)) = 0 := by
    rw [List.countP_eq_zero]
    intro j hj
    have := List.mem_range.1 hj
    simp; omega
  have h2 : (List.range n).countP ((fun j => decide (lo ≤ j ∧ j < lo + n)) ∘ fun x => lo + x) = n := by
    rw [List.countP_eq_length.2, List.length_range]
    intro j hj
    have := List.mem_range.1 hj
    simp; omega
  have h3 : (List.range k).countP ((fun j => decide (lo ≤ j ∧ j < lo + n)) ∘ fun x => lo + n + x) = 0 := by
    rw [List.countP_eq_zero]
    intro j _
    simp
  rw [h1, h2, h3]
  omega

theorem cnt_rng (lo n : Nat) (h : lo + n ≤ 256) : cnt (rng lo n) = n := by
  rw [cnt_eq]
  have e : (List.range 256).countP (rng lo n).getLsbD = (List.range 256).countP (fun j => decide (lo ≤ j ∧ j < lo + n)) := by
    refine List.countP_congr fun j hj => ?_
    rw [rng_bit, decide_eq_true (List.mem_range.1 hj), Bool.true_and]
  rw [e]
  have := count_between lo n (256 - lo - n)
  rw [show lo + n + (256 - lo - n) = 256 by omega] at this
  exact this

theorem rng_join (lo m hi : Nat) (h1 : lo ≤ m) (h2 : m ≤ hi) : rng lo (m + 1 - lo) ||| rng m (hi + 1 - m) = rng lo (hi + 1 - lo) := by
  apply BitVec.eq_of_getLsbD_eq
  intro j hj
  rw [BitVec.getLsbD_or, rng_bit, rng_bit, rng_bit, decide_eq_true hj]
  simp only [Bool.true_and, ← Bool.decide_or]
  refine decide_eq_decide.2 ?_
  omega

theorem rng_out (lo hi : Nat) (h1 : lo ≤ hi) (h2 : hi < 256) : ~~~(rng lo (hi + 1 - lo)) = rng 0 lo ||| rng (hi + 1) (255 - hi) := by
  apply BitVec.eq_of_getLsbD_eq
  intro j hj
  rw [BitVec.getLsbD_not, BitVec.getLsbD_or, rng_bit, rng_bit, rng_bit, decide_eq_true hj]
  simp only [Bool.true_and, ← Bool.decide_or, ← decide_not]
  refine decide_eq_decide.2 ?_
  omega

theorem rng_nil (lo : Nat) : rng lo 0 = 0#256 := rfl
theorem zero_or (s : BitVec 256) : 0#256 ||| s = s := by
  apply BitVec.eq_of_getLsbD_eq
  intro j hj
  rw [BitVec.getLsbD_or, BitVec.getLsbD_zero, Bool.false_or]
theorem or_zero (s : BitVec 256) : s ||| 0#256 = s := by
  apply BitVec.eq_of_getLsbD_eq
  intro j hj
  rw [BitVec.getLsbD_or, BitVec.getLsbD_zero, Bool.or_false]

theorem mem_iff (s : BitVec 256) (x : Nat) : x ∈ mem s 256 ↔ x < 256 ∧ s.getLsbD x = true := by
  simp [mem]

theorem mem_one (x : Nat) (hx : x < 256) : mem (ofL [x]) 256 = [x] := by
  have h1 : (mem (ofL [x]) 256).length = 1 := by
    rw [← cnt_mem, show ofL [x] = rng x 1 from rfl, cnt_rng x 1 (by omega)]
  obtain ⟨y, hy⟩ := List.length_eq_one_iff.1 h1
  have : x ∈ mem (ofL [x]) 256 := by rw [mem_iff, ofL_bit]; simp [hx]
  rw [hy] at this ⊢
  rw [List.mem_singleton.1 this]

theorem only_one (x : Nat) (hx : x < 256) : onlyB (ofL [x]) = x ∧ decide ((mem (ofL [x]) 256).length = 1) = true := by
  unfold onlyB
  rw [mem_one x hx]
  exact ⟨rfl, rfl⟩

theorem only_two (x y : Nat) (hx : x < 256) (hy : y < 256) (hne : x ≠ y) : decide ((mem (ofL [x, y]) 256).length = 1) = false := by
  refine decide_eq_false fun h => ?_
  obtain ⟨z, hz⟩ := List.length_eq_one_iff.1 h
  have h1 : x ∈ mem (ofL [x, y]) 256 := by rw [mem_iff, ofL_bit]; simp [hx]
  have h2 : y ∈ mem (ofL [x, y]) 256 := by rw [mem_iff, ofL_bit]; simp [hy]
  rw [hz, List.mem_singleton] at h1 h2
  exact hne (h1.trans h2.symm)

end
end Go.Proofs.Ytloljgnmmbndgaa
