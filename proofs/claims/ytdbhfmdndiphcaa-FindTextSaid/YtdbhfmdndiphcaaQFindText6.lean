/-
  PARTS OF A PROOF, joined by a program (6 of 6): a proved reckoner of the model, and what the functions come to.
-/
import Derived.Test.YtdbhfmdndiphcaaQFindText5
import Derived.ChangeSame
import Derived.WideKeyArgs
import Derived.OpenShut
import Derived.WideKeyPair
import Derived.ChangeSlices
set_option linter.unusedVariables false
set_option linter.unusedSimpArgs false
namespace Go.Proofs.Ytdbhfmdndiphcaa
set_option linter.unusedVariables false
set_option linter.unusedSimpArgs false
open Go.Den
noncomputable section
theorem wml {l : List Int} {x : Int} : ints (l ++ [x]) = ints l ++ [.int .i64 x] := by rw [ints, List.map_append]; rfl
theorem rxs_snoc {l : List Rx} {r : Rx} : rxsC (l ++ [r]) = rxsC l ++ rxC r := by
  induction l with
  | nil => rw [List.nil_append, rxsC, rxsC, rxsC, List.append_nil]; rfl
  | cons a l ih => rw [List.cons_append, rxsC, ih, rxsC, List.append_assoc]
theorem wldc {b : UInt8} : rxC (setR b) = [.int .i64 1, .int .i64 0, .int .i64 0, .int .i64 0, wdV (one b.toNat) 0, wdV (one b.toNat) 1, wdV (one b.toNat) 2, wdV (one b.toNat) 3, FL 0 []] := by rw [setR, rxC, rxsC]; rfl
abbrev ftP : Value := .pointer (some ⟨0, 0, none⟩)
def rxF (t n : Nat) (c : List Value) : List Value := [.int .i64 2, .int .i64 0, .int .i64 0, .int .i64 0, .int .u64 0, .int .u64 0, .int .u64 0, .int .u64 0, FO t n c]
theorem ft_kidsC (s t : List UInt8) (ht : t.length ≤ 2) : ∀ (k i : Nat), i + k = t.length → 0 < i →
    lim Try.prog cfg (.loop 8 0 (wz 0) (SE (EJ 128 G0) [(22, .int .i64 i), (21, .int .i64 t.length), (7, FO 0 i (rxsC ((t.take i).map setR))), (6, str t), (5, str s)])) (HP [.tok i 47 9]) = some (.code (.exit 0) (SE (EJ 128 G0) [(7, FO 0 t.length (rxsC (t.map setR))), (6, str t), (5, str s)]), HP [.tok t.length 47 9]) := by
  intro k
  induction k with
  | zero =>
    intro i hi h0
    obtain rfl : i = t.length := by omega
    rw [List.take_length]
    refine ww wsd ?_
    unfold wnd
    (repeat' (first | (simp -implicitDefEqProofs (maxSteps := 2000000) (disch := first | with_reducible assumption | omega | (simp only [zS, zA, Nat.reduceEqDiff, Nat.reduceLT, Nat.reduceLeDiff, Nat.reduceAdd, Nat.reduceSub, reduceCtorEq, zD] <;> omega) | fail) only [zS, argl, insA, Go.Den.wm, wo, wu, looks, wfb, web, idOf, riA, Nat.reduceLeDiff, Nat.reduceLT, Nat.reduceEqDiff, Nat.reduceDiv, Nat.reduceMod, Int.reduceLT, Int.reduceLE, Int.reduceEq, Int.reduceNeg, Int.reduceToNat, Int.reduceSub, Int.reduceMul, Int.reduceNe, Nat.reduceAdd, Nat.reduceMul, Nat.reduceSub, Int.reduceAdd, reduceCtorEq, Go.Den.wh, kK, wkc, *, zT]) | (with_reducible (first | apply z1 | apply z2 | apply z3 | apply z4) <;> intro hq <;> (try simp only [zH] at hq) <;> (try (exfalso; omega)))))
  | succ k ih =>
    intro i hi h0
    have h := ih (i + 1) (by omega) (by omega)
    have e : (t.take (i + 1)).map setR = (t.take i).map setR ++ [setR (t.getD i 0)] := by
      rw [List.take_add_one, List.getD_eq_getElem?_getD, List.getElem?_eq_getElem (show i < t.length by omega), List.map_append]; rfl
    rw [e, rxs_snoc, wldc] at h
    have hl : ((t.take i).map setR).length = i := by rw [List.length_map, List.length_take]; omega
    clear ih e
    have ho := ev_Of1 (t.getD i 0).toNat (t.getD i 0).toNat_lt
    refine ww wsd ?_
    unfold wnd
    (repeat' (first | (simp -implicitDefEqProofs (maxSteps := 2000000) (disch := first | with_reducible assumption | omega | (simp only [zS, zA, Nat.reduceEqDiff, Nat.reduceLT, Nat.reduceLeDiff, Nat.reduceAdd, Nat.reduceSub, reduceCtorEq, wtcb, wfu, wnnb, nf_FL, wucb, zD] <;> omega) | fail) only [zS, argl, insA, Go.Den.wm, wo, wu, looks, wfb, web, idOf, riA, Nat.reduceLeDiff, Nat.reduceLT, Nat.reduceEqDiff, Nat.reduceDiv, Nat.reduceMod, Int.reduceLT, Int.reduceLE, Int.reduceEq, Int.reduceNeg, Int.reduceToNat, Int.reduceSub, Int.reduceMul, Int.reduceNe, Nat.reduceAdd, Nat.reduceMul, Nat.reduceSub, Int.reduceAdd, reduceCtorEq, Go.Den.wh, kK, wkc, wmb, wrb, wtcb, wfu, wnnb, nf_FL, wucb, wsgb, wonb, wrgb, *, zT]) | (with_reducible (first | apply z1 | apply z2 | apply z3 | apply z4) <;> intro hq <;> (try simp only [zH] at hq) <;> (try (exfalso; omega)))))
    all_goals exact h
theorem rxs_one {r : Rx} : rxsC [r] = rxC r := by rw [rxsC, rxsC, List.append_nil]
theorem wpnb (s t : List UInt8) (ht : t.length ≤ 2) (h0 : 0 < t.length) :
    lim Try.prog cfg (.loop 8 0 (wz 0) (SE (EJ 128 G0) [(22, .int .i64 0), (21, .int .i64 t.length), (7, .slice none 0 0), (6, str t), (5, str s)])) (HP []) = some (.code (.exit 0) (SE (EJ 128 G0) [(7, FO 0 t.length (rxsC (t.map setR))), (6, str t), (5, str s)]), HP [.tok t.length 47 9]) := by
  have h := ft_kidsC s t ht (t.length - 1) 1 (by omega) (by omega)
  have e : (t.take 1).map setR = [setR (t.getD 0 0)] := by
    cases t with
    | nil => cases h0
    | cons a t => rfl
  rw [e, rxs_one, wldc, show ((1 : Nat) : Int) = 1 from rfl] at h
  have ho := ev_Of1 (t.getD 0 0).toNat (t.getD 0 0).toNat_lt
  clear e
  refine ww wsd ?_
  unfold wnd
  (repeat' (first | (simp -implicitDefEqProofs (maxSteps := 2000000) (disch := first | with_reducible assumption | omega | (simp only [zS, zA, Nat.reduceEqDiff, Nat.reduceLT, Nat.reduceLeDiff, Nat.reduceAdd, Nat.reduceSub, reduceCtorEq, wtcb, wfu, wnnb, nf_FL, wucb, zD] <;> omega) | fail) only [zS, argl, insA, Go.Den.wm, wo, wu, looks, wfb, web, idOf, riA, Nat.reduceLeDiff, Nat.reduceLT, Nat.reduceEqDiff, Nat.reduceDiv, Nat.reduceMod, Int.reduceLT, Int.reduceLE, Int.reduceEq, Int.reduceNeg, Int.reduceToNat, Int.reduceSub, Int.reduceMul, Int.reduceNe, Nat.reduceAdd, Nat.reduceMul, Nat.reduceSub, Int.reduceAdd, reduceCtorEq, Go.Den.wh, kK, wkc, wmb, wrb, wtcb, wfu, wnnb, nf_FL, wucb, wsgb, wonb, wrgb, *, zT]) | (with_reducible (first | apply z1 | apply z2 | apply z3 | apply z4) <;> intro hq <;> (try simp only [zH] at hq) <;> (try (exfalso; omega)))))
theorem ft_kids0 (s : List UInt8) :
    lim Try.prog cfg (.loop 8 0 (wz 0) (SE (EJ 128 G0) [(22, .int .i64 0), (21, .int .i64 0), (7, .slice none 0 0), (6, str []), (5, str s)])) (HP []) = some (.code (.exit 0) (SE (EJ 128 G0) [(7, .slice none 0 0), (6, str []), (5, str s)]), HP []) := by
  refine ww wsd ?_
  unfold wnd
  (repeat' (first | (simp -implicitDefEqProofs (maxSteps := 2000000) (disch := first | with_reducible assumption | omega | (simp only [zS, zA, Nat.reduceEqDiff, Nat.reduceLT, Nat.reduceLeDiff, Nat.reduceAdd, Nat.reduceSub, reduceCtorEq, zD] <;> omega) | fail) only [zS, argl, insA, Go.Den.wm, wo, wu, looks, wfb, web, idOf, riA, Nat.reduceLeDiff, Nat.reduceLT, Nat.reduceEqDiff, Nat.reduceDiv, Nat.reduceMod, Int.reduceLT, Int.reduceLE, Int.reduceEq, Int.reduceNeg, Int.reduceToNat, Int.reduceSub, Int.reduceMul, Int.reduceNe, Nat.reduceAdd, Nat.reduceMul, Nat.reduceSub, Int.reduceAdd, reduceCtorEq, Go.Den.wh, kK, wkc, wmb, wrb, *, zT]) | (with_reducible (first | apply z1 | apply z2 | apply z3 | apply z4) <;> intro hq <;> (try simp only [zH] at hq) <;> (try (exfalso; omega)))))
def zs (l : List Nat) : List Int := l.map Int.ofNat
theorem wvs {a : Nat} {l : List Nat} : zs (a :: l) = (a : Int) :: zs l := rfl
theorem wco : zs [] = [] := rfl
theorem wmdc {l : List Nat} : (zs l).length = l.length := List.length_map ..
theorem wzo {s t : List UInt8} {i : Nat} (hl : i + t.length ≤ s.length) : wdk s t i = decide ((s.take (i + t.length)).drop i = t) := by
  unfold wdk
  rw [decide_eq_true hl, Bool.true_and]
def ftV (t : Nat) (l : List Int) : Value := if l = [] then .slice none 0 0 else FO t l.length (ints l)
theorem wqnb {t : Nat} {l : List Int} (h : l ≠ []) : ftV t l = FO t l.length (ints l) := by unfold ftV; rw [if_neg h]
set_option maxHeartbeats 2000000 in
theorem ft_wA (s t : List UInt8) (hs : s.length ≤ 12) (ht : 0 < t.length) (ht2 : t.length ≤ 2) (r : Rx) : ∀ (k i : Nat) (l : List Int), s.length + 1 ≤ i + k → i ≤ s.length + 1 → l.length ≤ i → l ≠ [] →
    lim Try.prog cfg (.loop 8 0 (wz 1) (SE (EJ 128 G0) [(11, .int .i64 i), (10, FO 1 l.length (ints l)), (9, ftP), (6, str t), (5, str s)])) (HP [X (rxC r) 47 0 false, .tok l.length 3 1]) = some (.code (.exit 2) (SE (EJ 128 G0) [(10, FO 1 (l ++ zs (wic s t k i)).length (ints (l ++ zs (wic s t k i)))), (9, ftP), (6, str t), (5, str s)]), HP [X (rxC r) 47 0 false, .tok (l ++ zs (wic s t k i)).length 3 1]) := by
  intro k
  induction k with
  | zero =>
    intro i l hi hi2 hl hne
    rw [wic, wco, List.append_nil]
    refine ww wgb ?_
    unfold whb
    (repeat' (first | (simp -implicitDefEqProofs (maxSteps := 2000000) (disch := first | with_reducible assumption | omega | (simp only [zS, zA, Nat.reduceEqDiff, Nat.reduceLT, Nat.reduceLeDiff, Nat.reduceAdd, Nat.reduceSub, reduceCtorEq, zD] <;> omega) | fail) only [zS, argl, insA, Go.Den.wm, wo, wu, looks, wfb, web, idOf, riA, Nat.reduceLeDiff, Nat.reduceLT, Nat.reduceEqDiff, Nat.reduceDiv, Nat.reduceMod, Int.reduceLT, Int.reduceLE, Int.reduceEq, Int.reduceNeg, Int.reduceToNat, Int.reduceSub, Int.reduceMul, Int.reduceNe, Nat.reduceAdd, Nat.reduceMul, Nat.reduceSub, Int.reduceAdd, reduceCtorEq, Go.Den.wh, kK, wdb, wmb, wrb, *, zT]) | (with_reducible (first | apply z1 | apply z2 | apply z3 | apply z4) <;> intro hq <;> (try simp only [zH] at hq) <;> (try (exfalso; omega)))))
  | succ k ih =>
    intro i l hi hi2 hl hne
    rw [wic]
    by_cases hq : i + t.length ≤ s.length
    · rw [if_pos hq, wzo hq]
      have e1 : ((i : Int) + t.length).toNat = i + t.length := by omega
      by_cases hst : (s.take (i + t.length)).drop i = t
      · rw [decide_eq_true hst, if_pos rfl, wvs]
        have h := ih (i + t.length) (l ++ [(i : Int)]) (by omega) (by omega) (by rw [List.length_append, List.length_singleton]; omega) (by simp)
        rw [List.append_assoc, List.singleton_append] at h
        generalize l ++ ((i : Int) :: zs (wic s t k (i + t.length))) = L at h ⊢
        rw [wml, List.length_append, List.length_singleton] at h
        have e2 : (i : Int) + t.length - 1 + 1 = ((i + t.length : Nat) : Int) := by omega
        clear ih
        refine ww wgb ?_
        unfold whb
        (repeat' (first | (simp -implicitDefEqProofs (maxSteps := 2000000) (disch := first | with_reducible assumption | omega | (simp only [zS, zA, Nat.reduceEqDiff, Nat.reduceLT, Nat.reduceLeDiff, Nat.reduceAdd, Nat.reduceSub, reduceCtorEq, wqb, zD] <;> omega) | fail) only [zS, argl, insA, Go.Den.wm, wo, wu, looks, wfb, web, idOf, riA, Nat.reduceLeDiff, Nat.reduceLT, Nat.reduceEqDiff, Nat.reduceDiv, Nat.reduceMod, Int.reduceLT, Int.reduceLE, Int.reduceEq, Int.reduceNeg, Int.reduceToNat, Int.reduceSub, Int.reduceMul, Int.reduceNe, Nat.reduceAdd, Nat.reduceMul, Nat.reduceSub, Int.reduceAdd, reduceCtorEq, Go.Den.wh, kK, wdb, wmb, wrb, wqb, *, zT]) | (with_reducible (first | apply z1 | apply z2 | apply z3 | apply z4) <;> intro hq <;> (try simp only [zH] at hq) <;> (try (exfalso; omega)))))
        all_goals exact h
      · rw [decide_eq_false hst, if_neg (by simp)]
        have h := ih (i + 1) l (by omega) (by omega) (by omega) hne
        generalize l ++ zs (wic s t k (i + 1)) = L at h ⊢
        clear ih
        refine ww wgb ?_
        unfold whb
        (repeat' (first | (simp -implicitDefEqProofs (maxSteps := 2000000) (disch := first | with_reducible assumption | omega | (simp only [zS, zA, Nat.reduceEqDiff, Nat.reduceLT, Nat.reduceLeDiff, Nat.reduceAdd, Nat.reduceSub, reduceCtorEq, wqb, zD] <;> omega) | fail) only [zS, argl, insA, Go.Den.wm, wo, wu, looks, wfb, web, idOf, riA, Nat.reduceLeDiff, Nat.reduceLT, Nat.reduceEqDiff, Nat.reduceDiv, Nat.reduceMod, Int.reduceLT, Int.reduceLE, Int.reduceEq, Int.reduceNeg, Int.reduceToNat, Int.reduceSub, Int.reduceMul, Int.reduceNe, Nat.reduceAdd, Nat.reduceMul, Nat.reduceSub, Int.reduceAdd, reduceCtorEq, Go.Den.wh, kK, wdb, wmb, wrb, wqb, *, zT]) | (with_reducible (first | apply z1 | apply z2 | apply z3 | apply z4) <;> intro hq <;> (try simp only [zH] at hq) <;> (try (exfalso; omega)))))
        all_goals exact h
    · rw [if_neg hq, wco, List.append_nil]
      clear ih
      refine ww wgb ?_
      unfold whb
      (repeat' (first | (simp -implicitDefEqProofs (maxSteps := 2000000) (disch := first | with_reducible assumption | omega | (simp only [zS, zA, Nat.reduceEqDiff, Nat.reduceLT, Nat.reduceLeDiff, Nat.reduceAdd, Nat.reduceSub, reduceCtorEq, zD] <;> omega) | fail) only [zS, argl, insA, Go.Den.wm, wo, wu, looks, wfb, web, idOf, riA, Nat.reduceLeDiff, Nat.reduceLT, Nat.reduceEqDiff, Nat.reduceDiv, Nat.reduceMod, Int.reduceLT, Int.reduceLE, Int.reduceEq, Int.reduceNeg, Int.reduceToNat, Int.reduceSub, Int.reduceMul, Int.reduceNe, Nat.reduceAdd, Nat.reduceMul, Nat.reduceSub, Int.reduceAdd, reduceCtorEq, Go.Den.wh, kK, wdb, wmb, wrb, *, zT]) | (with_reducible (first | apply z1 | apply z2 | apply z3 | apply z4) <;> intro hq <;> (try simp only [zH] at hq) <;> (try (exfalso; omega)))))
set_option maxHeartbeats 2000000 in
theorem ft_wB (s t : List UInt8) (hs : s.length ≤ 12) (ht : 0 < t.length) (ht2 : t.length ≤ 2) (n : Nat) (c : List Value) : ∀ (k i : Nat) (l : List Int), s.length + 1 ≤ i + k → i ≤ s.length + 1 → l.length ≤ i → l ≠ [] →
    lim Try.prog cfg (.loop 8 0 (wz 1) (SE (EJ 128 G0) [(11, .int .i64 i), (10, FO 1 l.length (ints l)), (9, ftP), (6, str t), (5, str s)])) (HP [X (rxF 2 n c) 47 0 false, .tok l.length 3 1, .tok n 47 9]) = some (.code (.exit 2) (SE (EJ 128 G0) [(10, FO 1 (l ++ zs (wic s t k i)).length (ints (l ++ zs (wic s t k i)))), (9, ftP), (6, str t), (5, str s)]), HP [X (rxF 2 n c) 47 0 false, .tok (l ++ zs (wic s t k i)).length 3 1, .tok n 47 9]) := by
  intro k
  induction k with
  | zero =>
    intro i l hi hi2 hl hne
    rw [wic, wco, List.append_nil]
    refine ww wgb ?_
    unfold whb
    (repeat' (first | (simp -implicitDefEqProofs (maxSteps := 2000000) (disch := first | with_reducible assumption | omega | (simp only [zS, zA, Nat.reduceEqDiff, Nat.reduceLT, Nat.reduceLeDiff, Nat.reduceAdd, Nat.reduceSub, reduceCtorEq, zD] <;> omega) | fail) only [zS, argl, insA, Go.Den.wm, wo, wu, looks, wfb, web, idOf, riA, Nat.reduceLeDiff, Nat.reduceLT, Nat.reduceEqDiff, Nat.reduceDiv, Nat.reduceMod, Int.reduceLT, Int.reduceLE, Int.reduceEq, Int.reduceNeg, Int.reduceToNat, Int.reduceSub, Int.reduceMul, Int.reduceNe, Nat.reduceAdd, Nat.reduceMul, Nat.reduceSub, Int.reduceAdd, reduceCtorEq, Go.Den.wh, kK, wdb, wmb, wrb, rxF, *, zT]) | (with_reducible (first | apply z1 | apply z2 | apply z3 | apply z4) <;> intro hq <;> (try simp only [zH] at hq) <;> (try (exfalso; omega)))))
  | succ k ih =>
    intro i l hi hi2 hl hne
    rw [wic]
    by_cases hq : i + t.length ≤ s.length
    · rw [if_pos hq, wzo hq]
      have e1 : ((i : Int) + t.length).toNat = i + t.length := by omega
      by_cases hst : (s.take (i + t.length)).drop i = t
      · rw [decide_eq_true hst, if_pos rfl, wvs]
        have h := ih (i + t.length) (l ++ [(i : Int)]) (by omega) (by omega) (by rw [List.length_append, List.length_singleton]; omega) (by simp)
        rw [List.append_assoc, List.singleton_append] at h
        generalize l ++ ((i : Int) :: zs (wic s t k (i + t.length))) = L at h ⊢
        rw [wml, List.length_append, List.length_singleton] at h
        have e2 : (i : Int) + t.length - 1 + 1 = ((i + t.length : Nat) : Int) := by omega
        clear ih
        refine ww wgb ?_
        unfold whb
        (repeat' (first | (simp -implicitDefEqProofs (maxSteps := 2000000) (disch := first | with_reducible assumption | omega | (simp only [zS, zA, Nat.reduceEqDiff, Nat.reduceLT, Nat.reduceLeDiff, Nat.reduceAdd, Nat.reduceSub, reduceCtorEq, wqb, zD] <;> omega) | fail) only [zS, argl, insA, Go.Den.wm, wo, wu, looks, wfb, web, idOf, riA, Nat.reduceLeDiff, Nat.reduceLT, Nat.reduceEqDiff, Nat.reduceDiv, Nat.reduceMod, Int.reduceLT, Int.reduceLE, Int.reduceEq, Int.reduceNeg, Int.reduceToNat, Int.reduceSub, Int.reduceMul, Int.reduceNe, Nat.reduceAdd, Nat.reduceMul, Nat.reduceSub, Int.reduceAdd, reduceCtorEq, Go.Den.wh, kK, wdb, wmb, wrb, wqb, rxF, *, zT]) | (with_reducible (first | apply z1 | apply z2 | apply z3 | apply z4) <;> intro hq <;> (try simp only [zH] at hq) <;> (try (exfalso; omega)))))
        all_goals exact h
      · rw [decide_eq_false hst, if_neg (by simp)]
        have h := ih (i + 1) l (by omega) (by omega) (by omega) hne
        generalize l ++ zs (wic s t k (i + 1)) = L at h ⊢
        clear ih
        refine ww wgb ?_
        unfold whb
        (repeat' (first | (simp -implicitDefEqProofs (maxSteps := 2000000) (disch := first | with_reducible assumption | omega | (simp only [zS, zA, Nat.reduceEqDiff, Nat.reduceLT, Nat.reduceLeDiff, Nat.reduceAdd, Nat.reduceSub, reduceCtorEq, wqb, zD] <;> omega) | fail) only [zS, argl, insA, Go.Den.wm, wo, wu, looks, wfb, web, idOf, riA, Nat.reduceLeDiff, Nat.reduceLT, Nat.reduceEqDiff, Nat.reduceDiv, Nat.reduceMod, Int.reduceLT, Int.reduceLE, Int.reduceEq, Int.reduceNeg, Int.reduceToNat, Int.reduceSub, Int.reduceMul, Int.reduceNe, Nat.reduceAdd, Nat.reduceMul, Nat.reduceSub, Int.reduceAdd, reduceCtorEq, Go.Den.wh, kK, wdb, wmb, wrb, wqb, rxF, *, zT]) | (with_reducible (first | apply z1 | apply z2 | apply z3 | apply z4) <;> intro hq <;> (try simp only [zH] at hq) <;> (try (exfalso; omega)))))
        all_goals exact h
    · rw [if_neg hq, wco, List.append_nil]
      clear ih
      refine ww wgb ?_
      unfold whb
      (repeat' (first | (simp -implicitDefEqProofs (maxSteps := 2000000) (disch := first | with_reducible assumption | omega | (simp only [zS, zA, Nat.reduceEqDiff, Nat.reduceLT, Nat.reduceLeDiff, Nat.reduceAdd, Nat.reduceSub, reduceCtorEq, zD] <;> omega) | fail) only [zS, argl, insA, Go.Den.wm, wo, wu, looks, wfb, web, idOf, riA, Nat.reduceLeDiff, Nat.reduceLT, Nat.reduceEqDiff, Nat.reduceDiv, Nat.reduceMod, Int.reduceLT, Int.reduceLE, Int.reduceEq, Int.reduceNeg, Int.reduceToNat, Int.reduceSub, Int.reduceMul, Int.reduceNe, Nat.reduceAdd, Nat.reduceMul, Nat.reduceSub, Int.reduceAdd, reduceCtorEq, Go.Den.wh, kK, wdb, wmb, wrb, rxF, *, zT]) | (with_reducible (first | apply z1 | apply z2 | apply z3 | apply z4) <;> intro hq <;> (try simp only [zH] at hq) <;> (try (exfalso; omega)))))
def ftA (r : Rx) (L : List Int) : List ABlk := if L = [] then [X (rxC r) 47 0 false] else [X (rxC r) 47 0 false, .tok L.length 3 1]
def ftB (n : Nat) (c : List Value) (L : List Int) : List ABlk := if L = [] then [X (rxF 1 n c) 47 0 false, .tok n 47 9] else [X (rxF 2 n c) 47 0 false, .tok L.length 3 1, .tok n 47 9]
theorem wndc {r : Rx} : ftA r [] = [X (rxC r) 47 0 false] := rfl
theorem ftA_ne {r : Rx} {L : List Int} (h : L ≠ []) : ftA r L = [X (rxC r) 47 0 false, .tok L.length 3 1] := by unfold ftA; rw [if_neg h]
theorem wodc {n : Nat} {c : List Value} : ftB n c [] = [X (rxF 1 n c) 47 0 false, .tok n 47 9] := rfl
theorem ftB_ne {n : Nat} {c : List Value} {L : List Int} (h : L ≠ []) : ftB n c L = [X (rxF 2 n c) 47 0 false, .tok L.length 3 1, .tok n 47 9] := by unfold ftB; rw [if_neg h]
theorem wnz {t : Nat} : ftV t [] = .slice none 0 0 := rfl
theorem wtk {x : Int} : ints [x] = [.int .i64 x] := rfl
set_option maxHeartbeats 2000000 in
theorem ft_wNA (s t : List UInt8) (hs : s.length ≤ 12) (ht : 0 < t.length) (ht2 : t.length ≤ 2) (r : Rx) : ∀ (k i : Nat), s.length + 1 ≤ i + k → i ≤ s.length + 1 →
    lim Try.prog cfg (.loop 8 0 (wz 1) (SE (EJ 128 G0) [(11, .int .i64 i), (10, .slice none 0 0), (9, ftP), (6, str t), (5, str s)])) (HP [X (rxC r) 47 0 false]) = some (.code (.exit 2) (SE (EJ 128 G0) [(10, ftV 1 (zs (wic s t k i))), (9, ftP), (6, str t), (5, str s)]), HP (ftA r (zs (wic s t k i)))) := by
  intro k
  induction k with
  | zero =>
    intro i hi hi2
    rw [wic, wco, wnz, wndc]
    refine ww wgb ?_
    unfold whb
    (repeat' (first | (simp -implicitDefEqProofs (maxSteps := 2000000) (disch := first | with_reducible assumption | omega | (simp only [zS, zA, Nat.reduceEqDiff, Nat.reduceLT, Nat.reduceLeDiff, Nat.reduceAdd, Nat.reduceSub, reduceCtorEq, zD] <;> omega) | fail) only [zS, argl, insA, Go.Den.wm, wo, wu, looks, wfb, web, idOf, riA, Nat.reduceLeDiff, Nat.reduceLT, Nat.reduceEqDiff, Nat.reduceDiv, Nat.reduceMod, Int.reduceLT, Int.reduceLE, Int.reduceEq, Int.reduceNeg, Int.reduceToNat, Int.reduceSub, Int.reduceMul, Int.reduceNe, Nat.reduceAdd, Nat.reduceMul, Nat.reduceSub, Int.reduceAdd, reduceCtorEq, Go.Den.wh, kK, wdb, wmb, wrb, *, zT]) | (with_reducible (first | apply z1 | apply z2 | apply z3 | apply z4) <;> intro hq <;> (try simp only [zH] at hq) <;> (try (exfalso; omega)))))
  | succ k ih =>
    intro i hi hi2
    rw [wic]
    by_cases hq : i + t.length ≤ s.length
    · rw [if_pos hq, wzo hq]
      have e1 : ((i : Int) + t.length).toNat = i + t.length := by omega
      by_cases hst : (s.take (i + t.length)).drop i = t
      · rw [decide_eq_true hst, if_pos rfl, wvs, wqnb (by simp), ftA_ne (by simp)]
        by_cases h0 : i = 0
        · have h := ft_wA s t hs ht ht2 r k (i + t.length) [(i : Int)] (by omega) (by omega) (by rw [List.length_singleton]; omega) (by simp)
          rw [List.singleton_append] at h
          generalize ((i : Int) :: zs (wic s t k (i + t.length))) = L at h ⊢
          rw [wtk, List.length_singleton] at h
          have e2 : (i : Int) + t.length - 1 + 1 = ((i + t.length : Nat) : Int) := by omega
          clear ih
          clear h0
          refine ww wgb ?_
          unfold whb
          (repeat' (first | (simp -implicitDefEqProofs (maxSteps := 2000000) (disch := first | with_reducible assumption | omega | (simp only [zS, zA, Nat.reduceEqDiff, Nat.reduceLT, Nat.reduceLeDiff, Nat.reduceAdd, Nat.reduceSub, reduceCtorEq, wqb, zD] <;> omega) | fail) only [zS, argl, insA, Go.Den.wm, wo, wu, looks, wfb, web, idOf, riA, Nat.reduceLeDiff, Nat.reduceLT, Nat.reduceEqDiff, Nat.reduceDiv, Nat.reduceMod, Int.reduceLT, Int.reduceLE, Int.reduceEq, Int.reduceNeg, Int.reduceToNat, Int.reduceSub, Int.reduceMul, Int.reduceNe, Nat.reduceAdd, Nat.reduceMul, Nat.reduceSub, Int.reduceAdd, reduceCtorEq, Go.Den.wh, kK, wdb, wmb, wrb, wqb, *, zT]) | (with_reducible (first | apply z1 | apply z2 | apply z3 | apply z4) <;> intro hq <;> (try simp only [zH] at hq) <;> (try (exfalso; omega)))))
          all_goals exact h
        · have h := ft_wA s t hs ht ht2 r k (i + t.length) [(i : Int)] (by omega) (by omega) (by rw [List.length_singleton]; omega) (by simp)
          rw [List.singleton_append] at h
          generalize ((i : Int) :: zs (wic s t k (i + t.length))) = L at h ⊢
          rw [wtk, List.length_singleton] at h
          have e2 : (i : Int) + t.length - 1 + 1 = ((i + t.length : Nat) : Int) := by omega
          clear ih
          clear h0
          refine ww wgb ?_
          unfold whb
          (repeat' (first | (simp -implicitDefEqProofs (maxSteps := 2000000) (disch := first | with_reducible assumption | omega | (simp only [zS, zA, Nat.reduceEqDiff, Nat.reduceLT, Nat.reduceLeDiff, Nat.reduceAdd, Nat.reduceSub, reduceCtorEq, wqb, zD] <;> omega) | fail) only [zS, argl, insA, Go.Den.wm, wo, wu, looks, wfb, web, idOf, riA, Nat.reduceLeDiff, Nat.reduceLT, Nat.reduceEqDiff, Nat.reduceDiv, Nat.reduceMod, Int.reduceLT, Int.reduceLE, Int.reduceEq, Int.reduceNeg, Int.reduceToNat, Int.reduceSub, Int.reduceMul, Int.reduceNe, Nat.reduceAdd, Nat.reduceMul, Nat.reduceSub, Int.reduceAdd, reduceCtorEq, Go.Den.wh, kK, wdb, wmb, wrb, wqb, *, zT]) | (with_reducible (first | apply z1 | apply z2 | apply z3 | apply z4) <;> intro hq <;> (try simp only [zH] at hq) <;> (try (exfalso; omega)))))
          all_goals exact h
      · rw [decide_eq_false hst, if_neg (by simp)]
        have h := ih (i + 1) (by omega) (by omega)
        generalize ftV 1 (zs (wic s t k (i + 1))) = L at h ⊢
        generalize ftA r (zs (wic s t k (i + 1))) = M at h ⊢
        clear ih
        refine ww wgb ?_
        unfold whb
        (repeat' (first | (simp -implicitDefEqProofs (maxSteps := 2000000) (disch := first | with_reducible assumption | omega | (simp only [zS, zA, Nat.reduceEqDiff, Nat.reduceLT, Nat.reduceLeDiff, Nat.reduceAdd, Nat.reduceSub, reduceCtorEq, wqb, zD] <;> omega) | fail) only [zS, argl, insA, Go.Den.wm, wo, wu, looks, wfb, web, idOf, riA, Nat.reduceLeDiff, Nat.reduceLT, Nat.reduceEqDiff, Nat.reduceDiv, Nat.reduceMod, Int.reduceLT, Int.reduceLE, Int.reduceEq, Int.reduceNeg, Int.reduceToNat, Int.reduceSub, Int.reduceMul, Int.reduceNe, Nat.reduceAdd, Nat.reduceMul, Nat.reduceSub, Int.reduceAdd, reduceCtorEq, Go.Den.wh, kK, wdb, wmb, wrb, wqb, *, zT]) | (with_reducible (first | apply z1 | apply z2 | apply z3 | apply z4) <;> intro hq <;> (try simp only [zH] at hq) <;> (try (exfalso; omega)))))
        all_goals exact h
    · rw [if_neg hq, wco, wnz, wndc]
      clear ih
      refine ww wgb ?_
      unfold whb
      (repeat' (first | (simp -implicitDefEqProofs (maxSteps := 2000000) (disch := first | with_reducible assumption | omega | (simp only [zS, zA, Nat.reduceEqDiff, Nat.reduceLT, Nat.reduceLeDiff, Nat.reduceAdd, Nat.reduceSub, reduceCtorEq, zD] <;> omega) | fail) only [zS, argl, insA, Go.Den.wm, wo, wu, looks, wfb, web, idOf, riA, Nat.reduceLeDiff, Nat.reduceLT, Nat.reduceEqDiff, Nat.reduceDiv, Nat.reduceMod, Int.reduceLT, Int.reduceLE, Int.reduceEq, Int.reduceNeg, Int.reduceToNat, Int.reduceSub, Int.reduceMul, Int.reduceNe, Nat.reduceAdd, Nat.reduceMul, Nat.reduceSub, Int.reduceAdd, reduceCtorEq, Go.Den.wh, kK, wdb, wmb, wrb, *, zT]) | (with_reducible (first | apply z1 | apply z2 | apply z3 | apply z4) <;> intro hq <;> (try simp only [zH] at hq) <;> (try (exfalso; omega)))))
set_option maxHeartbeats 2000000 in
theorem ft_wNB (s t : List UInt8) (hs : s.length ≤ 12) (ht : 0 < t.length) (ht2 : t.length ≤ 2) (n : Nat) (c : List Value) : ∀ (k i : Nat), s.length + 1 ≤ i + k → i ≤ s.length + 1 →
    lim Try.prog cfg (.loop 8 0 (wz 1) (SE (EJ 128 G0) [(11, .int .i64 i), (10, .slice none 0 0), (9, ftP), (6, str t), (5, str s)])) (HP [X (rxF 1 n c) 47 0 false, .tok n 47 9]) = some (.code (.exit 2) (SE (EJ 128 G0) [(10, ftV 1 (zs (wic s t k i))), (9, ftP), (6, str t), (5, str s)]), HP (ftB n c (zs (wic s t k i)))) := by
  intro k
  induction k with
  | zero =>
    intro i hi hi2
    rw [wic, wco, wnz, wodc]
    refine ww wgb ?_
    unfold whb
    (repeat' (first | (simp -implicitDefEqProofs (maxSteps := 2000000) (disch := first | with_reducible assumption | omega | (simp only [zS, zA, Nat.reduceEqDiff, Nat.reduceLT, Nat.reduceLeDiff, Nat.reduceAdd, Nat.reduceSub, reduceCtorEq, zD] <;> omega) | fail) only [zS, argl, insA, Go.Den.wm, wo, wu, looks, wfb, web, idOf, riA, Nat.reduceLeDiff, Nat.reduceLT, Nat.reduceEqDiff, Nat.reduceDiv, Nat.reduceMod, Int.reduceLT, Int.reduceLE, Int.reduceEq, Int.reduceNeg, Int.reduceToNat, Int.reduceSub, Int.reduceMul, Int.reduceNe, Nat.reduceAdd, Nat.reduceMul, Nat.reduceSub, Int.reduceAdd, reduceCtorEq, Go.Den.wh, kK, wdb, wmb, wrb, rxF, *, zT]) | (with_reducible (first | apply z1 | apply z2 | apply z3 | apply z4) <;> intro hq <;> (try simp only [zH] at hq) <;> (try (exfalso; omega)))))
  | succ k ih =>
    intro i hi hi2
    rw [wic]
    by_cases hq : i + t.length ≤ s.length
    · rw [if_pos hq, wzo hq]
      have e1 : ((i : Int) + t.length).toNat = i + t.length := by omega
      by_cases hst : (s.take (i + t.length)).drop i = t
      · rw [decide_eq_true hst, if_pos rfl, wvs, wqnb (by simp), ftB_ne (by simp)]
        by_cases h0 : i = 0
        · have h := ft_wB s t hs ht ht2 n c k (i + t.length) [(i : Int)] (by omega) (by omega) (by rw [List.length_singleton]; omega) (by simp)
          rw [List.singleton_append] at h
          generalize ((i : Int) :: zs (wic s t k (i + t.length))) = L at h ⊢
          rw [wtk, List.length_singleton] at h
          have e2 : (i : Int) + t.length - 1 + 1 = ((i + t.length : Nat) : Int) := by omega
          clear ih
          clear h0
          refine ww wgb ?_
          unfold whb
          (repeat' (first | (simp -implicitDefEqProofs (maxSteps := 2000000) (disch := first | with_reducible assumption | omega | (simp only [zS, zA, Nat.reduceEqDiff, Nat.reduceLT, Nat.reduceLeDiff, Nat.reduceAdd, Nat.reduceSub, reduceCtorEq, wqb, zD] <;> omega) | fail) only [zS, argl, insA, Go.Den.wm, wo, wu, looks, wfb, web, idOf, riA, Nat.reduceLeDiff, Nat.reduceLT, Nat.reduceEqDiff, Nat.reduceDiv, Nat.reduceMod, Int.reduceLT, Int.reduceLE, Int.reduceEq, Int.reduceNeg, Int.reduceToNat, Int.reduceSub, Int.reduceMul, Int.reduceNe, Nat.reduceAdd, Nat.reduceMul, Nat.reduceSub, Int.reduceAdd, reduceCtorEq, Go.Den.wh, kK, wdb, wmb, wrb, wqb, rxF, *, zT]) | (with_reducible (first | apply z1 | apply z2 | apply z3 | apply z4) <;> intro hq <;> (try simp only [zH] at hq) <;> (try (exfalso; omega)))))
          all_goals exact h
        · have h := ft_wB s t hs ht ht2 n c k (i + t.length) [(i : Int)] (by omega) (by omega) (by rw [List.length_singleton]; omega) (by simp)
          rw [List.singleton_append] at h
          generalize ((i : Int) :: zs (wic s t k (i + t.length))) = L at h ⊢
          rw [wtk, List.length_singleton] at h
          have e2 : (i : Int) + t.length - 1 + 1 = ((i + t.length : Nat) : Int) := by omega
          clear ih
          clear h0
          refine ww wgb ?_
          unfold whb
          (repeat' (first | (simp -implicitDefEqProofs (maxSteps := 2000000) (disch := first | with_reducible assumption | omega | (simp only [zS, zA, Nat.reduceEqDiff, Nat.reduceLT, Nat.reduceLeDiff, Nat.reduceAdd, Nat.reduceSub, reduceCtorEq, wqb, zD] <;> omega) | fail) only [zS, argl, insA, Go.Den.wm, wo, wu, looks, wfb, web, idOf, riA, Nat.reduceLeDiff, Nat.reduceLT, Nat.reduceEqDiff, Nat.reduceDiv, Nat.reduceMod, Int.reduceLT, Int.reduceLE, Int.reduceEq, Int.reduceNeg, Int.reduceToNat, Int.reduceSub, Int.reduceMul, Int.reduceNe, Nat.reduceAdd, Nat.reduceMul, Nat.reduceSub, Int.reduceAdd, reduceCtorEq, Go.Den.wh, kK, wdb, wmb, wrb, wqb, rxF, *, zT]) | (with_reducible (first | apply z1 | apply z2 | apply z3 | apply z4) <;> intro hq <;> (try simp only [zH] at hq) <;> (try (exfalso; omega)))))
          all_goals exact h
      · rw [decide_eq_false hst, if_neg (by simp)]
        have h := ih (i + 1) (by omega) (by omega)
        generalize ftV 1 (zs (wic s t k (i + 1))) = L at h ⊢
        generalize ftB n c (zs (wic s t k (i + 1))) = M at h ⊢
        clear ih
        refine ww wgb ?_
        unfold whb
        (repeat' (first | (simp -implicitDefEqProofs (maxSteps := 2000000) (disch := first | with_reducible assumption | omega | (simp only [zS, zA, Nat.reduceEqDiff, Nat.reduceLT, Nat.reduceLeDiff, Nat.reduceAdd, Nat.reduceSub, reduceCtorEq, wqb, zD] <;> omega) | fail) only [zS, argl, insA, Go.Den.wm, wo, wu, looks, wfb, web, idOf, riA, Nat.reduceLeDiff, Nat.reduceLT, Nat.reduceEqDiff, Nat.reduceDiv, Nat.reduceMod, Int.reduceLT, Int.reduceLE, Int.reduceEq, Int.reduceNeg, Int.reduceToNat, Int.reduceSub, Int.reduceMul, Int.reduceNe, Nat.reduceAdd, Nat.reduceMul, Nat.reduceSub, Int.reduceAdd, reduceCtorEq, Go.Den.wh, kK, wdb, wmb, wrb, wqb, rxF, *, zT]) | (with_reducible (first | apply z1 | apply z2 | apply z3 | apply z4) <;> intro hq <;> (try simp only [zH] at hq) <;> (try (exfalso; omega)))))
        all_goals exact h
    · rw [if_neg hq, wco, wnz, wodc]
      clear ih
      refine ww wgb ?_
      unfold whb
      (repeat' (first | (simp -implicitDefEqProofs (maxSteps := 2000000) (disch := first | with_reducible assumption | omega | (simp only [zS, zA, Nat.reduceEqDiff, Nat.reduceLT, Nat.reduceLeDiff, Nat.reduceAdd, Nat.reduceSub, reduceCtorEq, zD] <;> omega) | fail) only [zS, argl, insA, Go.Den.wm, wo, wu, looks, wfb, web, idOf, riA, Nat.reduceLeDiff, Nat.reduceLT, Nat.reduceEqDiff, Nat.reduceDiv, Nat.reduceMod, Int.reduceLT, Int.reduceLE, Int.reduceEq, Int.reduceNeg, Int.reduceToNat, Int.reduceSub, Int.reduceMul, Int.reduceNe, Nat.reduceAdd, Nat.reduceMul, Nat.reduceSub, Int.reduceAdd, reduceCtorEq, Go.Den.wh, kK, wdb, wmb, wrb, rxF, *, zT]) | (with_reducible (first | apply z1 | apply z2 | apply z3 | apply z4) <;> intro hq <;> (try simp only [zH] at hq) <;> (try (exfalso; omega)))))
def rxN : List Value := [.int .i64 2, .int .i64 0, .int .i64 0, .int .i64 0, .int .u64 0, .int .u64 0, .int .u64 0, .int .u64 0, .slice none 0 0]
theorem ft_w0 (s : List UInt8) : lim Try.prog cfg (.loop 8 0 (wz 1) (SE (EJ 128 G0) [(11, .int .i64 0), (10, .slice none 0 0), (9, ftP), (6, str []), (5, str s)])) (HP [X rxN 47 0 false]) = some (.code (.exit 2) (SE (EJ 128 G0) [(10, .slice none 0 0), (9, ftP), (6, str []), (5, str s)]), HP [X rxN 47 0 false]) := by
  refine ww wgb ?_
  unfold whb
  (repeat' (first | (simp -implicitDefEqProofs (maxSteps := 2000000) (disch := first | with_reducible assumption | omega | (simp only [zS, zA, Nat.reduceEqDiff, Nat.reduceLT, Nat.reduceLeDiff, Nat.reduceAdd, Nat.reduceSub, reduceCtorEq, zD] <;> omega) | fail) only [zS, argl, insA, Go.Den.wm, wo, wu, looks, wfb, web, idOf, riA, Nat.reduceLeDiff, Nat.reduceLT, Nat.reduceEqDiff, Nat.reduceDiv, Nat.reduceMod, Int.reduceLT, Int.reduceLE, Int.reduceEq, Int.reduceNeg, Int.reduceToNat, Int.reduceSub, Int.reduceMul, Int.reduceNe, Nat.reduceAdd, Nat.reduceMul, Nat.reduceSub, Int.reduceAdd, reduceCtorEq, Go.Den.wh, kK, wdb, wmb, wrb, rxN, *, zT]) | (with_reducible (first | apply z1 | apply z2 | apply z3 | apply z4) <;> intro hq <;> (try simp only [zH] at hq) <;> (try (exfalso; omega)))))
theorem ft_z (s : List UInt8) (hs : s.length ≤ 12) : ∀ (k i : Nat) (l : List Int), i + k = s.length + 1 → l.length ≤ i → l ≠ [] →
    lim Try.prog cfg (.loop 8 0 (wz 2) (SE (EJ 128 G0) [(12, .int .i64 i), (10, FO 1 l.length (ints l)), (9, ftP), (6, str []), (5, str s)])) (HP [X rxN 47 0 false, .tok l.length 3 1]) = some (.code (.exit 4) (SE (EJ 128 G0) [(10, FO 1 (l ++ zs (List.range' i k)).length (ints (l ++ zs (List.range' i k)))), (9, ftP), (6, str []), (5, str s)]), HP [X rxN 47 0 false, .tok (l ++ zs (List.range' i k)).length 3 1]) := by
  intro k
  induction k with
  | zero =>
    intro i l hi hl hne
    rw [List.range'_zero, wco, List.append_nil]
    refine ww wue ?_
    unfold wge
    (repeat' (first | (simp -implicitDefEqProofs (maxSteps := 2000000) (disch := first | with_reducible assumption | omega | (simp only [zS, zA, Nat.reduceEqDiff, Nat.reduceLT, Nat.reduceLeDiff, Nat.reduceAdd, Nat.reduceSub, reduceCtorEq, zD] <;> omega) | fail) only [zS, argl, insA, Go.Den.wm, wo, wu, looks, wfb, web, idOf, riA, Nat.reduceLeDiff, Nat.reduceLT, Nat.reduceEqDiff, Nat.reduceDiv, Nat.reduceMod, Int.reduceLT, Int.reduceLE, Int.reduceEq, Int.reduceNeg, Int.reduceToNat, Int.reduceSub, Int.reduceMul, Int.reduceNe, Nat.reduceAdd, Nat.reduceMul, Nat.reduceSub, Int.reduceAdd, reduceCtorEq, Go.Den.wh, kK, wpc, wmb, wrb, rxN, *, zT]) | (with_reducible (first | apply z1 | apply z2 | apply z3 | apply z4) <;> intro hq <;> (try simp only [zH] at hq) <;> (try (exfalso; omega)))))
  | succ k ih =>
    intro i l hi hl hne
    have h := ih (i + 1) (l ++ [(i : Int)]) (by omega) (by rw [List.length_append, List.length_singleton]; omega) (by simp)
    rw [List.range'_succ, wvs]
    rw [List.append_assoc, List.singleton_append] at h
    generalize l ++ ((i : Int) :: zs (List.range' (i + 1) k)) = L at h ⊢
    rw [wml, List.length_append, List.length_singleton] at h
    clear ih
    refine ww wue ?_
    unfold wge
    (repeat' (first | (simp -implicitDefEqProofs (maxSteps := 2000000) (disch := first | with_reducible assumption | omega | (simp only [zS, zA, Nat.reduceEqDiff, Nat.reduceLT, Nat.reduceLeDiff, Nat.reduceAdd, Nat.reduceSub, reduceCtorEq, wqb, zD] <;> omega) | fail) only [zS, argl, insA, Go.Den.wm, wo, wu, looks, wfb, web, idOf, riA, Nat.reduceLeDiff, Nat.reduceLT, Nat.reduceEqDiff, Nat.reduceDiv, Nat.reduceMod, Int.reduceLT, Int.reduceLE, Int.reduceEq, Int.reduceNeg, Int.reduceToNat, Int.reduceSub, Int.reduceMul, Int.reduceNe, Nat.reduceAdd, Nat.reduceMul, Nat.reduceSub, Int.reduceAdd, reduceCtorEq, Go.Den.wh, kK, wpc, wmb, wrb, wqb, rxN, *, zT]) | (with_reducible (first | apply z1 | apply z2 | apply z3 | apply z4) <;> intro hq <;> (try simp only [zH] at hq) <;> (try (exfalso; omega)))))
    all_goals exact h
theorem ft_zN (s : List UInt8) (hs : s.length ≤ 12) :
    lim Try.prog cfg (.loop 8 0 (wz 2) (SE (EJ 128 G0) [(12, .int .i64 0), (10, .slice none 0 0), (9, ftP), (6, str []), (5, str s)])) (HP [X rxN 47 0 false]) = some (.code (.exit 4) (SE (EJ 128 G0) [(10, FO 1 (zs (List.range' 0 (s.length + 1))).length (ints (zs (List.range' 0 (s.length + 1))))), (9, ftP), (6, str []), (5, str s)]), HP [X rxN 47 0 false, .tok (zs (List.range' 0 (s.length + 1))).length 3 1]) := by
  have h := ft_z s hs s.length 1 [0] (by omega) (by simp) (by simp)
  rw [List.range'_succ, wvs]
  rw [List.singleton_append] at h
  rw [show ((0 : Nat) : Int) = 0 from rfl, Nat.zero_add]
  generalize ((0 : Int) :: zs (List.range' 1 s.length)) = L at h ⊢
  rw [wtk, List.length_singleton] at h
  rw [show ((1 : Nat) : Int) = 1 from rfl] at h
  refine ww wue ?_
  unfold wge
  (repeat' (first | (simp -implicitDefEqProofs (maxSteps := 2000000) (disch := first | with_reducible assumption | omega | (simp only [zS, zA, Nat.reduceEqDiff, Nat.reduceLT, Nat.reduceLeDiff, Nat.reduceAdd, Nat.reduceSub, reduceCtorEq, wqb, zD] <;> omega) | fail) only [zS, argl, insA, Go.Den.wm, wo, wu, looks, wfb, web, idOf, riA, Nat.reduceLeDiff, Nat.reduceLT, Nat.reduceEqDiff, Nat.reduceDiv, Nat.reduceMod, Int.reduceLT, Int.reduceLE, Int.reduceEq, Int.reduceNeg, Int.reduceToNat, Int.reduceSub, Int.reduceMul, Int.reduceNe, Nat.reduceAdd, Nat.reduceMul, Nat.reduceSub, Int.reduceAdd, reduceCtorEq, Go.Den.wh, kK, wpc, wmb, wrb, wqb, rxN, *, zT]) | (with_reducible (first | apply z1 | apply z2 | apply z3 | apply z4) <;> intro hq <;> (try simp only [zH] at hq) <;> (try (exfalso; omega)))))
  all_goals exact h
theorem wap {ms : List Mt} {i : Nat} (h : i < ms.length) : ms.drop i = ms.getD i Mt.zero :: ms.drop (i + 1) := by
  rw [List.drop_eq_getElem_cons h, List.getD_eq_getElem?_getD, List.getElem?_eq_getElem h]; rfl
def wdi (ms : List Mt) : List Int := ms.map fun m => m.at 0
theorem wrj {m : Mt} {ms : List Mt} : wdi (m :: ms) = m.at 0 :: wdi ms := rfl
theorem wyw : wdi [] = [] := rfl
theorem wbp {ms : List Mt} {i : Nat} (h : i < ms.length) : ms.getD i Mt.zero ∈ ms := by
  rw [List.getD_eq_getElem?_getD, List.getElem?_eq_getElem h]; exact List.getElem_mem h
theorem whp : (EJ 128 G0).get 4 = JK := rfl
set_option maxHeartbeats 2000000 in
theorem ft_gA (s t : List UInt8) (ht2 : t.length ≤ 2) (L : List Int) (ms : List Mt) (hn : ms.length ≤ 1000) (hm : ∀ m ∈ ms, 0 ≤ m.at 0 ∧ m.at 0 ≤ 1000 ∧ m.at 1 - m.at 0 = t.length) (r : Rx) : ∀ (k i : Nat) (g : List Int), i + k = ms.length → g.length ≤ i → g ≠ [] →
    lim Try.prog cfg (.loop 8 0 (wz 3) (SE (EJ 128 G0) [(92, .int .i64 i), (91, .int .i64 ms.length), (90, FL ms.length (mtsC ms)), (13, FO 2 g.length (ints g)), (10, FO 1 L.length (ints L)), (9, ftP), (6, str t), (5, str s)])) (HP [X (rxC r) 47 0 false, .tok L.length 3 1, .tok g.length 3 1]) = some (.code (.exit 6) (SE (EJ 128 G0) [(13, FO 2 (g ++ wdi (ms.drop i)).length (ints (g ++ wdi (ms.drop i)))), (10, FO 1 L.length (ints L)), (9, ftP), (5, str s), (4, JK)]), HP [X (rxC r) 47 0 false, .tok L.length 3 1, .tok (g ++ wdi (ms.drop i)).length 3 1]) := by
  intro k
  induction k with
  | zero =>
    intro i g hi hg hne
    rw [List.drop_of_length_le (by omega), wyw, List.append_nil]
    clear hm
    refine ww wsb ?_
    unfold wvb
    (repeat' (first | (simp -implicitDefEqProofs (maxSteps := 2000000) (disch := first | with_reducible assumption | omega | (simp only [zS, zA, Nat.reduceEqDiff, Nat.reduceLT, Nat.reduceLeDiff, Nat.reduceAdd, Nat.reduceSub, reduceCtorEq, wbb, wib, zD] <;> omega) | fail) only [zS, argl, insA, Go.Den.wm, wo, wu, looks, wfb, web, idOf, riA, Nat.reduceLeDiff, Nat.reduceLT, Nat.reduceEqDiff, Nat.reduceDiv, Nat.reduceMod, Int.reduceLT, Int.reduceLE, Int.reduceEq, Int.reduceNeg, Int.reduceToNat, Int.reduceSub, Int.reduceMul, Int.reduceNe, Nat.reduceAdd, Nat.reduceMul, Nat.reduceSub, Int.reduceAdd, reduceCtorEq, Go.Den.wh, kK, wob, wmb, wrb, wbb, wib, whp, *, zT]) | (with_reducible (first | apply z1 | apply z2 | apply z3 | apply z4) <;> intro hq <;> (try simp only [zH] at hq) <;> (try (exfalso; omega)))))
  | succ k ih =>
    intro i g hi hg hne
    have hlt : i < ms.length := by omega
    rw [wap hlt, wrj]
    obtain ⟨b1, b2, b3⟩ := hm _ (wbp hlt)
    have h := ih (i + 1) (g ++ [(ms.getD i Mt.zero).at 0]) (by omega) (by rw [List.length_append, List.length_singleton]; omega) (by simp)
    rw [List.append_assoc, List.singleton_append] at h
    generalize g ++ ((ms.getD i Mt.zero).at 0 :: wdi (ms.drop (i + 1))) = G at h ⊢
    rw [wml, List.length_append, List.length_singleton] at h
    clear ih hm
    refine ww wsb ?_
    unfold wvb
    (repeat' (first | (simp -implicitDefEqProofs (maxSteps := 2000000) (disch := first | with_reducible assumption | omega | (simp only [zS, zA, Nat.reduceEqDiff, Nat.reduceLT, Nat.reduceLeDiff, Nat.reduceAdd, Nat.reduceSub, reduceCtorEq, wbb, wib, wqb, wqe, wif, zD] <;> omega) | fail) only [zS, argl, insA, Go.Den.wm, wo, wu, looks, wfb, web, idOf, riA, Nat.reduceLeDiff, Nat.reduceLT, Nat.reduceEqDiff, Nat.reduceDiv, Nat.reduceMod, Int.reduceLT, Int.reduceLE, Int.reduceEq, Int.reduceNeg, Int.reduceToNat, Int.reduceSub, Int.reduceMul, Int.reduceNe, Nat.reduceAdd, Nat.reduceMul, Nat.reduceSub, Int.reduceAdd, reduceCtorEq, Go.Den.wh, kK, wob, wmb, wrb, wqb, wbb, wib, whp, *, zT]) | (with_reducible (first | apply z1 | apply z2 | apply z3 | apply z4) <;> intro hq <;> (try simp only [zH] at hq) <;> (try (exfalso; omega)))))
    all_goals exact h
set_option maxHeartbeats 2000000 in
theorem ft_gNA (s t : List UInt8) (ht2 : t.length ≤ 2) (L : List Int) (ms : List Mt) (hn : ms.length ≤ 1000) (hm : ∀ m ∈ ms, 0 ≤ m.at 0 ∧ m.at 0 ≤ 1000 ∧ m.at 1 - m.at 0 = t.length) (r : Rx) (hms : 0 < ms.length) :
    lim Try.prog cfg (.loop 8 0 (wz 3) (SE (EJ 128 G0) [(92, .int .i64 0), (91, .int .i64 ms.length), (90, FL ms.length (mtsC ms)), (13, .slice none 0 0), (10, FO 1 L.length (ints L)), (9, ftP), (6, str t), (5, str s)])) (HP [X (rxC r) 47 0 false, .tok L.length 3 1]) = some (.code (.exit 6) (SE (EJ 128 G0) [(13, FO 2 (wdi ms).length (ints (wdi ms))), (10, FO 1 L.length (ints L)), (9, ftP), (5, str s), (4, JK)]), HP [X (rxC r) 47 0 false, .tok L.length 3 1, .tok (wdi ms).length 3 1]) := by
  have h := ft_gA s t ht2 L ms hn hm r (ms.length - 1) 1 [(ms.getD 0 Mt.zero).at 0] (by omega) (by simp) (by simp)
  obtain ⟨b1, b2, b3⟩ := hm _ (wbp hms)
  rw [List.singleton_append, ← wrj, ← wap hms, List.drop_zero] at h
  generalize wdi ms = G at h ⊢
  rw [wtk, List.length_singleton] at h
  rw [show ((1 : Nat) : Int) = 1 from rfl] at h
  have hs0 : slotsOf (mtsC ms) 0 8 = mtC (ms.getD 0 Mt.zero) := by
    have := wcu (l := ms) (i := 0) hms
    rwa [Nat.zero_mul] at this
  clear hm
  refine ww wsb ?_
  unfold wvb
  (repeat' (first | (simp -implicitDefEqProofs (maxSteps := 2000000) (disch := first | with_reducible assumption | omega | (simp only [zS, zA, Nat.reduceEqDiff, Nat.reduceLT, Nat.reduceLeDiff, Nat.reduceAdd, Nat.reduceSub, reduceCtorEq, wbb, wib, wqb, wqe, wif, zD] <;> omega) | fail) only [zS, argl, insA, Go.Den.wm, wo, wu, looks, wfb, web, idOf, riA, Nat.reduceLeDiff, Nat.reduceLT, Nat.reduceEqDiff, Nat.reduceDiv, Nat.reduceMod, Int.reduceLT, Int.reduceLE, Int.reduceEq, Int.reduceNeg, Int.reduceToNat, Int.reduceSub, Int.reduceMul, Int.reduceNe, Nat.reduceAdd, Nat.reduceMul, Nat.reduceSub, Int.reduceAdd, reduceCtorEq, Go.Den.wh, kK, wob, wmb, wrb, wqb, wbb, wib, whp, *, zT]) | (with_reducible (first | apply z1 | apply z2 | apply z3 | apply z4) <;> intro hq <;> (try simp only [zH] at hq) <;> (try (exfalso; omega)))))
  all_goals exact h
theorem ft_gEA (s t : List UInt8) (r : Rx) :
    lim Try.prog cfg (.loop 8 0 (wz 3) (SE (EJ 128 G0) [(92, .int .i64 0), (91, .int .i64 0), (90, FL 0 []), (13, .slice none 0 0), (10, .slice none 0 0), (9, ftP), (6, str t), (5, str s)])) (HP [X (rxC r) 47 0 false]) = some (.code (.exit 6) (SE (EJ 128 G0) [(13, .slice none 0 0), (10, .slice none 0 0), (9, ftP), (5, str s), (4, JK)]), HP [X (rxC r) 47 0 false]) := by
  refine ww wsb ?_
  unfold wvb
  (repeat' (first | (simp -implicitDefEqProofs (maxSteps := 2000000) (disch := first | with_reducible assumption | omega | (simp only [zS, zA, Nat.reduceEqDiff, Nat.reduceLT, Nat.reduceLeDiff, Nat.reduceAdd, Nat.reduceSub, reduceCtorEq, wbb, wib, zD] <;> omega) | fail) only [zS, argl, insA, Go.Den.wm, wo, wu, looks, wfb, web, idOf, riA, Nat.reduceLeDiff, Nat.reduceLT, Nat.reduceEqDiff, Nat.reduceDiv, Nat.reduceMod, Int.reduceLT, Int.reduceLE, Int.reduceEq, Int.reduceNeg, Int.reduceToNat, Int.reduceSub, Int.reduceMul, Int.reduceNe, Nat.reduceAdd, Nat.reduceMul, Nat.reduceSub, Int.reduceAdd, reduceCtorEq, Go.Den.wh, kK, wob, wmb, wrb, wbb, wib, whp, *, zT]) | (with_reducible (first | apply z1 | apply z2 | apply z3 | apply z4) <;> intro hq <;> (try simp only [zH] at hq) <;> (try (exfalso; omega)))))
set_option maxHeartbeats 2000000 in
theorem ft_gB (s t : List UInt8) (ht2 : t.length ≤ 2) (L : List Int) (ms : List Mt) (hn : ms.length ≤ 1000) (hm : ∀ m ∈ ms, 0 ≤ m.at 0 ∧ m.at 0 ≤ 1000 ∧ m.at 1 - m.at 0 = t.length) (n : Nat) (c : List Value) : ∀ (k i : Nat) (g : List Int), i + k = ms.length → g.length ≤ i → g ≠ [] →
    lim Try.prog cfg (.loop 8 0 (wz 3) (SE (EJ 128 G0) [(92, .int .i64 i), (91, .int .i64 ms.length), (90, FL ms.length (mtsC ms)), (13, FO 2 g.length (ints g)), (10, FO 1 L.length (ints L)), (9, ftP), (6, str t), (5, str s)])) (HP [X (rxF 3 n c) 47 0 false, .tok L.length 3 1, .tok g.length 3 1, .tok n 47 9]) = some (.code (.exit 6) (SE (EJ 128 G0) [(13, FO 2 (g ++ wdi (ms.drop i)).length (ints (g ++ wdi (ms.drop i)))), (10, FO 1 L.length (ints L)), (9, ftP), (5, str s), (4, JK)]), HP [X (rxF 3 n c) 47 0 false, .tok L.length 3 1, .tok (g ++ wdi (ms.drop i)).length 3 1, .tok n 47 9]) := by
  intro k
  induction k with
  | zero =>
    intro i g hi hg hne
    rw [List.drop_of_length_le (by omega), wyw, List.append_nil]
    clear hm
    refine ww wsb ?_
    unfold wvb
    (repeat' (first | (simp -implicitDefEqProofs (maxSteps := 2000000) (disch := first | with_reducible assumption | omega | (simp only [zS, zA, Nat.reduceEqDiff, Nat.reduceLT, Nat.reduceLeDiff, Nat.reduceAdd, Nat.reduceSub, reduceCtorEq, wbb, wib, zD] <;> omega) | fail) only [zS, argl, insA, Go.Den.wm, wo, wu, looks, wfb, web, idOf, riA, Nat.reduceLeDiff, Nat.reduceLT, Nat.reduceEqDiff, Nat.reduceDiv, Nat.reduceMod, Int.reduceLT, Int.reduceLE, Int.reduceEq, Int.reduceNeg, Int.reduceToNat, Int.reduceSub, Int.reduceMul, Int.reduceNe, Nat.reduceAdd, Nat.reduceMul, Nat.reduceSub, Int.reduceAdd, reduceCtorEq, Go.Den.wh, kK, wob, wmb, wrb, wbb, wib, whp, rxF, *, zT]) | (with_reducible (first | apply z1 | apply z2 | apply z3 | apply z4) <;> intro hq <;> (try simp only [zH] at hq) <;> (try (exfalso; omega)))))
  | succ k ih =>
    intro i g hi hg hne
    have hlt : i < ms.length := by omega
    rw [wap hlt, wrj]
    obtain ⟨b1, b2, b3⟩ := hm _ (wbp hlt)
    have h := ih (i + 1) (g ++ [(ms.getD i Mt.zero).at 0]) (by omega) (by rw [List.length_append, List.length_singleton]; omega) (by simp)
    rw [List.append_assoc, List.singleton_append] at h
    generalize g ++ ((ms.getD i Mt.zero).at 0 :: wdi (ms.drop (i + 1))) = G at h ⊢
    rw [wml, List.length_append, List.length_singleton] at h
    clear ih hm
    refine ww wsb ?_
    unfold wvb
    (repeat' (first | (simp -implicitDefEqProofs (maxSteps := 2000000) (disch := first | with_reducible assumption | omega | (simp only [zS, zA, Nat.reduceEqDiff, Nat.reduceLT, Nat.reduceLeDiff, Nat.reduceAdd, Nat.reduceSub, reduceCtorEq, wbb, wib, wqb, wqe, wif, zD] <;> omega) | fail) only [zS, argl, insA, Go.Den.wm, wo, wu, looks, wfb, web, idOf, riA, Nat.reduceLeDiff, Nat.reduceLT, Nat.reduceEqDiff, Nat.reduceDiv, Nat.reduceMod, Int.reduceLT, Int.reduceLE, Int.reduceEq, Int.reduceNeg, Int.reduceToNat, Int.reduceSub, Int.reduceMul, Int.reduceNe, Nat.reduceAdd, Nat.reduceMul, Nat.reduceSub, Int.reduceAdd, reduceCtorEq, Go.Den.wh, kK, wob, wmb, wrb, wqb, wbb, wib, whp, rxF, *, zT]) | (with_reducible (first | apply z1 | apply z2 | apply z3 | apply z4) <;> intro hq <;> (try simp only [zH] at hq) <;> (try (exfalso; omega)))))
    all_goals exact h
set_option maxHeartbeats 2000000 in
theorem ft_gNB (s t : List UInt8) (ht2 : t.length ≤ 2) (L : List Int) (ms : List Mt) (hn : ms.length ≤ 1000) (hm : ∀ m ∈ ms, 0 ≤ m.at 0 ∧ m.at 0 ≤ 1000 ∧ m.at 1 - m.at 0 = t.length) (n : Nat) (c : List Value) (hms : 0 < ms.length) :
    lim Try.prog cfg (.loop 8 0 (wz 3) (SE (EJ 128 G0) [(92, .int .i64 0), (91, .int .i64 ms.length), (90, FL ms.length (mtsC ms)), (13, .slice none 0 0), (10, FO 1 L.length (ints L)), (9, ftP), (6, str t), (5, str s)])) (HP [X (rxF 2 n c) 47 0 false, .tok L.length 3 1, .tok n 47 9]) = some (.code (.exit 6) (SE (EJ 128 G0) [(13, FO 2 (wdi ms).length (ints (wdi ms))), (10, FO 1 L.length (ints L)), (9, ftP), (5, str s), (4, JK)]), HP [X (rxF 3 n c) 47 0 false, .tok L.length 3 1, .tok (wdi ms).length 3 1, .tok n 47 9]) := by
  have h := ft_gB s t ht2 L ms hn hm n c (ms.length - 1) 1 [(ms.getD 0 Mt.zero).at 0] (by omega) (by simp) (by simp)
  obtain ⟨b1, b2, b3⟩ := hm _ (wbp hms)
  rw [List.singleton_append, ← wrj, ← wap hms, List.drop_zero] at h
  generalize wdi ms = G at h ⊢
  rw [wtk, List.length_singleton] at h
  rw [show ((1 : Nat) : Int) = 1 from rfl] at h
  have hs0 : slotsOf (mtsC ms) 0 8 = mtC (ms.getD 0 Mt.zero) := by
    have := wcu (l := ms) (i := 0) hms
    rwa [Nat.zero_mul] at this
  clear hm
  refine ww wsb ?_
  unfold wvb
  (repeat' (first | (simp -implicitDefEqProofs (maxSteps := 2000000) (disch := first | with_reducible assumption | omega | (simp only [zS, zA, Nat.reduceEqDiff, Nat.reduceLT, Nat.reduceLeDiff, Nat.reduceAdd, Nat.reduceSub, reduceCtorEq, wbb, wib, wqb, wqe, wif, zD] <;> omega) | fail) only [zS, argl, insA, Go.Den.wm, wo, wu, looks, wfb, web, idOf, riA, Nat.reduceLeDiff, Nat.reduceLT, Nat.reduceEqDiff, Nat.reduceDiv, Nat.reduceMod, Int.reduceLT, Int.reduceLE, Int.reduceEq, Int.reduceNeg, Int.reduceToNat, Int.reduceSub, Int.reduceMul, Int.reduceNe, Nat.reduceAdd, Nat.reduceMul, Nat.reduceSub, Int.reduceAdd, reduceCtorEq, Go.Den.wh, kK, wob, wmb, wrb, wqb, wbb, wib, whp, rxF, *, zT]) | (with_reducible (first | apply z1 | apply z2 | apply z3 | apply z4) <;> intro hq <;> (try simp only [zH] at hq) <;> (try (exfalso; omega)))))
  all_goals exact h
theorem ft_gEB (s t : List UInt8) (n : Nat) (c : List Value) :
    lim Try.prog cfg (.loop 8 0 (wz 3) (SE (EJ 128 G0) [(92, .int .i64 0), (91, .int .i64 0), (90, FL 0 []), (13, .slice none 0 0), (10, .slice none 0 0), (9, ftP), (6, str t), (5, str s)])) (HP [X (rxF 1 n c) 47 0 false, .tok n 47 9]) = some (.code (.exit 6) (SE (EJ 128 G0) [(13, .slice none 0 0), (10, .slice none 0 0), (9, ftP), (5, str s), (4, JK)]), HP [X (rxF 1 n c) 47 0 false, .tok n 47 9]) := by
  refine ww wsb ?_
  unfold wvb
  (repeat' (first | (simp -implicitDefEqProofs (maxSteps := 2000000) (disch := first | with_reducible assumption | omega | (simp only [zS, zA, Nat.reduceEqDiff, Nat.reduceLT, Nat.reduceLeDiff, Nat.reduceAdd, Nat.reduceSub, reduceCtorEq, wbb, wib, zD] <;> omega) | fail) only [zS, argl, insA, Go.Den.wm, wo, wu, looks, wfb, web, idOf, riA, Nat.reduceLeDiff, Nat.reduceLT, Nat.reduceEqDiff, Nat.reduceDiv, Nat.reduceMod, Int.reduceLT, Int.reduceLE, Int.reduceEq, Int.reduceNeg, Int.reduceToNat, Int.reduceSub, Int.reduceMul, Int.reduceNe, Nat.reduceAdd, Nat.reduceMul, Nat.reduceSub, Int.reduceAdd, reduceCtorEq, Go.Den.wh, kK, wob, wmb, wrb, wbb, wib, whp, rxF, *, zT]) | (with_reducible (first | apply z1 | apply z2 | apply z3 | apply z4) <;> intro hq <;> (try simp only [zH] at hq) <;> (try (exfalso; omega)))))
set_option maxHeartbeats 2000000 in
theorem ft_gZ (s t : List UInt8) (ht2 : t.length ≤ 2) (L : List Int) (ms : List Mt) (hn : ms.length ≤ 1000) (hm : ∀ m ∈ ms, 0 ≤ m.at 0 ∧ m.at 0 ≤ 1000 ∧ m.at 1 - m.at 0 = t.length)  : ∀ (k i : Nat) (g : List Int), i + k = ms.length → g.length ≤ i → g ≠ [] →
    lim Try.prog cfg (.loop 8 0 (wz 3) (SE (EJ 128 G0) [(92, .int .i64 i), (91, .int .i64 ms.length), (90, FL ms.length (mtsC ms)), (13, FO 2 g.length (ints g)), (10, FO 1 L.length (ints L)), (9, ftP), (6, str t), (5, str s)])) (HP [X rxN 47 0 false, .tok L.length 3 1, .tok g.length 3 1]) = some (.code (.exit 6) (SE (EJ 128 G0) [(13, FO 2 (g ++ wdi (ms.drop i)).length (ints (g ++ wdi (ms.drop i)))), (10, FO 1 L.length (ints L)), (9, ftP), (5, str s), (4, JK)]), HP [X rxN 47 0 false, .tok L.length 3 1, .tok (g ++ wdi (ms.drop i)).length 3 1]) := by
  intro k
  induction k with
  | zero =>
    intro i g hi hg hne
    rw [List.drop_of_length_le (by omega), wyw, List.append_nil]
    clear hm
    refine ww wsb ?_
    unfold wvb
    (repeat' (first | (simp -implicitDefEqProofs (maxSteps := 2000000) (disch := first | with_reducible assumption | omega | (simp only [zS, zA, Nat.reduceEqDiff, Nat.reduceLT, Nat.reduceLeDiff, Nat.reduceAdd, Nat.reduceSub, reduceCtorEq, wbb, wib, zD] <;> omega) | fail) only [zS, argl, insA, Go.Den.wm, wo, wu, looks, wfb, web, idOf, riA, Nat.reduceLeDiff, Nat.reduceLT, Nat.reduceEqDiff, Nat.reduceDiv, Nat.reduceMod, Int.reduceLT, Int.reduceLE, Int.reduceEq, Int.reduceNeg, Int.reduceToNat, Int.reduceSub, Int.reduceMul, Int.reduceNe, Nat.reduceAdd, Nat.reduceMul, Nat.reduceSub, Int.reduceAdd, reduceCtorEq, Go.Den.wh, kK, wob, wmb, wrb, wbb, wib, whp, rxN, *, zT]) | (with_reducible (first | apply z1 | apply z2 | apply z3 | apply z4) <;> intro hq <;> (try simp only [zH] at hq) <;> (try (exfalso; omega)))))
  | succ k ih =>
    intro i g hi hg hne
    have hlt : i < ms.length := by omega
    rw [wap hlt, wrj]
    obtain ⟨b1, b2, b3⟩ := hm _ (wbp hlt)
    have h := ih (i + 1) (g ++ [(ms.getD i Mt.zero).at 0]) (by omega) (by rw [List.length_append, List.length_singleton]; omega) (by simp)
    rw [List.append_assoc, List.singleton_append] at h
    generalize g ++ ((ms.getD i Mt.zero).at 0 :: wdi (ms.drop (i + 1))) = G at h ⊢
    rw [wml, List.length_append, List.length_singleton] at h
    clear ih hm
    refine ww wsb ?_
    unfold wvb
    (repeat' (first | (simp -implicitDefEqProofs (maxSteps := 2000000) (disch := first | with_reducible assumption | omega | (simp only [zS, zA, Nat.reduceEqDiff, Nat.reduceLT, Nat.reduceLeDiff, Nat.reduceAdd, Nat.reduceSub, reduceCtorEq, wbb, wib, wqb, wqe, wif, zD] <;> omega) | fail) only [zS, argl, insA, Go.Den.wm, wo, wu, looks, wfb, web, idOf, riA, Nat.reduceLeDiff, Nat.reduceLT, Nat.reduceEqDiff, Nat.reduceDiv, Nat.reduceMod, Int.reduceLT, Int.reduceLE, Int.reduceEq, Int.reduceNeg, Int.reduceToNat, Int.reduceSub, Int.reduceMul, Int.reduceNe, Nat.reduceAdd, Nat.reduceMul, Nat.reduceSub, Int.reduceAdd, reduceCtorEq, Go.Den.wh, kK, wob, wmb, wrb, wqb, wbb, wib, whp, rxN, *, zT]) | (with_reducible (first | apply z1 | apply z2 | apply z3 | apply z4) <;> intro hq <;> (try simp only [zH] at hq) <;> (try (exfalso; omega)))))
    all_goals exact h
set_option maxHeartbeats 2000000 in
theorem ft_gNZ (s t : List UInt8) (ht2 : t.length ≤ 2) (L : List Int) (ms : List Mt) (hn : ms.length ≤ 1000) (hm : ∀ m ∈ ms, 0 ≤ m.at 0 ∧ m.at 0 ≤ 1000 ∧ m.at 1 - m.at 0 = t.length)  (hms : 0 < ms.length) :
    lim Try.prog cfg (.loop 8 0 (wz 3) (SE (EJ 128 G0) [(92, .int .i64 0), (91, .int .i64 ms.length), (90, FL ms.length (mtsC ms)), (13, .slice none 0 0), (10, FO 1 L.length (ints L)), (9, ftP), (6, str t), (5, str s)])) (HP [X rxN 47 0 false, .tok L.length 3 1]) = some (.code (.exit 6) (SE (EJ 128 G0) [(13, FO 2 (wdi ms).length (ints (wdi ms))), (10, FO 1 L.length (ints L)), (9, ftP), (5, str s), (4, JK)]), HP [X rxN 47 0 false, .tok L.length 3 1, .tok (wdi ms).length 3 1]) := by
  have h := ft_gZ s t ht2 L ms hn hm  (ms.length - 1) 1 [(ms.getD 0 Mt.zero).at 0] (by omega) (by simp) (by simp)
  obtain ⟨b1, b2, b3⟩ := hm _ (wbp hms)
  rw [List.singleton_append, ← wrj, ← wap hms, List.drop_zero] at h
  generalize wdi ms = G at h ⊢
  rw [wtk, List.length_singleton] at h
  rw [show ((1 : Nat) : Int) = 1 from rfl] at h
  have hs0 : slotsOf (mtsC ms) 0 8 = mtC (ms.getD 0 Mt.zero) := by
    have := wcu (l := ms) (i := 0) hms
    rwa [Nat.zero_mul] at this
  clear hm
  refine ww wsb ?_
  unfold wvb
  (repeat' (first | (simp -implicitDefEqProofs (maxSteps := 2000000) (disch := first | with_reducible assumption | omega | (simp only [zS, zA, Nat.reduceEqDiff, Nat.reduceLT, Nat.reduceLeDiff, Nat.reduceAdd, Nat.reduceSub, reduceCtorEq, wbb, wib, wqb, wqe, wif, zD] <;> omega) | fail) only [zS, argl, insA, Go.Den.wm, wo, wu, looks, wfb, web, idOf, riA, Nat.reduceLeDiff, Nat.reduceLT, Nat.reduceEqDiff, Nat.reduceDiv, Nat.reduceMod, Int.reduceLT, Int.reduceLE, Int.reduceEq, Int.reduceNeg, Int.reduceToNat, Int.reduceSub, Int.reduceMul, Int.reduceNe, Nat.reduceAdd, Nat.reduceMul, Nat.reduceSub, Int.reduceAdd, reduceCtorEq, Go.Den.wh, kK, wob, wmb, wrb, wqb, wbb, wib, whp, rxN, *, zT]) | (with_reducible (first | apply z1 | apply z2 | apply z3 | apply z4) <;> intro hq <;> (try simp only [zH] at hq) <;> (try (exfalso; omega)))))
  all_goals exact h
theorem whlb {t : List UInt8} {l : List Nat} : wdi (l.map (mtT t)) = zs l := by
  unfold wdi zs
  rw [List.map_map]
  apply List.map_congr_left
  intro a _
  exact mtT0 t a
theorem wrnb : lim Try.prog cfg (.call 38 [FL 0 [], FL 0 []]) (HP []) = some (.val (.bool true), HP []) := weu [] (by simp)
theorem wtgb (s t : List UInt8) : ∀ (k i : Nat), ∀ a ∈ wic s t k i, a + t.length ≤ s.length := by
  intro k
  induction k with
  | zero => intro i a h; cases h
  | succ k ih =>
    intro i a h
    rw [wic] at h
    split at h
    · rename_i hq
      split at h
      · rcases List.mem_cons.1 h with rfl | h
        · exact hq
        · exact ih _ _ h
      · exact ih _ _ h
    · cases h
theorem ms_T {s t : List UInt8} (hs : s.length ≤ 12) {l : List Nat} (h : ∀ a ∈ l, a + t.length ≤ s.length) : ∀ m ∈ l.map (mtT t), 0 ≤ m.at 0 ∧ m.at 0 ≤ 1000 ∧ m.at 1 - m.at 0 = t.length := by
  intro m hm
  obtain ⟨a, ha, rfl⟩ := List.mem_map.1 hm
  have := h a ha
  rw [mtT0, mtT1]
  exact ⟨by omega, by omega, by omega⟩
theorem woz (s t : List UInt8) (h0 : 0 < t.length) : ∀ (k i : Nat), (wic s t k i).length ≤ s.length - i := by
  intro k
  induction k with
  | zero => intro i; exact Nat.zero_le _
  | succ k ih =>
    intro i
    rw [wic]
    split
    · split
      · have := ih (i + t.length)
        rw [List.length_cons]; omega
      · have := ih (i + 1); omega
    · exact Nat.zero_le _
end
end Go.Proofs.Ytdbhfmdndiphcaa
namespace Go.Proofs.Ytdbhfmdndiphcaa
set_option linter.unusedVariables false
set_option linter.unusedSimpArgs false
open Go.Den
noncomputable section
theorem wsnb (l : List Int) (n : Nat) : (whdc l n).length ≤ n := by unfold whdc; rw [List.length_map, List.length_take]; omega
set_option maxHeartbeats 4000000 in
theorem text_0 (s : List UInt8) (hs : s.length ≤ 12) (text part : List Int) (h1 : lim Try.prog cfg (.call 26 [FL text.length (ints text), .int .i64 12]) (HP []) = some (.val (str s), HP []))
    (h2 : lim Try.prog cfg (.call 26 [FL part.length (ints part), .int .i64 2]) (HP []) = some (.val (str []), HP [])) :
    lim Try.prog cfg (.call 8 [FL text.length (ints text), FL part.length (ints part)]) (HP []) = some (.val (.bool true), HP []) := by
  have k0 := ft_kids0 s
  have w0 := ft_w0 s
  have z0 := ft_zN s hs
  have ha := wddc (rxT []) (wll [] (by simp)) s hs
  have hh := wflb (rxT []) (wll [] (by simp)) s hs
  rw [allR_0] at ha
  rw [has_0] at hh
  have hm := ms_T (s := s) (t := []) hs (l := List.range' 0 (s.length + 1)) (by intro a h; rw [List.mem_range'_1] at h; simp; omega)
  have hlen : ((List.range' 0 (s.length + 1)).map (mtT [])).length = s.length + 1 := by rw [List.length_map, List.length_range']
  have g0 := ft_gNZ s [] (by simp) (zs (List.range' 0 (s.length + 1))) ((List.range' 0 (s.length + 1)).map (mtT [])) (by rw [hlen]; omega) hm (by rw [hlen]; omega)
  rw [whlb] at g0
  have hL : (zs (List.range' 0 (s.length + 1))).length = s.length + 1 := by rw [wmdc, List.length_range']
  have he := weu (zs (List.range' 0 (s.length + 1))) (by rw [hL]; omega)
  have hL0 : 0 < (zs (List.range' 0 (s.length + 1))).length := by omega
  have hL1 : (zs (List.range' 0 (s.length + 1))).length ≤ 13 := by omega
  have hM1 : ((List.range' 0 (s.length + 1)).map (mtT [])).length ≤ 13 := by omega
  clear hm hL hlen
  generalize zs (List.range' 0 (s.length + 1)) = L at *
  generalize (List.range' 0 (s.length + 1)).map (mtT []) = ms at *
  have er : rxC (rxT []) = [.int .i64 2, .int .i64 0, .int .i64 0, .int .i64 0, .int .u64 0, .int .u64 0, .int .u64 0, .int .u64 0, FL 0 []] := by
    show rxC (.mk 2 0 0 0 0#256 []) = _
    rw [rxC, rxsC]; rfl
  rw [er] at ha hh
  clear er
  unfold rxN at *
  have c0 : ((0 : Nat) : Int) = 0 := rfl
  have b1 : decide (0 < (L.length : Int)) = true := decide_eq_true (by omega)
  have b2 : (true == true) = true := rfl
  refine wjc hc wkd (Nat.le_of_ble_eq_true rfl) (Nat.le_of_ble_eq_true rfl) ?_
  unfold wjd
  (repeat' (first | (simp -implicitDefEqProofs (maxSteps := 2000000) (disch := first | with_reducible assumption | omega | (simp only [zS, zA, Nat.reduceEqDiff, Nat.reduceLT, Nat.reduceLeDiff, Nat.reduceAdd, Nat.reduceSub, reduceCtorEq, wbb, wib, wqb, wqe, wif, zD] <;> omega) | fail) only [zS, argl, insA, Go.Den.wm, wo, wu, looks, wfb, web, idOf, riA, Nat.reduceLeDiff, Nat.reduceLT, Nat.reduceEqDiff, Nat.reduceDiv, Nat.reduceMod, Int.reduceLT, Int.reduceLE, Int.reduceEq, Int.reduceNeg, Int.reduceToNat, Int.reduceSub, Int.reduceMul, Int.reduceNe, Nat.reduceAdd, Nat.reduceMul, Nat.reduceSub, Int.reduceAdd, reduceCtorEq, Go.Den.wh, kK, wkc, wdb, wpc, wob, wmb, wrb, wqb, wbb, wib, whp, *, zT]) | (with_reducible (first | apply z1 | apply z2 | apply z3 | apply z4) <;> intro hq <;> (try simp only [zH] at hq) <;> (try (exfalso; omega)))))
theorem len_map {t : List UInt8} : (t.map setR).length = t.length := List.length_map ..
theorem rx_litT {l : List Rx} : rxC (.mk 2 0 0 0 0#256 l) = [.int .i64 2, .int .i64 0, .int .i64 0, .int .i64 0, .int .u64 0, .int .u64 0, .int .u64 0, .int .u64 0, FL l.length (rxsC l)] := by rw [rxC]; rfl
theorem wpdc {t : List UInt8} (h : 0 < t.length) : slotsOf (rxsC (t.map setR)) 0 9 = rxC (setR (t.getD 0 0)) := by
  cases t with
  | nil => cases h
  | cons a t =>
    have := wwo (l := (a :: t).map setR) (i := 0) (by simp)
    rw [Nat.zero_mul] at this
    exact this
set_option maxHeartbeats 4000000 in
theorem text_A (s t : List UInt8) (hs : s.length ≤ 12) (ht : 0 < t.length) (ht2 : t.length < 2) (text part : List Int) (h1 : lim Try.prog cfg (.call 26 [FL text.length (ints text), .int .i64 12]) (HP []) = some (.val (str s), HP []))
    (h2 : lim Try.prog cfg (.call 26 [FL part.length (ints part), .int .i64 2]) (HP []) = some (.val (str t), HP [])) :
    lim Try.prog cfg (.call 8 [FL text.length (ints text), FL part.length (ints part)]) (HP []) = some (.val (.bool true), HP []) := by
  have hr : rxT t = setR (t.getD 0 0) := by unfold rxT; rw [if_pos (by omega)]
  have k0 := wpnb s t (by omega) (by omega)
  have w0 := ft_wNA s t hs (by omega) (by omega) (setR (t.getD 0 0)) (s.length + 1) 0 (by omega) (by omega)
  have ha := wddc (rxT t) (wll t (by omega)) s hs
  have hh := wflb (rxT t) (wll t (by omega)) s hs
  rw [allR_T s t (by omega) (by omega)] at ha
  rw [has_T s t (by omega) (by omega)] at hh
  rw [hr] at ha hh
  clear hr
  have hsl := wpdc (t := t) (by omega)
  have hcl : 9 ≤ (rxsC (t.map setR)).length := by rw [wsw, List.length_map]; omega
  have hin := wtgb s t (s.length + 1) 0
  have hlen := woz s t (by omega) (s.length + 1) 0
  have c0 : ((0 : Nat) : Int) = 0 := rfl
  rw [c0] at w0
  generalize wic s t (s.length + 1) 0 = l at *
  cases l with
  | nil =>
    rw [wco, wnz, wndc] at w0
    have g0 := ft_gEA s t (setR (t.getD 0 0))
    have ha2 : ([] : List Nat).map (mtT t) = [] := rfl
    rw [ha2] at ha
    have e1 : mtsC [] = [] := rfl
    rw [e1, List.length_nil] at ha
    have he := wrnb
    have b1 : decide (0 < ([] : List Nat).length) = false := rfl
    rw [b1] at hh
    have b2 : (false == false) = true := rfl
    clear hin hlen ha2 e1 b1
    try simp only [rxF] at *
    refine wjc hc wkd (Nat.le_of_ble_eq_true rfl) (Nat.le_of_ble_eq_true rfl) ?_
    unfold wjd
    (repeat' (first | (simp -implicitDefEqProofs (maxSteps := 2000000) (disch := first | with_reducible assumption | omega | (simp only [zS, zA, Nat.reduceEqDiff, Nat.reduceLT, Nat.reduceLeDiff, Nat.reduceAdd, Nat.reduceSub, reduceCtorEq, wbb, wib, wqb, wqe, wif, wjsb, zD] <;> omega) | fail) only [zS, argl, insA, Go.Den.wm, wo, wu, looks, wfb, web, idOf, riA, Nat.reduceLeDiff, Nat.reduceLT, Nat.reduceEqDiff, Nat.reduceDiv, Nat.reduceMod, Int.reduceLT, Int.reduceLE, Int.reduceEq, Int.reduceNeg, Int.reduceToNat, Int.reduceSub, Int.reduceMul, Int.reduceNe, Nat.reduceAdd, Nat.reduceMul, Nat.reduceSub, Int.reduceAdd, reduceCtorEq, Go.Den.wh, kK, wkc, wdb, wpc, wob, wmb, wrb, wqb, wbb, wib, whp, *, zT]) | (with_reducible (first | apply z1 | apply z2 | apply z3 | apply z4) <;> intro hq <;> (try simp only [zH] at hq) <;> (try (exfalso; omega)))))
  | cons x l =>
    rw [wqnb (by simp [zs]), ftA_ne (by simp [zs])] at w0
    have g0 := ft_gNA s t (by omega) (zs (x :: l)) ((x :: l).map (mtT t)) (by rw [List.length_map]; omega) (ms_T hs hin) (setR (t.getD 0 0)) (by simp)
    rw [whlb] at g0
    have hL : (zs (x :: l)).length = (x :: l).length := wmdc
    have hM : ((x :: l).map (mtT t)).length = (x :: l).length := List.length_map ..
    have he := weu (zs (x :: l)) (by rw [hL]; omega)
    have b0 : decide (0 < (x :: l).length) = true := rfl
    rw [b0] at hh
    have hx : 0 < (x :: l).length := by simp
    have hL0 : 0 < (zs (x :: l)).length := by omega
    have hL1 : (zs (x :: l)).length ≤ 13 := by omega
    have hM1 : ((x :: l).map (mtT t)).length ≤ 13 := by omega
    clear hL hM hin hlen b0 hx
    generalize zs (x :: l) = L at *
    generalize (x :: l).map (mtT t) = ms at *
    have b1 : decide (0 < (L.length : Int)) = true := decide_eq_true (by omega)
    have b2 : (true == true) = true := rfl
    try simp only [rxF] at *
    refine wjc hc wkd (Nat.le_of_ble_eq_true rfl) (Nat.le_of_ble_eq_true rfl) ?_
    unfold wjd
    (repeat' (first | (simp -implicitDefEqProofs (maxSteps := 2000000) (disch := first | with_reducible assumption | omega | (simp only [zS, zA, Nat.reduceEqDiff, Nat.reduceLT, Nat.reduceLeDiff, Nat.reduceAdd, Nat.reduceSub, reduceCtorEq, wbb, wib, wqb, wqe, wif, wjsb, zD] <;> omega) | fail) only [zS, argl, insA, Go.Den.wm, wo, wu, looks, wfb, web, idOf, riA, Nat.reduceLeDiff, Nat.reduceLT, Nat.reduceEqDiff, Nat.reduceDiv, Nat.reduceMod, Int.reduceLT, Int.reduceLE, Int.reduceEq, Int.reduceNeg, Int.reduceToNat, Int.reduceSub, Int.reduceMul, Int.reduceNe, Nat.reduceAdd, Nat.reduceMul, Nat.reduceSub, Int.reduceAdd, reduceCtorEq, Go.Den.wh, kK, wkc, wdb, wpc, wob, wmb, wrb, wqb, wbb, wib, whp, *, zT]) | (with_reducible (first | apply z1 | apply z2 | apply z3 | apply z4) <;> intro hq <;> (try simp only [zH] at hq) <;> (try (exfalso; omega)))))
set_option maxHeartbeats 4000000 in
theorem text_B (s t : List UInt8) (hs : s.length ≤ 12) (ht : 1 < t.length) (ht2 : t.length ≤ 2) (text part : List Int) (h1 : lim Try.prog cfg (.call 26 [FL text.length (ints text), .int .i64 12]) (HP []) = some (.val (str s), HP []))
    (h2 : lim Try.prog cfg (.call 26 [FL part.length (ints part), .int .i64 2]) (HP []) = some (.val (str t), HP [])) :
    lim Try.prog cfg (.call 8 [FL text.length (ints text), FL part.length (ints part)]) (HP []) = some (.val (.bool true), HP []) := by
  have hr : rxT t = .mk 2 0 0 0 0#256 (t.map setR) := by unfold rxT; rw [if_neg (by omega)]
  have k0 := wpnb s t (by omega) (by omega)
  have w0 := ft_wNB s t hs (by omega) (by omega) t.length (rxsC (t.map setR)) (s.length + 1) 0 (by omega) (by omega)
  have ha := wddc (rxT t) (wll t (by omega)) s hs
  have hh := wflb (rxT t) (wll t (by omega)) s hs
  rw [allR_T s t (by omega) (by omega)] at ha
  rw [has_T s t (by omega) (by omega)] at hh
  rw [hr] at ha hh
  clear hr
  rw [rx_litT, len_map] at ha hh
  have hin := wtgb s t (s.length + 1) 0
  have hlen := woz s t (by omega) (s.length + 1) 0
  have c0 : ((0 : Nat) : Int) = 0 := rfl
  rw [c0] at w0
  generalize wic s t (s.length + 1) 0 = l at *
  cases l with
  | nil =>
    rw [wco, wnz, wodc] at w0
    have g0 := ft_gEB s t t.length (rxsC (t.map setR))
    have ha2 : ([] : List Nat).map (mtT t) = [] := rfl
    rw [ha2] at ha
    have e1 : mtsC [] = [] := rfl
    rw [e1, List.length_nil] at ha
    have he := wrnb
    have b1 : decide (0 < ([] : List Nat).length) = false := rfl
    rw [b1] at hh
    have b2 : (false == false) = true := rfl
    clear hin hlen ha2 e1 b1
    try simp only [rxF] at *
    refine wjc hc wkd (Nat.le_of_ble_eq_true rfl) (Nat.le_of_ble_eq_true rfl) ?_
    unfold wjd
    (repeat' (first | (simp -implicitDefEqProofs (maxSteps := 2000000) (disch := first | with_reducible assumption | omega | (simp only [zS, zA, Nat.reduceEqDiff, Nat.reduceLT, Nat.reduceLeDiff, Nat.reduceAdd, Nat.reduceSub, reduceCtorEq, wbb, wib, wqb, wqe, wif, wjsb, zD] <;> omega) | fail) only [zS, argl, insA, Go.Den.wm, wo, wu, looks, wfb, web, idOf, riA, Nat.reduceLeDiff, Nat.reduceLT, Nat.reduceEqDiff, Nat.reduceDiv, Nat.reduceMod, Int.reduceLT, Int.reduceLE, Int.reduceEq, Int.reduceNeg, Int.reduceToNat, Int.reduceSub, Int.reduceMul, Int.reduceNe, Nat.reduceAdd, Nat.reduceMul, Nat.reduceSub, Int.reduceAdd, reduceCtorEq, Go.Den.wh, kK, wkc, wdb, wpc, wob, wmb, wrb, wqb, wbb, wib, whp, *, zT]) | (with_reducible (first | apply z1 | apply z2 | apply z3 | apply z4) <;> intro hq <;> (try simp only [zH] at hq) <;> (try (exfalso; omega)))))
  | cons x l =>
    rw [wqnb (by simp [zs]), ftB_ne (by simp [zs])] at w0
    have g0 := ft_gNB s t (by omega) (zs (x :: l)) ((x :: l).map (mtT t)) (by rw [List.length_map]; omega) (ms_T hs hin) t.length (rxsC (t.map setR)) (by simp)
    rw [whlb] at g0
    have hL : (zs (x :: l)).length = (x :: l).length := wmdc
    have hM : ((x :: l).map (mtT t)).length = (x :: l).length := List.length_map ..
    have he := weu (zs (x :: l)) (by rw [hL]; omega)
    have b0 : decide (0 < (x :: l).length) = true := rfl
    rw [b0] at hh
    have hx : 0 < (x :: l).length := by simp
    have hL0 : 0 < (zs (x :: l)).length := by omega
    have hL1 : (zs (x :: l)).length ≤ 13 := by omega
    have hM1 : ((x :: l).map (mtT t)).length ≤ 13 := by omega
    clear hL hM hin hlen b0 hx
    generalize zs (x :: l) = L at *
    generalize (x :: l).map (mtT t) = ms at *
    have b1 : decide (0 < (L.length : Int)) = true := decide_eq_true (by omega)
    have b2 : (true == true) = true := rfl
    try simp only [rxF] at *
    refine wjc hc wkd (Nat.le_of_ble_eq_true rfl) (Nat.le_of_ble_eq_true rfl) ?_
    unfold wjd
    (repeat' (first | (simp -implicitDefEqProofs (maxSteps := 2000000) (disch := first | with_reducible assumption | omega | (simp only [zS, zA, Nat.reduceEqDiff, Nat.reduceLT, Nat.reduceLeDiff, Nat.reduceAdd, Nat.reduceSub, reduceCtorEq, wbb, wib, wqb, wqe, wif, wjsb, zD] <;> omega) | fail) only [zS, argl, insA, Go.Den.wm, wo, wu, looks, wfb, web, idOf, riA, Nat.reduceLeDiff, Nat.reduceLT, Nat.reduceEqDiff, Nat.reduceDiv, Nat.reduceMod, Int.reduceLT, Int.reduceLE, Int.reduceEq, Int.reduceNeg, Int.reduceToNat, Int.reduceSub, Int.reduceMul, Int.reduceNe, Nat.reduceAdd, Nat.reduceMul, Nat.reduceSub, Int.reduceAdd, reduceCtorEq, Go.Den.wh, kK, wkc, wdb, wpc, wob, wmb, wrb, wqb, wbb, wib, whp, *, zT]) | (with_reducible (first | apply z1 | apply z2 | apply z3 | apply z4) <;> intro hq <;> (try simp only [zH] at hq) <;> (try (exfalso; omega)))))
theorem wilb (text part : List Int) : lim Try.prog cfg (.call 8 [FL text.length (ints text), FL part.length (ints part)]) (HP []) = some (.val (.bool true), HP []) := by
  have h1 := wjdc text 12 (by omega)
  have h2 := wjdc part 2 (by omega)
  have hs := wsnb text 12
  have ht := wsnb part 2
  generalize whdc text 12 = s at *
  generalize whdc part 2 = t at *
  rw [show ((12 : Nat) : Int) = 12 from rfl] at h1
  rw [show ((2 : Nat) : Int) = 2 from rfl] at h2
  by_cases q0 : t.length = 0
  · obtain rfl := List.eq_nil_of_length_eq_zero q0
    exact text_0 s hs text part h1 h2
  · by_cases q1 : t.length < 2
    · exact text_A s t hs (by omega) q1 text part h1 h2
    · exact text_B s t hs (by omega) ht text part h1 h2
end
end Go.Proofs.Ytdbhfmdndiphcaa
namespace Go.Den
noncomputable section
open Go.ChangeShapes Go.WideShapes Go.RowKit
variable {P : Program} {cfg : Cfg} {H : Type} {enc : TypeId × Value → H}
theorem known_ev (wci : wth P cfg.glob cfg.know) (hm : P.follows .mixedOrders = true) {f : FuncId} {a : List Value} {v : Value} (h : Ev P cfg (.call f a) AH0 (.val v, AH0)) (ha : wac a = true) (hv : wyd v = true) : wxl P cfg.glob f a v := by
  obtain ⟨n, h⟩ := h
  exact wft wci hm (h n (Nat.le_refl n)) ha hv
def renW (w : World) : Ren := ⟨fun _ _ => none, fun b i => w.cell? ⟨b, i, none⟩⟩
theorem wqdc (wci : wth P cfg.glob cfg.know) (hm : P.follows .mixedOrders = true) (hg : cfg.glob = fun _ => none) {f : FuncId} {a : List Value} (h : Ev P cfg (.call f a) AH0 (.val (.bool true), AH0)) (ha : wac a = true) (w : World) (args' : Array Value) (hA : VRL (renW w) a args'.toList) :
    Calls P f args' w fun e w' => e = .returned (.bool true) ∧ w.heap.size ≤ w'.heap.size ∧ (∀ b : Nat, b < w.heap.size → w'.heap[b]? = w.heap[b]?) ∧ w'.os = w.os ∧ w'.output = w.output := by
  refine (known_ev wci hm h ha rfl (renW w) w args' (fun _ _ _ h => h) (by rw [hg]; exact gok_none _) hA).mono ?_
  rintro e w' ⟨ρ', v', rfl, h1, _, _, _, _, h5, h2, h3, h4⟩
  rw [h1.bool_inv]
  exact ⟨rfl, h5, h2, h3, h4⟩
theorem same_at {W W' : World} (hb : ∀ b : Nat, b < W.heap.size → W'.heap[b]? = W.heap[b]?) {p : MemPlace} (hp : p.block < W.heap.size) : W.sameAt W' p := by
  cases p with
  | cell b o => exact World.cell?_of_block (w := W) (hb b hp)
  | map b => exact hb b hp
theorem wvcb (hl : laidOutB P = true) {W W' : World} (hb : ∀ b : Nat, b < W.heap.size → W'.heap[b]? = W.heap[b]?) {sp : Nat → Bool} : ∀ (ts : List TypeId) (vs : List Value) (ds : List (DataW H)) (ps : List MemPlace), (ts.all fun t => P.readableRec t && decide (t < P.types.size)) = true →
    DataW.TrodAll enc P W 0 (fun _ => true) true ts vs ds ps → (∀ p ∈ ps, p.block < W.heap.size) → (∀ p ∈ ps, sp p.block = true) → DataW.TrodAll enc P W' 0 sp true ts vs ds ps := by
  intro ts
  induction ts with
  | nil =>
    intro vs ds ps _ h _ _
    obtain ⟨rfl, rfl, rfl⟩ := trodAll_nil h
    exact trodAll_mk0
  | cons t ts ih =>
    intro vs ds ps ht h hlt hs
    obtain ⟨v, vs', d, ds', p, q, rfl, rfl, rfl, h0, h1⟩ := trodAll_cons h
    simp only [List.all_cons, Bool.and_eq_true, decide_eq_true_eq] at ht
    exact trodAll_cons_mk (WideElems.Trod_stays hl ht.1.1 ht.1.2 h0 (fun x hx => same_at hb (hlt x (List.mem_append_left _ hx))) (fun x hx => hs x (List.mem_append_left _ hx)))
      (ih vs' ds' q (by simpa using ht.2) h1 (fun x hx => hlt x (List.mem_append_right _ hx)) (fun x hx => hs x (List.mem_append_right _ hx)))
theorem law_post (hl : laidOutB P = true) {f : Func} {s : ChangeSpec} {apart fresh handsOn : Bool} {W W' : World} {args : Array Value} {ds gs : List (DataW H)} {before : List MemPlace}
    (hW : DataW.Whole enc P f.params.toList s.vars apart W args.toList ds gs before) (hvars : s.vars = []) (hbool : ∃ t, f.resultTypes = #[t] ∧ P.underlying t = some .bool)
    (hts : (f.params.toList.all fun t => P.readableRec t && decide (t < P.types.size)) = true)
    (hfn : s.fn H (ds ++ gs) = { results := [.lit (.bool true)], args := ds })
    (hs : ∀ b : Nat, b < W.heap.size → W'.heap[b]? = W.heap[b]?) (ho : W'.os = W.os) (hp : W'.output = W.output) : s.post enc P f apart fresh handsOn false W args (.bool true) W' := by
  have hW' := hW
  obtain ⟨p, q, hA, hV, rfl, hfz, hnd⟩ := hW
  rw [hvars] at hV
  obtain ⟨rfl, rfl⟩ := trodVars_none hV
  obtain ⟨t, ht, hu⟩ := hbool
  refine wfvb (pa := p) (pv := []) hW' (fun b sp hd => ?_) (fun sp hsp => ?_) (fun sp _ => ?_) rfl (kept_of hs ho hp)
  · rw [ht, hfn]
    exact trodAll_cons_mk (shut_bool hu _) trodAll_mk0
  · rw [hfn]
    exact wvcb hl hs _ _ _ _ hts hA (fun x hx => hW'.lt x (List.mem_append_left _ hx)) (fun x hx => hsp x (List.mem_append_left _ hx))
  · rw [hfn, hvars]
    exact rfl
end
end Go.Den
namespace Go.Den
noncomputable section
open Go.ChangeShapes Go.WideShapes Go.RowKit
variable {P : Program} {H : Type} {enc : TypeId × Value → H}
theorem row_VR {W : World} {t e : TypeId} {k : IntKind} (ht : P.underlying t = some (.slice e)) (he : P.underlying e = some (.int k)) (hc : P.cellsOf e = 1) {r : Reach} {b0 base fuel : Nat} {sp : Nat → Bool} {held : Bool} {v : Value} {x : DataW H × List MemPlace}
    (hval : Cell.okWide P W r b0 t v) (hf : DataW.trod enc P W base sp held fuel t [v] = some x) : ∃ l : List Int, VR (renW W) (FL l.length (l.map (Value.int k))) v := by
  rcases open_ints ht he hc hf with ⟨hcs, _⟩ | ⟨a, len, cap, zs, hcs, _, hl, hm, hz, _, hcell, _⟩
  · cases hcs
    exact ⟨[], .listNo⟩
  · cases hcs
    have hsp : a.spot = none := by
      simp only [Cell.okWide, ht, Cell.ok] at hval
      exact hval.2.2.2.1
    obtain ⟨blk, off, spot⟩ := a
    subst hsp
    have hlz : len ≤ zs.length := by rw [hz]; split <;> omega
    have hlen : (zs.take len).length = len := by rw [List.length_take]; omega
    refine ⟨zs.take len, ?_⟩
    rw [hlen]
    refine VR.list (a' := ⟨blk, off, none⟩) hl (fun i => .int k (zs.getD i 0)) (fun i hi => ?_) (fun i v hv => ?_)
    · rw [List.length_map, hlen] at hi
      have := hcell i (by omega)
      rw [show (⟨blk, off, none⟩ : Addr).add i = ⟨blk, off + i, none⟩ by unfold Addr.add; split <;> simp_all] at this
      exact this
    · rw [List.getElem?_map] at hv
      have hi : i < len := by
        have := (List.getElem?_eq_some_iff.1 (show ((zs.take len).map (Value.int k))[i]? = some v by rw [List.getElem?_map]; exact hv)).1
        rw [List.length_map, hlen] at this; exact this
      rw [List.getElem?_take, if_pos hi, List.getElem?_eq_getElem (by omega)] at hv
      cases hv
      rw [List.getD_eq_getElem?_getD, List.getElem?_eq_getElem (by omega)]
      exact .flat rfl
theorem wugb {W : World} {t e : TypeId} {k : IntKind} (ht : P.underlying t = some (.slice e)) (he : P.underlying e = some (.int k)) (hc : P.cellsOf e = 1) {r : Reach} {b0 base : Nat} {sp : Nat → Bool} {held : Bool} {v : Value} {d : DataW H} {ps : List MemPlace}
    (hval : Value.okWide P W r b0 t v) (hd : DataW.Trod enc P W base sp held t v d ps) : ∃ l : List Int, VR (renW W) (FL l.length (l.map (Value.int k))) v := by
  obtain ⟨a, len, cap, rfl⟩ := okWide_slice ht hval
  obtain ⟨fuel, hf⟩ := hd
  simp only [Value.okWide, ht] at hval
  exact row_VR ht he hc hval hf
end
end Go.Den
