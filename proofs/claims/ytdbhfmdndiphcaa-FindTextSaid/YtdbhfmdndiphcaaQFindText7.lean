/-
  PARTS OF A PROOF, joined by a program (7 of 8): a proved reckoner of the model, and what the functions come to.
-/
import Derived.Test.YtdbhfmdndiphcaaQFindText6
set_option linter.unusedVariables false
set_option linter.unusedSimpArgs false
namespace Go.Proofs.Ytdbhfmdndiphcaa
set_option linter.unusedVariables false
set_option linter.unusedSimpArgs false
open Go.Den
noncomputable section
theorem wqmb {w : St → List St} {mn mx : Int} {k : Nat} {n : Int} {x : St} : ∀ (l : List St) (b : List Turn × List St), b.2 ≠ [] → (wmt w mn mx k n x l b).2 ≠ [] := by
  intro l
  induction l with
  | nil => intro b hb; exact hb
  | cons y l ih =>
    intro b hb
    rw [wgl]
    refine ih _ ?_
    split
    · exact on_ne _ _ _ _ hb
    · exact hb
theorem wwfb {len : Nat} {a : Int} {w : St → List St} {mn mx : Int} (hw : ∀ x, GdS len x → RwS len x.1 (w x)) {k : Nat} {n : Int} {x : St} : ∀ (l : List St) (b : List Turn × List St), (∀ y ∈ l, GdS len y ∧ a ≤ y.1) → RwS len a b.2 → RwS len a (wmt w mn mx k n x l b).2 := by
  intro l
  induction l with
  | nil => intro b _ hb; exact hb
  | cons y l ih =>
    intro b hl hb
    rw [wgl]
    have hy := hl y (List.mem_cons_self ..)
    refine ih _ (fun z hz => hl z (List.mem_cons_of_mem _ hz)) ?_
    split
    · exact wufb (fun y hy _ => hw y hy) _ _ _ _ hy.1 hy.2 hb
    · exact hb
section
variable (s : List UInt8) (bol : Bool) (mn mx nn : Int) (set : BitVec 256) (kids : List Rx)
abbrev feN (met : List Turn) (x : St) : List ABlk := [repB s bol mn mx nn set kids, X [.slice none 0 0, .map (some 3)] 158 0 false, .map (setK trC met), .map [], X (stC x) 113 0 true]
abbrev feE (met : List Turn) (out : List St) (x : St) : List ABlk := [repB s bol mn mx nn set kids, X [FO 5 out.length (stsC out), .map (some 3)] 158 0 false, .map (setK trC met), .map (setK stC out), X (stC x) 113 0 true, .tok out.length 113 9]
def reO (p : List Turn × List St) : List ABlk := if p.2 = [] then reN s bol mn mx nn set kids p.1 else reE s bol mn mx nn set kids p.1 p.2
def feO (p : List Turn × List St) (x : St) : List ABlk := if p.2 = [] then feN s bol mn mx nn set kids p.1 x else feE s bol mn mx nn set kids p.1 p.2 x
def OnN (w : St → List St) (a : Int) (k : Nat) : Prop := ∀ (n : Int) (x : St) (met : List Turn), 0 ≤ n → n + k ≤ 1000 → GdS s.length x → a ≤ x.1 → muF mn mx s.length n x < k →
  lim Try.prog cfg (.call 88 [.pointer (some ⟨0, 0, none⟩), .int .i64 n, .agg ⟨stC x⟩]) (HP (reN s bol mn mx nn set kids met)) = some (.val (.tuple ⟨[]⟩), HP (reO s bol mn mx nn set kids (onF w mn mx k n x (met, []))))
theorem wibc {mn mx : Int} {len : Nat} {n : Int} {x y : St} {k : Nat} (hx : GdS len x) (hy : GdS len y) (hxy : x.1 ≤ y.1) (hnm : mx < 0 ∨ n < mx) (hc : y.1 ≠ x.1 ∨ n < mn) (hmu : muF mn mx len n x < k + 1) : muF mn mx len (n + 1) y < k := by
  have h1 := hy.hi
  have h2 := hx.hi
  unfold muF at hmu ⊢
  split at hmu
  · rw [if_pos (by omega)]; omega
  · rw [if_neg (by omega)]; omega
set_option maxHeartbeats 4000000 in
theorem on_loopE (hs : s.length ≤ 12) (hmn : 0 ≤ mn ∧ mn ≤ 20) (hmx : mx ≤ 20) (w : St → List St) (a : Int) (hk : ∀ y, GdS s.length y → RwS s.length y.1 (w y)) (k : Nat) (IH : OnC s bol mn mx nn set kids w a k) (n : Int) (hn : 0 ≤ n ∧ n + k < 1000) (hnm : mx < 0 ∨ n < mx) (x : St) (hx : GdS s.length x) (hxa : a ≤ x.1) (hmu : muF mn mx s.length n x < k + 1) (l : List St) (hll : l.length ≤ 16000000) (hl : ∀ y ∈ l, GdS s.length y ∧ x.1 ≤ y.1) :
    ∀ (j i : Nat) (met : List Turn) (out : List St), i + j = l.length → out ≠ [] → RwS s.length a out →
    lim Try.prog cfg (.loop 88 4 (wae 0) (SE (EJ 92 G0) [(54, .int .i64 i), (53, .int .i64 l.length), (52, FL l.length (stsC l)), (5, .pointer (some ⟨4, 0, none⟩)), (1, .int .i64 n), (0, .pointer (some ⟨0, 0, none⟩))])) (HP (feE s bol mn mx nn set kids met out x)) = some (.code (.exit 0) (SE (EJ 92 G0) [(5, .pointer (some ⟨4, 0, none⟩)), (1, .int .i64 n), (0, .pointer (some ⟨0, 0, none⟩))]), HP (feE s bol mn mx nn set kids (wmt w mn mx k n x (l.drop i) (met, out)).1 (wmt w mn mx k n x (l.drop i) (met, out)).2 x)) := by
  intro j
  induction j with
  | zero =>
    intro i met out hi ho hr
    rw [List.drop_of_length_le (by omega)]
    refine ww wcd ?_
    unfold wfd
    clear IH hk hl
    (repeat' (first | (simp -implicitDefEqProofs (maxSteps := 2000000) (disch := first | with_reducible assumption | omega | (simp only [zS, zA, Nat.reduceEqDiff, Nat.reduceLT, Nat.reduceLeDiff, Nat.reduceAdd, Nat.reduceSub, reduceCtorEq, wab, zD] <;> omega) | fail) only [zS, argl, insA, Go.Den.wm, wo, wu, looks, wfb, web, idOf, riA, Nat.reduceLeDiff, Nat.reduceLT, Nat.reduceEqDiff, Nat.reduceDiv, Nat.reduceMod, Int.reduceLT, Int.reduceLE, Int.reduceEq, Int.reduceNeg, Int.reduceToNat, Int.reduceSub, Int.reduceMul, Int.reduceNe, Nat.reduceAdd, Nat.reduceMul, Nat.reduceSub, Int.reduceAdd, reduceCtorEq, Go.Den.wh, kK, wcb, wab, *, zT]) | (with_reducible (first | apply z1 | apply z2 | apply z3 | apply z4) <;> intro hq <;> (try simp only [zH] at hq) <;> (try (exfalso; omega)))))
    all_goals rfl
  | succ j ih =>
    intro i met out hi ho hr
    rw [wqg l (by omega), wgl]
    have hy := hl (l.getD i St.zero) (by rw [List.getD_eq_getElem?_getD, List.getElem?_eq_getElem (by omega)]; exact List.getElem_mem _)
    refine ww wcd ?_
    unfold wfd
    by_cases hc : (l.getD i St.zero).1 ≠ x.1 ∨ n < mn
    · have h1 := IH (n + 1) (l.getD i St.zero) met out (by omega) (by omega) hy.1 (by omega) (wibc hx hy.1 hy.2 hnm hc hmu) ho hr
      have h2 := ih (i + 1) (onF w mn mx k (n + 1) (l.getD i St.zero) (met, out)).1 (onF w mn mx k (n + 1) (l.getD i St.zero) (met, out)).2 (by omega) (on_ne _ _ _ _ ho) (wufb (fun y hy _ => hk y hy) _ _ _ _ hy.1 (by omega) hr)
      rw [if_pos hc]
      clear IH ih hk
      by_cases hc1 : (l.getD i St.zero).1 = x.1
      · have hc2 : n < mn := by omega
        (repeat' (first | (simp -implicitDefEqProofs (maxSteps := 2000000) (disch := first | with_reducible assumption | omega | (simp only [zS, zA, Nat.reduceEqDiff, Nat.reduceLT, Nat.reduceLeDiff, Nat.reduceAdd, Nat.reduceSub, reduceCtorEq, wab, zD] <;> omega) | fail) only [zS, argl, insA, Go.Den.wm, wo, wu, looks, wfb, web, idOf, riA, Nat.reduceLeDiff, Nat.reduceLT, Nat.reduceEqDiff, Nat.reduceDiv, Nat.reduceMod, Int.reduceLT, Int.reduceLE, Int.reduceEq, Int.reduceNeg, Int.reduceToNat, Int.reduceSub, Int.reduceMul, Int.reduceNe, Nat.reduceAdd, Nat.reduceMul, Nat.reduceSub, Int.reduceAdd, reduceCtorEq, Go.Den.wh, kK, wcb, wab, wkb, wwb, *, zT]) | (with_reducible (first | apply z1 | apply z2 | apply z3 | apply z4) <;> intro hq <;> (try simp only [zH] at hq) <;> (try (exfalso; omega)))))
        exact h2
      · (repeat' (first | (simp -implicitDefEqProofs (maxSteps := 2000000) (disch := first | with_reducible assumption | omega | (simp only [zS, zA, Nat.reduceEqDiff, Nat.reduceLT, Nat.reduceLeDiff, Nat.reduceAdd, Nat.reduceSub, reduceCtorEq, wab, zD] <;> omega) | fail) only [zS, argl, insA, Go.Den.wm, wo, wu, looks, wfb, web, idOf, riA, Nat.reduceLeDiff, Nat.reduceLT, Nat.reduceEqDiff, Nat.reduceDiv, Nat.reduceMod, Int.reduceLT, Int.reduceLE, Int.reduceEq, Int.reduceNeg, Int.reduceToNat, Int.reduceSub, Int.reduceMul, Int.reduceNe, Nat.reduceAdd, Nat.reduceMul, Nat.reduceSub, Int.reduceAdd, reduceCtorEq, Go.Den.wh, kK, wcb, wab, wkb, wwb, *, zT]) | (with_reducible (first | apply z1 | apply z2 | apply z3 | apply z4) <;> intro hq <;> (try simp only [zH] at hq) <;> (try (exfalso; omega)))))
        exact h2
    · have h2 := ih (i + 1) met out (by omega) ho hr
      rw [if_neg hc]
      have hc1 : (l.getD i St.zero).1 = x.1 := by omega
      have hc2 : ¬ n < mn := by omega
      clear IH ih hk
      (repeat' (first | (simp -implicitDefEqProofs (maxSteps := 2000000) (disch := first | with_reducible assumption | omega | (simp only [zS, zA, Nat.reduceEqDiff, Nat.reduceLT, Nat.reduceLeDiff, Nat.reduceAdd, Nat.reduceSub, reduceCtorEq, wab, zD] <;> omega) | fail) only [zS, argl, insA, Go.Den.wm, wo, wu, looks, wfb, web, idOf, riA, Nat.reduceLeDiff, Nat.reduceLT, Nat.reduceEqDiff, Nat.reduceDiv, Nat.reduceMod, Int.reduceLT, Int.reduceLE, Int.reduceEq, Int.reduceNeg, Int.reduceToNat, Int.reduceSub, Int.reduceMul, Int.reduceNe, Nat.reduceAdd, Nat.reduceMul, Nat.reduceSub, Int.reduceAdd, reduceCtorEq, Go.Den.wh, kK, wcb, wab, wkb, wwb, *, zT]) | (with_reducible (first | apply z1 | apply z2 | apply z3 | apply z4) <;> intro hq <;> (try simp only [zH] at hq) <;> (try (exfalso; omega)))))
      exact h2
set_option maxHeartbeats 4000000 in
theorem on_loopN (hs : s.length ≤ 12) (hmn : 0 ≤ mn ∧ mn ≤ 20) (hmx : mx ≤ 20) (w : St → List St) (a : Int) (hk : ∀ y, GdS s.length y → RwS s.length y.1 (w y)) (k : Nat) (IHC : OnC s bol mn mx nn set kids w a k) (IH : OnN s bol mn mx nn set kids w a k) (n : Int) (hn : 0 ≤ n ∧ n + k < 1000) (hnm : mx < 0 ∨ n < mx) (x : St) (hx : GdS s.length x) (hxa : a ≤ x.1) (hmu : muF mn mx s.length n x < k + 1) (l : List St) (hll : l.length ≤ 16000000) (hl : ∀ y ∈ l, GdS s.length y ∧ x.1 ≤ y.1) :
    ∀ (j i : Nat) (met : List Turn), i + j = l.length →
    lim Try.prog cfg (.loop 88 4 (wae 0) (SE (EJ 92 G0) [(54, .int .i64 i), (53, .int .i64 l.length), (52, FL l.length (stsC l)), (5, .pointer (some ⟨4, 0, none⟩)), (1, .int .i64 n), (0, .pointer (some ⟨0, 0, none⟩))])) (HP (feN s bol mn mx nn set kids met x)) = some (.code (.exit 0) (SE (EJ 92 G0) [(5, .pointer (some ⟨4, 0, none⟩)), (1, .int .i64 n), (0, .pointer (some ⟨0, 0, none⟩))]), HP (feO s bol mn mx nn set kids (wmt w mn mx k n x (l.drop i) (met, [])) x)) := by
  intro j
  induction j with
  | zero =>
    intro i met hi
    rw [List.drop_of_length_le (by omega)]
    refine ww wcd ?_
    unfold wfd
    clear IH IHC hk hl
    (repeat' (first | (simp -implicitDefEqProofs (maxSteps := 2000000) (disch := first | with_reducible assumption | omega | (simp only [zS, zA, Nat.reduceEqDiff, Nat.reduceLT, Nat.reduceLeDiff, Nat.reduceAdd, Nat.reduceSub, reduceCtorEq, wab, zD] <;> omega) | fail) only [zS, argl, insA, Go.Den.wm, wo, wu, looks, wfb, web, idOf, riA, Nat.reduceLeDiff, Nat.reduceLT, Nat.reduceEqDiff, Nat.reduceDiv, Nat.reduceMod, Int.reduceLT, Int.reduceLE, Int.reduceEq, Int.reduceNeg, Int.reduceToNat, Int.reduceSub, Int.reduceMul, Int.reduceNe, Nat.reduceAdd, Nat.reduceMul, Nat.reduceSub, Int.reduceAdd, reduceCtorEq, Go.Den.wh, kK, wcb, wab, *, zT]) | (with_reducible (first | apply z1 | apply z2 | apply z3 | apply z4) <;> intro hq <;> (try simp only [zH] at hq) <;> (try (exfalso; omega)))))
    all_goals rfl
  | succ j ih =>
    intro i met hi
    rw [wqg l (by omega), wgl]
    have hy := hl (l.getD i St.zero) (by rw [List.getD_eq_getElem?_getD, List.getElem?_eq_getElem (by omega)]; exact List.getElem_mem _)
    refine ww wcd ?_
    unfold wfd
    by_cases hc : (l.getD i St.zero).1 ≠ x.1 ∨ n < mn
    · have h1 := IH (n + 1) (l.getD i St.zero) met (by omega) (by omega) hy.1 (by omega) (wibc hx hy.1 hy.2 hnm hc hmu)
      rw [if_pos hc]
      have hr := wufb (a0 := a) (mn := mn) (mx := mx) (fun y hy _ => hk y hy) k (n + 1) (l.getD i St.zero) (met, []) hy.1 (by omega) .nil
      rcases hq : onF w mn mx k (n + 1) (l.getD i St.zero) (met, []) with ⟨met2, out2⟩
      rw [hq] at h1 hr
      unfold reO at h1
      by_cases ho : out2 = []
      · subst ho
        rw [if_pos rfl] at h1
        have h2 := ih (i + 1) met2 (by omega)
        clear IH IHC ih hk
        by_cases hc1 : (l.getD i St.zero).1 = x.1
        · have hc2 : n < mn := by omega
          (repeat' (first | (simp -implicitDefEqProofs (maxSteps := 2000000) (disch := first | with_reducible assumption | omega | (simp only [zS, zA, Nat.reduceEqDiff, Nat.reduceLT, Nat.reduceLeDiff, Nat.reduceAdd, Nat.reduceSub, reduceCtorEq, wab, zD] <;> omega) | fail) only [zS, argl, insA, Go.Den.wm, wo, wu, looks, wfb, web, idOf, riA, Nat.reduceLeDiff, Nat.reduceLT, Nat.reduceEqDiff, Nat.reduceDiv, Nat.reduceMod, Int.reduceLT, Int.reduceLE, Int.reduceEq, Int.reduceNeg, Int.reduceToNat, Int.reduceSub, Int.reduceMul, Int.reduceNe, Nat.reduceAdd, Nat.reduceMul, Nat.reduceSub, Int.reduceAdd, reduceCtorEq, Go.Den.wh, kK, wcb, wab, wkb, wwb, *, zT]) | (with_reducible (first | apply z1 | apply z2 | apply z3 | apply z4) <;> intro hq <;> (try simp only [zH] at hq) <;> (try (exfalso; omega)))))
          exact h2
        · (repeat' (first | (simp -implicitDefEqProofs (maxSteps := 2000000) (disch := first | with_reducible assumption | omega | (simp only [zS, zA, Nat.reduceEqDiff, Nat.reduceLT, Nat.reduceLeDiff, Nat.reduceAdd, Nat.reduceSub, reduceCtorEq, wab, zD] <;> omega) | fail) only [zS, argl, insA, Go.Den.wm, wo, wu, looks, wfb, web, idOf, riA, Nat.reduceLeDiff, Nat.reduceLT, Nat.reduceEqDiff, Nat.reduceDiv, Nat.reduceMod, Int.reduceLT, Int.reduceLE, Int.reduceEq, Int.reduceNeg, Int.reduceToNat, Int.reduceSub, Int.reduceMul, Int.reduceNe, Nat.reduceAdd, Nat.reduceMul, Nat.reduceSub, Int.reduceAdd, reduceCtorEq, Go.Den.wh, kK, wcb, wab, wkb, wwb, *, zT]) | (with_reducible (first | apply z1 | apply z2 | apply z3 | apply z4) <;> intro hq <;> (try simp only [zH] at hq) <;> (try (exfalso; omega)))))
          exact h2
      · rw [if_neg ho] at h1
        have h2 := on_loopE s bol mn mx nn set kids hs hmn hmx w a hk k IHC n hn hnm x hx hxa hmu l hll hl j (i + 1) met2 out2 (by omega) ho hr
        rw [feO, if_neg (wqmb _ _ ho)]
        clear IH IHC ih hk
        by_cases hc1 : (l.getD i St.zero).1 = x.1
        · have hc2 : n < mn := by omega
          (repeat' (first | (simp -implicitDefEqProofs (maxSteps := 2000000) (disch := first | with_reducible assumption | omega | (simp only [zS, zA, Nat.reduceEqDiff, Nat.reduceLT, Nat.reduceLeDiff, Nat.reduceAdd, Nat.reduceSub, reduceCtorEq, wab, zD] <;> omega) | fail) only [zS, argl, insA, Go.Den.wm, wo, wu, looks, wfb, web, idOf, riA, Nat.reduceLeDiff, Nat.reduceLT, Nat.reduceEqDiff, Nat.reduceDiv, Nat.reduceMod, Int.reduceLT, Int.reduceLE, Int.reduceEq, Int.reduceNeg, Int.reduceToNat, Int.reduceSub, Int.reduceMul, Int.reduceNe, Nat.reduceAdd, Nat.reduceMul, Nat.reduceSub, Int.reduceAdd, reduceCtorEq, Go.Den.wh, kK, wcb, wab, wkb, wwb, *, zT]) | (with_reducible (first | apply z1 | apply z2 | apply z3 | apply z4) <;> intro hq <;> (try simp only [zH] at hq) <;> (try (exfalso; omega)))))
          exact h2
        · (repeat' (first | (simp -implicitDefEqProofs (maxSteps := 2000000) (disch := first | with_reducible assumption | omega | (simp only [zS, zA, Nat.reduceEqDiff, Nat.reduceLT, Nat.reduceLeDiff, Nat.reduceAdd, Nat.reduceSub, reduceCtorEq, wab, zD] <;> omega) | fail) only [zS, argl, insA, Go.Den.wm, wo, wu, looks, wfb, web, idOf, riA, Nat.reduceLeDiff, Nat.reduceLT, Nat.reduceEqDiff, Nat.reduceDiv, Nat.reduceMod, Int.reduceLT, Int.reduceLE, Int.reduceEq, Int.reduceNeg, Int.reduceToNat, Int.reduceSub, Int.reduceMul, Int.reduceNe, Nat.reduceAdd, Nat.reduceMul, Nat.reduceSub, Int.reduceAdd, reduceCtorEq, Go.Den.wh, kK, wcb, wab, wkb, wwb, *, zT]) | (with_reducible (first | apply z1 | apply z2 | apply z3 | apply z4) <;> intro hq <;> (try simp only [zH] at hq) <;> (try (exfalso; omega)))))
          exact h2
    · have h2 := ih (i + 1) met (by omega)
      rw [if_neg hc]
      have hc1 : (l.getD i St.zero).1 = x.1 := by omega
      have hc2 : ¬ n < mn := by omega
      clear IH IHC ih hk
      (repeat' (first | (simp -implicitDefEqProofs (maxSteps := 2000000) (disch := first | with_reducible assumption | omega | (simp only [zS, zA, Nat.reduceEqDiff, Nat.reduceLT, Nat.reduceLeDiff, Nat.reduceAdd, Nat.reduceSub, reduceCtorEq, wab, zD] <;> omega) | fail) only [zS, argl, insA, Go.Den.wm, wo, wu, looks, wfb, web, idOf, riA, Nat.reduceLeDiff, Nat.reduceLT, Nat.reduceEqDiff, Nat.reduceDiv, Nat.reduceMod, Int.reduceLT, Int.reduceLE, Int.reduceEq, Int.reduceNeg, Int.reduceToNat, Int.reduceSub, Int.reduceMul, Int.reduceNe, Nat.reduceAdd, Nat.reduceMul, Nat.reduceSub, Int.reduceAdd, reduceCtorEq, Go.Den.wh, kK, wcb, wab, wkb, wwb, *, zT]) | (with_reducible (first | apply z1 | apply z2 | apply z3 | apply z4) <;> intro hq <;> (try simp only [zH] at hq) <;> (try (exfalso; omega)))))
      exact h2
end
end
end Go.Proofs.Ytdbhfmdndiphcaa
namespace Go.Proofs.Ytdbhfmdndiphcaa
set_option linter.unusedVariables false
set_option linter.unusedSimpArgs false
open Go.Den
noncomputable section
section
variable (s : List UInt8) (bol : Bool) (mn mx nn : Int) (set : BitVec 256) (kids : List Rx)
theorem wjbc {w : St → List St} {mn mx : Int} {k : Nat} {n : Int} {x : St} {a : List Turn × List St} (h : keyF mn mx n x ∈ a.1) : onF w mn mx (k + 1) n x a = a := by
  rw [onF, if_pos h]
theorem wzbb {w : St → List St} {mn mx : Int} {k : Nat} {n : Int} {x : St} {met : List Turn} {out : List St} (h : keyF mn mx n x ∉ met) (b : List Turn × List St) (hb : b = if mx < 0 ∨ n < mx then wmt w mn mx k n x (w x) (met ++ [keyF mn mx n x], out) else (met ++ [keyF mn mx n x], out)) :
    onF w mn mx (k + 1) n x (met, out) = if n ≥ mn then (b.1, addF b.2 [x]) else b := by
  rw [onF, if_neg h, hb]
  rfl
set_option maxHeartbeats 4000000 in
theorem ev_on_C (hs : s.length ≤ 12) (hmn : 0 ≤ mn ∧ mn ≤ 20) (hmx : mx ≤ 20) (w : St → List St) (a : Int) (hk : KidOk s bol kids w) (k : Nat) (IH : OnC s bol mn mx nn set kids w a k) : OnC s bol mn mx nn set kids w a (k + 1) := by
  intro n x met out hn hn2 hx hxa hmu ho hr
  obtain ⟨kid, k1, k2, k3⟩ := hk
  have hw := fun y hy => (k3 y hy).1
  have ⟨r1, r2⟩ := k3 x hx
  have r3 := row_len r1 hs
  have key := ev_key_C s bol mn mx nn set kids
  refine wjc hc wwi (Nat.le_of_ble_eq_true rfl) (Nat.le_of_ble_eq_true rfl) ?_
  unfold wai
  by_cases hm : keyF mn mx n x ∈ met
  · rw [wjbc hm]
    clear IH k3 hw r1 r2
    (repeat' (first | (simp -implicitDefEqProofs (maxSteps := 2000000) (disch := first | with_reducible assumption | omega | (simp only [zS, zA, Nat.reduceEqDiff, Nat.reduceLT, Nat.reduceLeDiff, Nat.reduceAdd, Nat.reduceSub, reduceCtorEq, wab, wnf, wkb, wwb, zD] <;> omega) | fail) only [zS, argl, insA, Go.Den.wm, wo, wu, looks, wfb, web, idOf, riA, Nat.reduceLeDiff, Nat.reduceLT, Nat.reduceEqDiff, Nat.reduceDiv, Nat.reduceMod, Int.reduceLT, Int.reduceLE, Int.reduceEq, Int.reduceNeg, Int.reduceToNat, Int.reduceSub, Int.reduceMul, Int.reduceNe, Nat.reduceAdd, Nat.reduceMul, Nat.reduceSub, Int.reduceAdd, reduceCtorEq, Go.Den.wh, kK, wab, wkb, wwb, wod wvg, wzf, wnf, *, zT]) | (with_reducible (first | apply z1 | apply z2 | apply z3 | apply z4) <;> intro hq <;> (try simp only [zH] at hq) <;> (try (exfalso; omega))) | (with_reducible apply z5; (case hl => (repeat (first | exact .nil | with_reducible apply z6 | with_reducible apply z7))); (case h => kernel_rfl))))
  · by_cases hnm : mx < 0 ∨ n < mx
    · have hb := wzbb (w := w) (k := k) (out := out) hm _ rfl
      rw [if_pos hnm] at hb
      have hl := on_loopC s bol mn mx nn set kids hs hmn hmx w a hw k IH n ⟨hn, by omega⟩ hnm x hx hxa hmu (w x) (by omega) r1.good (w x).length 0 (met ++ [keyF mn mx n x]) out (by omega) ho hr
      rw [List.drop_zero, show ((0 : Nat) : Int) = 0 from rfl] at hl
      simp only [List.cons_append, List.nil_append] at hl
      have hbr := wwfb (a := a) (mn := mn) (mx := mx) hw (k := k) (n := n) (x := x) (w x) (met ++ [keyF mn mx n x], out) (fun y hy => ⟨(r1.good y hy).1, by have := (r1.good y hy).2; omega⟩) hr
      have hbn := wqmb (w := w) (mn := mn) (mx := mx) (k := k) (n := n) (x := x) (w x) (met ++ [keyF mn mx n x], out) ho
      generalize wmt w mn mx k n x (w x) (met ++ [keyF mn mx n x], out) = b at hb hl hbr hbn
      obtain ⟨bm, bo⟩ := b
      simp only at hb hl hbr hbn
      rw [hb]
      have hadd := wuo bo [x] hbn (by simp) (by have := row_len (hbr.add (xs := [x]) (fun y hy => by rw [List.mem_singleton] at hy; subst hy; exact ⟨hx, hxa⟩)) hs; omega)
      rw [wdg, show [x].length = 1 from rfl] at hadd
      clear IH k3 hw r1 hb hbr
      by_cases hge : n ≥ mn
      · rw [if_pos hge]
        by_cases hmx0 : mx < 0
        · (repeat' (first | (simp -implicitDefEqProofs (maxSteps := 2000000) (disch := first | with_reducible assumption | omega | (simp only [zS, zA, Nat.reduceEqDiff, Nat.reduceLT, Nat.reduceLeDiff, Nat.reduceAdd, Nat.reduceSub, reduceCtorEq, wab, wnf, wkb, wwb, zD] <;> omega) | fail) only [zS, argl, insA, Go.Den.wm, wo, wu, looks, wfb, web, idOf, riA, Nat.reduceLeDiff, Nat.reduceLT, Nat.reduceEqDiff, Nat.reduceDiv, Nat.reduceMod, Int.reduceLT, Int.reduceLE, Int.reduceEq, Int.reduceNeg, Int.reduceToNat, Int.reduceSub, Int.reduceMul, Int.reduceNe, Nat.reduceAdd, Nat.reduceMul, Nat.reduceSub, Int.reduceAdd, reduceCtorEq, Go.Den.wh, kK, wcb, wab, wkb, wwb, wod wvg, wkf wvg, wzf, wnf, *, zT]) | (with_reducible (first | apply z1 | apply z2 | apply z3 | apply z4) <;> intro hq <;> (try simp only [zH] at hq) <;> (try (exfalso; omega))) | (with_reducible apply z5; (case hl => (repeat (first | exact .nil | with_reducible apply z6 | with_reducible apply z7))); (case h => kernel_rfl))))
        · have hnm2 : n < mx := by omega
          (repeat' (first | (simp -implicitDefEqProofs (maxSteps := 2000000) (disch := first | with_reducible assumption | omega | (simp only [zS, zA, Nat.reduceEqDiff, Nat.reduceLT, Nat.reduceLeDiff, Nat.reduceAdd, Nat.reduceSub, reduceCtorEq, wab, wnf, wkb, wwb, zD] <;> omega) | fail) only [zS, argl, insA, Go.Den.wm, wo, wu, looks, wfb, web, idOf, riA, Nat.reduceLeDiff, Nat.reduceLT, Nat.reduceEqDiff, Nat.reduceDiv, Nat.reduceMod, Int.reduceLT, Int.reduceLE, Int.reduceEq, Int.reduceNeg, Int.reduceToNat, Int.reduceSub, Int.reduceMul, Int.reduceNe, Nat.reduceAdd, Nat.reduceMul, Nat.reduceSub, Int.reduceAdd, reduceCtorEq, Go.Den.wh, kK, wcb, wab, wkb, wwb, wod wvg, wkf wvg, wzf, wnf, *, zT]) | (with_reducible (first | apply z1 | apply z2 | apply z3 | apply z4) <;> intro hq <;> (try simp only [zH] at hq) <;> (try (exfalso; omega))) | (with_reducible apply z5; (case hl => (repeat (first | exact .nil | with_reducible apply z6 | with_reducible apply z7))); (case h => kernel_rfl))))
      · rw [if_neg hge]
        by_cases hmx0 : mx < 0
        · (repeat' (first | (simp -implicitDefEqProofs (maxSteps := 2000000) (disch := first | with_reducible assumption | omega | (simp only [zS, zA, Nat.reduceEqDiff, Nat.reduceLT, Nat.reduceLeDiff, Nat.reduceAdd, Nat.reduceSub, reduceCtorEq, wab, wnf, wkb, wwb, zD] <;> omega) | fail) only [zS, argl, insA, Go.Den.wm, wo, wu, looks, wfb, web, idOf, riA, Nat.reduceLeDiff, Nat.reduceLT, Nat.reduceEqDiff, Nat.reduceDiv, Nat.reduceMod, Int.reduceLT, Int.reduceLE, Int.reduceEq, Int.reduceNeg, Int.reduceToNat, Int.reduceSub, Int.reduceMul, Int.reduceNe, Nat.reduceAdd, Nat.reduceMul, Nat.reduceSub, Int.reduceAdd, reduceCtorEq, Go.Den.wh, kK, wcb, wab, wkb, wwb, wod wvg, wkf wvg, wzf, wnf, *, zT]) | (with_reducible (first | apply z1 | apply z2 | apply z3 | apply z4) <;> intro hq <;> (try simp only [zH] at hq) <;> (try (exfalso; omega))) | (with_reducible apply z5; (case hl => (repeat (first | exact .nil | with_reducible apply z6 | with_reducible apply z7))); (case h => kernel_rfl))))
        · have hnm2 : n < mx := by omega
          (repeat' (first | (simp -implicitDefEqProofs (maxSteps := 2000000) (disch := first | with_reducible assumption | omega | (simp only [zS, zA, Nat.reduceEqDiff, Nat.reduceLT, Nat.reduceLeDiff, Nat.reduceAdd, Nat.reduceSub, reduceCtorEq, wab, wnf, wkb, wwb, zD] <;> omega) | fail) only [zS, argl, insA, Go.Den.wm, wo, wu, looks, wfb, web, idOf, riA, Nat.reduceLeDiff, Nat.reduceLT, Nat.reduceEqDiff, Nat.reduceDiv, Nat.reduceMod, Int.reduceLT, Int.reduceLE, Int.reduceEq, Int.reduceNeg, Int.reduceToNat, Int.reduceSub, Int.reduceMul, Int.reduceNe, Nat.reduceAdd, Nat.reduceMul, Nat.reduceSub, Int.reduceAdd, reduceCtorEq, Go.Den.wh, kK, wcb, wab, wkb, wwb, wod wvg, wkf wvg, wzf, wnf, *, zT]) | (with_reducible (first | apply z1 | apply z2 | apply z3 | apply z4) <;> intro hq <;> (try simp only [zH] at hq) <;> (try (exfalso; omega))) | (with_reducible apply z5; (case hl => (repeat (first | exact .nil | with_reducible apply z6 | with_reducible apply z7))); (case h => kernel_rfl))))
    · have hb := wzbb (w := w) (k := k) (out := out) hm _ rfl
      rw [if_neg hnm] at hb
      simp only at hb
      rw [hb]
      have hmx0 : ¬ mx < 0 := fun h => hnm (.inl h)
      have hnm2 : ¬ n < mx := fun h => hnm (.inr h)
      have hadd := wuo out [x] ho (by simp) (by have := row_len (hr.add (xs := [x]) (fun y hy => by rw [List.mem_singleton] at hy; subst hy; exact ⟨hx, hxa⟩)) hs; omega)
      rw [wdg, show [x].length = 1 from rfl] at hadd
      clear IH k3 hw r1 r2 hb hnm
      by_cases hge : n ≥ mn
      · rw [if_pos hge]
        (repeat' (first | (simp -implicitDefEqProofs (maxSteps := 2000000) (disch := first | with_reducible assumption | omega | (simp only [zS, zA, Nat.reduceEqDiff, Nat.reduceLT, Nat.reduceLeDiff, Nat.reduceAdd, Nat.reduceSub, reduceCtorEq, wab, wnf, wkb, wwb, zD] <;> omega) | fail) only [zS, argl, insA, Go.Den.wm, wo, wu, looks, wfb, web, idOf, riA, Nat.reduceLeDiff, Nat.reduceLT, Nat.reduceEqDiff, Nat.reduceDiv, Nat.reduceMod, Int.reduceLT, Int.reduceLE, Int.reduceEq, Int.reduceNeg, Int.reduceToNat, Int.reduceSub, Int.reduceMul, Int.reduceNe, Nat.reduceAdd, Nat.reduceMul, Nat.reduceSub, Int.reduceAdd, reduceCtorEq, Go.Den.wh, kK, wcb, wab, wkb, wwb, wod wvg, wkf wvg, wzf, wnf, *, zT]) | (with_reducible (first | apply z1 | apply z2 | apply z3 | apply z4) <;> intro hq <;> (try simp only [zH] at hq) <;> (try (exfalso; omega))) | (with_reducible apply z5; (case hl => (repeat (first | exact .nil | with_reducible apply z6 | with_reducible apply z7))); (case h => kernel_rfl))))
      · rw [if_neg hge]
        (repeat' (first | (simp -implicitDefEqProofs (maxSteps := 2000000) (disch := first | with_reducible assumption | omega | (simp only [zS, zA, Nat.reduceEqDiff, Nat.reduceLT, Nat.reduceLeDiff, Nat.reduceAdd, Nat.reduceSub, reduceCtorEq, wab, wnf, wkb, wwb, zD] <;> omega) | fail) only [zS, argl, insA, Go.Den.wm, wo, wu, looks, wfb, web, idOf, riA, Nat.reduceLeDiff, Nat.reduceLT, Nat.reduceEqDiff, Nat.reduceDiv, Nat.reduceMod, Int.reduceLT, Int.reduceLE, Int.reduceEq, Int.reduceNeg, Int.reduceToNat, Int.reduceSub, Int.reduceMul, Int.reduceNe, Nat.reduceAdd, Nat.reduceMul, Nat.reduceSub, Int.reduceAdd, reduceCtorEq, Go.Den.wh, kK, wcb, wab, wkb, wwb, wod wvg, wkf wvg, wzf, wnf, *, zT]) | (with_reducible (first | apply z1 | apply z2 | apply z3 | apply z4) <;> intro hq <;> (try simp only [zH] at hq) <;> (try (exfalso; omega))) | (with_reducible apply z5; (case hl => (repeat (first | exact .nil | with_reducible apply z6 | with_reducible apply z7))); (case h => kernel_rfl))))
end
end
end Go.Proofs.Ytdbhfmdndiphcaa
namespace Go.Proofs.Ytdbhfmdndiphcaa
set_option linter.unusedVariables false
set_option linter.unusedSimpArgs false
open Go.Den
noncomputable section
section
variable (s : List UInt8) (bol : Bool) (mn mx nn : Int) (set : BitVec 256) (kids : List Rx)
set_option maxHeartbeats 4000000 in
theorem ev_on_N (hs : s.length ≤ 12) (hmn : 0 ≤ mn ∧ mn ≤ 20) (hmx : mx ≤ 20) (w : St → List St) (a : Int) (hk : KidOk s bol kids w) (k : Nat) (IHC : OnC s bol mn mx nn set kids w a k) (IH : OnN s bol mn mx nn set kids w a k) : OnN s bol mn mx nn set kids w a (k + 1) := by
  intro n x met hn hn2 hx hxa hmu
  obtain ⟨kid, k1, k2, k3⟩ := hk
  have hw := fun y hy => (k3 y hy).1
  have ⟨r1, r2⟩ := k3 x hx
  have r3 := row_len r1 hs
  have key := ev_key_N s bol mn mx nn set kids
  refine wjc hc wwi (Nat.le_of_ble_eq_true rfl) (Nat.le_of_ble_eq_true rfl) ?_
  unfold wai
  by_cases hm : keyF mn mx n x ∈ met
  · rw [wjbc hm, reO, if_pos rfl]
    clear IH IHC k3 hw r1 r2
    (repeat' (first | (simp -implicitDefEqProofs (maxSteps := 2000000) (disch := first | with_reducible assumption | omega | (simp only [zS, zA, Nat.reduceEqDiff, Nat.reduceLT, Nat.reduceLeDiff, Nat.reduceAdd, Nat.reduceSub, reduceCtorEq, wab, wnf, wkb, wwb, zD] <;> omega) | fail) only [zS, argl, insA, Go.Den.wm, wo, wu, looks, wfb, web, idOf, riA, Nat.reduceLeDiff, Nat.reduceLT, Nat.reduceEqDiff, Nat.reduceDiv, Nat.reduceMod, Int.reduceLT, Int.reduceLE, Int.reduceEq, Int.reduceNeg, Int.reduceToNat, Int.reduceSub, Int.reduceMul, Int.reduceNe, Nat.reduceAdd, Nat.reduceMul, Nat.reduceSub, Int.reduceAdd, reduceCtorEq, Go.Den.wh, kK, wab, wkb, wwb, wod wvg, wzf, wnf, *, zT]) | (with_reducible (first | apply z1 | apply z2 | apply z3 | apply z4) <;> intro hq <;> (try simp only [zH] at hq) <;> (try (exfalso; omega))) | (with_reducible apply z5; (case hl => (repeat (first | exact .nil | with_reducible apply z6 | with_reducible apply z7))); (case h => kernel_rfl))))
  · by_cases hnm : mx < 0 ∨ n < mx
    · have hb := wzbb (w := w) (k := k) (out := []) hm _ rfl
      rw [if_pos hnm] at hb
      have hl := on_loopN s bol mn mx nn set kids hs hmn hmx w a hw k IHC IH n ⟨hn, by omega⟩ hnm x hx hxa hmu (w x) (by omega) r1.good (w x).length 0 (met ++ [keyF mn mx n x]) (by omega)
      rw [List.drop_zero, show ((0 : Nat) : Int) = 0 from rfl] at hl
      have hbr := wwfb (a := a) (mn := mn) (mx := mx) hw (k := k) (n := n) (x := x) (w x) (met ++ [keyF mn mx n x], []) (fun y hy => ⟨(r1.good y hy).1, by have := (r1.good y hy).2; omega⟩) .nil
      generalize wmt w mn mx k n x (w x) (met ++ [keyF mn mx n x], []) = b at hb hl hbr
      obtain ⟨bm, bo⟩ := b
      simp only at hb hbr
      rw [hb]
      have hlen : (addF bo [x]).length ≤ 16000000 := by have := row_len (hbr.add (xs := [x]) (fun y hy => by rw [List.mem_singleton] at hy; subst hy; exact ⟨hx, hxa⟩)) hs; omega
      clear IH IHC k3 hw r1 hb hbr
      unfold feO at hl
      by_cases hbo : bo = []
      · subst hbo
        rw [if_pos rfl] at hl
        have hadd := wur [x] (by simp) (by simp) hlen
        rw [wdg, show [x].length = 1 from rfl] at hadd
        by_cases hge : n ≥ mn
        · rw [if_pos hge, reO, if_neg (wnh (.inr (by simp)))]
          by_cases hmx0 : mx < 0
          · (repeat' (first | (simp -implicitDefEqProofs (maxSteps := 2000000) (disch := first | with_reducible assumption | omega | (simp only [zS, zA, Nat.reduceEqDiff, Nat.reduceLT, Nat.reduceLeDiff, Nat.reduceAdd, Nat.reduceSub, reduceCtorEq, wab, wnf, wkb, wwb, zD] <;> omega) | fail) only [zS, argl, insA, Go.Den.wm, wo, wu, looks, wfb, web, idOf, riA, Nat.reduceLeDiff, Nat.reduceLT, Nat.reduceEqDiff, Nat.reduceDiv, Nat.reduceMod, Int.reduceLT, Int.reduceLE, Int.reduceEq, Int.reduceNeg, Int.reduceToNat, Int.reduceSub, Int.reduceMul, Int.reduceNe, Nat.reduceAdd, Nat.reduceMul, Nat.reduceSub, Int.reduceAdd, reduceCtorEq, Go.Den.wh, kK, wcb, wab, wkb, wwb, wod wvg, wkf wvg, wzf, wnf, *, zT]) | (with_reducible (first | apply z1 | apply z2 | apply z3 | apply z4) <;> intro hq <;> (try simp only [zH] at hq) <;> (try (exfalso; omega))) | (with_reducible apply z5; (case hl => (repeat (first | exact .nil | with_reducible apply z6 | with_reducible apply z7))); (case h => kernel_rfl))))
          · have hnm2 : n < mx := by omega
            (repeat' (first | (simp -implicitDefEqProofs (maxSteps := 2000000) (disch := first | with_reducible assumption | omega | (simp only [zS, zA, Nat.reduceEqDiff, Nat.reduceLT, Nat.reduceLeDiff, Nat.reduceAdd, Nat.reduceSub, reduceCtorEq, wab, wnf, wkb, wwb, zD] <;> omega) | fail) only [zS, argl, insA, Go.Den.wm, wo, wu, looks, wfb, web, idOf, riA, Nat.reduceLeDiff, Nat.reduceLT, Nat.reduceEqDiff, Nat.reduceDiv, Nat.reduceMod, Int.reduceLT, Int.reduceLE, Int.reduceEq, Int.reduceNeg, Int.reduceToNat, Int.reduceSub, Int.reduceMul, Int.reduceNe, Nat.reduceAdd, Nat.reduceMul, Nat.reduceSub, Int.reduceAdd, reduceCtorEq, Go.Den.wh, kK, wcb, wab, wkb, wwb, wod wvg, wkf wvg, wzf, wnf, *, zT]) | (with_reducible (first | apply z1 | apply z2 | apply z3 | apply z4) <;> intro hq <;> (try simp only [zH] at hq) <;> (try (exfalso; omega))) | (with_reducible apply z5; (case hl => (repeat (first | exact .nil | with_reducible apply z6 | with_reducible apply z7))); (case h => kernel_rfl))))
        · rw [if_neg hge, reO, if_pos rfl]
          by_cases hmx0 : mx < 0
          · (repeat' (first | (simp -implicitDefEqProofs (maxSteps := 2000000) (disch := first | with_reducible assumption | omega | (simp only [zS, zA, Nat.reduceEqDiff, Nat.reduceLT, Nat.reduceLeDiff, Nat.reduceAdd, Nat.reduceSub, reduceCtorEq, wab, wnf, wkb, wwb, zD] <;> omega) | fail) only [zS, argl, insA, Go.Den.wm, wo, wu, looks, wfb, web, idOf, riA, Nat.reduceLeDiff, Nat.reduceLT, Nat.reduceEqDiff, Nat.reduceDiv, Nat.reduceMod, Int.reduceLT, Int.reduceLE, Int.reduceEq, Int.reduceNeg, Int.reduceToNat, Int.reduceSub, Int.reduceMul, Int.reduceNe, Nat.reduceAdd, Nat.reduceMul, Nat.reduceSub, Int.reduceAdd, reduceCtorEq, Go.Den.wh, kK, wcb, wab, wkb, wwb, wod wvg, wkf wvg, wzf, wnf, *, zT]) | (with_reducible (first | apply z1 | apply z2 | apply z3 | apply z4) <;> intro hq <;> (try simp only [zH] at hq) <;> (try (exfalso; omega))) | (with_reducible apply z5; (case hl => (repeat (first | exact .nil | with_reducible apply z6 | with_reducible apply z7))); (case h => kernel_rfl))))
          · have hnm2 : n < mx := by omega
            (repeat' (first | (simp -implicitDefEqProofs (maxSteps := 2000000) (disch := first | with_reducible assumption | omega | (simp only [zS, zA, Nat.reduceEqDiff, Nat.reduceLT, Nat.reduceLeDiff, Nat.reduceAdd, Nat.reduceSub, reduceCtorEq, wab, wnf, wkb, wwb, zD] <;> omega) | fail) only [zS, argl, insA, Go.Den.wm, wo, wu, looks, wfb, web, idOf, riA, Nat.reduceLeDiff, Nat.reduceLT, Nat.reduceEqDiff, Nat.reduceDiv, Nat.reduceMod, Int.reduceLT, Int.reduceLE, Int.reduceEq, Int.reduceNeg, Int.reduceToNat, Int.reduceSub, Int.reduceMul, Int.reduceNe, Nat.reduceAdd, Nat.reduceMul, Nat.reduceSub, Int.reduceAdd, reduceCtorEq, Go.Den.wh, kK, wcb, wab, wkb, wwb, wod wvg, wkf wvg, wzf, wnf, *, zT]) | (with_reducible (first | apply z1 | apply z2 | apply z3 | apply z4) <;> intro hq <;> (try simp only [zH] at hq) <;> (try (exfalso; omega))) | (with_reducible apply z5; (case hl => (repeat (first | exact .nil | with_reducible apply z6 | with_reducible apply z7))); (case h => kernel_rfl))))
      · rw [if_neg hbo] at hl
        have hadd := wuo bo [x] hbo (by simp) hlen
        rw [wdg, show [x].length = 1 from rfl] at hadd
        by_cases hge : n ≥ mn
        · rw [if_pos hge, reO, if_neg (wnh (.inr (by simp)))]
          by_cases hmx0 : mx < 0
          · (repeat' (first | (simp -implicitDefEqProofs (maxSteps := 2000000) (disch := first | with_reducible assumption | omega | (simp only [zS, zA, Nat.reduceEqDiff, Nat.reduceLT, Nat.reduceLeDiff, Nat.reduceAdd, Nat.reduceSub, reduceCtorEq, wab, wnf, wkb, wwb, zD] <;> omega) | fail) only [zS, argl, insA, Go.Den.wm, wo, wu, looks, wfb, web, idOf, riA, Nat.reduceLeDiff, Nat.reduceLT, Nat.reduceEqDiff, Nat.reduceDiv, Nat.reduceMod, Int.reduceLT, Int.reduceLE, Int.reduceEq, Int.reduceNeg, Int.reduceToNat, Int.reduceSub, Int.reduceMul, Int.reduceNe, Nat.reduceAdd, Nat.reduceMul, Nat.reduceSub, Int.reduceAdd, reduceCtorEq, Go.Den.wh, kK, wcb, wab, wkb, wwb, wod wvg, wkf wvg, wzf, wnf, *, zT]) | (with_reducible (first | apply z1 | apply z2 | apply z3 | apply z4) <;> intro hq <;> (try simp only [zH] at hq) <;> (try (exfalso; omega))) | (with_reducible apply z5; (case hl => (repeat (first | exact .nil | with_reducible apply z6 | with_reducible apply z7))); (case h => kernel_rfl))))
          · have hnm2 : n < mx := by omega
            (repeat' (first | (simp -implicitDefEqProofs (maxSteps := 2000000) (disch := first | with_reducible assumption | omega | (simp only [zS, zA, Nat.reduceEqDiff, Nat.reduceLT, Nat.reduceLeDiff, Nat.reduceAdd, Nat.reduceSub, reduceCtorEq, wab, wnf, wkb, wwb, zD] <;> omega) | fail) only [zS, argl, insA, Go.Den.wm, wo, wu, looks, wfb, web, idOf, riA, Nat.reduceLeDiff, Nat.reduceLT, Nat.reduceEqDiff, Nat.reduceDiv, Nat.reduceMod, Int.reduceLT, Int.reduceLE, Int.reduceEq, Int.reduceNeg, Int.reduceToNat, Int.reduceSub, Int.reduceMul, Int.reduceNe, Nat.reduceAdd, Nat.reduceMul, Nat.reduceSub, Int.reduceAdd, reduceCtorEq, Go.Den.wh, kK, wcb, wab, wkb, wwb, wod wvg, wkf wvg, wzf, wnf, *, zT]) | (with_reducible (first | apply z1 | apply z2 | apply z3 | apply z4) <;> intro hq <;> (try simp only [zH] at hq) <;> (try (exfalso; omega))) | (with_reducible apply z5; (case hl => (repeat (first | exact .nil | with_reducible apply z6 | with_reducible apply z7))); (case h => kernel_rfl))))
        · rw [if_neg hge, reO, if_neg hbo]
          by_cases hmx0 : mx < 0
          · (repeat' (first | (simp -implicitDefEqProofs (maxSteps := 2000000) (disch := first | with_reducible assumption | omega | (simp only [zS, zA, Nat.reduceEqDiff, Nat.reduceLT, Nat.reduceLeDiff, Nat.reduceAdd, Nat.reduceSub, reduceCtorEq, wab, wnf, wkb, wwb, zD] <;> omega) | fail) only [zS, argl, insA, Go.Den.wm, wo, wu, looks, wfb, web, idOf, riA, Nat.reduceLeDiff, Nat.reduceLT, Nat.reduceEqDiff, Nat.reduceDiv, Nat.reduceMod, Int.reduceLT, Int.reduceLE, Int.reduceEq, Int.reduceNeg, Int.reduceToNat, Int.reduceSub, Int.reduceMul, Int.reduceNe, Nat.reduceAdd, Nat.reduceMul, Nat.reduceSub, Int.reduceAdd, reduceCtorEq, Go.Den.wh, kK, wcb, wab, wkb, wwb, wod wvg, wkf wvg, wzf, wnf, *, zT]) | (with_reducible (first | apply z1 | apply z2 | apply z3 | apply z4) <;> intro hq <;> (try simp only [zH] at hq) <;> (try (exfalso; omega))) | (with_reducible apply z5; (case hl => (repeat (first | exact .nil | with_reducible apply z6 | with_reducible apply z7))); (case h => kernel_rfl))))
          · have hnm2 : n < mx := by omega
            (repeat' (first | (simp -implicitDefEqProofs (maxSteps := 2000000) (disch := first | with_reducible assumption | omega | (simp only [zS, zA, Nat.reduceEqDiff, Nat.reduceLT, Nat.reduceLeDiff, Nat.reduceAdd, Nat.reduceSub, reduceCtorEq, wab, wnf, wkb, wwb, zD] <;> omega) | fail) only [zS, argl, insA, Go.Den.wm, wo, wu, looks, wfb, web, idOf, riA, Nat.reduceLeDiff, Nat.reduceLT, Nat.reduceEqDiff, Nat.reduceDiv, Nat.reduceMod, Int.reduceLT, Int.reduceLE, Int.reduceEq, Int.reduceNeg, Int.reduceToNat, Int.reduceSub, Int.reduceMul, Int.reduceNe, Nat.reduceAdd, Nat.reduceMul, Nat.reduceSub, Int.reduceAdd, reduceCtorEq, Go.Den.wh, kK, wcb, wab, wkb, wwb, wod wvg, wkf wvg, wzf, wnf, *, zT]) | (with_reducible (first | apply z1 | apply z2 | apply z3 | apply z4) <;> intro hq <;> (try simp only [zH] at hq) <;> (try (exfalso; omega))) | (with_reducible apply z5; (case hl => (repeat (first | exact .nil | with_reducible apply z6 | with_reducible apply z7))); (case h => kernel_rfl))))
    · have hb := wzbb (w := w) (k := k) (out := []) hm _ rfl
      rw [if_neg hnm] at hb
      simp only at hb
      rw [hb]
      have hmx0 : ¬ mx < 0 := fun h => hnm (.inl h)
      have hnm2 : ¬ n < mx := fun h => hnm (.inr h)
      have hadd := wur [x] (by simp) (by simp) (by have := row_len ((RwS.nil (len := s.length) (a := a)).add (xs := [x]) (fun y hy => by rw [List.mem_singleton] at hy; subst hy; exact ⟨hx, hxa⟩)) hs; omega)
      rw [wdg, show [x].length = 1 from rfl] at hadd
      clear IH IHC k3 hw r1 r2 hb hnm
      by_cases hge : n ≥ mn
      · rw [if_pos hge, reO, if_neg (wnh (.inr (by simp)))]
        (repeat' (first | (simp -implicitDefEqProofs (maxSteps := 2000000) (disch := first | with_reducible assumption | omega | (simp only [zS, zA, Nat.reduceEqDiff, Nat.reduceLT, Nat.reduceLeDiff, Nat.reduceAdd, Nat.reduceSub, reduceCtorEq, wab, wnf, wkb, wwb, zD] <;> omega) | fail) only [zS, argl, insA, Go.Den.wm, wo, wu, looks, wfb, web, idOf, riA, Nat.reduceLeDiff, Nat.reduceLT, Nat.reduceEqDiff, Nat.reduceDiv, Nat.reduceMod, Int.reduceLT, Int.reduceLE, Int.reduceEq, Int.reduceNeg, Int.reduceToNat, Int.reduceSub, Int.reduceMul, Int.reduceNe, Nat.reduceAdd, Nat.reduceMul, Nat.reduceSub, Int.reduceAdd, reduceCtorEq, Go.Den.wh, kK, wcb, wab, wkb, wwb, wod wvg, wkf wvg, wzf, wnf, *, zT]) | (with_reducible (first | apply z1 | apply z2 | apply z3 | apply z4) <;> intro hq <;> (try simp only [zH] at hq) <;> (try (exfalso; omega))) | (with_reducible apply z5; (case hl => (repeat (first | exact .nil | with_reducible apply z6 | with_reducible apply z7))); (case h => kernel_rfl))))
      · rw [if_neg hge, reO, if_pos rfl]
        (repeat' (first | (simp -implicitDefEqProofs (maxSteps := 2000000) (disch := first | with_reducible assumption | omega | (simp only [zS, zA, Nat.reduceEqDiff, Nat.reduceLT, Nat.reduceLeDiff, Nat.reduceAdd, Nat.reduceSub, reduceCtorEq, wab, wnf, wkb, wwb, zD] <;> omega) | fail) only [zS, argl, insA, Go.Den.wm, wo, wu, looks, wfb, web, idOf, riA, Nat.reduceLeDiff, Nat.reduceLT, Nat.reduceEqDiff, Nat.reduceDiv, Nat.reduceMod, Int.reduceLT, Int.reduceLE, Int.reduceEq, Int.reduceNeg, Int.reduceToNat, Int.reduceSub, Int.reduceMul, Int.reduceNe, Nat.reduceAdd, Nat.reduceMul, Nat.reduceSub, Int.reduceAdd, reduceCtorEq, Go.Den.wh, kK, wcb, wab, wkb, wwb, wod wvg, wkf wvg, wzf, wnf, *, zT]) | (with_reducible (first | apply z1 | apply z2 | apply z3 | apply z4) <;> intro hq <;> (try simp only [zH] at hq) <;> (try (exfalso; omega))) | (with_reducible apply z5; (case hl => (repeat (first | exact .nil | with_reducible apply z6 | with_reducible apply z7))); (case h => kernel_rfl))))
theorem on_all (hs : s.length ≤ 12) (hmn : 0 ≤ mn ∧ mn ≤ 20) (hmx : mx ≤ 20) (w : St → List St) (a : Int) (hk : KidOk s bol kids w) : ∀ k, OnC s bol mn mx nn set kids w a k ∧ OnN s bol mn mx nn set kids w a k := by
  intro k
  induction k with
  | zero => exact ⟨fun n x met out _ _ _ _ h => absurd h (Nat.not_lt_zero _), fun n x met _ _ _ _ h => absurd h (Nat.not_lt_zero _)⟩
  | succ k ih => exact ⟨ev_on_C s bol mn mx nn set kids hs hmn hmx w a hk k ih.1, ev_on_N s bol mn mx nn set kids hs hmn hmx w a hk k ih.1 ih.2⟩
end
end
end Go.Proofs.Ytdbhfmdndiphcaa
namespace Go.Proofs.Ytdbhfmdndiphcaa
set_option linter.unusedVariables false
set_option linter.unusedSimpArgs false
open Go.Den
noncomputable section
section
variable (s : List UInt8) (bol : Bool)
def grpF (n : Int) (x y : St) : St := (y.1, (y.2.put (n.toNat * 2) x.1).put (n.toNat * 2 + 1) y.1)
abbrev gfN (r : Rx) (x : St) : List ABlk := [X (rxC r) 47 0 true, X (stC x) 113 0 true, X [.slice none 0 0, .map (some 3)] 158 0 false, .map []]
abbrev gfC (r : Rx) (x : St) (out : List St) : List ABlk := [X (rxC r) 47 0 true, X (stC x) 113 0 true, X [FO 3 out.length (stsC out), .map (some 4)] 158 0 false, .tok out.length 113 9, .map (setK stC out)]
set_option maxHeartbeats 4000000 in
theorem wkbc (hs : s.length ≤ 12) (r : Rx) (n1 : 1 ≤ r.n) (n3 : r.n ≤ 3) (x : St) (hx : GdS s.length x) (l : List St) (hll : l.length ≤ 16000000) (hl : ∀ y ∈ l, GdS s.length y ∧ x.1 ≤ y.1) :
    ∀ (j i : Nat) (out : List St), i + j = l.length → out ≠ [] → RwS s.length x.1 out →
    lim Try.prog cfg (.loop 63 0 (wdc 0) (SE (EJ 158 G0) [(82, .int .i64 i), (81, .int .i64 l.length), (80, FL l.length (stsC l)), (8, .pointer (some ⟨2, 0, none⟩)), (5, .pointer (some ⟨1, 0, none⟩)), (4, .pointer (some ⟨0, 0, none⟩))])) (HP (gfC r x out)) = some (.code (.exit 1) (SE (EJ 158 G0) [(8, .pointer (some ⟨0, 0, none⟩))]), HP (rowC (wvr (fun y => [grpF r.n x y]) (l.drop i) out))) := by
  intro j
  induction j with
  | zero =>
    intro i out hi ho hr
    rw [List.drop_of_length_le (by omega)]
    refine ww wze ?_
    unfold wye
    clear hl
    (repeat' (first | (simp -implicitDefEqProofs (maxSteps := 2000000) (disch := first | with_reducible assumption | omega | (simp only [zS, zA, Nat.reduceEqDiff, Nat.reduceLT, Nat.reduceLeDiff, Nat.reduceAdd, Nat.reduceSub, reduceCtorEq, wab, zD] <;> omega) | fail) only [zS, argl, insA, Go.Den.wm, wo, wu, looks, wfb, web, idOf, riA, Nat.reduceLeDiff, Nat.reduceLT, Nat.reduceEqDiff, Nat.reduceDiv, Nat.reduceMod, Int.reduceLT, Int.reduceLE, Int.reduceEq, Int.reduceNeg, Int.reduceToNat, Int.reduceSub, Int.reduceMul, Int.reduceNe, Nat.reduceAdd, Nat.reduceMul, Nat.reduceSub, Int.reduceAdd, reduceCtorEq, Go.Den.wh, kK, wbe, wab, *, zT]) | (with_reducible (first | apply z1 | apply z2 | apply z3 | apply z4) <;> intro hq <;> (try simp only [zH] at hq) <;> (try (exfalso; omega)))))
    all_goals rfl
  | succ j ih =>
    intro i out hi ho hr
    rw [wqg l (by omega), wrs]
    have hy := hl (l.getD i St.zero) (by rw [List.getD_eq_getElem?_getD, List.getElem?_eq_getElem (by omega)]; exact List.getElem_mem _)
    have h3 : RwS s.length x.1 (addF out [grpF r.n x (l.getD i St.zero)]) := hr.add (fun z hz => by rw [List.mem_singleton] at hz; subst hz; exact ⟨hx.group hy.1 hy.2 n1 n3, hy.2⟩)
    have hadd := wuo out [grpF r.n x (l.getD i St.zero)] ho (by simp) (by have := row_len h3 hs; omega)
    have h2 := ih (i + 1) _ (by omega) (wnh (.inl ho)) h3
    rw [wdg, show [grpF r.n x (l.getD i St.zero)].length = 1 from rfl, show stC (grpF r.n x (l.getD i St.zero)) = .int .i64 (l.getD i St.zero).1 :: mtC (((l.getD i St.zero).2.put (r.n.toNat * 2) x.1).put (r.n.toNat * 2 + 1) (l.getD i St.zero).1) from rfl] at hadd
    refine ww wze ?_
    unfold wye
    clear ih hl h3 hr hy
    (repeat' (first | (simp -implicitDefEqProofs (maxSteps := 2000000) (disch := first | with_reducible assumption | omega | (simp only [zS, zA, Nat.reduceEqDiff, Nat.reduceLT, Nat.reduceLeDiff, Nat.reduceAdd, Nat.reduceSub, reduceCtorEq, wab, wkb, zD] <;> omega) | fail) only [zS, argl, insA, Go.Den.wm, wo, wu, looks, wfb, web, idOf, riA, Nat.reduceLeDiff, Nat.reduceLT, Nat.reduceEqDiff, Nat.reduceDiv, Nat.reduceMod, Int.reduceLT, Int.reduceLE, Int.reduceEq, Int.reduceNeg, Int.reduceToNat, Int.reduceSub, Int.reduceMul, Int.reduceNe, Nat.reduceAdd, Nat.reduceMul, Nat.reduceSub, Int.reduceAdd, reduceCtorEq, Go.Den.wh, kK, wbe, wab, wkb, *, zT]) | (with_reducible (first | apply z1 | apply z2 | apply z3 | apply z4) <;> intro hq <;> (try simp only [zH] at hq) <;> (try (exfalso; omega)))))
    exact h2
set_option maxHeartbeats 4000000 in
theorem wlbc (hs : s.length ≤ 12) (r : Rx) (n1 : 1 ≤ r.n) (n3 : r.n ≤ 3) (x : St) (hx : GdS s.length x) (l : List St) (hll : l.length ≤ 16000000) (hl : ∀ y ∈ l, GdS s.length y ∧ x.1 ≤ y.1) :
    lim Try.prog cfg (.loop 63 0 (wdc 0) (SE (EJ 158 G0) [(82, .int .i64 0), (81, .int .i64 l.length), (80, FL l.length (stsC l)), (8, .pointer (some ⟨2, 0, none⟩)), (5, .pointer (some ⟨1, 0, none⟩)), (4, .pointer (some ⟨0, 0, none⟩))])) (HP (gfN r x)) = some (.code (.exit 1) (SE (EJ 158 G0) [(8, .pointer (some ⟨0, 0, none⟩))]), HP (rowO (wvr (fun y => [grpF r.n x y]) l []))) := by
  by_cases h0 : l = []
  · subst h0
    clear hl
    refine ww wze ?_
    unfold wye
    (repeat' (first | (simp -implicitDefEqProofs (maxSteps := 2000000) (disch := first | with_reducible assumption | omega | (simp only [zS, zA, Nat.reduceEqDiff, Nat.reduceLT, Nat.reduceLeDiff, Nat.reduceAdd, Nat.reduceSub, reduceCtorEq, wab, zD] <;> omega) | fail) only [zS, argl, insA, Go.Den.wm, wo, wu, looks, wfb, web, idOf, riA, Nat.reduceLeDiff, Nat.reduceLT, Nat.reduceEqDiff, Nat.reduceDiv, Nat.reduceMod, Int.reduceLT, Int.reduceLE, Int.reduceEq, Int.reduceNeg, Int.reduceToNat, Int.reduceSub, Int.reduceMul, Int.reduceNe, Nat.reduceAdd, Nat.reduceMul, Nat.reduceSub, Int.reduceAdd, reduceCtorEq, Go.Den.wh, kK, wbe, wab, *, zT]) | (with_reducible (first | apply z1 | apply z2 | apply z3 | apply z4) <;> intro hq <;> (try simp only [zH] at hq) <;> (try (exfalso; omega)))))
    all_goals rfl
  · have h00 : 0 < l.length := List.length_pos_iff.2 h0
    have hd := wqg l h00
    rw [List.drop_zero] at hd
    have hy := hl (l.getD 0 St.zero) (by rw [List.getD_eq_getElem?_getD, List.getElem?_eq_getElem (by omega)]; exact List.getElem_mem _)
    have h3 : RwS s.length x.1 (addF [] [grpF r.n x (l.getD 0 St.zero)]) := RwS.nil.add (fun z hz => by rw [List.mem_singleton] at hz; subst hz; exact ⟨hx.group hy.1 hy.2 n1 n3, hy.2⟩)
    have hadd := wur [grpF r.n x (l.getD 0 St.zero)] (by simp) (by simp) (by have := row_len h3 hs; omega)
    have h2 := wkbc s hs r n1 n3 x hx l hll hl (l.length - 1) 1 (addF [] [grpF r.n x (l.getD 0 St.zero)]) (by omega) (wnh (.inr (by simp))) h3
    have he : wvr (fun y => [grpF r.n x y]) l [] = wvr (fun y => [grpF r.n x y]) (l.drop 1) (addF [] [grpF r.n x (l.getD 0 St.zero)]) := by
      conv => lhs; rw [hd]
      rfl
    rw [he, rowO, if_neg (womb _ _ _ (wnh (.inr (by simp))))]
    rw [wdg, show [grpF r.n x (l.getD 0 St.zero)].length = 1 from rfl, show stC (grpF r.n x (l.getD 0 St.zero)) = .int .i64 (l.getD 0 St.zero).1 :: mtC (((l.getD 0 St.zero).2.put (r.n.toNat * 2) x.1).put (r.n.toNat * 2 + 1) (l.getD 0 St.zero).1) from rfl] at hadd
    have hg := wsbb (l := l) (i := 0) h00
    rw [Nat.zero_mul] at hg
    refine ww wze ?_
    unfold wye
    clear hl h3 hy he hd
    (repeat' (first | (simp -implicitDefEqProofs (maxSteps := 2000000) (disch := first | with_reducible assumption | omega | (simp only [zS, zA, Nat.reduceEqDiff, Nat.reduceLT, Nat.reduceLeDiff, Nat.reduceAdd, Nat.reduceSub, reduceCtorEq, wab, wkb, zD] <;> omega) | fail) only [zS, argl, insA, Go.Den.wm, wo, wu, looks, wfb, web, idOf, riA, Nat.reduceLeDiff, Nat.reduceLT, Nat.reduceEqDiff, Nat.reduceDiv, Nat.reduceMod, Int.reduceLT, Int.reduceLE, Int.reduceEq, Int.reduceNeg, Int.reduceToNat, Int.reduceSub, Int.reduceMul, Int.reduceNe, Nat.reduceAdd, Nat.reduceMul, Nat.reduceSub, Int.reduceAdd, reduceCtorEq, Go.Den.wh, kK, wbe, wab, wkb, *, zT]) | (with_reducible (first | apply z1 | apply z2 | apply z3 | apply z4) <;> intro hq <;> (try simp only [zH] at hq) <;> (try (exfalso; omega)))))
    exact h2
def wxfb (kids : List Rx) : Prop := ∀ r ∈ kids, ∀ y, GdS s.length y → RwS s.length y.1 (wof s bol r y) ∧ lim Try.prog cfg (.call 63 [.agg ⟨[str s, .bool bol]⟩, .agg ⟨rxC r⟩, .agg ⟨stC y⟩]) (HP []) = some (.val (FL (wof s bol r y).length (stsC (wof s bol r y))), HP [])
theorem wacb (kids : List Rx) {i : Nat} (h : i < kids.length) : kids.drop i = kids.getD i Rx.zero :: kids.drop (i + 1) := by
  rw [List.drop_eq_getElem_cons h, List.getD_eq_getElem?_getD, List.getElem?_eq_getElem h]; rfl
theorem whkb (kids : List Rx) {i : Nat} (h : i < kids.length) : kids.getD i Rx.zero ∈ kids := by
  rw [List.getD_eq_getElem?_getD, List.getElem?_eq_getElem h]; exact List.getElem_mem _
abbrev afN (x : St) : List ABlk := [X [str s, .bool bol] 123 0 true, X (stC x) 113 0 true, X [.slice none 0 0, .map (some 3)] 158 0 false, .map []]
abbrev afC (x : St) (out : List St) : List ABlk := [X [str s, .bool bol] 123 0 true, X (stC x) 113 0 true, X [FO 3 out.length (stsC out), .map (some 4)] 158 0 false, .tok out.length 113 9, .map (setK stC out)]
theorem altF_ne {x : St} : ∀ (l : List Rx) (out : List St), out ≠ [] → altF s bol l x out ≠ [] := by
  intro l
  induction l with
  | nil => intro out h; rw [altF]; exact h
  | cons r l ih => intro out h; rw [altF]; exact ih _ (wnh (.inl h))
set_option maxHeartbeats 4000000 in
theorem wmbc (hs : s.length ≤ 12) (x : St) (hx : GdS s.length x) (kids : List Rx) (hll : kids.length ≤ 16000000) (hk : wxfb s bol kids) :
    ∀ (j i : Nat) (out : List St), i + j = kids.length → out ≠ [] → RwS s.length x.1 out →
    lim Try.prog cfg (.loop 63 0 (wdc 1) (SE (EJ 158 G0) [(110, .int .i64 i), (109, .int .i64 kids.length), (108, FL kids.length (rxsC kids)), (11, .pointer (some ⟨2, 0, none⟩)), (5, .pointer (some ⟨1, 0, none⟩)), (3, .pointer (some ⟨0, 0, none⟩))])) (HP (afC s bol x out)) = some (.code (.exit 3) (SE (EJ 158 G0) [(11, .pointer (some ⟨0, 0, none⟩))]), HP (rowC (altF s bol (kids.drop i) x out))) := by
  intro j
  induction j with
  | zero =>
    intro i out hi ho hr
    rw [List.drop_of_length_le (by omega), altF]
    refine ww wxd ?_
    unfold wzd
    clear hk
    (repeat' (first | (simp -implicitDefEqProofs (maxSteps := 2000000) (disch := first | with_reducible assumption | omega | (simp only [zS, zA, Nat.reduceEqDiff, Nat.reduceLT, Nat.reduceLeDiff, Nat.reduceAdd, Nat.reduceSub, reduceCtorEq, wab, zD] <;> omega) | fail) only [zS, argl, insA, Go.Den.wm, wo, wu, looks, wfb, web, idOf, riA, Nat.reduceLeDiff, Nat.reduceLT, Nat.reduceEqDiff, Nat.reduceDiv, Nat.reduceMod, Int.reduceLT, Int.reduceLE, Int.reduceEq, Int.reduceNeg, Int.reduceToNat, Int.reduceSub, Int.reduceMul, Int.reduceNe, Nat.reduceAdd, Nat.reduceMul, Nat.reduceSub, Int.reduceAdd, reduceCtorEq, Go.Den.wh, kK, wqd, wab, *, zT]) | (with_reducible (first | apply z1 | apply z2 | apply z3 | apply z4) <;> intro hq <;> (try simp only [zH] at hq) <;> (try (exfalso; omega)))))
  | succ j ih =>
    intro i out hi ho hr
    rw [wacb kids (by omega), altF]
    have ⟨h1, h4⟩ := hk _ (whkb kids (show i < kids.length by omega)) x hx
    have h3 := hr.add h1.good
    have h5 := row_len h1 hs
    have hadd := wuo out (wof s bol (kids.getD i Rx.zero) x) ho (by omega) (by have := row_len h3 hs; omega)
    have h2 := ih (i + 1) _ (by omega) (wnh (.inl ho)) h3
    refine ww wxd ?_
    unfold wzd
    clear ih hk h3 h1 hr
    (repeat' (first | (simp -implicitDefEqProofs (maxSteps := 2000000) (disch := first | with_reducible assumption | omega | (simp only [zS, zA, Nat.reduceEqDiff, Nat.reduceLT, Nat.reduceLeDiff, Nat.reduceAdd, Nat.reduceSub, reduceCtorEq, wab, wkb, zD] <;> omega) | fail) only [zS, argl, insA, Go.Den.wm, wo, wu, looks, wfb, web, idOf, riA, Nat.reduceLeDiff, Nat.reduceLT, Nat.reduceEqDiff, Nat.reduceDiv, Nat.reduceMod, Int.reduceLT, Int.reduceLE, Int.reduceEq, Int.reduceNeg, Int.reduceToNat, Int.reduceSub, Int.reduceMul, Int.reduceNe, Nat.reduceAdd, Nat.reduceMul, Nat.reduceSub, Int.reduceAdd, reduceCtorEq, Go.Den.wh, kK, wqd, wab, wkb, *, zT]) | (with_reducible (first | apply z1 | apply z2 | apply z3 | apply z4) <;> intro hq <;> (try simp only [zH] at hq) <;> (try (exfalso; omega)))))
    exact h2
set_option maxHeartbeats 4000000 in
theorem wnbc (hs : s.length ≤ 12) (x : St) (hx : GdS s.length x) (kids : List Rx) (hll : kids.length ≤ 16000000) (hk : wxfb s bol kids) :
    ∀ (j i : Nat), i + j = kids.length →
    lim Try.prog cfg (.loop 63 0 (wdc 1) (SE (EJ 158 G0) [(110, .int .i64 i), (109, .int .i64 kids.length), (108, FL kids.length (rxsC kids)), (11, .pointer (some ⟨2, 0, none⟩)), (5, .pointer (some ⟨1, 0, none⟩)), (3, .pointer (some ⟨0, 0, none⟩))])) (HP (afN s bol x)) = some (.code (.exit 3) (SE (EJ 158 G0) [(11, .pointer (some ⟨0, 0, none⟩))]), HP (rowO (altF s bol (kids.drop i) x []))) := by
  intro j
  induction j with
  | zero =>
    intro i hi
    rw [List.drop_of_length_le (by omega), altF]
    refine ww wxd ?_
    unfold wzd
    clear hk
    (repeat' (first | (simp -implicitDefEqProofs (maxSteps := 2000000) (disch := first | with_reducible assumption | omega | (simp only [zS, zA, Nat.reduceEqDiff, Nat.reduceLT, Nat.reduceLeDiff, Nat.reduceAdd, Nat.reduceSub, reduceCtorEq, wab, zD] <;> omega) | fail) only [zS, argl, insA, Go.Den.wm, wo, wu, looks, wfb, web, idOf, riA, Nat.reduceLeDiff, Nat.reduceLT, Nat.reduceEqDiff, Nat.reduceDiv, Nat.reduceMod, Int.reduceLT, Int.reduceLE, Int.reduceEq, Int.reduceNeg, Int.reduceToNat, Int.reduceSub, Int.reduceMul, Int.reduceNe, Nat.reduceAdd, Nat.reduceMul, Nat.reduceSub, Int.reduceAdd, reduceCtorEq, Go.Den.wh, kK, wqd, wab, *, zT]) | (with_reducible (first | apply z1 | apply z2 | apply z3 | apply z4) <;> intro hq <;> (try simp only [zH] at hq) <;> (try (exfalso; omega)))))
    all_goals rfl
  | succ j ih =>
    intro i hi
    rw [wacb kids (by omega), altF]
    have ⟨h1, h4⟩ := hk _ (whkb kids (show i < kids.length by omega)) x hx
    have h3 := (RwS.nil (len := s.length) (a := x.1)).add h1.good
    have h5 := row_len h1 hs
    by_cases hz : wof s bol (kids.getD i Rx.zero) x = []
    · have h2 := ih (i + 1) (by omega)
      rw [hz] at h4 ⊢
      rw [List.length_nil, wtbb] at h4
      refine ww wxd ?_
      unfold wzd
      clear ih hk h3 h1 h5 hz
      (repeat' (first | (simp -implicitDefEqProofs (maxSteps := 2000000) (disch := first | with_reducible assumption | omega | (simp only [zS, zA, Nat.reduceEqDiff, Nat.reduceLT, Nat.reduceLeDiff, Nat.reduceAdd, Nat.reduceSub, reduceCtorEq, wab, wkb, zD] <;> omega) | fail) only [zS, argl, insA, Go.Den.wm, wo, wu, looks, wfb, web, idOf, riA, Nat.reduceLeDiff, Nat.reduceLT, Nat.reduceEqDiff, Nat.reduceDiv, Nat.reduceMod, Int.reduceLT, Int.reduceLE, Int.reduceEq, Int.reduceNeg, Int.reduceToNat, Int.reduceSub, Int.reduceMul, Int.reduceNe, Nat.reduceAdd, Nat.reduceMul, Nat.reduceSub, Int.reduceAdd, reduceCtorEq, Go.Den.wh, kK, wqd, wab, wkb, wnmb, *, zT]) | (with_reducible (first | apply z1 | apply z2 | apply z3 | apply z4) <;> intro hq <;> (try simp only [zH] at hq) <;> (try (exfalso; omega)))))
      exact h2
    · have hadd := wur (wof s bol (kids.getD i Rx.zero) x) hz (by omega) (by have := row_len h3 hs; omega)
      have h2 := wmbc s bol hs x hx kids hll hk j (i + 1) (addF [] (wof s bol (kids.getD i Rx.zero) x)) (by omega) (wnh (.inr hz)) h3
      rw [rowO, if_neg (altF_ne s bol _ _ (wnh (.inr hz)))]
      refine ww wxd ?_
      unfold wzd
      clear ih hk h3 h1
      (repeat' (first | (simp -implicitDefEqProofs (maxSteps := 2000000) (disch := first | with_reducible assumption | omega | (simp only [zS, zA, Nat.reduceEqDiff, Nat.reduceLT, Nat.reduceLeDiff, Nat.reduceAdd, Nat.reduceSub, reduceCtorEq, wab, wkb, zD] <;> omega) | fail) only [zS, argl, insA, Go.Den.wm, wo, wu, looks, wfb, web, idOf, riA, Nat.reduceLeDiff, Nat.reduceLT, Nat.reduceEqDiff, Nat.reduceDiv, Nat.reduceMod, Int.reduceLT, Int.reduceLE, Int.reduceEq, Int.reduceNeg, Int.reduceToNat, Int.reduceSub, Int.reduceMul, Int.reduceNe, Nat.reduceAdd, Nat.reduceMul, Nat.reduceSub, Int.reduceAdd, reduceCtorEq, Go.Den.wh, kK, wqd, wab, wkb, *, zT]) | (with_reducible (first | apply z1 | apply z2 | apply z3 | apply z4) <;> intro hq <;> (try simp only [zH] at hq) <;> (try (exfalso; omega)))))
      exact h2
set_option maxHeartbeats 4000000 in
theorem cat_loop (hs : s.length ≤ 12) (a : Int) (kids : List Rx) (hll : kids.length ≤ 16000000) (hk : wxfb s bol kids) :
    ∀ (j i : Nat) (l : List St), i + j = kids.length → RwS s.length a l →
    lim Try.prog cfg (.loop 63 0 (wdc 2) (SE (EJ 158 G0) [(130, .int .i64 i), (129, .int .i64 kids.length), (128, FL kids.length (rxsC kids)), (7, FL l.length (stsC l)), (3, .pointer (some ⟨0, 0, none⟩))])) (HP [X [str s, .bool bol] 123 0 true]) = some (.code (.exit 5) (SE (EJ 158 G0) [(7, FL (catF s bol (kids.drop i) l).length (stsC (catF s bol (kids.drop i) l)))]), HP []) := by
  intro j
  induction j with
  | zero =>
    intro i l hi hr
    rw [List.drop_of_length_le (by omega), catF]
    refine ww wbf ?_
    unfold waf
    clear hk
    (repeat' (first | (simp -implicitDefEqProofs (maxSteps := 2000000) (disch := first | with_reducible assumption | omega | (simp only [zS, zA, Nat.reduceEqDiff, Nat.reduceLT, Nat.reduceLeDiff, Nat.reduceAdd, Nat.reduceSub, reduceCtorEq, wab, zD] <;> omega) | fail) only [zS, argl, insA, Go.Den.wm, wo, wu, looks, wfb, web, idOf, riA, Nat.reduceLeDiff, Nat.reduceLT, Nat.reduceEqDiff, Nat.reduceDiv, Nat.reduceMod, Int.reduceLT, Int.reduceLE, Int.reduceEq, Int.reduceNeg, Int.reduceToNat, Int.reduceSub, Int.reduceMul, Int.reduceNe, Nat.reduceAdd, Nat.reduceMul, Nat.reduceSub, Int.reduceAdd, reduceCtorEq, Go.Den.wh, kK, wce, wab, *, zT]) | (with_reducible (first | apply z1 | apply z2 | apply z3 | apply z4) <;> intro hq <;> (try simp only [zH] at hq) <;> (try (exfalso; omega)))))
  | succ j ih =>
    intro i l hi hr
    rw [wacb kids (by omega), catF]
    have hw := hk _ (whkb kids (show i < kids.length by omega))
    have hf := wgbc s hs bol (kids.getD i Rx.zero) (fun y => wof s bol (kids.getD i Rx.zero) y) a l (by have := row_len hr hs; omega) hr.good hw
    have h3 : RwS s.length a (wwbb (fun y => wof s bol (kids.getD i Rx.zero) y) l) := by
      refine RwS.fold _ l (fun z hz y hy => ?_) [] .nil
      have h1 := hr.good z hz
      have h2 := (hw z h1.1).1.good y hy
      exact ⟨h2.1, by omega⟩
    have h2 := ih (i + 1) _ (by omega) h3
    generalize wwbb (fun y => wof s bol (kids.getD i Rx.zero) y) l = l2 at hf h2 ⊢
    refine ww wbf ?_
    unfold waf
    clear ih hk hw h3
    (repeat' (first | (simp -implicitDefEqProofs (maxSteps := 2000000) (disch := first | with_reducible assumption | omega | (simp only [zS, zA, Nat.reduceEqDiff, Nat.reduceLT, Nat.reduceLeDiff, Nat.reduceAdd, Nat.reduceSub, reduceCtorEq, wab, wkb, zD] <;> omega) | fail) only [zS, argl, insA, Go.Den.wm, wo, wu, looks, wfb, web, idOf, riA, Nat.reduceLeDiff, Nat.reduceLT, Nat.reduceEqDiff, Nat.reduceDiv, Nat.reduceMod, Int.reduceLT, Int.reduceLE, Int.reduceEq, Int.reduceNeg, Int.reduceToNat, Int.reduceSub, Int.reduceMul, Int.reduceNe, Nat.reduceAdd, Nat.reduceMul, Nat.reduceSub, Int.reduceAdd, reduceCtorEq, Go.Den.wh, kK, wce, wab, wkb, *, zT]) | (with_reducible (first | apply z1 | apply z2 | apply z3 | apply z4) <;> intro hq <;> (try simp only [zH] at hq) <;> (try (exfalso; omega)))))
    exact h2
end
end
end Go.Proofs.Ytdbhfmdndiphcaa
namespace Go.Proofs.Ytdbhfmdndiphcaa
set_option linter.unusedVariables false
set_option linter.unusedSimpArgs false
open Go.Den
noncomputable section
theorem wikb (n : Int) (x : St) (l : List St) : groupW n x l = wvr (fun y => [grpF n x y]) l [] := rfl
section
variable (s : List UInt8) (bol : Bool)
def wobc (r : Rx) : Prop := ∀ y, GdS s.length y → lim Try.prog cfg (.call 63 [.agg ⟨[str s, .bool bol]⟩, .agg ⟨rxC r⟩, .agg ⟨stC y⟩]) (HP []) = some (.val (FL (wof s bol r y).length (stsC (wof s bol r y))), HP [])
set_option maxHeartbeats 8000000 in
theorem wpbc (hs : s.length ≤ 12) (k mn mx n : Int) (set : BitVec 256) (kids : List Rx) (hlen : kids.length ≤ 16000000) (hok : okR (.mk k mn mx n set kids) = true) (ih : wxfb s bol kids) : wobc s bol (.mk k mn mx n set kids) := by
  intro x hx
  have hlo := hx.lo
  have hhi := hx.hi
  have hrow := wxbb (s := s) rfl (bol := bol) _ hok x hx
  refine wjc hc waq (Nat.le_of_ble_eq_true rfl) (Nat.le_of_ble_eq_true rfl) ?_
  unfold wmm
  rw [wof] at hrow ⊢
  rw [okR, Bool.and_eq_true] at hok
  have hok1 := hok.1
  clear hok
  by_cases h1 : k = 1
  · rw [if_pos h1]
    subst h1
    clear ih hrow hok1
    by_cases hx1 : x.1 < s.length
    · have hhas := ev_Has set ((s.getD x.1.toNat 0).toNat) (by have := (s.getD x.1.toNat 0).toNat_lt; omega)
      by_cases hb : set.getLsbD (s.getD x.1.toNat 0).toNat = true
      · rw [if_pos ⟨hx1, hb⟩]
        rw [hb] at hhas
        (repeat' (first | (simp -implicitDefEqProofs (maxSteps := 2000000) (disch := first | with_reducible assumption | omega | (simp only [zS, zA, Nat.reduceEqDiff, Nat.reduceLT, Nat.reduceLeDiff, Nat.reduceAdd, Nat.reduceSub, reduceCtorEq, wbz, zD] <;> omega) | fail) only [zS, argl, insA, Go.Den.wm, wo, wu, looks, wfb, web, idOf, riA, Nat.reduceLeDiff, Nat.reduceLT, Nat.reduceEqDiff, Nat.reduceDiv, Nat.reduceMod, Int.reduceLT, Int.reduceLE, Int.reduceEq, Int.reduceNeg, Int.reduceToNat, Int.reduceSub, Int.reduceMul, Int.reduceNe, Nat.reduceAdd, Nat.reduceMul, Nat.reduceSub, Int.reduceAdd, reduceCtorEq, Go.Den.wh, kK, *, zT]) | (with_reducible (first | apply z1 | apply z2 | apply z3 | apply z4) <;> intro hq <;> (try simp only [zH] at hq) <;> (try (exfalso; omega))) | (with_reducible apply z5; (case hl => (repeat (first | exact .nil | with_reducible apply z6 | with_reducible apply z7))); (case h => kernel_rfl))))
      · rw [if_neg (fun h => hb h.2)]
        have hb2 : set.getLsbD (s.getD x.1.toNat 0).toNat = false := by simpa using hb
        rw [hb2] at hhas
        clear hb
        (repeat' (first | (simp -implicitDefEqProofs (maxSteps := 2000000) (disch := first | with_reducible assumption | omega | (simp only [zS, zA, Nat.reduceEqDiff, Nat.reduceLT, Nat.reduceLeDiff, Nat.reduceAdd, Nat.reduceSub, reduceCtorEq, zD] <;> omega) | fail) only [zS, argl, insA, Go.Den.wm, wo, wu, looks, wfb, web, idOf, riA, Nat.reduceLeDiff, Nat.reduceLT, Nat.reduceEqDiff, Nat.reduceDiv, Nat.reduceMod, Int.reduceLT, Int.reduceLE, Int.reduceEq, Int.reduceNeg, Int.reduceToNat, Int.reduceSub, Int.reduceMul, Int.reduceNe, Nat.reduceAdd, Nat.reduceMul, Nat.reduceSub, Int.reduceAdd, reduceCtorEq, Go.Den.wh, kK, *, zT]) | (with_reducible (first | apply z1 | apply z2 | apply z3 | apply z4) <;> intro hq <;> (try simp only [zH] at hq) <;> (try (exfalso; omega))) | (with_reducible apply z5; (case hl => (repeat (first | exact .nil | with_reducible apply z6 | with_reducible apply z7))); (case h => kernel_rfl))))
    · rw [if_neg (fun h => hx1 h.1)]
      (repeat' (first | (simp -implicitDefEqProofs (maxSteps := 2000000) (disch := first | with_reducible assumption | omega | (simp only [zS, zA, Nat.reduceEqDiff, Nat.reduceLT, Nat.reduceLeDiff, Nat.reduceAdd, Nat.reduceSub, reduceCtorEq, zD] <;> omega) | fail) only [zS, argl, insA, Go.Den.wm, wo, wu, looks, wfb, web, idOf, riA, Nat.reduceLeDiff, Nat.reduceLT, Nat.reduceEqDiff, Nat.reduceDiv, Nat.reduceMod, Int.reduceLT, Int.reduceLE, Int.reduceEq, Int.reduceNeg, Int.reduceToNat, Int.reduceSub, Int.reduceMul, Int.reduceNe, Nat.reduceAdd, Nat.reduceMul, Nat.reduceSub, Int.reduceAdd, reduceCtorEq, Go.Den.wh, kK, *, zT]) | (with_reducible (first | apply z1 | apply z2 | apply z3 | apply z4) <;> intro hq <;> (try simp only [zH] at hq) <;> (try (exfalso; omega))) | (with_reducible apply z5; (case hl => (repeat (first | exact .nil | with_reducible apply z6 | with_reducible apply z7))); (case h => kernel_rfl))))
  rw [if_neg h1] at hrow ⊢
  by_cases h7 : k = 7
  · rw [if_pos h7]
    subst h7
    clear ih hrow hok1
    by_cases hx1 : x.1 = 0
    · cases bol with
      | true =>
        rw [if_pos ⟨hx1, rfl⟩]
        (repeat' (first | (simp -implicitDefEqProofs (maxSteps := 2000000) (disch := first | with_reducible assumption | omega | (simp only [zS, zA, Nat.reduceEqDiff, Nat.reduceLT, Nat.reduceLeDiff, Nat.reduceAdd, Nat.reduceSub, reduceCtorEq, wlt, zD] <;> omega) | fail) only [zS, argl, insA, Go.Den.wm, wo, wu, looks, wfb, web, idOf, riA, Nat.reduceLeDiff, Nat.reduceLT, Nat.reduceEqDiff, Nat.reduceDiv, Nat.reduceMod, Int.reduceLT, Int.reduceLE, Int.reduceEq, Int.reduceNeg, Int.reduceToNat, Int.reduceSub, Int.reduceMul, Int.reduceNe, Nat.reduceAdd, Nat.reduceMul, Nat.reduceSub, Int.reduceAdd, reduceCtorEq, Go.Den.wh, kK, wab, *, zT]) | (with_reducible (first | apply z1 | apply z2 | apply z3 | apply z4) <;> intro hq <;> (try simp only [zH] at hq) <;> (try (exfalso; omega))) | (with_reducible apply z5; (case hl => (repeat (first | exact .nil | with_reducible apply z6 | with_reducible apply z7))); (case h => kernel_rfl))))
      | false =>
        rw [if_neg (fun h => by cases h.2)]
        (repeat' (first | (simp -implicitDefEqProofs (maxSteps := 2000000) (disch := first | with_reducible assumption | omega | (simp only [zS, zA, Nat.reduceEqDiff, Nat.reduceLT, Nat.reduceLeDiff, Nat.reduceAdd, Nat.reduceSub, reduceCtorEq, zD] <;> omega) | fail) only [zS, argl, insA, Go.Den.wm, wo, wu, looks, wfb, web, idOf, riA, Nat.reduceLeDiff, Nat.reduceLT, Nat.reduceEqDiff, Nat.reduceDiv, Nat.reduceMod, Int.reduceLT, Int.reduceLE, Int.reduceEq, Int.reduceNeg, Int.reduceToNat, Int.reduceSub, Int.reduceMul, Int.reduceNe, Nat.reduceAdd, Nat.reduceMul, Nat.reduceSub, Int.reduceAdd, reduceCtorEq, Go.Den.wh, kK, *, zT]) | (with_reducible (first | apply z1 | apply z2 | apply z3 | apply z4) <;> intro hq <;> (try simp only [zH] at hq) <;> (try (exfalso; omega))) | (with_reducible apply z5; (case hl => (repeat (first | exact .nil | with_reducible apply z6 | with_reducible apply z7))); (case h => kernel_rfl))))
    · rw [if_neg (fun h => hx1 h.1)]
      (repeat' (first | (simp -implicitDefEqProofs (maxSteps := 2000000) (disch := first | with_reducible assumption | omega | (simp only [zS, zA, Nat.reduceEqDiff, Nat.reduceLT, Nat.reduceLeDiff, Nat.reduceAdd, Nat.reduceSub, reduceCtorEq, zD] <;> omega) | fail) only [zS, argl, insA, Go.Den.wm, wo, wu, looks, wfb, web, idOf, riA, Nat.reduceLeDiff, Nat.reduceLT, Nat.reduceEqDiff, Nat.reduceDiv, Nat.reduceMod, Int.reduceLT, Int.reduceLE, Int.reduceEq, Int.reduceNeg, Int.reduceToNat, Int.reduceSub, Int.reduceMul, Int.reduceNe, Nat.reduceAdd, Nat.reduceMul, Nat.reduceSub, Int.reduceAdd, reduceCtorEq, Go.Den.wh, kK, *, zT]) | (with_reducible (first | apply z1 | apply z2 | apply z3 | apply z4) <;> intro hq <;> (try simp only [zH] at hq) <;> (try (exfalso; omega))) | (with_reducible apply z5; (case hl => (repeat (first | exact .nil | with_reducible apply z6 | with_reducible apply z7))); (case h => kernel_rfl))))
  rw [if_neg h7] at hrow ⊢
  by_cases h8 : k = 8
  · rw [if_pos h8]
    subst h8
    clear ih hrow hok1
    by_cases hx1 : x.1 = s.length
    · rw [if_pos hx1]
      (repeat' (first | (simp -implicitDefEqProofs (maxSteps := 2000000) (disch := first | with_reducible assumption | omega | (simp only [zS, zA, Nat.reduceEqDiff, Nat.reduceLT, Nat.reduceLeDiff, Nat.reduceAdd, Nat.reduceSub, reduceCtorEq, wlt, zD] <;> omega) | fail) only [zS, argl, insA, Go.Den.wm, wo, wu, looks, wfb, web, idOf, riA, Nat.reduceLeDiff, Nat.reduceLT, Nat.reduceEqDiff, Nat.reduceDiv, Nat.reduceMod, Int.reduceLT, Int.reduceLE, Int.reduceEq, Int.reduceNeg, Int.reduceToNat, Int.reduceSub, Int.reduceMul, Int.reduceNe, Nat.reduceAdd, Nat.reduceMul, Nat.reduceSub, Int.reduceAdd, reduceCtorEq, Go.Den.wh, kK, *, zT]) | (with_reducible (first | apply z1 | apply z2 | apply z3 | apply z4) <;> intro hq <;> (try simp only [zH] at hq) <;> (try (exfalso; omega))) | (with_reducible apply z5; (case hl => (repeat (first | exact .nil | with_reducible apply z6 | with_reducible apply z7))); (case h => kernel_rfl))))
    · rw [if_neg hx1]
      (repeat' (first | (simp -implicitDefEqProofs (maxSteps := 2000000) (disch := first | with_reducible assumption | omega | (simp only [zS, zA, Nat.reduceEqDiff, Nat.reduceLT, Nat.reduceLeDiff, Nat.reduceAdd, Nat.reduceSub, reduceCtorEq, zD] <;> omega) | fail) only [zS, argl, insA, Go.Den.wm, wo, wu, looks, wfb, web, idOf, riA, Nat.reduceLeDiff, Nat.reduceLT, Nat.reduceEqDiff, Nat.reduceDiv, Nat.reduceMod, Int.reduceLT, Int.reduceLE, Int.reduceEq, Int.reduceNeg, Int.reduceToNat, Int.reduceSub, Int.reduceMul, Int.reduceNe, Nat.reduceAdd, Nat.reduceMul, Nat.reduceSub, Int.reduceAdd, reduceCtorEq, Go.Den.wh, kK, *, zT]) | (with_reducible (first | apply z1 | apply z2 | apply z3 | apply z4) <;> intro hq <;> (try simp only [zH] at hq) <;> (try (exfalso; omega))) | (with_reducible apply z5; (case hl => (repeat (first | exact .nil | with_reducible apply z6 | with_reducible apply z7))); (case h => kernel_rfl))))
  rw [if_neg h8] at hrow ⊢
  by_cases h6 : k = 6
  · rw [if_pos h6]
    rw [if_neg (by omega), if_neg (by omega), if_pos h6] at hok1
    simp only [Bool.and_eq_true, decide_eq_true_eq] at hok1
    subst h6
    clear ih hrow
    have hb := ev_back s (by omega) bol n hok1.1 hok1.2 x hx
    (repeat' (first | (simp -implicitDefEqProofs (maxSteps := 2000000) (disch := first | with_reducible assumption | omega | (simp only [zS, zA, Nat.reduceEqDiff, Nat.reduceLT, Nat.reduceLeDiff, Nat.reduceAdd, Nat.reduceSub, reduceCtorEq, zD] <;> omega) | fail) only [zS, argl, insA, Go.Den.wm, wo, wu, looks, wfb, web, idOf, riA, Nat.reduceLeDiff, Nat.reduceLT, Nat.reduceEqDiff, Nat.reduceDiv, Nat.reduceMod, Int.reduceLT, Int.reduceLE, Int.reduceEq, Int.reduceNeg, Int.reduceToNat, Int.reduceSub, Int.reduceMul, Int.reduceNe, Nat.reduceAdd, Nat.reduceMul, Nat.reduceSub, Int.reduceAdd, reduceCtorEq, Go.Den.wh, kK, *, zT]) | (with_reducible (first | apply z1 | apply z2 | apply z3 | apply z4) <;> intro hq <;> (try simp only [zH] at hq) <;> (try (exfalso; omega))) | (with_reducible apply z5; (case hl => (repeat (first | exact .nil | with_reducible apply z6 | with_reducible apply z7))); (case h => kernel_rfl))))
  rw [if_neg h6] at hrow ⊢
  by_cases h5 : k = 5
  · rw [if_pos h5] at hrow ⊢
    rw [if_pos h5] at hok1
    simp only [Bool.and_eq_true, decide_eq_true_eq] at hok1
    subst h5
    cases kids with
    | nil => exact absurd rfl hok1.1
    | cons kid rest =>
      rw [kidF, wikb]
      have ⟨r1, r2⟩ := ih kid (List.mem_cons_self ..) x hx
      have r3 := row_len r1 hs
      have hl := wlbc s hs (.mk 5 mn mx n set (kid :: rest)) hok1.2.1 hok1.2.2 x hx (wof s bol kid x) (by omega) r1.good
      have hk : slotsOf (rxsC (kid :: rest)) 0 9 = rxC kid := by
        have := wto (l := kid :: rest) (i := 0) (by simp)
        rwa [Nat.zero_mul] at this
      rw [rx_n] at hl
      clear ih r1 hrow
      generalize wvr (fun y => [grpF n x y]) (wof s bol kid x) [] = out at hl ⊢
      by_cases ho : out = []
      · subst ho
        rw [rowO, if_pos rfl] at hl
        (repeat' (first | (simp -implicitDefEqProofs (maxSteps := 2000000) (disch := first | with_reducible assumption | omega | (simp only [zS, zA, Nat.reduceEqDiff, Nat.reduceLT, Nat.reduceLeDiff, Nat.reduceAdd, Nat.reduceSub, reduceCtorEq, wab, wkb, zD] <;> omega) | fail) only [zS, argl, insA, Go.Den.wm, wo, wu, looks, wfb, web, idOf, riA, Nat.reduceLeDiff, Nat.reduceLT, Nat.reduceEqDiff, Nat.reduceDiv, Nat.reduceMod, Int.reduceLT, Int.reduceLE, Int.reduceEq, Int.reduceNeg, Int.reduceToNat, Int.reduceSub, Int.reduceMul, Int.reduceNe, Nat.reduceAdd, Nat.reduceMul, Nat.reduceSub, Int.reduceAdd, reduceCtorEq, Go.Den.wh, kK, wbe, wab, wkb, wzi, *, zT]) | (with_reducible (first | apply z1 | apply z2 | apply z3 | apply z4) <;> intro hq <;> (try simp only [zH] at hq) <;> (try (exfalso; omega))) | (with_reducible apply z5; (case hl => (repeat (first | exact .nil | with_reducible apply z6 | with_reducible apply z7))); (case h => kernel_rfl))))
      · rw [rowO, if_neg ho] at hl
        (repeat' (first | (simp -implicitDefEqProofs (maxSteps := 2000000) (disch := first | with_reducible assumption | omega | (simp only [zS, zA, Nat.reduceEqDiff, Nat.reduceLT, Nat.reduceLeDiff, Nat.reduceAdd, Nat.reduceSub, reduceCtorEq, wab, wkb, zD] <;> omega) | fail) only [zS, argl, insA, Go.Den.wm, wo, wu, looks, wfb, web, idOf, riA, Nat.reduceLeDiff, Nat.reduceLT, Nat.reduceEqDiff, Nat.reduceDiv, Nat.reduceMod, Int.reduceLT, Int.reduceLE, Int.reduceEq, Int.reduceNeg, Int.reduceToNat, Int.reduceSub, Int.reduceMul, Int.reduceNe, Nat.reduceAdd, Nat.reduceMul, Nat.reduceSub, Int.reduceAdd, reduceCtorEq, Go.Den.wh, kK, wbe, wab, wkb, wzi, *, zT]) | (with_reducible (first | apply z1 | apply z2 | apply z3 | apply z4) <;> intro hq <;> (try simp only [zH] at hq) <;> (try (exfalso; omega))) | (with_reducible apply z5; (case hl => (repeat (first | exact .nil | with_reducible apply z6 | with_reducible apply z7))); (case h => kernel_rfl))))
  rw [if_neg h5] at hrow ⊢
  by_cases h3 : k = 3
  · rw [if_pos h3]
    subst h3
    have hl := wnbc s bol hs x hx kids hlen ih kids.length 0 (by omega)
    rw [List.drop_zero, show ((0 : Nat) : Int) = 0 from rfl] at hl
    clear ih hrow hok1
    generalize altF s bol kids x [] = out at hl ⊢
    by_cases ho : out = []
    · subst ho
      rw [rowO, if_pos rfl] at hl
      (repeat' (first | (simp -implicitDefEqProofs (maxSteps := 2000000) (disch := first | with_reducible assumption | omega | (simp only [zS, zA, Nat.reduceEqDiff, Nat.reduceLT, Nat.reduceLeDiff, Nat.reduceAdd, Nat.reduceSub, reduceCtorEq, wab, wkb, zD] <;> omega) | fail) only [zS, argl, insA, Go.Den.wm, wo, wu, looks, wfb, web, idOf, riA, Nat.reduceLeDiff, Nat.reduceLT, Nat.reduceEqDiff, Nat.reduceDiv, Nat.reduceMod, Int.reduceLT, Int.reduceLE, Int.reduceEq, Int.reduceNeg, Int.reduceToNat, Int.reduceSub, Int.reduceMul, Int.reduceNe, Nat.reduceAdd, Nat.reduceMul, Nat.reduceSub, Int.reduceAdd, reduceCtorEq, Go.Den.wh, kK, wqd, wab, wkb, wzi, *, zT]) | (with_reducible (first | apply z1 | apply z2 | apply z3 | apply z4) <;> intro hq <;> (try simp only [zH] at hq) <;> (try (exfalso; omega))) | (with_reducible apply z5; (case hl => (repeat (first | exact .nil | with_reducible apply z6 | with_reducible apply z7))); (case h => kernel_rfl))))
    · rw [rowO, if_neg ho] at hl
      (repeat' (first | (simp -implicitDefEqProofs (maxSteps := 2000000) (disch := first | with_reducible assumption | omega | (simp only [zS, zA, Nat.reduceEqDiff, Nat.reduceLT, Nat.reduceLeDiff, Nat.reduceAdd, Nat.reduceSub, reduceCtorEq, wab, wkb, zD] <;> omega) | fail) only [zS, argl, insA, Go.Den.wm, wo, wu, looks, wfb, web, idOf, riA, Nat.reduceLeDiff, Nat.reduceLT, Nat.reduceEqDiff, Nat.reduceDiv, Nat.reduceMod, Int.reduceLT, Int.reduceLE, Int.reduceEq, Int.reduceNeg, Int.reduceToNat, Int.reduceSub, Int.reduceMul, Int.reduceNe, Nat.reduceAdd, Nat.reduceMul, Nat.reduceSub, Int.reduceAdd, reduceCtorEq, Go.Den.wh, kK, wqd, wab, wkb, wzi, *, zT]) | (with_reducible (first | apply z1 | apply z2 | apply z3 | apply z4) <;> intro hq <;> (try simp only [zH] at hq) <;> (try (exfalso; omega))) | (with_reducible apply z5; (case hl => (repeat (first | exact .nil | with_reducible apply z6 | with_reducible apply z7))); (case h => kernel_rfl))))
  rw [if_neg h3] at hrow ⊢
  by_cases h2 : k = 2
  · rw [if_pos h2]
    subst h2
    cases kids with
    | nil =>
      rw [catF]
      have hl : lim Try.prog cfg (.loop 63 0 (wdc 2) (SE (EJ 158 G0) [(130, .int .i64 0), (129, .int .i64 0), (128, FL 0 []), (7, .slice (some ⟨1, 0, none⟩) 1 2), (3, .pointer (some ⟨0, 0, none⟩))])) (HP [X [str s, .bool bol] 123 0 true, X (stC x) 113 0 true]) = some (.code (.exit 5) (SE (EJ 158 G0) [(7, .slice (some ⟨0, 0, none⟩) 1 2)]), HP [X (stC x) 113 0 true]) := by
        refine ww wbf ?_
        unfold waf
        clear ih hrow
        (repeat' (first | (simp -implicitDefEqProofs (maxSteps := 2000000) (disch := first | with_reducible assumption | omega | (simp only [zS, zA, Nat.reduceEqDiff, Nat.reduceLT, Nat.reduceLeDiff, Nat.reduceAdd, Nat.reduceSub, reduceCtorEq, zD] <;> omega) | fail) only [zS, argl, insA, Go.Den.wm, wo, wu, looks, wfb, web, idOf, riA, Nat.reduceLeDiff, Nat.reduceLT, Nat.reduceEqDiff, Nat.reduceDiv, Nat.reduceMod, Int.reduceLT, Int.reduceLE, Int.reduceEq, Int.reduceNeg, Int.reduceToNat, Int.reduceSub, Int.reduceMul, Int.reduceNe, Nat.reduceAdd, Nat.reduceMul, Nat.reduceSub, Int.reduceAdd, reduceCtorEq, Go.Den.wh, kK, wce, *, zT]) | (with_reducible (first | apply z1 | apply z2 | apply z3 | apply z4) <;> intro hq <;> (try simp only [zH] at hq) <;> (try (exfalso; omega))) | (with_reducible apply z5; (case hl => (repeat (first | exact .nil | with_reducible apply z6 | with_reducible apply z7))); (case h => kernel_rfl))))
      clear ih hrow hok1
      (repeat' (first | (simp -implicitDefEqProofs (maxSteps := 2000000) (disch := first | with_reducible assumption | omega | (simp only [zS, zA, Nat.reduceEqDiff, Nat.reduceLT, Nat.reduceLeDiff, Nat.reduceAdd, Nat.reduceSub, reduceCtorEq, zD] <;> omega) | fail) only [zS, argl, insA, Go.Den.wm, wo, wu, looks, wfb, web, idOf, riA, Nat.reduceLeDiff, Nat.reduceLT, Nat.reduceEqDiff, Nat.reduceDiv, Nat.reduceMod, Int.reduceLT, Int.reduceLE, Int.reduceEq, Int.reduceNeg, Int.reduceToNat, Int.reduceSub, Int.reduceMul, Int.reduceNe, Nat.reduceAdd, Nat.reduceMul, Nat.reduceSub, Int.reduceAdd, reduceCtorEq, Go.Den.wh, kK, wce, rxsC, Int.natCast_zero, *, zT]) | (with_reducible (first | apply z1 | apply z2 | apply z3 | apply z4) <;> intro hq <;> (try simp only [zH] at hq) <;> (try (exfalso; omega))) | (with_reducible apply z5; (case hl => (repeat (first | exact .nil | with_reducible apply z6 | with_reducible apply z7))); (case h => kernel_rfl))))
    | cons kid rest =>
      rw [catF]
      have hw := ih kid (List.mem_cons_self ..)
      have hf := wgbc s hs bol kid (fun y => wof s bol kid y) x.1 [x] (by simp) (fun y hy => by rw [List.mem_singleton] at hy; subst hy; exact ⟨hx, Int.le_refl _⟩) hw
      have hr : RwS s.length x.1 (wwbb (fun y => wof s bol kid y) [x]) := by
        refine RwS.fold _ [x] (fun z hz y hy => ?_) [] .nil
        rw [List.mem_singleton] at hz
        subst hz
        exact (hw z hx).1.good y hy
      have hl := cat_loop s bol hs x.1 (kid :: rest) hlen ih rest.length 1 _ (by simp; omega) hr
      rw [show (kid :: rest).drop 1 = rest from rfl, show ((1 : Nat) : Int) = 1 from rfl] at hl
      rw [wdg, show [x].length = 1 from rfl] at hf
      have hk : slotsOf (rxsC (kid :: rest)) 0 9 = rxC kid := by
        have := wto (l := kid :: rest) (i := 0) (by simp)
        rwa [Nat.zero_mul] at this
      have hkl : 0 < (kid :: rest).length := by simp
      have hkc : 9 ≤ (rxsC (kid :: rest)).length := by rw [wmw, List.length_cons]; omega
      rw [List.length_cons] at hl
      generalize wwbb (fun y => wof s bol kid y) [x] = l1 at hf hl ⊢
      have hl0 : lim Try.prog cfg (.loop 63 0 (wdc 2) (SE (EJ 158 G0) [(130, .int .i64 0), (129, .int .i64 (rest.length + 1 : Nat)), (128, FL (rest.length + 1) (rxsC (kid :: rest))), (7, .slice (some ⟨1, 0, none⟩) 1 2), (3, .pointer (some ⟨0, 0, none⟩))])) (HP [X [str s, .bool bol] 123 0 true, X (stC x) 113 0 true]) = some (.code (.exit 5) (SE (EJ 158 G0) [(7, FL (catF s bol rest l1).length (stsC (catF s bol rest l1)))]), HP []) := by
        refine ww wbf ?_
        unfold waf
        clear ih hrow hw hok1
        generalize rxsC (kid :: rest) = KC at *
        (repeat' (first | (simp -implicitDefEqProofs (maxSteps := 2000000) (disch := first | with_reducible assumption | omega | (simp only [zS, zA, Nat.reduceEqDiff, Nat.reduceLT, Nat.reduceLeDiff, Nat.reduceAdd, Nat.reduceSub, reduceCtorEq, zD] <;> omega) | fail) only [zS, argl, insA, Go.Den.wm, wo, wu, looks, wfb, web, idOf, riA, Nat.reduceLeDiff, Nat.reduceLT, Nat.reduceEqDiff, Nat.reduceDiv, Nat.reduceMod, Int.reduceLT, Int.reduceLE, Int.reduceEq, Int.reduceNeg, Int.reduceToNat, Int.reduceSub, Int.reduceMul, Int.reduceNe, Nat.reduceAdd, Nat.reduceMul, Nat.reduceSub, Int.reduceAdd, reduceCtorEq, Go.Den.wh, kK, wce, *, zT]) | (with_reducible (first | apply z1 | apply z2 | apply z3 | apply z4) <;> intro hq <;> (try simp only [zH] at hq) <;> (try (exfalso; omega))) | (with_reducible apply z5; (case hl => (repeat (first | exact .nil | with_reducible apply z6 | with_reducible apply z7))); (case h => kernel_rfl))))
      clear ih hrow hok1 hw hl hf
      (repeat' (first | (simp -implicitDefEqProofs (maxSteps := 2000000) (disch := first | with_reducible assumption | omega | (simp only [zS, zA, Nat.reduceEqDiff, Nat.reduceLT, Nat.reduceLeDiff, Nat.reduceAdd, Nat.reduceSub, reduceCtorEq, zD] <;> omega) | fail) only [zS, argl, insA, Go.Den.wm, wo, wu, looks, wfb, web, idOf, riA, Nat.reduceLeDiff, Nat.reduceLT, Nat.reduceEqDiff, Nat.reduceDiv, Nat.reduceMod, Int.reduceLT, Int.reduceLE, Int.reduceEq, Int.reduceNeg, Int.reduceToNat, Int.reduceSub, Int.reduceMul, Int.reduceNe, Nat.reduceAdd, Nat.reduceMul, Nat.reduceSub, Int.reduceAdd, reduceCtorEq, Go.Den.wh, kK, wce, *, zT]) | (with_reducible (first | apply z1 | apply z2 | apply z3 | apply z4) <;> intro hq <;> (try simp only [zH] at hq) <;> (try (exfalso; omega))) | (with_reducible apply z5; (case hl => (repeat (first | exact .nil | with_reducible apply z6 | with_reducible apply z7))); (case h => kernel_rfl))))
  rw [if_neg h2] at hrow ⊢
  by_cases h4 : k = 4
  · rw [if_pos h4]
    rw [if_neg (by omega), if_pos h4] at hok1
    simp only [Bool.and_eq_true, decide_eq_true_eq] at hok1
    subst h4
    cases kids with
    | nil => exact absurd rfl hok1.1
    | cons kid rest =>
      have hw := ih kid (List.mem_cons_self ..)
      have hk : slotsOf (rxsC (kid :: rest)) 0 9 = rxC kid := by
        have := wto (l := kid :: rest) (i := 0) (by simp)
        rwa [Nat.zero_mul] at this
      have hf : (fun y => kidF s bol (kid :: rest) y) = fun y => wof s bol kid y := by funext y; rw [kidF]
      rw [hf]
      have hon := (on_all s bol mn mx n set (kid :: rest) hs ⟨hok1.2.1, hok1.2.2.1⟩ hok1.2.2.2.2 (fun y => wof s bol kid y) x.1 ⟨kid, hk, by simp, hw⟩ 100).2 0 x [] (by omega) (by omega) hx (Int.le_refl _) (by unfold muF; split <;> omega)
      rcases hq : onF (fun y => wof s bol kid y) mn mx 100 0 x ([], []) with ⟨met, out⟩
      rw [hq] at hon
      clear ih hrow hw hk hf hq hok1
      by_cases ho : out = []
      · subst ho
        rw [reO, if_pos rfl] at hon
        simp only [reN, repB, wlmb, List.length_cons] at hon
        (repeat' (first | (simp -implicitDefEqProofs (maxSteps := 2000000) (disch := first | with_reducible assumption | omega | (simp only [zS, zA, Nat.reduceEqDiff, Nat.reduceLT, Nat.reduceLeDiff, Nat.reduceAdd, Nat.reduceSub, reduceCtorEq, wab, wkb, wwb, zD] <;> omega) | fail) only [zS, argl, insA, Go.Den.wm, wo, wu, looks, wfb, web, idOf, riA, Nat.reduceLeDiff, Nat.reduceLT, Nat.reduceEqDiff, Nat.reduceDiv, Nat.reduceMod, Int.reduceLT, Int.reduceLE, Int.reduceEq, Int.reduceNeg, Int.reduceToNat, Int.reduceSub, Int.reduceMul, Int.reduceNe, Nat.reduceAdd, Nat.reduceMul, Nat.reduceSub, Int.reduceAdd, reduceCtorEq, Go.Den.wh, kK, wab, wkb, wwb, wzi, wlw, wnf, *, zT]) | (with_reducible (first | apply z1 | apply z2 | apply z3 | apply z4) <;> intro hq <;> (try simp only [zH] at hq) <;> (try (exfalso; omega))) | (with_reducible apply z5; (case hl => (repeat (first | exact .nil | with_reducible apply z6 | with_reducible apply z7))); (case h => kernel_rfl))))
      · rw [reO, if_neg ho] at hon
        simp only [reE, reN, repB, wlmb, List.length_cons] at hon
        (repeat' (first | (simp -implicitDefEqProofs (maxSteps := 2000000) (disch := first | with_reducible assumption | omega | (simp only [zS, zA, Nat.reduceEqDiff, Nat.reduceLT, Nat.reduceLeDiff, Nat.reduceAdd, Nat.reduceSub, reduceCtorEq, wab, wkb, wwb, zD] <;> omega) | fail) only [zS, argl, insA, Go.Den.wm, wo, wu, looks, wfb, web, idOf, riA, Nat.reduceLeDiff, Nat.reduceLT, Nat.reduceEqDiff, Nat.reduceDiv, Nat.reduceMod, Int.reduceLT, Int.reduceLE, Int.reduceEq, Int.reduceNeg, Int.reduceToNat, Int.reduceSub, Int.reduceMul, Int.reduceNe, Nat.reduceAdd, Nat.reduceMul, Nat.reduceSub, Int.reduceAdd, reduceCtorEq, Go.Den.wh, kK, wab, wkb, wwb, wzi, wlw, wnf, *, zT]) | (with_reducible (first | apply z1 | apply z2 | apply z3 | apply z4) <;> intro hq <;> (try simp only [zH] at hq) <;> (try (exfalso; omega))) | (with_reducible apply z5; (case hl => (repeat (first | exact .nil | with_reducible apply z6 | with_reducible apply z7))); (case h => kernel_rfl))))
  rw [if_neg h4]
  clear ih hrow hok1
  (repeat' (first | (simp -implicitDefEqProofs (maxSteps := 2000000) (disch := first | with_reducible assumption | omega | (simp only [zS, zA, Nat.reduceEqDiff, Nat.reduceLT, Nat.reduceLeDiff, Nat.reduceAdd, Nat.reduceSub, reduceCtorEq, zD] <;> omega) | fail) only [zS, argl, insA, Go.Den.wm, wo, wu, looks, wfb, web, idOf, riA, Nat.reduceLeDiff, Nat.reduceLT, Nat.reduceEqDiff, Nat.reduceDiv, Nat.reduceMod, Int.reduceLT, Int.reduceLE, Int.reduceEq, Int.reduceNeg, Int.reduceToNat, Int.reduceSub, Int.reduceMul, Int.reduceNe, Nat.reduceAdd, Nat.reduceMul, Nat.reduceSub, Int.reduceAdd, reduceCtorEq, Go.Den.wh, kK, *, zT]) | (with_reducible (first | apply z1 | apply z2 | apply z3 | apply z4) <;> intro hq <;> (try simp only [zH] at hq) <;> (try (exfalso; omega))) | (with_reducible apply z5; (case hl => (repeat (first | exact .nil | with_reducible apply z6 | with_reducible apply z7))); (case h => kernel_rfl))))
end
end
end Go.Proofs.Ytdbhfmdndiphcaa
namespace Go.Proofs.Ytdbhfmdndiphcaa
set_option linter.unusedVariables false
set_option linter.unusedSimpArgs false
open Go.Den
noncomputable section
abbrev ints (l : List Int) : List Value := l.map (Value.int .i64)
theorem wbcb {l : List Int} {i : Nat} (h : i < l.length) : (ints l)[i]? = some (.int .i64 (l.getD i 0)) := by
  rw [ints, List.getElem?_map, List.getD_eq_getElem?_getD, List.getElem?_eq_getElem h]; rfl
theorem wqb {l : List Int} : (ints l).length = l.length := List.length_map ..
theorem int_drop (l : List Int) {i : Nat} (h : i < l.length) : l.drop i = l.getD i 0 :: l.drop (i + 1) := by
  rw [List.drop_eq_getElem_cons h, List.getD_eq_getElem?_getD, List.getElem?_eq_getElem h]; rfl
theorem wss (l : List Rx) {i : Nat} (h : i < l.length) : l.drop i = l.getD i Rx.zero :: l.drop (i + 1) := by
  rw [List.drop_eq_getElem_cons h, List.getD_eq_getElem?_getD, List.getElem?_eq_getElem h]; rfl
def fstF {α : Type} (p : α → Bool) : List α → Nat → Option Nat
  | [], _ => none
  | a :: l, i => if p a = true then some i else fstF p l (i + 1)
def fstV : Option Nat → Int
  | none => -1
  | some j => j
theorem wqbc {α : Type} (p : α → Bool) : ∀ (l : List α) (i : Nat), decide (0 ≤ fstV (fstF p l i)) = l.any p := by
  intro l
  induction l with
  | nil => intro i; rfl
  | cons a l ih =>
    intro i
    rw [fstF, List.any_cons]
    by_cases h : p a = true
    · rw [if_pos h, h]; simp [fstV]
    · rw [if_neg h, ih]; simp [h]
theorem wmb {P : Program} {cs : wnc} {R : Type} {K : KR R} {d : Option Tmp} {l : List RO} {e : Env} {H : AH} {wr : List Nat} {want : Bool} {x : ARes} : wyeb P cs K d l e H wr want x undef = opsR P cs K l (e.put d undef) H := by cases want <;> rfl
theorem wrb {want : Bool} : wrp want undef = some false := by cases want <;> rfl
theorem wbb : refs JK = [] := rfl
theorem wib {m : Nm} : renV m JK = JK := rfl
theorem ej19 : (EJ 19 G0).get 4 = JK := rfl
def fstO (n : Nat) : Option Nat → Option (Out × AH)
  | none => some (.code (.exit 0) (SE (EJ n G0) [(4, JK)]), HP [])
  | some j => some (.code .ret (SE (EJ n G0) [(4, .int .i64 j)]), HP [])
theorem idx_loop (l : List Int) (hl : l.length ≤ 16000000) (v : Int) : ∀ (k i : Nat), i + k = l.length →
    lim Try.prog cfg (.loop 158 0 (wfe 0) (SE (EJ 19 G0) [(8, .int .i64 i), (7, .int .i64 l.length), (1, .int .i64 v), (0, FL l.length (ints l))])) (HP []) = fstO 19 (fstF (fun a => decide (v = a)) (l.drop i) i) := by
  intro k
  induction k with
  | zero =>
    intro i hi
    rw [List.drop_of_length_le (by omega), fstF, fstO]
    refine ww wld ?_
    unfold wgd
    (repeat' (first | (simp -implicitDefEqProofs (maxSteps := 2000000) (disch := first | with_reducible assumption | omega | (simp only [zS, zA, Nat.reduceEqDiff, Nat.reduceLT, Nat.reduceLeDiff, Nat.reduceAdd, Nat.reduceSub, reduceCtorEq, wbb, wib] <;> omega) | fail) only [zS, argl, insA, Go.Den.wm, wo, wu, looks, wfb, web, idOf, riA, Nat.reduceLeDiff, Nat.reduceLT, Nat.reduceEqDiff, Nat.reduceDiv, Nat.reduceMod, Int.reduceLT, Int.reduceLE, Int.reduceEq, Int.reduceNeg, Int.reduceToNat, Int.reduceSub, Int.reduceMul, Int.reduceNe, Nat.reduceAdd, Nat.reduceMul, Nat.reduceSub, Int.reduceAdd, reduceCtorEq, Go.Den.wh, kK, wxc, wqb, wbb, wib, ej19, *]) | (with_reducible (first | apply z1 | apply z2 | apply z3 | apply z4) <;> intro hq <;> (try simp only [zH] at hq) <;> (try (exfalso; omega)))))
  | succ k ih =>
    intro i hi
    rw [int_drop l (by omega), fstF]
    have h := ih (i + 1) (by omega)
    clear ih
    have hg := wbcb (l := l) (i := i) (by omega)
    by_cases hv : v = l.getD i 0
    · rw [if_pos (by simpa using hv), fstO]
      clear h
      refine ww wld ?_
      unfold wgd
      (repeat' (first | (simp -implicitDefEqProofs (maxSteps := 2000000) (disch := first | with_reducible assumption | omega | (simp only [zS, zA, Nat.reduceEqDiff, Nat.reduceLT, Nat.reduceLeDiff, Nat.reduceAdd, Nat.reduceSub, reduceCtorEq, wbb, wib] <;> omega) | fail) only [zS, argl, insA, Go.Den.wm, wo, wu, looks, wfb, web, idOf, riA, Nat.reduceLeDiff, Nat.reduceLT, Nat.reduceEqDiff, Nat.reduceDiv, Nat.reduceMod, Int.reduceLT, Int.reduceLE, Int.reduceEq, Int.reduceNeg, Int.reduceToNat, Int.reduceSub, Int.reduceMul, Int.reduceNe, Nat.reduceAdd, Nat.reduceMul, Nat.reduceSub, Int.reduceAdd, reduceCtorEq, Go.Den.wh, kK, wxc, wqb, wbb, wib, ej19, *]) | (with_reducible (first | apply z1 | apply z2 | apply z3 | apply z4) <;> intro hq <;> (try simp only [zH] at hq) <;> (try (exfalso; omega)))))
    · rw [if_neg (by simpa using hv)]
      generalize fstF (fun a => decide (v = a)) (l.drop (i + 1)) (i + 1) = o at h ⊢
      cases o with
      | none =>
        rw [fstO] at h ⊢
        refine ww wld ?_
        unfold wgd
        (repeat' (first | (simp -implicitDefEqProofs (maxSteps := 2000000) (disch := first | with_reducible assumption | omega | (simp only [zS, zA, Nat.reduceEqDiff, Nat.reduceLT, Nat.reduceLeDiff, Nat.reduceAdd, Nat.reduceSub, reduceCtorEq, wbb, wib] <;> omega) | fail) only [zS, argl, insA, Go.Den.wm, wo, wu, looks, wfb, web, idOf, riA, Nat.reduceLeDiff, Nat.reduceLT, Nat.reduceEqDiff, Nat.reduceDiv, Nat.reduceMod, Int.reduceLT, Int.reduceLE, Int.reduceEq, Int.reduceNeg, Int.reduceToNat, Int.reduceSub, Int.reduceMul, Int.reduceNe, Nat.reduceAdd, Nat.reduceMul, Nat.reduceSub, Int.reduceAdd, reduceCtorEq, Go.Den.wh, kK, wxc, wqb, wbb, wib, ej19, *]) | (with_reducible (first | apply z1 | apply z2 | apply z3 | apply z4) <;> intro hq <;> (try simp only [zH] at hq) <;> (try (exfalso; omega)))))
        exact h
      | some j =>
        rw [fstO] at h ⊢
        refine ww wld ?_
        unfold wgd
        (repeat' (first | (simp -implicitDefEqProofs (maxSteps := 2000000) (disch := first | with_reducible assumption | omega | (simp only [zS, zA, Nat.reduceEqDiff, Nat.reduceLT, Nat.reduceLeDiff, Nat.reduceAdd, Nat.reduceSub, reduceCtorEq, wbb, wib] <;> omega) | fail) only [zS, argl, insA, Go.Den.wm, wo, wu, looks, wfb, web, idOf, riA, Nat.reduceLeDiff, Nat.reduceLT, Nat.reduceEqDiff, Nat.reduceDiv, Nat.reduceMod, Int.reduceLT, Int.reduceLE, Int.reduceEq, Int.reduceNeg, Int.reduceToNat, Int.reduceSub, Int.reduceMul, Int.reduceNe, Nat.reduceAdd, Nat.reduceMul, Nat.reduceSub, Int.reduceAdd, reduceCtorEq, Go.Den.wh, kK, wxc, wqb, wbb, wib, ej19, *]) | (with_reducible (first | apply z1 | apply z2 | apply z3 | apply z4) <;> intro hq <;> (try simp only [zH] at hq) <;> (try (exfalso; omega)))))
        exact h
theorem ev_Index (l : List Int) (hl : l.length ≤ 16000000) (v : Int) : lim Try.prog cfg (.call 158 [FL l.length (ints l), .int .i64 v]) (HP []) = some (.val (.int .i64 (fstV (fstF (fun a => decide (v = a)) l 0))), HP []) := by
  refine wjc hc wfk (Nat.le_of_ble_eq_true rfl) (Nat.le_of_ble_eq_true rfl) ?_
  unfold wbi
  have h := idx_loop l hl v l.length 0 (by omega)
  rw [List.drop_zero, show ((0 : Nat) : Int) = 0 from rfl] at h
  generalize fstF (fun a => decide (v = a)) l 0 = o at h ⊢
  rcases o with _ | j
  · rw [fstO] at h
    (repeat' (first | (simp -implicitDefEqProofs (maxSteps := 2000000) (disch := first | with_reducible assumption | omega | (simp only [zS, zA, Nat.reduceEqDiff, Nat.reduceLT, Nat.reduceLeDiff, Nat.reduceAdd, Nat.reduceSub, reduceCtorEq, wbb, wib] <;> omega) | fail) only [zS, argl, insA, Go.Den.wm, wo, wu, looks, wfb, web, idOf, riA, Nat.reduceLeDiff, Nat.reduceLT, Nat.reduceEqDiff, Nat.reduceDiv, Nat.reduceMod, Int.reduceLT, Int.reduceLE, Int.reduceEq, Int.reduceNeg, Int.reduceToNat, Int.reduceSub, Int.reduceMul, Int.reduceNe, Nat.reduceAdd, Nat.reduceMul, Nat.reduceSub, Int.reduceAdd, reduceCtorEq, Go.Den.wh, kK, wxc, wqb, wbb, wib, ej19, fstV, *]) | (with_reducible (first | apply z1 | apply z2 | apply z3 | apply z4) <;> intro hq <;> (try simp only [zH] at hq) <;> (try (exfalso; omega)))))
  · rw [fstO] at h
    (repeat' (first | (simp -implicitDefEqProofs (maxSteps := 2000000) (disch := first | with_reducible assumption | omega | (simp only [zS, zA, Nat.reduceEqDiff, Nat.reduceLT, Nat.reduceLeDiff, Nat.reduceAdd, Nat.reduceSub, reduceCtorEq, wbb, wib] <;> omega) | fail) only [zS, argl, insA, Go.Den.wm, wo, wu, looks, wfb, web, idOf, riA, Nat.reduceLeDiff, Nat.reduceLT, Nat.reduceEqDiff, Nat.reduceDiv, Nat.reduceMod, Int.reduceLT, Int.reduceLE, Int.reduceEq, Int.reduceNeg, Int.reduceToNat, Int.reduceSub, Int.reduceMul, Int.reduceNe, Nat.reduceAdd, Nat.reduceMul, Nat.reduceSub, Int.reduceAdd, reduceCtorEq, Go.Den.wh, kK, wxc, wqb, wbb, wib, ej19, fstV, *]) | (with_reducible (first | apply z1 | apply z2 | apply z3 | apply z4) <;> intro hq <;> (try simp only [zH] at hq) <;> (try (exfalso; omega)))))
theorem wjkb (l : List Int) (hl : l.length ≤ 16000000) (v : Int) : lim Try.prog cfg (.call 149 [FL l.length (ints l), .int .i64 v]) (HP []) = some (.val (.bool (l.any fun a => decide (v = a))), HP []) := by
  refine wjc hc wdj (Nat.le_of_ble_eq_true rfl) (Nat.le_of_ble_eq_true rfl) ?_
  unfold wxg
  have h := ev_Index l hl v
  rw [← wqbc _ l 0]
  generalize fstV (fstF (fun a => decide (v = a)) l 0) = z at h ⊢
  (repeat' (first | (simp -implicitDefEqProofs (maxSteps := 2000000) (disch := first | with_reducible assumption | omega | (simp only [zS, zA, Nat.reduceEqDiff, Nat.reduceLT, Nat.reduceLeDiff, Nat.reduceAdd, Nat.reduceSub, reduceCtorEq] <;> omega) | fail) only [zS, argl, insA, Go.Den.wm, wo, wu, looks, wfb, web, idOf, riA, Nat.reduceLeDiff, Nat.reduceLT, Nat.reduceEqDiff, Nat.reduceDiv, Nat.reduceMod, Int.reduceLT, Int.reduceLE, Int.reduceEq, Int.reduceNeg, Int.reduceToNat, Int.reduceSub, Int.reduceMul, Int.reduceNe, Nat.reduceAdd, Nat.reduceMul, Nat.reduceSub, Int.reduceAdd, reduceCtorEq, Go.Den.wh, kK, *]) | (with_reducible (first | apply z1 | apply z2 | apply z3 | apply z4) <;> intro hq <;> (try simp only [zH] at hq) <;> (try (exfalso; omega)))))
theorem ev_has1 (l : List Int) (hl : l.length ≤ 16000000) (r : Rx) : lim Try.prog cfg (.call 148 [.agg ⟨rxC r⟩, .pointer (some ⟨0, 0, none⟩)]) (HP [X [FL l.length (ints l)] 39 0 true]) = some (.val (.bool (l.any fun a => decide (r.kind = a))), HP [X [FL l.length (ints l)] 39 0 true]) := by
  refine wjc hc wox (Nat.le_of_ble_eq_true rfl) (Nat.le_of_ble_eq_true rfl) ?_
  unfold wfw
  have h := wjkb l hl r.kind
  (repeat' (first | (simp -implicitDefEqProofs (maxSteps := 2000000) (disch := first | with_reducible assumption | omega | (simp only [zS, zA, Nat.reduceEqDiff, Nat.reduceLT, Nat.reduceLeDiff, Nat.reduceAdd, Nat.reduceSub, reduceCtorEq, zD] <;> omega) | fail) only [zS, argl, insA, Go.Den.wm, wo, wu, looks, wfb, web, idOf, riA, Nat.reduceLeDiff, Nat.reduceLT, Nat.reduceEqDiff, Nat.reduceDiv, Nat.reduceMod, Int.reduceLT, Int.reduceLE, Int.reduceEq, Int.reduceNeg, Int.reduceToNat, Int.reduceSub, Int.reduceMul, Int.reduceNe, Nat.reduceAdd, Nat.reduceMul, Nat.reduceSub, Int.reduceAdd, reduceCtorEq, Go.Den.wh, kK, *, zT]) | (with_reducible (first | apply z1 | apply z2 | apply z3 | apply z4) <;> intro hq <;> (try simp only [zH] at hq) <;> (try (exfalso; omega)))))
end
end Go.Proofs.Ytdbhfmdndiphcaa
namespace Go.Proofs.Ytdbhfmdndiphcaa
set_option linter.unusedVariables false
set_option linter.unusedSimpArgs false
open Go.Den
noncomputable section
def wvh (l : List Int) (r : Rx) : Bool := l.any fun a => decide (r.kind = a)
abbrev hasFn : Value := .func (.func 148) ⟨[]⟩ ⟨[.pointer (some ⟨0, 0, none⟩)]⟩
abbrev hasB (l : List Int) : List ABlk := [X [FL l.length (ints l)] 39 0 true]
theorem hb_has1 : wan Try.prog 148 = true := by kernel_rfl
theorem wccb {args : List Value} : dynA Try.prog hasFn args = .call 148 (args ++ [.pointer (some ⟨0, 0, none⟩)]) := by
  unfold dynA
  simp only [hb_has1, cond_true, List.nil_append]
theorem wkkb : cfg.know 148 = none := by kernel_rfl
def fstW (ks : List Int) (n : Nat) : Option Nat → Option (Out × AH)
  | none => some (.code (.exit 0) (SE (EJ n G0) [(4, JK)]), HP (hasB ks))
  | some j => some (.code .ret (SE (EJ n G0) [(4, .int .i64 j)]), HP (hasB ks))
theorem wrbc (ks : List Int) (hks : ks.length ≤ 16000000) (l : List Rx) (hl : l.length ≤ 16000000) : ∀ (k i : Nat), i + k = l.length →
    lim Try.prog cfg (.loop 157 1 (wad 0) (SE (EJ 19 G0) [(8, .int .i64 i), (7, .int .i64 l.length), (1, hasFn), (0, FL l.length (rxsC l))])) (HP (hasB ks)) = fstW ks 19 (fstF (wvh ks) (l.drop i) i) := by
  intro k
  induction k with
  | zero =>
    intro i hi
    rw [List.drop_of_length_le (by omega), fstF, fstW]
    refine ww wqc ?_
    unfold wmc
    (repeat' (first | (simp -implicitDefEqProofs (maxSteps := 2000000) (disch := first | with_reducible assumption | omega | (simp only [zS, zA, Nat.reduceEqDiff, Nat.reduceLT, Nat.reduceLeDiff, Nat.reduceAdd, Nat.reduceSub, reduceCtorEq, wbb, wib, zD] <;> omega) | fail) only [zS, argl, insA, Go.Den.wm, wo, wu, looks, wfb, web, idOf, riA, Nat.reduceLeDiff, Nat.reduceLT, Nat.reduceEqDiff, Nat.reduceDiv, Nat.reduceMod, Int.reduceLT, Int.reduceLE, Int.reduceEq, Int.reduceNeg, Int.reduceToNat, Int.reduceSub, Int.reduceMul, Int.reduceNe, Nat.reduceAdd, Nat.reduceMul, Nat.reduceSub, Int.reduceAdd, reduceCtorEq, Go.Den.wh, kK, wcc, wbb, wib, ej19, *, zT]) | (with_reducible (first | apply z1 | apply z2 | apply z3 | apply z4) <;> intro hq <;> (try simp only [zH] at hq) <;> (try (exfalso; omega)))))
  | succ k ih =>
    intro i hi
    rw [wss l (by omega), fstF]
    have h := ih (i + 1) (by omega)
    clear ih
    have h1 := ev_has1 ks hks (l.getD i Rx.zero)
    by_cases hv : wvh ks (l.getD i Rx.zero) = true
    · rw [if_pos hv, fstW]
      unfold wvh at hv
      rw [hv] at h1
      clear h hv
      refine ww wqc ?_
      unfold wmc
      (repeat' (first | (simp -implicitDefEqProofs (maxSteps := 2000000) (disch := first | with_reducible assumption | omega | (simp only [zS, zA, Nat.reduceEqDiff, Nat.reduceLT, Nat.reduceLeDiff, Nat.reduceAdd, Nat.reduceSub, reduceCtorEq, zD] <;> omega) | fail) only [zS, argl, insA, Go.Den.wm, wo, wu, looks, wfb, web, idOf, riA, Nat.reduceLeDiff, Nat.reduceLT, Nat.reduceEqDiff, Nat.reduceDiv, Nat.reduceMod, Int.reduceLT, Int.reduceLE, Int.reduceEq, Int.reduceNeg, Int.reduceToNat, Int.reduceSub, Int.reduceMul, Int.reduceNe, Nat.reduceAdd, Nat.reduceMul, Nat.reduceSub, Int.reduceAdd, reduceCtorEq, Go.Den.wh, kK, wcc, wccb, wkkb, *, zT]) | (with_reducible (first | apply z1 | apply z2 | apply z3 | apply z4) <;> intro hq <;> (try simp only [zH] at hq) <;> (try (exfalso; omega)))))
    · rw [if_neg hv]
      have hv2 : (ks.any fun a => decide ((l.getD i Rx.zero).kind = a)) = false := by show wvh ks _ = false; exact Bool.eq_false_iff.2 hv
      rw [hv2] at h1
      generalize fstF (wvh ks) (l.drop (i + 1)) (i + 1) = o at h ⊢
      clear hv hv2
      cases o with
      | none =>
        rw [fstW] at h ⊢
        refine ww wqc ?_
        unfold wmc
        (repeat' (first | (simp -implicitDefEqProofs (maxSteps := 2000000) (disch := first | with_reducible assumption | omega | (simp only [zS, zA, Nat.reduceEqDiff, Nat.reduceLT, Nat.reduceLeDiff, Nat.reduceAdd, Nat.reduceSub, reduceCtorEq, wbb, wib, zD] <;> omega) | fail) only [zS, argl, insA, Go.Den.wm, wo, wu, looks, wfb, web, idOf, riA, Nat.reduceLeDiff, Nat.reduceLT, Nat.reduceEqDiff, Nat.reduceDiv, Nat.reduceMod, Int.reduceLT, Int.reduceLE, Int.reduceEq, Int.reduceNeg, Int.reduceToNat, Int.reduceSub, Int.reduceMul, Int.reduceNe, Nat.reduceAdd, Nat.reduceMul, Nat.reduceSub, Int.reduceAdd, reduceCtorEq, Go.Den.wh, kK, wcc, wccb, wkkb, wbb, wib, ej19, *, zT]) | (with_reducible (first | apply z1 | apply z2 | apply z3 | apply z4) <;> intro hq <;> (try simp only [zH] at hq) <;> (try (exfalso; omega)))))
        exact h
      | some j =>
        rw [fstW] at h ⊢
        refine ww wqc ?_
        unfold wmc
        (repeat' (first | (simp -implicitDefEqProofs (maxSteps := 2000000) (disch := first | with_reducible assumption | omega | (simp only [zS, zA, Nat.reduceEqDiff, Nat.reduceLT, Nat.reduceLeDiff, Nat.reduceAdd, Nat.reduceSub, reduceCtorEq, wbb, wib, zD] <;> omega) | fail) only [zS, argl, insA, Go.Den.wm, wo, wu, looks, wfb, web, idOf, riA, Nat.reduceLeDiff, Nat.reduceLT, Nat.reduceEqDiff, Nat.reduceDiv, Nat.reduceMod, Int.reduceLT, Int.reduceLE, Int.reduceEq, Int.reduceNeg, Int.reduceToNat, Int.reduceSub, Int.reduceMul, Int.reduceNe, Nat.reduceAdd, Nat.reduceMul, Nat.reduceSub, Int.reduceAdd, reduceCtorEq, Go.Den.wh, kK, wcc, wccb, wkkb, wbb, wib, ej19, *, zT]) | (with_reducible (first | apply z1 | apply z2 | apply z3 | apply z4) <;> intro hq <;> (try simp only [zH] at hq) <;> (try (exfalso; omega)))))
        exact h
def wlkb (r : Rx) : Bool := !((decide (r.kind ≠ 1) && decide (r.set ≠ 0#256)) || (decide (r.kind ≠ 4) && (decide (r.mn ≠ 0) || decide (r.mx ≠ 0)))) && (decide (r.kind = 5) || (decide (r.kind = 6) || decide (r.n = 0)))
theorem wrmb : [Value.int .u64 0, .int .u64 0, .int .u64 0, .int .u64 0] = setC 0#256 := rfl
theorem ev_bare (r : Rx) : lim Try.prog cfg (.call 96 [.agg ⟨rxC r⟩]) (HP []) = some (.val (.bool (wlkb r)), HP []) := by
  refine wjc hc wobb (Nat.le_of_ble_eq_true rfl) (Nat.le_of_ble_eq_true rfl) ?_
  unfold wxy wlkb
  have hz : ∀ a b, eqcV true [.int .u64, .int .u64, .int .u64, .int .u64] (.agg ⟨setC a⟩) (.agg ⟨setC b⟩) = val (.bool (decide (a ≠ b))) := wbac
  (repeat' (first | (simp -implicitDefEqProofs (maxSteps := 2000000) (disch := first | with_reducible assumption | omega | (simp only [zS, zA, Nat.reduceEqDiff, Nat.reduceLT, Nat.reduceLeDiff, Nat.reduceAdd, Nat.reduceSub, reduceCtorEq, zD] <;> omega) | fail) only [zS, argl, insA, Go.Den.wm, wo, wu, looks, wfb, web, idOf, riA, Nat.reduceLeDiff, Nat.reduceLT, Nat.reduceEqDiff, Nat.reduceDiv, Nat.reduceMod, Int.reduceLT, Int.reduceLE, Int.reduceEq, Int.reduceNeg, Int.reduceToNat, Int.reduceSub, Int.reduceMul, Int.reduceNe, Nat.reduceAdd, Nat.reduceMul, Nat.reduceSub, Int.reduceAdd, reduceCtorEq, Go.Den.wh, kK, wrmb, wmb, wrb, *, zT]) | (with_reducible (first | apply z1 | apply z2 | apply z3 | apply z4) <;> intro hq <;> (try simp only [zH] at hq) <;> (try (exfalso; omega)))))
def repF (r : Rx) : Bool := decide (0 ≤ r.mn) && (decide (r.mn ≤ 20) && (decide (r.mx = -1) || (decide (max r.mn 1 ≤ r.mx) && decide (r.mx ≤ 20))))
theorem ev_rep (r : Rx) : lim Try.prog cfg (.call 128 [.agg ⟨rxC r⟩]) (HP []) = some (.val (.bool (repF r)), HP []) := by
  refine wjc hc wofb (Nat.le_of_ble_eq_true rfl) (Nat.le_of_ble_eq_true rfl) ?_
  unfold wnfb repF
  (repeat' (first | (simp -implicitDefEqProofs (maxSteps := 2000000) (disch := first | with_reducible assumption | omega | (simp only [zS, zA, Nat.reduceEqDiff, Nat.reduceLT, Nat.reduceLeDiff, Nat.reduceAdd, Nat.reduceSub, reduceCtorEq, zD] <;> omega) | fail) only [zS, argl, insA, Go.Den.wm, wo, wu, looks, wfb, web, idOf, riA, Nat.reduceLeDiff, Nat.reduceLT, Nat.reduceEqDiff, Nat.reduceDiv, Nat.reduceMod, Int.reduceLT, Int.reduceLE, Int.reduceEq, Int.reduceNeg, Int.reduceToNat, Int.reduceSub, Int.reduceMul, Int.reduceNe, Nat.reduceAdd, Nat.reduceMul, Nat.reduceSub, Int.reduceAdd, reduceCtorEq, Go.Den.wh, kK, wmb, wrb, *, zT]) | (with_reducible (first | apply z1 | apply z2 | apply z3 | apply z4) <;> intro hq <;> (try simp only [zH] at hq) <;> (try (exfalso; omega)))))
end
end Go.Proofs.Ytdbhfmdndiphcaa
namespace Go.Proofs.Ytdbhfmdndiphcaa
set_option linter.unusedVariables false
set_option linter.unusedSimpArgs false
open Go.Den
noncomputable section
theorem wyfb (ks : List Int) (hks : ks.length ≤ 16000000) (l : List Rx) (hl : l.length ≤ 16000000) : lim Try.prog cfg (.call 157 [FL l.length (rxsC l), hasFn]) (HP (hasB ks)) = some (.val (.int .i64 (fstV (fstF (wvh ks) l 0))), HP (hasB ks)) := by
  refine wjc hc wfh (Nat.le_of_ble_eq_true rfl) (Nat.le_of_ble_eq_true rfl) ?_
  unfold wef
  have h := wrbc ks hks l hl l.length 0 (by omega)
  rw [List.drop_zero, show ((0 : Nat) : Int) = 0 from rfl] at h
  generalize fstF (wvh ks) l 0 = o at h ⊢
  cases o with
  | none =>
    rw [fstW] at h
    (repeat' (first | (simp -implicitDefEqProofs (maxSteps := 2000000) (disch := first | with_reducible assumption | omega | (simp only [zS, zA, Nat.reduceEqDiff, Nat.reduceLT, Nat.reduceLeDiff, Nat.reduceAdd, Nat.reduceSub, reduceCtorEq, wbb, wib, zD] <;> omega) | fail) only [zS, argl, insA, Go.Den.wm, wo, wu, looks, wfb, web, idOf, riA, Nat.reduceLeDiff, Nat.reduceLT, Nat.reduceEqDiff, Nat.reduceDiv, Nat.reduceMod, Int.reduceLT, Int.reduceLE, Int.reduceEq, Int.reduceNeg, Int.reduceToNat, Int.reduceSub, Int.reduceMul, Int.reduceNe, Nat.reduceAdd, Nat.reduceMul, Nat.reduceSub, Int.reduceAdd, reduceCtorEq, Go.Den.wh, kK, wcc, fstV, wbb, wib, ej19, *, zT]) | (with_reducible (first | apply z1 | apply z2 | apply z3 | apply z4) <;> intro hq <;> (try simp only [zH] at hq) <;> (try (exfalso; omega)))))
  | some j =>
    rw [fstW] at h
    (repeat' (first | (simp -implicitDefEqProofs (maxSteps := 2000000) (disch := first | with_reducible assumption | omega | (simp only [zS, zA, Nat.reduceEqDiff, Nat.reduceLT, Nat.reduceLeDiff, Nat.reduceAdd, Nat.reduceSub, reduceCtorEq, wbb, wib, zD] <;> omega) | fail) only [zS, argl, insA, Go.Den.wm, wo, wu, looks, wfb, web, idOf, riA, Nat.reduceLeDiff, Nat.reduceLT, Nat.reduceEqDiff, Nat.reduceDiv, Nat.reduceMod, Int.reduceLT, Int.reduceLE, Int.reduceEq, Int.reduceNeg, Int.reduceToNat, Int.reduceSub, Int.reduceMul, Int.reduceNe, Nat.reduceAdd, Nat.reduceMul, Nat.reduceSub, Int.reduceAdd, reduceCtorEq, Go.Den.wh, kK, wcc, fstV, wbb, wib, ej19, *, zT]) | (with_reducible (first | apply z1 | apply z2 | apply z3 | apply z4) <;> intro hq <;> (try simp only [zH] at hq) <;> (try (exfalso; omega)))))
theorem wow (ks : List Int) (hks : ks.length ≤ 16000000) (l : List Rx) (hl : l.length ≤ 16000000) : lim Try.prog cfg (.call 147 [FL l.length (rxsC l), hasFn]) (HP (hasB ks)) = some (.val (.bool (l.any (wvh ks))), HP (hasB ks)) := by
  refine wjc hc wpg (Nat.le_of_ble_eq_true rfl) (Nat.le_of_ble_eq_true rfl) ?_
  unfold whe
  have h := wyfb ks hks l hl
  rw [← wqbc _ l 0]
  generalize fstV (fstF (wvh ks) l 0) = z at h ⊢
  (repeat' (first | (simp -implicitDefEqProofs (maxSteps := 2000000) (disch := first | with_reducible assumption | omega | (simp only [zS, zA, Nat.reduceEqDiff, Nat.reduceLT, Nat.reduceLeDiff, Nat.reduceAdd, Nat.reduceSub, reduceCtorEq, zD] <;> omega) | fail) only [zS, argl, insA, Go.Den.wm, wo, wu, looks, wfb, web, idOf, riA, Nat.reduceLeDiff, Nat.reduceLT, Nat.reduceEqDiff, Nat.reduceDiv, Nat.reduceMod, Int.reduceLT, Int.reduceLE, Int.reduceEq, Int.reduceNeg, Int.reduceToNat, Int.reduceSub, Int.reduceMul, Int.reduceNe, Nat.reduceAdd, Nat.reduceMul, Nat.reduceSub, Int.reduceAdd, reduceCtorEq, Go.Den.wh, kK, *, zT]) | (with_reducible (first | apply z1 | apply z2 | apply z3 | apply z4) <;> intro hq <;> (try simp only [zH] at hq) <;> (try (exfalso; omega)))))
theorem wmkb (ks : List Int) (hks : ks.length ≤ 16000000) (l : List Rx) (hl : l.length ≤ 16000000) : lim Try.prog cfg (.call 127 [FL l.length (rxsC l), FL ks.length (ints ks)]) (HP []) = some (.val (.bool (l.any (wvh ks))), HP []) := by
  refine wjc hc wmfb (Nat.le_of_ble_eq_true rfl) (Nat.le_of_ble_eq_true rfl) ?_
  unfold wlfb
  have h := wow ks hks l hl
  (repeat' (first | (simp -implicitDefEqProofs (maxSteps := 2000000) (disch := first | with_reducible assumption | omega | (simp only [zS, zA, Nat.reduceEqDiff, Nat.reduceLT, Nat.reduceLeDiff, Nat.reduceAdd, Nat.reduceSub, reduceCtorEq, zD] <;> omega) | fail) only [zS, argl, insA, Go.Den.wm, wo, wu, looks, wfb, web, idOf, riA, Nat.reduceLeDiff, Nat.reduceLT, Nat.reduceEqDiff, Nat.reduceDiv, Nat.reduceMod, Int.reduceLT, Int.reduceLE, Int.reduceEq, Int.reduceNeg, Int.reduceToNat, Int.reduceSub, Int.reduceMul, Int.reduceNe, Nat.reduceAdd, Nat.reduceMul, Nat.reduceSub, Int.reduceAdd, reduceCtorEq, Go.Den.wh, kK, *, zT]) | (with_reducible (first | apply z1 | apply z2 | apply z3 | apply z4) <;> intro hq <;> (try simp only [zH] at hq) <;> (try (exfalso; omega)))))
end
end Go.Proofs.Ytdbhfmdndiphcaa
namespace Go.Den
set_option linter.unusedVariables false
set_option linter.unusedSimpArgs false
noncomputable section
mutual
def wed : Rx → Nat
  | .mk _ _ _ _ _ kids => 1 + wyc kids
def wyc : List Rx → Nat
  | [] => 0
  | r :: l => wed r + wyc l
end
theorem wsbc (r : Rx) : 1 ≤ wed r := by cases r; rw [wed]; omega
theorem wpw : ∀ (l : List Rx), l.length ≤ wyc l := by
  intro l
  induction l with
  | nil => rw [wyc]; exact Nat.le_refl _
  | cons r l ih => rw [wyc, List.length_cons]; have := wsbc r; omega
theorem wzrb (l : List Rx) (i : Nat) : wyc (l.drop i) ≤ wyc l := by
  induction l generalizing i with
  | nil => rw [List.drop_nil]; exact Nat.le_refl _
  | cons a l ih =>
    cases i with
    | zero => rw [List.drop_zero]; exact Nat.le_refl _
    | succ i => rw [List.drop_succ_cons, wyc]; have := ih i; omega
end
end Go.Den
namespace Go.Proofs.Ytdbhfmdndiphcaa
open Go.Den
noncomputable section
def wyn (r : Rx) : Bool :=
  if r.kind = 1 then decide ((r.kids.length : Int) = 0) && decide (r.set ≠ 0#256)
  else if r.kind = 2 then decide ((r.kids.length : Int) ≠ 1) && !(r.kids.any (wvh [2, 3]))
  else if r.kind = 3 then decide ((2 : Int) ≤ r.kids.length) && !(r.kids.any (wvh [3]))
  else if r.kind = 4 then decide ((r.kids.length : Int) = 1) && (r.kids.any (wvh [1, 5, 6]) && repF r)
  else if r.kind = 5 then decide ((r.kids.length : Int) = 1)
  else if r.kind = 6 then decide ((r.kids.length : Int) = 0)
  else if r.kind = 7 then decide ((r.kids.length : Int) = 0)
  else if r.kind = 8 then decide ((r.kids.length : Int) = 0)
  else false
theorem ev_has2 (a b : Int) (l : List Rx) (hl : l.length ≤ 16000000) : lim Try.prog cfg (.call 127 [FL l.length (rxsC l), FL 2 [.int .i64 a, .int .i64 b]]) (HP []) = some (.val (.bool (l.any (wvh [a, b]))), HP []) := wmkb [a, b] (by simp) l hl
theorem wtbc (a : Int) (l : List Rx) (hl : l.length ≤ 16000000) : lim Try.prog cfg (.call 127 [FL l.length (rxsC l), FL 1 [.int .i64 a]]) (HP []) = some (.val (.bool (l.any (wvh [a]))), HP []) := wmkb [a] (by simp) l hl
theorem ev_has3 (a b c : Int) (l : List Rx) (hl : l.length ≤ 16000000) : lim Try.prog cfg (.call 127 [FL l.length (rxsC l), FL 3 [.int .i64 a, .int .i64 b, .int .i64 c]]) (HP []) = some (.val (.bool (l.any (wvh [a, b, c]))), HP []) := wmkb [a, b, c] (by simp) l hl
theorem ev_kids (r : Rx) (hl : r.kids.length ≤ 16000000) : lim Try.prog cfg (.call 97 [.agg ⟨rxC r⟩]) (HP []) = some (.val (.bool (wyn r)), HP []) := by
  refine wjc hc wpbb (Nat.le_of_ble_eq_true rfl) (Nat.le_of_ble_eq_true rfl) ?_
  unfold wyy wyn
  have hz : ∀ a b, eqcV true [.int .u64, .int .u64, .int .u64, .int .u64] (.agg ⟨setC a⟩) (.agg ⟨setC b⟩) = val (.bool (decide (a ≠ b))) := wbac
  have h2 := ev_has2 2 3 r.kids hl
  have h3 := wtbc 3 r.kids hl
  have h4 := ev_has3 1 5 6 r.kids hl
  have h5 := ev_rep r
  generalize r.kids.any (wvh [2, 3]) = b2 at h2 ⊢
  generalize r.kids.any (wvh [3]) = b3 at h3 ⊢
  generalize r.kids.any (wvh [1, 5, 6]) = b4 at h4 ⊢
  generalize repF r = b5 at h5 ⊢
  (repeat' (first | (simp -implicitDefEqProofs (maxSteps := 2000000) (disch := first | with_reducible assumption | omega | (simp only [zS, zA, Nat.reduceEqDiff, Nat.reduceLT, Nat.reduceLeDiff, Nat.reduceAdd, Nat.reduceSub, reduceCtorEq, zD] <;> omega) | fail) only [zS, argl, insA, Go.Den.wm, wo, wu, looks, wfb, web, idOf, riA, Nat.reduceLeDiff, Nat.reduceLT, Nat.reduceEqDiff, Nat.reduceDiv, Nat.reduceMod, Int.reduceLT, Int.reduceLE, Int.reduceEq, Int.reduceNeg, Int.reduceToNat, Int.reduceSub, Int.reduceMul, Int.reduceNe, Nat.reduceAdd, Nat.reduceMul, Nat.reduceSub, Int.reduceAdd, reduceCtorEq, Go.Den.wh, kK, wrmb, wmb, wrb, *, zT]) | (with_reducible (first | apply z1 | apply z2 | apply z3 | apply z4) <;> intro hq <;> (try simp only [zH] at hq) <;> (try (exfalso; omega)))))
  all_goals simp_all
theorem wasb (l : List Rx) (hl : l.length ≤ 16000000) (hn : wyc l ≤ 1000000) (hk : ∀ r ∈ l, lim Try.prog cfg (.call 62 [.agg ⟨rxC r⟩]) (HP []) = some (.val (.int .i64 (wed r)), HP [])) :
    ∀ (k i : Nat) (a : Int), i + k = l.length → 0 ≤ a → a + wyc (l.drop i) ≤ 2000000 →
    lim Try.prog cfg (.loop 62 0 (wem 0) (SE (EJ 19 G0) [(9, .int .i64 i), (8, .int .i64 l.length), (7, FL l.length (rxsC l)), (3, .int .i64 a)])) (HP []) = some (.code (.exit 0) (SE (EJ 19 G0) [(3, .int .i64 (a + wyc (l.drop i)))]), HP []) := by
  intro k
  induction k with
  | zero =>
    intro i a hi h1 h2
    rw [List.drop_of_length_le (by omega), wyc]
    refine ww wqm ?_
    unfold wfm
    clear hk
    (repeat' (first | (simp -implicitDefEqProofs (maxSteps := 2000000) (disch := first | with_reducible assumption | omega | (simp only [zS, zA, Nat.reduceEqDiff, Nat.reduceLT, Nat.reduceLeDiff, Nat.reduceAdd, Nat.reduceSub, reduceCtorEq, zD] <;> omega) | fail) only [zS, argl, insA, Go.Den.wm, wo, wu, looks, wfb, web, idOf, riA, Nat.reduceLeDiff, Nat.reduceLT, Nat.reduceEqDiff, Nat.reduceDiv, Nat.reduceMod, Int.reduceLT, Int.reduceLE, Int.reduceEq, Int.reduceNeg, Int.reduceToNat, Int.reduceSub, Int.reduceMul, Int.reduceNe, Nat.reduceAdd, Nat.reduceMul, Nat.reduceSub, Int.reduceAdd, reduceCtorEq, Go.Den.wh, kK, wjm, Int.natCast_zero, Int.add_zero, *, zT]) | (with_reducible (first | apply z1 | apply z2 | apply z3 | apply z4) <;> intro hq <;> (try simp only [zH] at hq) <;> (try (exfalso; omega)))))
  | succ k ih =>
    intro i a hi h1 h2
    rw [wss l (by omega), wyc]
    have hr := hk _ (by rw [List.getD_eq_getElem?_getD, List.getElem?_eq_getElem (show i < l.length by omega)]; exact List.getElem_mem _ : l.getD i Rx.zero ∈ l)
    have hb : wed (l.getD i Rx.zero) + wyc (l.drop (i + 1)) ≤ wyc l := by
      have := wzrb l i
      rw [wss l (by omega), wyc] at this
      exact this
    rw [wss l (by omega), wyc] at h2
    have h := ih (i + 1) (a + wed (l.getD i Rx.zero)) (by omega) (by omega) (by omega)
    rw [show a + ((wed (l.getD i Rx.zero) + wyc (l.drop (i + 1)) : Nat) : Int) = a + (wed (l.getD i Rx.zero) : Int) + (wyc (l.drop (i + 1)) : Int) by omega]
    refine ww wqm ?_
    unfold wfm
    clear hk ih
    (repeat' (first | (simp -implicitDefEqProofs (maxSteps := 2000000) (disch := first | with_reducible assumption | omega | (simp only [zS, zA, Nat.reduceEqDiff, Nat.reduceLT, Nat.reduceLeDiff, Nat.reduceAdd, Nat.reduceSub, reduceCtorEq, zD] <;> omega) | fail) only [zS, argl, insA, Go.Den.wm, wo, wu, looks, wfb, web, idOf, riA, Nat.reduceLeDiff, Nat.reduceLT, Nat.reduceEqDiff, Nat.reduceDiv, Nat.reduceMod, Int.reduceLT, Int.reduceLE, Int.reduceEq, Int.reduceNeg, Int.reduceToNat, Int.reduceSub, Int.reduceMul, Int.reduceNe, Nat.reduceAdd, Nat.reduceMul, Nat.reduceSub, Int.reduceAdd, reduceCtorEq, Go.Den.wh, kK, wjm, *, zT]) | (with_reducible (first | apply z1 | apply z2 | apply z3 | apply z4) <;> intro hq <;> (try simp only [zH] at hq) <;> (try (exfalso; omega)))))
    exact h
theorem ev_Nodes : ∀ r : Rx, wed r ≤ 1000000 → lim Try.prog cfg (.call 62 [.agg ⟨rxC r⟩]) (HP []) = some (.val (.int .i64 (wed r)), HP []) := by
  refine Rx.rec (motive_1 := fun r => wed r ≤ 1000000 → lim Try.prog cfg (.call 62 [.agg ⟨rxC r⟩]) (HP []) = some (.val (.int .i64 (wed r)), HP [])) (motive_2 := fun l => wyc l ≤ 1000000 → ∀ r ∈ l, lim Try.prog cfg (.call 62 [.agg ⟨rxC r⟩]) (HP []) = some (.val (.int .i64 (wed r)), HP [])) ?_ ?_ ?_
  · intro k mn mx n s l ih hn
    rw [wed] at hn
    have hl := wpw l
    have h := wasb l (by omega) (by omega) (ih (by omega)) l.length 0 1 (by omega) (by omega) (by rw [List.drop_zero]; omega)
    rw [List.drop_zero, show ((0 : Nat) : Int) = 0 from rfl] at h
    rw [wed, show ((1 + wyc l : Nat) : Int) = 1 + (wyc l : Int) by omega]
    refine wjc hc wmx (Nat.le_of_ble_eq_true rfl) (Nat.le_of_ble_eq_true rfl) ?_
    unfold wdw
    clear ih
    (repeat' (first | (simp -implicitDefEqProofs (maxSteps := 2000000) (disch := first | with_reducible assumption | omega | (simp only [zS, zA, Nat.reduceEqDiff, Nat.reduceLT, Nat.reduceLeDiff, Nat.reduceAdd, Nat.reduceSub, reduceCtorEq, zD] <;> omega) | fail) only [zS, argl, insA, Go.Den.wm, wo, wu, looks, wfb, web, idOf, riA, Nat.reduceLeDiff, Nat.reduceLT, Nat.reduceEqDiff, Nat.reduceDiv, Nat.reduceMod, Int.reduceLT, Int.reduceLE, Int.reduceEq, Int.reduceNeg, Int.reduceToNat, Int.reduceSub, Int.reduceMul, Int.reduceNe, Nat.reduceAdd, Nat.reduceMul, Nat.reduceSub, Int.reduceAdd, reduceCtorEq, Go.Den.wh, kK, wjm, *, zT]) | (with_reducible (first | apply z1 | apply z2 | apply z3 | apply z4) <;> intro hq <;> (try simp only [zH] at hq) <;> (try (exfalso; omega)))))
  · intro _ r h; cases h
  · intro r l h1 h2 hn x hx
    rw [wyc] at hn
    rcases List.mem_cons.1 hx with rfl | hx
    · exact h1 (by omega)
    · exact h2 (by omega) x hx
theorem wcz (r : Rx) (g : Int) : lim Try.prog cfg (.call 78 [.pointer (some ⟨0, 0, none⟩), .agg ⟨rxC r⟩]) (HP [X [.bool true, .int .i64 g] 143 0 true]) = some (.val (.bool true), HP [X [.bool true, .int .i64 g] 143 0 true]) := by
  refine wjc hc wgm (Nat.le_of_ble_eq_true rfl) (Nat.le_of_ble_eq_true rfl) ?_
  unfold wij
  (repeat' (first | (simp -implicitDefEqProofs (maxSteps := 2000000) (disch := first | with_reducible assumption | omega | (simp only [zS, zA, Nat.reduceEqDiff, Nat.reduceLT, Nat.reduceLeDiff, Nat.reduceAdd, Nat.reduceSub, reduceCtorEq, zD] <;> omega) | fail) only [zS, argl, insA, Go.Den.wm, wo, wu, looks, wfb, web, idOf, riA, Nat.reduceLeDiff, Nat.reduceLT, Nat.reduceEqDiff, Nat.reduceDiv, Nat.reduceMod, Int.reduceLT, Int.reduceLE, Int.reduceEq, Int.reduceNeg, Int.reduceToNat, Int.reduceSub, Int.reduceMul, Int.reduceNe, Nat.reduceAdd, Nat.reduceMul, Nat.reduceSub, Int.reduceAdd, reduceCtorEq, Go.Den.wh, kK, wmb, wrb, *, zT]) | (with_reducible (first | apply z1 | apply z2 | apply z3 | apply z4) <;> intro hq <;> (try simp only [zH] at hq) <;> (try (exfalso; omega)))))
end
end Go.Proofs.Ytdbhfmdndiphcaa
namespace Go.Proofs.Ytdbhfmdndiphcaa
set_option linter.unusedVariables false
set_option linter.unusedSimpArgs false
open Go.Den
noncomputable section
mutual
def wxh : Rx → Int → Int → Bool × Int
  | .mk k mn mx n s kids, d, g =>
    if wlkb (.mk k mn mx n s kids) = true then
      if wyn (.mk k mn mx n s kids) = true then
        if k = 5 then (if n = g + 1 then (if d + 1 ≤ 6 then wqf kids (d + 1) (g + 1) else (false, g + 1)) else (false, g + 1))
        else if k = 6 then (decide (1 ≤ n) && decide (n ≤ g), g)
        else wqf kids d g
      else (false, g)
    else (false, g)
def wqf : List Rx → Int → Int → Bool × Int
  | [], _, g => (true, g)
  | r :: l, d, g => if (wxh r d g).1 = true then wqf l d (wxh r d g).2 else (false, (wxh r d g).2)
end
theorem wdcb : ∀ (r : Rx) (d g : Int), g ≤ (wxh r d g).2 ∧ (wxh r d g).2 ≤ g + wed r := by
  refine Rx.rec (motive_1 := fun r => ∀ (d g : Int), g ≤ (wxh r d g).2 ∧ (wxh r d g).2 ≤ g + wed r) (motive_2 := fun l => ∀ (d g : Int), g ≤ (wqf l d g).2 ∧ (wqf l d g).2 ≤ g + wyc l) ?_ ?_ ?_
  · intro k mn mx n s l ih d g
    rw [wxh, wed]
    have h1 := ih (d + 1) (g + 1)
    have h2 := ih d g
    repeat' split
    all_goals first | (constructor <;> simp <;> omega) | omega
  · intro d g; rw [wqf, wyc]; exact ⟨Int.le_refl _, by simp⟩
  · intro r l h1 h2 d g
    rw [wqf, wyc]
    have h3 := h1 d g
    have h4 := h2 d (wxh r d g).2
    split
    · omega
    · simp; omega
abbrev wkB (g : Int) : List ABlk := [X [.bool true, .int .i64 g] 143 0 true]
def wecb (w : Bool × Int) : Option (Out × AH) := if w.1 = true then some (.code (.exit 1) (SE (EJ 89 G0) [(6, JK)]), HP (wkB w.2)) else some (.code .ret (SE (EJ 89 G0) [(6, .bool false)]), HP (wkB w.2))
theorem ej89 : (EJ 89 G0).get 6 = JK := rfl
def wdz (r : Rx) : Prop := ∀ d g : Int, 0 ≤ d → d ≤ 1000 → 0 ≤ g → g + wed r ≤ 2000000 → lim Try.prog cfg (.call 79 [.pointer (some ⟨0, 0, none⟩), .agg ⟨rxC r⟩, .int .i64 d]) (HP (wkB g)) = some (.val (.bool (wxh r d g).1), HP (wkB (wxh r d g).2))
theorem wzfb (l : List Rx) (hl : l.length ≤ 16000000) (hk : ∀ r ∈ l, wdz r) (d : Int) (hd : 0 ≤ d) (hd2 : d ≤ 1000) :
    ∀ (k i : Nat) (g : Int), i + k = l.length → 0 ≤ g → g + wyc (l.drop i) ≤ 2000000 →
    lim Try.prog cfg (.loop 79 1 (wtg 0) (SE (EJ 89 G0) [(79, .int .i64 i), (78, .int .i64 l.length), (77, FL l.length (rxsC l)), (2, .int .i64 d), (0, .pointer (some ⟨0, 0, none⟩))])) (HP (wkB g)) = wecb (wqf (l.drop i) d g) := by
  intro k
  induction k with
  | zero =>
    intro i g hi h1 h2
    rw [List.drop_of_length_le (by omega), wqf, wecb, if_pos rfl]
    refine ww wre ?_
    unfold wpe
    clear hk
    (repeat' (first | (simp -implicitDefEqProofs (maxSteps := 2000000) (disch := first | with_reducible assumption | omega | (simp only [zS, zA, Nat.reduceEqDiff, Nat.reduceLT, Nat.reduceLeDiff, Nat.reduceAdd, Nat.reduceSub, reduceCtorEq, wbb, wib, zD] <;> omega) | fail) only [zS, argl, insA, Go.Den.wm, wo, wu, looks, wfb, web, idOf, riA, Nat.reduceLeDiff, Nat.reduceLT, Nat.reduceEqDiff, Nat.reduceDiv, Nat.reduceMod, Int.reduceLT, Int.reduceLE, Int.reduceEq, Int.reduceNeg, Int.reduceToNat, Int.reduceSub, Int.reduceMul, Int.reduceNe, Nat.reduceAdd, Nat.reduceMul, Nat.reduceSub, Int.reduceAdd, reduceCtorEq, Go.Den.wh, kK, wbc, wbb, wib, ej89, *, zT]) | (with_reducible (first | apply z1 | apply z2 | apply z3 | apply z4) <;> intro hq <;> (try simp only [zH] at hq) <;> (try (exfalso; omega)))))
  | succ k ih =>
    intro i g hi h1 h2
    rw [wss l (by omega), wyc] at h2
    rw [wss l (by omega), wqf]
    have hr := hk _ (by rw [List.getD_eq_getElem?_getD, List.getElem?_eq_getElem (show i < l.length by omega)]; exact List.getElem_mem _ : l.getD i Rx.zero ∈ l) d g hd hd2 h1 (by omega)
    have hw := wdcb (l.getD i Rx.zero) d g
    have h := ih (i + 1) (wxh (l.getD i Rx.zero) d g).2 (by omega) (by omega) (by omega)
    generalize wxh (l.getD i Rx.zero) d g = w at hr hw h ⊢
    obtain ⟨b, g2⟩ := w
    clear hk ih
    cases b with
    | false =>
      rw [if_neg (by simp), wecb, if_neg (by simp)]
      clear h
      refine ww wre ?_
      unfold wpe
      (repeat' (first | (simp -implicitDefEqProofs (maxSteps := 2000000) (disch := first | with_reducible assumption | omega | (simp only [zS, zA, Nat.reduceEqDiff, Nat.reduceLT, Nat.reduceLeDiff, Nat.reduceAdd, Nat.reduceSub, reduceCtorEq, zD] <;> omega) | fail) only [zS, argl, insA, Go.Den.wm, wo, wu, looks, wfb, web, idOf, riA, Nat.reduceLeDiff, Nat.reduceLT, Nat.reduceEqDiff, Nat.reduceDiv, Nat.reduceMod, Int.reduceLT, Int.reduceLE, Int.reduceEq, Int.reduceNeg, Int.reduceToNat, Int.reduceSub, Int.reduceMul, Int.reduceNe, Nat.reduceAdd, Nat.reduceMul, Nat.reduceSub, Int.reduceAdd, reduceCtorEq, Go.Den.wh, kK, wbc, *, zT]) | (with_reducible (first | apply z1 | apply z2 | apply z3 | apply z4) <;> intro hq <;> (try simp only [zH] at hq) <;> (try (exfalso; omega)))))
    | true =>
      rw [if_pos rfl]
      generalize wqf (l.drop (i + 1)) d (true, g2).2 = w2 at h ⊢
      obtain ⟨b2, g3⟩ := w2
      cases b2 with
      | true =>
        rw [wecb, if_pos rfl] at h ⊢
        refine ww wre ?_
        unfold wpe
        (repeat' (first | (simp -implicitDefEqProofs (maxSteps := 2000000) (disch := first | with_reducible assumption | omega | (simp only [zS, zA, Nat.reduceEqDiff, Nat.reduceLT, Nat.reduceLeDiff, Nat.reduceAdd, Nat.reduceSub, reduceCtorEq, wbb, wib, zD] <;> omega) | fail) only [zS, argl, insA, Go.Den.wm, wo, wu, looks, wfb, web, idOf, riA, Nat.reduceLeDiff, Nat.reduceLT, Nat.reduceEqDiff, Nat.reduceDiv, Nat.reduceMod, Int.reduceLT, Int.reduceLE, Int.reduceEq, Int.reduceNeg, Int.reduceToNat, Int.reduceSub, Int.reduceMul, Int.reduceNe, Nat.reduceAdd, Nat.reduceMul, Nat.reduceSub, Int.reduceAdd, reduceCtorEq, Go.Den.wh, kK, wbc, wbb, wib, ej89, *, zT]) | (with_reducible (first | apply z1 | apply z2 | apply z3 | apply z4) <;> intro hq <;> (try simp only [zH] at hq) <;> (try (exfalso; omega)))))
        exact h
      | false =>
        rw [wecb, if_neg (by simp)] at h ⊢
        refine ww wre ?_
        unfold wpe
        (repeat' (first | (simp -implicitDefEqProofs (maxSteps := 2000000) (disch := first | with_reducible assumption | omega | (simp only [zS, zA, Nat.reduceEqDiff, Nat.reduceLT, Nat.reduceLeDiff, Nat.reduceAdd, Nat.reduceSub, reduceCtorEq, wbb, wib, zD] <;> omega) | fail) only [zS, argl, insA, Go.Den.wm, wo, wu, looks, wfb, web, idOf, riA, Nat.reduceLeDiff, Nat.reduceLT, Nat.reduceEqDiff, Nat.reduceDiv, Nat.reduceMod, Int.reduceLT, Int.reduceLE, Int.reduceEq, Int.reduceNeg, Int.reduceToNat, Int.reduceSub, Int.reduceMul, Int.reduceNe, Nat.reduceAdd, Nat.reduceMul, Nat.reduceSub, Int.reduceAdd, reduceCtorEq, Go.Den.wh, kK, wbc, wbb, wib, ej89, *, zT]) | (with_reducible (first | apply z1 | apply z2 | apply z3 | apply z4) <;> intro hq <;> (try simp only [zH] at hq) <;> (try (exfalso; omega)))))
        exact h
end
end Go.Proofs.Ytdbhfmdndiphcaa
namespace Go.Proofs.Ytdbhfmdndiphcaa
set_option linter.unusedVariables false
set_option linter.unusedSimpArgs false
open Go.Den
noncomputable section
set_option maxHeartbeats 4000000 in
theorem wubc (k mn mx n : Int) (set : BitVec 256) (kids : List Rx) (hl : kids.length ≤ 16000000) (ih : ∀ r ∈ kids, wdz r) : wdz (.mk k mn mx n set kids) := by
  intro d g hd hd2 hg hgn
  rw [wed] at hgn
  have hb := ev_bare (.mk k mn mx n set kids)
  have hk := ev_kids (.mk k mn mx n set kids) hl
  rw [wxh]
  refine wjc hc wcp (Nat.le_of_ble_eq_true rfl) (Nat.le_of_ble_eq_true rfl) ?_
  unfold wcl
  cases hbv : wlkb (.mk k mn mx n set kids) with
  | false =>
    rw [if_neg (by simp)]
    rw [hbv] at hb
    clear hk ih hbv
    (repeat' (first | (simp -implicitDefEqProofs (maxSteps := 2000000) (disch := first | with_reducible assumption | omega | (simp only [zS, zA, Nat.reduceEqDiff, Nat.reduceLT, Nat.reduceLeDiff, Nat.reduceAdd, Nat.reduceSub, reduceCtorEq, zD] <;> omega) | fail) only [zS, argl, insA, Go.Den.wm, wo, wu, looks, wfb, web, idOf, riA, Nat.reduceLeDiff, Nat.reduceLT, Nat.reduceEqDiff, Nat.reduceDiv, Nat.reduceMod, Int.reduceLT, Int.reduceLE, Int.reduceEq, Int.reduceNeg, Int.reduceToNat, Int.reduceSub, Int.reduceMul, Int.reduceNe, Nat.reduceAdd, Nat.reduceMul, Nat.reduceSub, Int.reduceAdd, reduceCtorEq, Go.Den.wh, kK, wbc, wmb, wrb, *, zT]) | (with_reducible (first | apply z1 | apply z2 | apply z3 | apply z4) <;> intro hq <;> (try simp only [zH] at hq) <;> (try (exfalso; omega))) | (with_reducible apply z5; (case hl => (repeat (first | exact .nil | with_reducible apply z6 | with_reducible apply z7))); (case h => kernel_rfl))))
  | true =>
  rw [if_pos rfl]
  rw [hbv] at hb
  clear hbv
  cases hkv : wyn (.mk k mn mx n set kids) with
  | false =>
    rw [if_neg (by simp)]
    rw [hkv] at hk
    clear ih hkv
    (repeat' (first | (simp -implicitDefEqProofs (maxSteps := 2000000) (disch := first | with_reducible assumption | omega | (simp only [zS, zA, Nat.reduceEqDiff, Nat.reduceLT, Nat.reduceLeDiff, Nat.reduceAdd, Nat.reduceSub, reduceCtorEq, zD] <;> omega) | fail) only [zS, argl, insA, Go.Den.wm, wo, wu, looks, wfb, web, idOf, riA, Nat.reduceLeDiff, Nat.reduceLT, Nat.reduceEqDiff, Nat.reduceDiv, Nat.reduceMod, Int.reduceLT, Int.reduceLE, Int.reduceEq, Int.reduceNeg, Int.reduceToNat, Int.reduceSub, Int.reduceMul, Int.reduceNe, Nat.reduceAdd, Nat.reduceMul, Nat.reduceSub, Int.reduceAdd, reduceCtorEq, Go.Den.wh, kK, wbc, wmb, wrb, *, zT]) | (with_reducible (first | apply z1 | apply z2 | apply z3 | apply z4) <;> intro hq <;> (try simp only [zH] at hq) <;> (try (exfalso; omega))) | (with_reducible apply z5; (case hl => (repeat (first | exact .nil | with_reducible apply z6 | with_reducible apply z7))); (case h => kernel_rfl))))
  | true =>
  rw [if_pos rfl]
  rw [hkv] at hk
  by_cases h5 : k = 5
  · subst h5
    rw [if_pos rfl]
    have hlen : kids.length = 1 := by
      have h3 : decide ((kids.length : Int) = 1) = true := hkv
      rw [decide_eq_true_eq] at h3
      omega
    have hs : slotsOf (rxsC kids) 0 9 = rxC (kids.getD 0 Rx.zero) := by
      have := wto (l := kids) (i := 0) (by omega)
      rwa [Nat.zero_mul] at this
    have hcl : 9 ≤ (rxsC kids).length := by rw [wmw, hlen]; omega
    have hz : 0 < kids.length := by omega
    have ha := wcz (kids.getD 0 Rx.zero) (g + 1)
    clear hkv hlen
    by_cases hn : n = g + 1
    · rw [if_pos hn]
      by_cases hd6 : d + 1 ≤ 6
      · rw [if_pos hd6]
        have h := wzfb kids hl ih (d + 1) (by omega) (by omega) kids.length 0 (g + 1) (by omega) (by omega) (by rw [List.drop_zero]; omega)
        rw [List.drop_zero, show ((0 : Nat) : Int) = 0 from rfl] at h
        generalize wqf kids (d + 1) (g + 1) = w at h ⊢
        obtain ⟨b, g2⟩ := w
        clear ih
        subst hn
        cases b with
        | true =>
          rw [wecb, if_pos rfl] at h
          (repeat' (first | (simp -implicitDefEqProofs (maxSteps := 2000000) (disch := first | with_reducible assumption | omega | (simp only [zS, zA, Nat.reduceEqDiff, Nat.reduceLT, Nat.reduceLeDiff, Nat.reduceAdd, Nat.reduceSub, reduceCtorEq, wbb, wib, zD] <;> omega) | fail) only [zS, argl, insA, Go.Den.wm, wo, wu, looks, wfb, web, idOf, riA, Nat.reduceLeDiff, Nat.reduceLT, Nat.reduceEqDiff, Nat.reduceDiv, Nat.reduceMod, Int.reduceLT, Int.reduceLE, Int.reduceEq, Int.reduceNeg, Int.reduceToNat, Int.reduceSub, Int.reduceMul, Int.reduceNe, Nat.reduceAdd, Nat.reduceMul, Nat.reduceSub, Int.reduceAdd, reduceCtorEq, Go.Den.wh, kK, wbc, wmb, wrb, wbb, wib, ej89, *, zT]) | (with_reducible (first | apply z1 | apply z2 | apply z3 | apply z4) <;> intro hq <;> (try simp only [zH] at hq) <;> (try (exfalso; omega))) | (with_reducible apply z5; (case hl => (repeat (first | exact .nil | with_reducible apply z6 | with_reducible apply z7))); (case h => kernel_rfl))))
        | false =>
          rw [wecb, if_neg (by simp)] at h
          (repeat' (first | (simp -implicitDefEqProofs (maxSteps := 2000000) (disch := first | with_reducible assumption | omega | (simp only [zS, zA, Nat.reduceEqDiff, Nat.reduceLT, Nat.reduceLeDiff, Nat.reduceAdd, Nat.reduceSub, reduceCtorEq, wbb, wib, zD] <;> omega) | fail) only [zS, argl, insA, Go.Den.wm, wo, wu, looks, wfb, web, idOf, riA, Nat.reduceLeDiff, Nat.reduceLT, Nat.reduceEqDiff, Nat.reduceDiv, Nat.reduceMod, Int.reduceLT, Int.reduceLE, Int.reduceEq, Int.reduceNeg, Int.reduceToNat, Int.reduceSub, Int.reduceMul, Int.reduceNe, Nat.reduceAdd, Nat.reduceMul, Nat.reduceSub, Int.reduceAdd, reduceCtorEq, Go.Den.wh, kK, wbc, wmb, wrb, wbb, wib, ej89, *, zT]) | (with_reducible (first | apply z1 | apply z2 | apply z3 | apply z4) <;> intro hq <;> (try simp only [zH] at hq) <;> (try (exfalso; omega))) | (with_reducible apply z5; (case hl => (repeat (first | exact .nil | with_reducible apply z6 | with_reducible apply z7))); (case h => kernel_rfl))))
      · rw [if_neg hd6]
        clear ih
        subst hn
        (repeat' (first | (simp -implicitDefEqProofs (maxSteps := 2000000) (disch := first | with_reducible assumption | omega | (simp only [zS, zA, Nat.reduceEqDiff, Nat.reduceLT, Nat.reduceLeDiff, Nat.reduceAdd, Nat.reduceSub, reduceCtorEq, zD] <;> omega) | fail) only [zS, argl, insA, Go.Den.wm, wo, wu, looks, wfb, web, idOf, riA, Nat.reduceLeDiff, Nat.reduceLT, Nat.reduceEqDiff, Nat.reduceDiv, Nat.reduceMod, Int.reduceLT, Int.reduceLE, Int.reduceEq, Int.reduceNeg, Int.reduceToNat, Int.reduceSub, Int.reduceMul, Int.reduceNe, Nat.reduceAdd, Nat.reduceMul, Nat.reduceSub, Int.reduceAdd, reduceCtorEq, Go.Den.wh, kK, wbc, wmb, wrb, *, zT]) | (with_reducible (first | apply z1 | apply z2 | apply z3 | apply z4) <;> intro hq <;> (try simp only [zH] at hq) <;> (try (exfalso; omega))) | (with_reducible apply z5; (case hl => (repeat (first | exact .nil | with_reducible apply z6 | with_reducible apply z7))); (case h => kernel_rfl))))
    · rw [if_neg hn]
      clear ih
      (repeat' (first | (simp -implicitDefEqProofs (maxSteps := 2000000) (disch := first | with_reducible assumption | omega | (simp only [zS, zA, Nat.reduceEqDiff, Nat.reduceLT, Nat.reduceLeDiff, Nat.reduceAdd, Nat.reduceSub, reduceCtorEq, zD] <;> omega) | fail) only [zS, argl, insA, Go.Den.wm, wo, wu, looks, wfb, web, idOf, riA, Nat.reduceLeDiff, Nat.reduceLT, Nat.reduceEqDiff, Nat.reduceDiv, Nat.reduceMod, Int.reduceLT, Int.reduceLE, Int.reduceEq, Int.reduceNeg, Int.reduceToNat, Int.reduceSub, Int.reduceMul, Int.reduceNe, Nat.reduceAdd, Nat.reduceMul, Nat.reduceSub, Int.reduceAdd, reduceCtorEq, Go.Den.wh, kK, wbc, wmb, wrb, *, zT]) | (with_reducible (first | apply z1 | apply z2 | apply z3 | apply z4) <;> intro hq <;> (try simp only [zH] at hq) <;> (try (exfalso; omega))) | (with_reducible apply z5; (case hl => (repeat (first | exact .nil | with_reducible apply z6 | with_reducible apply z7))); (case h => kernel_rfl))))
  rw [if_neg h5]
  clear hkv
  by_cases h6 : k = 6
  · subst h6
    rw [if_pos rfl]
    clear ih
    (repeat' (first | (simp -implicitDefEqProofs (maxSteps := 2000000) (disch := first | with_reducible assumption | omega | (simp only [zS, zA, Nat.reduceEqDiff, Nat.reduceLT, Nat.reduceLeDiff, Nat.reduceAdd, Nat.reduceSub, reduceCtorEq, zD] <;> omega) | fail) only [zS, argl, insA, Go.Den.wm, wo, wu, looks, wfb, web, idOf, riA, Nat.reduceLeDiff, Nat.reduceLT, Nat.reduceEqDiff, Nat.reduceDiv, Nat.reduceMod, Int.reduceLT, Int.reduceLE, Int.reduceEq, Int.reduceNeg, Int.reduceToNat, Int.reduceSub, Int.reduceMul, Int.reduceNe, Nat.reduceAdd, Nat.reduceMul, Nat.reduceSub, Int.reduceAdd, reduceCtorEq, Go.Den.wh, kK, wbc, wmb, wrb, *, zT]) | (with_reducible (first | apply z1 | apply z2 | apply z3 | apply z4) <;> intro hq <;> (try simp only [zH] at hq) <;> (try (exfalso; omega))) | (with_reducible apply z5; (case hl => (repeat (first | exact .nil | with_reducible apply z6 | with_reducible apply z7))); (case h => kernel_rfl))))
  rw [if_neg h6]
  have h := wzfb kids hl ih d (by omega) (by omega) kids.length 0 g (by omega) (by omega) (by rw [List.drop_zero]; omega)
  rw [List.drop_zero, show ((0 : Nat) : Int) = 0 from rfl] at h
  generalize wqf kids d g = w at h ⊢
  obtain ⟨b, g2⟩ := w
  clear ih
  cases b with
  | true =>
    rw [wecb, if_pos rfl] at h
    (repeat' (first | (simp -implicitDefEqProofs (maxSteps := 2000000) (disch := first | with_reducible assumption | omega | (simp only [zS, zA, Nat.reduceEqDiff, Nat.reduceLT, Nat.reduceLeDiff, Nat.reduceAdd, Nat.reduceSub, reduceCtorEq, wbb, wib, zD] <;> omega) | fail) only [zS, argl, insA, Go.Den.wm, wo, wu, looks, wfb, web, idOf, riA, Nat.reduceLeDiff, Nat.reduceLT, Nat.reduceEqDiff, Nat.reduceDiv, Nat.reduceMod, Int.reduceLT, Int.reduceLE, Int.reduceEq, Int.reduceNeg, Int.reduceToNat, Int.reduceSub, Int.reduceMul, Int.reduceNe, Nat.reduceAdd, Nat.reduceMul, Nat.reduceSub, Int.reduceAdd, reduceCtorEq, Go.Den.wh, kK, wbc, wmb, wrb, wbb, wib, ej89, *, zT]) | (with_reducible (first | apply z1 | apply z2 | apply z3 | apply z4) <;> intro hq <;> (try simp only [zH] at hq) <;> (try (exfalso; omega))) | (with_reducible apply z5; (case hl => (repeat (first | exact .nil | with_reducible apply z6 | with_reducible apply z7))); (case h => kernel_rfl))))
  | false =>
    rw [wecb, if_neg (by simp)] at h
    (repeat' (first | (simp -implicitDefEqProofs (maxSteps := 2000000) (disch := first | with_reducible assumption | omega | (simp only [zS, zA, Nat.reduceEqDiff, Nat.reduceLT, Nat.reduceLeDiff, Nat.reduceAdd, Nat.reduceSub, reduceCtorEq, wbb, wib, zD] <;> omega) | fail) only [zS, argl, insA, Go.Den.wm, wo, wu, looks, wfb, web, idOf, riA, Nat.reduceLeDiff, Nat.reduceLT, Nat.reduceEqDiff, Nat.reduceDiv, Nat.reduceMod, Int.reduceLT, Int.reduceLE, Int.reduceEq, Int.reduceNeg, Int.reduceToNat, Int.reduceSub, Int.reduceMul, Int.reduceNe, Nat.reduceAdd, Nat.reduceMul, Nat.reduceSub, Int.reduceAdd, reduceCtorEq, Go.Den.wh, kK, wbc, wmb, wrb, wbb, wib, ej89, *, zT]) | (with_reducible (first | apply z1 | apply z2 | apply z3 | apply z4) <;> intro hq <;> (try simp only [zH] at hq) <;> (try (exfalso; omega))) | (with_reducible apply z5; (case hl => (repeat (first | exact .nil | with_reducible apply z6 | with_reducible apply z7))); (case h => kernel_rfl))))
theorem ev_walk : ∀ r : Rx, wed r ≤ 1000000 → wdz r := by
  refine Rx.rec (motive_1 := fun r => wed r ≤ 1000000 → wdz r) (motive_2 := fun l => wyc l ≤ 1000000 → ∀ r ∈ l, wdz r) ?_ ?_ ?_
  · intro k mn mx n s l ih hn
    rw [wed] at hn
    have hl := wpw l
    exact wubc k mn mx n s l (by omega) (ih (by omega))
  · intro _ r h; cases h
  · intro r l h1 h2 hn x hx
    rw [wyc] at hn
    rcases List.mem_cons.1 hx with rfl | hx
    · exact h1 (by omega)
    · exact h2 (by omega) x hx
def whl (r : Rx) : Bool := decide (wed r ≤ 40) && ((wxh r 0 0).1 && decide ((wxh r 0 0).2 ≤ 3))
theorem wsmb (r : Rx) (hn : wed r ≤ 1000000) : lim Try.prog cfg (.call 58 [.agg ⟨rxC r⟩, .bool true]) (HP []) = some (.val (.bool (whl r)), HP []) := by
  have h1 := ev_Nodes r hn
  have h2 := wcz r 0
  have h3 := ev_walk r hn 0 0 (by omega) (by omega) (by omega) (by omega)
  unfold whl
  generalize wxh r 0 0 = w at h3 ⊢
  obtain ⟨b, g⟩ := w
  refine wjc hc wlx (Nat.le_of_ble_eq_true rfl) (Nat.le_of_ble_eq_true rfl) ?_
  unfold wcw
  by_cases hq : wed r ≤ 40
  · have hq2 : (wed r : Int) ≤ 40 := by omega
    rw [decide_eq_true hq]
    cases b with
    | false => (repeat' (first | (simp -implicitDefEqProofs (maxSteps := 2000000) (disch := first | with_reducible assumption | omega | (simp only [zS, zA, Nat.reduceEqDiff, Nat.reduceLT, Nat.reduceLeDiff, Nat.reduceAdd, Nat.reduceSub, reduceCtorEq, zD] <;> omega) | fail) only [zS, argl, insA, Go.Den.wm, wo, wu, looks, wfb, web, idOf, riA, Nat.reduceLeDiff, Nat.reduceLT, Nat.reduceEqDiff, Nat.reduceDiv, Nat.reduceMod, Int.reduceLT, Int.reduceLE, Int.reduceEq, Int.reduceNeg, Int.reduceToNat, Int.reduceSub, Int.reduceMul, Int.reduceNe, Nat.reduceAdd, Nat.reduceMul, Nat.reduceSub, Int.reduceAdd, reduceCtorEq, Go.Den.wh, kK, wmb, wrb, *, zT]) | (with_reducible (first | apply z1 | apply z2 | apply z3 | apply z4) <;> intro hq <;> (try simp only [zH] at hq) <;> (try (exfalso; omega))))); all_goals trace_state
    | true => (repeat' (first | (simp -implicitDefEqProofs (maxSteps := 2000000) (disch := first | with_reducible assumption | omega | (simp only [zS, zA, Nat.reduceEqDiff, Nat.reduceLT, Nat.reduceLeDiff, Nat.reduceAdd, Nat.reduceSub, reduceCtorEq, zD] <;> omega) | fail) only [zS, argl, insA, Go.Den.wm, wo, wu, looks, wfb, web, idOf, riA, Nat.reduceLeDiff, Nat.reduceLT, Nat.reduceEqDiff, Nat.reduceDiv, Nat.reduceMod, Int.reduceLT, Int.reduceLE, Int.reduceEq, Int.reduceNeg, Int.reduceToNat, Int.reduceSub, Int.reduceMul, Int.reduceNe, Nat.reduceAdd, Nat.reduceMul, Nat.reduceSub, Int.reduceAdd, reduceCtorEq, Go.Den.wh, kK, wmb, wrb, *, zT]) | (with_reducible (first | apply z1 | apply z2 | apply z3 | apply z4) <;> intro hq <;> (try simp only [zH] at hq) <;> (try (exfalso; omega))))); all_goals trace_state
  · have hq2 : ¬ (wed r : Int) ≤ 40 := by omega
    rw [decide_eq_false hq]
    (repeat' (first | (simp -implicitDefEqProofs (maxSteps := 2000000) (disch := first | with_reducible assumption | omega | (simp only [zS, zA, Nat.reduceEqDiff, Nat.reduceLT, Nat.reduceLeDiff, Nat.reduceAdd, Nat.reduceSub, reduceCtorEq, zD] <;> omega) | fail) only [zS, argl, insA, Go.Den.wm, wo, wu, looks, wfb, web, idOf, riA, Nat.reduceLeDiff, Nat.reduceLT, Nat.reduceEqDiff, Nat.reduceDiv, Nat.reduceMod, Int.reduceLT, Int.reduceLE, Int.reduceEq, Int.reduceNeg, Int.reduceToNat, Int.reduceSub, Int.reduceMul, Int.reduceNe, Nat.reduceAdd, Nat.reduceMul, Nat.reduceSub, Int.reduceAdd, reduceCtorEq, Go.Den.wh, kK, wmb, wrb, *, zT]) | (with_reducible (first | apply z1 | apply z2 | apply z3 | apply z4) <;> intro hq <;> (try simp only [zH] at hq) <;> (try (exfalso; omega)))))
end
end Go.Proofs.Ytdbhfmdndiphcaa
namespace Go.Proofs.Ytdbhfmdndiphcaa
set_option linter.unusedVariables false
set_option linter.unusedSimpArgs false
open Go.Den
noncomputable section
theorem wvbc {k mn mx n : Int} {s : BitVec 256} {l : List Rx} (h : wyn (.mk k mn mx n s l) = true) :
    (k = 5 → l ≠ []) ∧ (k = 4 → l ≠ [] ∧ 0 ≤ mn ∧ mn ≤ 20 ∧ -1 ≤ mx ∧ mx ≤ 20) := by
  constructor
  · intro h5; subst h5
    have h3 : decide ((l.length : Int) = 1) = true := h
    rw [decide_eq_true_eq] at h3
    intro he; subst he; simp at h3
  · intro h4; subst h4
    have h3 : (decide ((l.length : Int) = 1) && (l.any (wvh [1, 5, 6]) && repF (.mk 4 mn mx n s l))) = true := h
    rw [Bool.and_eq_true, Bool.and_eq_true, decide_eq_true_eq] at h3
    have h5 : (decide (0 ≤ mn) && (decide (mn ≤ 20) && (decide (mx = -1) || (decide (max mn 1 ≤ mx) && decide (mx ≤ 20))))) = true := h3.2.2
    simp only [Bool.and_eq_true, Bool.or_eq_true, decide_eq_true_eq] at h5
    refine ⟨fun he => by subst he; simp at h3, h5.1, h5.2.1, ?_, ?_⟩ <;> omega
theorem walk_ok : ∀ (r : Rx) (d g : Int), 0 ≤ g → (wxh r d g).1 = true → (wxh r d g).2 ≤ 3 → okR r = true := by
  refine Rx.rec (motive_1 := fun r => ∀ (d g : Int), 0 ≤ g → (wxh r d g).1 = true → (wxh r d g).2 ≤ 3 → okR r = true) (motive_2 := fun l => ∀ (d g : Int), 0 ≤ g → (wqf l d g).1 = true → (wqf l d g).2 ≤ 3 → okRs l = true) ?_ ?_ ?_
  · intro k mn mx n s l ih d g hg h1 h2
    have hle : ∀ d g, g ≤ (wqf l d g).2 := by
      clear ih h1 h2 hg
      induction l with
      | nil => intro d g; rw [wqf]; exact Int.le_refl _
      | cons a l ih =>
        intro d g
        rw [wqf]
        have := (wdcb a d g).1
        split
        · have := ih d (wxh a d g).2; omega
        · exact this
    rw [wxh] at h1 h2
    rw [okR, Bool.and_eq_true]
    by_cases hb : wlkb (.mk k mn mx n s l) = true
    · rw [if_pos hb] at h1 h2
      by_cases hk : wyn (.mk k mn mx n s l) = true
      · rw [if_pos hk] at h1 h2
        have ⟨k5, k4⟩ := wvbc hk
        by_cases h5 : k = 5
        · rw [if_pos h5] at h1 h2
          rw [if_pos h5]
          by_cases hn : n = g + 1
          · rw [if_pos hn] at h1 h2
            by_cases hd : d + 1 ≤ 6
            · rw [if_pos hd] at h1 h2
              have := hle (d + 1) (g + 1)
              refine ⟨?_, ih _ _ (by omega) h1 h2⟩
              simp only [Bool.and_eq_true, decide_eq_true_eq]
              exact ⟨k5 h5, by omega, by omega⟩
            · rw [if_neg hd] at h1; cases h1
          · rw [if_neg hn] at h1; cases h1
        · rw [if_neg h5] at h1 h2 ⊢
          by_cases h6 : k = 6
          · rw [if_pos h6] at h1 h2
            rw [if_neg (by omega), if_pos h6]
            simp only [Bool.and_eq_true, decide_eq_true_eq] at h1 ⊢
            have hl0 : l = [] := by
              subst h6
              have h3 : decide ((l.length : Int) = 0) = true := hk
              rw [decide_eq_true_eq] at h3
              exact List.eq_nil_of_length_eq_zero (by omega)
            subst hl0
            exact ⟨⟨h1.1, by simp only at h2; omega⟩, by rw [okRs]⟩
          · rw [if_neg h6] at h1 h2 ⊢
            refine ⟨?_, ih _ _ hg h1 h2⟩
            by_cases h4 : k = 4
            · rw [if_pos h4]
              simp only [Bool.and_eq_true, decide_eq_true_eq]
              exact k4 h4
            · rw [if_neg h4]
      · rw [if_neg hk] at h1; cases h1
    · rw [if_neg hb] at h1; cases h1
  · intro _ _ _ _ _; rw [okRs]
  · intro r l h1 h2 d g hg h3 h4
    rw [wqf] at h3 h4
    have hw := wdcb r d g
    by_cases hr : (wxh r d g).1 = true
    · rw [if_pos hr] at h3 h4
      have hle : ∀ (l : List Rx) (d g : Int), g ≤ (wqf l d g).2 := by
        intro l
        induction l with
        | nil => intro d g; rw [wqf]; exact Int.le_refl _
        | cons a l ih =>
          intro d g
          rw [wqf]
          have := (wdcb a d g).1
          split
          · have := ih d (wxh a d g).2; omega
          · exact this
      have := hle l d (wxh r d g).2
      rw [okRs, Bool.and_eq_true]
      exact ⟨h1 d g hg hr (by omega), h2 d _ (by omega) h3 h4⟩
    · rw [if_neg hr] at h3; cases h3
theorem wtmb {r : Rx} (h : whl r = true) : okR r = true := by
  rw [whl, Bool.and_eq_true, Bool.and_eq_true, decide_eq_true_eq, decide_eq_true_eq] at h
  exact walk_ok r 0 0 (Int.le_refl _) h.2.1 h.2.2
theorem ev_ways (s : List UInt8) (bol : Bool) (hs : s.length ≤ 12) : ∀ r : Rx, wed r ≤ 1000000 → okR r = true → wobc s bol r := by
  refine Rx.rec (motive_1 := fun r => wed r ≤ 1000000 → okR r = true → wobc s bol r) (motive_2 := fun l => wyc l ≤ 1000000 → okRs l = true → wxfb s bol l) ?_ ?_ ?_
  · intro k mn mx n set l ih hn hok
    rw [wed] at hn
    have hl := wpw l
    refine wpbc s bol hs k mn mx n set l (by omega) hok (ih (by omega) ?_)
    rw [okR, Bool.and_eq_true] at hok
    exact hok.2
  · intro _ _ r h; cases h
  · intro r l h1 h2 hn hok x hx
    rw [wyc] at hn
    rw [okRs, Bool.and_eq_true] at hok
    rcases List.mem_cons.1 hx with rfl | hx
    · intro y hy
      exact ⟨wxbb (s := s) rfl (bol := bol) _ hok.1 y hy, h1 (by omega) hok.1 y hy⟩
    · exact h2 (by omega) hok.2 x hx
theorem startG {len : Nat} {a : Int} (h1 : 0 ≤ a) (h2 : a ≤ len) : GdS len (a, wyi) := by
  refine ⟨h1, h2, rfl, rfl, fun g g1 g3 => .inl ?_⟩
  rcases (show g = 1 ∨ g = 2 ∨ g = 3 by omega) with rfl | rfl | rfl <;> exact ⟨rfl, rfl⟩
def wrm (r : Rx) (s : List UInt8) (bol : Bool) (a : Int) : List St := if whl r = true ∧ 0 ≤ a ∧ a ≤ s.length then wof s bol r (a, wyi) else []
theorem wez {r : Rx} {s : List UInt8} {bol : Bool} {a : Int} : RwS s.length a (wrm r s bol a) := by
  unfold wrm
  split
  · rename_i h
    exact wxbb (s := s) rfl (bol := bol) r (wtmb h.1) (a, wyi) (startG h.2.1 h.2.2)
  · exact .nil
theorem ev_Ways (r : Rx) (hn : wed r ≤ 1000000) (s : List UInt8) (hs : s.length ≤ 12) (bol : Bool) (a : Int) : lim Try.prog cfg (.call 40 [.agg ⟨rxC r⟩, str s, .bool bol, .int .i64 a]) (HP []) = some (.val (FL (wrm r s bol a).length (stsC (wrm r s bol a))), HP []) := by
  have h := wsmb r hn
  refine wjc hc wkx (Nat.le_of_ble_eq_true rfl) (Nat.le_of_ble_eq_true rfl) ?_
  unfold wbw wrm
  have h0 := wabc
  cases hr : whl r with
  | false =>
    rw [if_neg (by simp)]
    rw [hr] at h
    clear hr h0
    (repeat' (first | (simp -implicitDefEqProofs (maxSteps := 2000000) (disch := first | with_reducible assumption | omega | (simp only [zS, zA, Nat.reduceEqDiff, Nat.reduceLT, Nat.reduceLeDiff, Nat.reduceAdd, Nat.reduceSub, reduceCtorEq, zD] <;> omega) | fail) only [zS, argl, insA, Go.Den.wm, wo, wu, looks, wfb, web, idOf, riA, Nat.reduceLeDiff, Nat.reduceLT, Nat.reduceEqDiff, Nat.reduceDiv, Nat.reduceMod, Int.reduceLT, Int.reduceLE, Int.reduceEq, Int.reduceNeg, Int.reduceToNat, Int.reduceSub, Int.reduceMul, Int.reduceNe, Nat.reduceAdd, Nat.reduceMul, Nat.reduceSub, Int.reduceAdd, reduceCtorEq, Go.Den.wh, kK, wmb, wrb, *, zT]) | (with_reducible (first | apply z1 | apply z2 | apply z3 | apply z4) <;> intro hq <;> (try simp only [zH] at hq) <;> (try (exfalso; omega))) | (with_reducible apply z5; (case hl => (repeat (first | exact .nil | with_reducible apply z6 | with_reducible apply z7))); (case h => kernel_rfl))))
  | true =>
    rw [hr] at h
    by_cases h1 : 0 ≤ a
    · by_cases h2 : a ≤ s.length
      · rw [if_pos ⟨rfl, h1, h2⟩]
        have hw := ev_ways s bol hs r hn (wtmb hr) (a, wyi) (startG h1 h2)
        rw [← st_fold] at hw
        clear hr
        (repeat' (first | (simp -implicitDefEqProofs (maxSteps := 2000000) (disch := first | with_reducible assumption | omega | (simp only [zS, zA, Nat.reduceEqDiff, Nat.reduceLT, Nat.reduceLeDiff, Nat.reduceAdd, Nat.reduceSub, reduceCtorEq, zD] <;> omega) | fail) only [zS, argl, insA, Go.Den.wm, wo, wu, looks, wfb, web, idOf, riA, Nat.reduceLeDiff, Nat.reduceLT, Nat.reduceEqDiff, Nat.reduceDiv, Nat.reduceMod, Int.reduceLT, Int.reduceLE, Int.reduceEq, Int.reduceNeg, Int.reduceToNat, Int.reduceSub, Int.reduceMul, Int.reduceNe, Nat.reduceAdd, Nat.reduceMul, Nat.reduceSub, Int.reduceAdd, reduceCtorEq, Go.Den.wh, kK, wmb, wrb, *, zT]) | (with_reducible (first | apply z1 | apply z2 | apply z3 | apply z4) <;> intro hq <;> (try simp only [zH] at hq) <;> (try (exfalso; omega))) | (with_reducible apply z5; (case hl => (repeat (first | exact .nil | with_reducible apply z6 | with_reducible apply z7))); (case h => kernel_rfl))))
      · rw [if_neg (fun h => h2 h.2.2)]
        clear hr h0
        (repeat' (first | (simp -implicitDefEqProofs (maxSteps := 2000000) (disch := first | with_reducible assumption | omega | (simp only [zS, zA, Nat.reduceEqDiff, Nat.reduceLT, Nat.reduceLeDiff, Nat.reduceAdd, Nat.reduceSub, reduceCtorEq, zD] <;> omega) | fail) only [zS, argl, insA, Go.Den.wm, wo, wu, looks, wfb, web, idOf, riA, Nat.reduceLeDiff, Nat.reduceLT, Nat.reduceEqDiff, Nat.reduceDiv, Nat.reduceMod, Int.reduceLT, Int.reduceLE, Int.reduceEq, Int.reduceNeg, Int.reduceToNat, Int.reduceSub, Int.reduceMul, Int.reduceNe, Nat.reduceAdd, Nat.reduceMul, Nat.reduceSub, Int.reduceAdd, reduceCtorEq, Go.Den.wh, kK, wmb, wrb, *, zT]) | (with_reducible (first | apply z1 | apply z2 | apply z3 | apply z4) <;> intro hq <;> (try simp only [zH] at hq) <;> (try (exfalso; omega))) | (with_reducible apply z5; (case hl => (repeat (first | exact .nil | with_reducible apply z6 | with_reducible apply z7))); (case h => kernel_rfl))))
    · rw [if_neg (fun h => h1 h.2.1)]
      clear hr h0
      (repeat' (first | (simp -implicitDefEqProofs (maxSteps := 2000000) (disch := first | with_reducible assumption | omega | (simp only [zS, zA, Nat.reduceEqDiff, Nat.reduceLT, Nat.reduceLeDiff, Nat.reduceAdd, Nat.reduceSub, reduceCtorEq, zD] <;> omega) | fail) only [zS, argl, insA, Go.Den.wm, wo, wu, looks, wfb, web, idOf, riA, Nat.reduceLeDiff, Nat.reduceLT, Nat.reduceEqDiff, Nat.reduceDiv, Nat.reduceMod, Int.reduceLT, Int.reduceLE, Int.reduceEq, Int.reduceNeg, Int.reduceToNat, Int.reduceSub, Int.reduceMul, Int.reduceNe, Nat.reduceAdd, Nat.reduceMul, Nat.reduceSub, Int.reduceAdd, reduceCtorEq, Go.Den.wh, kK, wmb, wrb, *, zT]) | (with_reducible (first | apply z1 | apply z2 | apply z3 | apply z4) <;> intro hq <;> (try simp only [zH] at hq) <;> (try (exfalso; omega))) | (with_reducible apply z5; (case hl => (repeat (first | exact .nil | with_reducible apply z6 | with_reducible apply z7))); (case h => kernel_rfl))))
end
end Go.Proofs.Ytdbhfmdndiphcaa
namespace Go.Proofs.Ytdbhfmdndiphcaa
set_option linter.unusedVariables false
set_option linter.unusedSimpArgs false
open Go.Den
noncomputable section
def wdq : List St → Option St → Option St
  | [], b => b
  | x :: l, none => wdq l (some x)
  | x :: l, some b => wdq l (if x.1 > b.1 then some x else some b)
def bst (b : Option St) : St := b.getD St.zero
abbrev fiB (r : Rx) (b : Option St) : List ABlk := [X (rxC r) 47 0 true, X (mtC Mt.zero) 55 0 true, X (stC (bst b)) 113 0 true]
theorem first_in (r : Rx) (s : List UInt8) (a : Int) (l : List St) (hl : l.length ≤ 16000000) : ∀ (k i : Nat) (b : Option St), i + k = l.length →
    lim Try.prog cfg (.loop 28 0 (wxe 1) (SE (EJ 70 G0) [(45, .int .i64 i), (44, .int .i64 l.length), (43, FL l.length (stsC l)), (10, .bool b.isSome), (9, .pointer (some ⟨2, 0, none⟩)), (8, .int .i64 a), (6, .pointer (some ⟨1, 0, none⟩)), (3, .pointer (some ⟨0, 0, none⟩)), (1, str s)])) (HP (fiB r b)) = some (.code (.exit 2) (SE (EJ 70 G0) [(10, .bool (wdq (l.drop i) b).isSome), (9, .pointer (some ⟨2, 0, none⟩)), (8, .int .i64 a), (6, .pointer (some ⟨1, 0, none⟩)), (3, .pointer (some ⟨0, 0, none⟩)), (1, str s)]), HP (fiB r (wdq (l.drop i) b))) := by
  intro k
  induction k with
  | zero =>
    intro i b hi
    rw [List.drop_of_length_le (by omega), wdq]
    refine ww wig ?_
    unfold wng
    (repeat' (first | (simp -implicitDefEqProofs (maxSteps := 2000000) (disch := first | with_reducible assumption | omega | (simp only [zS, zA, Nat.reduceEqDiff, Nat.reduceLT, Nat.reduceLeDiff, Nat.reduceAdd, Nat.reduceSub, reduceCtorEq, wlt, wgf, zD] <;> omega) | fail) only [zS, argl, insA, Go.Den.wm, wo, wu, looks, wfb, web, idOf, riA, Nat.reduceLeDiff, Nat.reduceLT, Nat.reduceEqDiff, Nat.reduceDiv, Nat.reduceMod, Int.reduceLT, Int.reduceLE, Int.reduceEq, Int.reduceNeg, Int.reduceToNat, Int.reduceSub, Int.reduceMul, Int.reduceNe, Nat.reduceAdd, Nat.reduceMul, Nat.reduceSub, Int.reduceAdd, reduceCtorEq, Go.Den.wh, kK, wqe, *, zT]) | (with_reducible (first | apply z1 | apply z2 | apply z3 | apply z4) <;> intro hq <;> (try simp only [zH] at hq) <;> (try (exfalso; omega)))))
  | succ k ih =>
    intro i b hi
    rw [wqg l (by omega)]
    cases b with
    | none =>
      have h := ih (i + 1) (some (l.getD i St.zero)) (by omega)
      rw [wdq]
      clear ih
      refine ww wig ?_
      unfold wng
      (repeat' (first | (simp -implicitDefEqProofs (maxSteps := 2000000) (disch := first | with_reducible assumption | omega | (simp only [zS, zA, Nat.reduceEqDiff, Nat.reduceLT, Nat.reduceLeDiff, Nat.reduceAdd, Nat.reduceSub, reduceCtorEq, wlt, wgf, zD] <;> omega) | fail) only [zS, argl, insA, Go.Den.wm, wo, wu, looks, wfb, web, idOf, riA, Nat.reduceLeDiff, Nat.reduceLT, Nat.reduceEqDiff, Nat.reduceDiv, Nat.reduceMod, Int.reduceLT, Int.reduceLE, Int.reduceEq, Int.reduceNeg, Int.reduceToNat, Int.reduceSub, Int.reduceMul, Int.reduceNe, Nat.reduceAdd, Nat.reduceMul, Nat.reduceSub, Int.reduceAdd, reduceCtorEq, Go.Den.wh, kK, wqe, wmb, wrb, Option.isSome_none, *, zT]) | (with_reducible (first | apply z1 | apply z2 | apply z3 | apply z4) <;> intro hq <;> (try simp only [zH] at hq) <;> (try (exfalso; omega)))))
      exact h
    | some b =>
      rw [wdq]
      by_cases hq : (l.getD i St.zero).1 > b.1
      · rw [if_pos hq]
        have h := ih (i + 1) (some (l.getD i St.zero)) (by omega)
        clear ih
        refine ww wig ?_
        unfold wng
        (repeat' (first | (simp -implicitDefEqProofs (maxSteps := 2000000) (disch := first | with_reducible assumption | omega | (simp only [zS, zA, Nat.reduceEqDiff, Nat.reduceLT, Nat.reduceLeDiff, Nat.reduceAdd, Nat.reduceSub, reduceCtorEq, wlt, wgf, zD] <;> omega) | fail) only [zS, argl, insA, Go.Den.wm, wo, wu, looks, wfb, web, idOf, riA, Nat.reduceLeDiff, Nat.reduceLT, Nat.reduceEqDiff, Nat.reduceDiv, Nat.reduceMod, Int.reduceLT, Int.reduceLE, Int.reduceEq, Int.reduceNeg, Int.reduceToNat, Int.reduceSub, Int.reduceMul, Int.reduceNe, Nat.reduceAdd, Nat.reduceMul, Nat.reduceSub, Int.reduceAdd, reduceCtorEq, Go.Den.wh, kK, wqe, wmb, wrb, bst, Option.getD_some, *, zT]) | (with_reducible (first | apply z1 | apply z2 | apply z3 | apply z4) <;> intro hq <;> (try simp only [zH] at hq) <;> (try (exfalso; omega)))))
        exact h
      · rw [if_neg hq]
        have h := ih (i + 1) (some b) (by omega)
        clear ih
        refine ww wig ?_
        unfold wng
        (repeat' (first | (simp -implicitDefEqProofs (maxSteps := 2000000) (disch := first | with_reducible assumption | omega | (simp only [zS, zA, Nat.reduceEqDiff, Nat.reduceLT, Nat.reduceLeDiff, Nat.reduceAdd, Nat.reduceSub, reduceCtorEq, wlt, wgf, zD] <;> omega) | fail) only [zS, argl, insA, Go.Den.wm, wo, wu, looks, wfb, web, idOf, riA, Nat.reduceLeDiff, Nat.reduceLT, Nat.reduceEqDiff, Nat.reduceDiv, Nat.reduceMod, Int.reduceLT, Int.reduceLE, Int.reduceEq, Int.reduceNeg, Int.reduceToNat, Int.reduceSub, Int.reduceMul, Int.reduceNe, Nat.reduceAdd, Nat.reduceMul, Nat.reduceSub, Int.reduceAdd, reduceCtorEq, Go.Den.wh, kK, wqe, wmb, wrb, bst, Option.getD_some, *, zT]) | (with_reducible (first | apply z1 | apply z2 | apply z3 | apply z4) <;> intro hq <;> (try simp only [zH] at hq) <;> (try (exfalso; omega)))))
        exact h
end
end Go.Proofs.Ytdbhfmdndiphcaa
namespace Go.Proofs.Ytdbhfmdndiphcaa
set_option linter.unusedVariables false
set_option linter.unusedSimpArgs false
open Go.Den
noncomputable section
def wqk (r : Rx) (s : List UInt8) : Nat → Int → Option Mt
  | 0, _ => none
  | k + 1, a => match wdq (wrm r s true a) none with
    | some b => some ((b.2.put 0 a).put 1 b.1)
    | none => wqk r s k (a + 1)
def firO : Option Mt → Option (Out × AH)
  | none => some (.code (.exit 0) (SE (EJ 70 G0) [(7, JK), (6, .pointer (some ⟨0, 0, none⟩))]), HP [X (mtC Mt.zero) 55 0 true])
  | some m => some (.code .ret (SE (EJ 70 G0) [(7, .bool true), (6, .pointer (some ⟨0, 0, none⟩))]), HP [X (mtC m) 55 0 true])
theorem st_set12 {b : St} {x y : Int} : ((stC b).set 1 (.int .i64 x)).set 2 (.int .i64 y) = stC (b.1, (b.2.put 0 x).put 1 y) := by
  show (Value.int .i64 b.1 :: ((mtC b.2).set 0 _).set 1 _) = _
  rw [wdac, wdac]; rfl
theorem ej70 : (EJ 70 G0).get 7 = JK := rfl
set_option maxHeartbeats 4000000 in
theorem wwbc (r : Rx) (hn : wed r ≤ 1000000) (s : List UInt8) (hs : s.length ≤ 12) : ∀ (k : Nat) (a : Int), 0 ≤ a → a + k = s.length + 1 →
    lim Try.prog cfg (.loop 28 0 (wxe 0) (SE (EJ 70 G0) [(8, .int .i64 a), (6, .pointer (some ⟨1, 0, none⟩)), (3, .pointer (some ⟨0, 0, none⟩)), (1, str s)])) (HP [X (rxC r) 47 0 true, X (mtC Mt.zero) 55 0 true]) = firO (wqk r s k a) := by
  intro k
  induction k with
  | zero =>
    intro a h0 hi
    rw [wqk, firO]
    refine ww wjg ?_
    unfold wog
    (repeat' (first | (simp -implicitDefEqProofs (maxSteps := 2000000) (disch := first | with_reducible assumption | omega | (simp only [zS, zA, Nat.reduceEqDiff, Nat.reduceLT, Nat.reduceLeDiff, Nat.reduceAdd, Nat.reduceSub, reduceCtorEq, wbb, wib, wlt, wgf, zD] <;> omega) | fail) only [zS, argl, insA, Go.Den.wm, wo, wu, looks, wfb, web, idOf, riA, Nat.reduceLeDiff, Nat.reduceLT, Nat.reduceEqDiff, Nat.reduceDiv, Nat.reduceMod, Int.reduceLT, Int.reduceLE, Int.reduceEq, Int.reduceNeg, Int.reduceToNat, Int.reduceSub, Int.reduceMul, Int.reduceNe, Nat.reduceAdd, Nat.reduceMul, Nat.reduceSub, Int.reduceAdd, reduceCtorEq, Go.Den.wh, kK, wpd, wbb, wib, ej70, *, zT]) | (with_reducible (first | apply z1 | apply z2 | apply z3 | apply z4) <;> intro hq <;> (try simp only [zH] at hq) <;> (try (exfalso; omega)))))
  | succ k ih =>
    intro a h0 hi
    have h := ih (a + 1) (by omega) (by omega)
    have hw := ev_Ways r hn s hs true a
    have hl := row_len (wez (r := r) (s := s) (bol := true) (a := a)) hs
    have h2 := first_in r s a (wrm r s true a) (by omega) _ 0 none (by rw [Nat.zero_add])
    unfold fiB at h2
    rw [List.drop_zero, show ((0 : Nat) : Int) = 0 from rfl, show bst none = St.zero from rfl, show (none : Option St).isSome = false from rfl] at h2
    rw [wqk]
    clear ih
    generalize wrm r s true a = l at hw hl h2 ⊢
    generalize wdq l none = b at h2 ⊢
    have hz : stC St.zero = [.int .i64 0, .int .i64 0, .int .i64 0, .int .i64 0, .int .i64 0, .int .i64 0, .int .i64 0, .int .i64 0, .int .i64 0] := rfl
    rw [hz] at h2
    cases b with
    | none =>
      rw [show bst none = St.zero from rfl, show (none : Option St).isSome = false from rfl, hz] at h2
      clear hz
      generalize wqk r s k (a + 1) = o at h ⊢
      cases o with
      | none =>
        rw [firO] at h ⊢
        refine ww wjg ?_
        unfold wog
        (repeat' (first | (simp -implicitDefEqProofs (maxSteps := 2000000) (disch := first | with_reducible assumption | omega | (simp only [zS, zA, Nat.reduceEqDiff, Nat.reduceLT, Nat.reduceLeDiff, Nat.reduceAdd, Nat.reduceSub, reduceCtorEq, wbb, wib, wlt, wgf, zD] <;> omega) | fail) only [zS, argl, insA, Go.Den.wm, wo, wu, looks, wfb, web, idOf, riA, Nat.reduceLeDiff, Nat.reduceLT, Nat.reduceEqDiff, Nat.reduceDiv, Nat.reduceMod, Int.reduceLT, Int.reduceLE, Int.reduceEq, Int.reduceNeg, Int.reduceToNat, Int.reduceSub, Int.reduceMul, Int.reduceNe, Nat.reduceAdd, Nat.reduceMul, Nat.reduceSub, Int.reduceAdd, reduceCtorEq, Go.Den.wh, kK, wpd, wqe, wbb, wib, ej70, *, zT]) | (with_reducible (first | apply z1 | apply z2 | apply z3 | apply z4) <;> intro hq <;> (try simp only [zH] at hq) <;> (try (exfalso; omega)))))
      | some m =>
        rw [firO] at h ⊢
        refine ww wjg ?_
        unfold wog
        (repeat' (first | (simp -implicitDefEqProofs (maxSteps := 2000000) (disch := first | with_reducible assumption | omega | (simp only [zS, zA, Nat.reduceEqDiff, Nat.reduceLT, Nat.reduceLeDiff, Nat.reduceAdd, Nat.reduceSub, reduceCtorEq, wbb, wib, wlt, wgf, zD] <;> omega) | fail) only [zS, argl, insA, Go.Den.wm, wo, wu, looks, wfb, web, idOf, riA, Nat.reduceLeDiff, Nat.reduceLT, Nat.reduceEqDiff, Nat.reduceDiv, Nat.reduceMod, Int.reduceLT, Int.reduceLE, Int.reduceEq, Int.reduceNeg, Int.reduceToNat, Int.reduceSub, Int.reduceMul, Int.reduceNe, Nat.reduceAdd, Nat.reduceMul, Nat.reduceSub, Int.reduceAdd, reduceCtorEq, Go.Den.wh, kK, wpd, wqe, wbb, wib, ej70, *, zT]) | (with_reducible (first | apply z1 | apply z2 | apply z3 | apply z4) <;> intro hq <;> (try simp only [zH] at hq) <;> (try (exfalso; omega)))))
    | some b =>
      rw [show bst (some b) = b from rfl, show (some b).isSome = true from rfl] at h2
      rw [firO]
      clear hz h
      refine ww wjg ?_
      unfold wog
      (repeat' (first | (simp -implicitDefEqProofs (maxSteps := 2000000) (disch := first | with_reducible assumption | omega | (simp only [zS, zA, Nat.reduceEqDiff, Nat.reduceLT, Nat.reduceLeDiff, Nat.reduceAdd, Nat.reduceSub, reduceCtorEq, wbb, wib, wlt, wgf, zD] <;> omega) | fail) only [zS, argl, insA, Go.Den.wm, wo, wu, looks, wfb, web, idOf, riA, Nat.reduceLeDiff, Nat.reduceLT, Nat.reduceEqDiff, Nat.reduceDiv, Nat.reduceMod, Int.reduceLT, Int.reduceLE, Int.reduceEq, Int.reduceNeg, Int.reduceToNat, Int.reduceSub, Int.reduceMul, Int.reduceNe, Nat.reduceAdd, Nat.reduceMul, Nat.reduceSub, Int.reduceAdd, reduceCtorEq, Go.Den.wh, kK, wpd, wqe, st_set12, wbb, wib, ej70, *, zT]) | (with_reducible (first | apply z1 | apply z2 | apply z3 | apply z4) <;> intro hq <;> (try simp only [zH] at hq) <;> (try (exfalso; omega)))))
def waj (r : Rx) (s : List UInt8) (a : Int) : Option Mt := if whl r = true ∧ 0 ≤ a ∧ a ≤ s.length then wqk r s (s.length + 1 - a).toNat a else none
theorem wfcb (r : Rx) (hn : wed r ≤ 1000000) (s : List UInt8) (hs : s.length ≤ 12) (a : Int) : lim Try.prog cfg (.call 28 [.agg ⟨rxC r⟩, str s, .int .i64 a]) (HP []) = some (.val (.tuple ⟨[.agg ⟨mtC ((waj r s a).getD wyi)⟩, .bool (waj r s a).isSome]⟩), HP []) := by
  have hr := wsmb r hn
  have h0 := wabc
  refine wjc hc wjt (Nat.le_of_ble_eq_true rfl) (Nat.le_of_ble_eq_true rfl) ?_
  unfold wrr waj
  cases hrv : whl r with
  | false =>
    rw [if_neg (by simp), Option.getD_none, Option.isSome_none]
    rw [hrv] at hr
    clear hrv
    (repeat' (first | (simp -implicitDefEqProofs (maxSteps := 2000000) (disch := first | with_reducible assumption | omega | (simp only [zS, zA, Nat.reduceEqDiff, Nat.reduceLT, Nat.reduceLeDiff, Nat.reduceAdd, Nat.reduceSub, reduceCtorEq, wgf, zD] <;> omega) | fail) only [zS, argl, insA, Go.Den.wm, wo, wu, looks, wfb, web, idOf, riA, Nat.reduceLeDiff, Nat.reduceLT, Nat.reduceEqDiff, Nat.reduceDiv, Nat.reduceMod, Int.reduceLT, Int.reduceLE, Int.reduceEq, Int.reduceNeg, Int.reduceToNat, Int.reduceSub, Int.reduceMul, Int.reduceNe, Nat.reduceAdd, Nat.reduceMul, Nat.reduceSub, Int.reduceAdd, reduceCtorEq, Go.Den.wh, kK, wpd, wmb, wrb, *, zT]) | (with_reducible (first | apply z1 | apply z2 | apply z3 | apply z4) <;> intro hq <;> (try simp only [zH] at hq) <;> (try (exfalso; omega)))))
  | true =>
    rw [hrv] at hr
    clear hrv
    by_cases h1 : 0 ≤ a
    · by_cases h2 : a ≤ s.length
      · rw [if_pos ⟨rfl, h1, h2⟩]
        have h := wwbc r hn s hs (s.length + 1 - a).toNat a h1 (by omega)
        generalize wqk r s (s.length + 1 - a).toNat a = o at h ⊢
        cases o with
        | none =>
          rw [firO] at h
          rw [Option.getD_none, Option.isSome_none]
          rw [show mtC Mt.zero = [.int .i64 0, .int .i64 0, .int .i64 0, .int .i64 0, .int .i64 0, .int .i64 0, .int .i64 0, .int .i64 0] from rfl] at h
          (repeat' (first | (simp -implicitDefEqProofs (maxSteps := 2000000) (disch := first | with_reducible assumption | omega | (simp only [zS, zA, Nat.reduceEqDiff, Nat.reduceLT, Nat.reduceLeDiff, Nat.reduceAdd, Nat.reduceSub, reduceCtorEq, wbb, wib, wgf, zD] <;> omega) | fail) only [zS, argl, insA, Go.Den.wm, wo, wu, looks, wfb, web, idOf, riA, Nat.reduceLeDiff, Nat.reduceLT, Nat.reduceEqDiff, Nat.reduceDiv, Nat.reduceMod, Int.reduceLT, Int.reduceLE, Int.reduceEq, Int.reduceNeg, Int.reduceToNat, Int.reduceSub, Int.reduceMul, Int.reduceNe, Nat.reduceAdd, Nat.reduceMul, Nat.reduceSub, Int.reduceAdd, reduceCtorEq, Go.Den.wh, kK, wpd, wmb, wrb, wbb, wib, ej70, *, zT]) | (with_reducible (first | apply z1 | apply z2 | apply z3 | apply z4) <;> intro hq <;> (try simp only [zH] at hq) <;> (try (exfalso; omega)))))
        | some m =>
          rw [firO] at h
          rw [Option.getD_some, Option.isSome_some]
          rw [show mtC Mt.zero = [.int .i64 0, .int .i64 0, .int .i64 0, .int .i64 0, .int .i64 0, .int .i64 0, .int .i64 0, .int .i64 0] from rfl] at h
          clear h0
          (repeat' (first | (simp -implicitDefEqProofs (maxSteps := 2000000) (disch := first | with_reducible assumption | omega | (simp only [zS, zA, Nat.reduceEqDiff, Nat.reduceLT, Nat.reduceLeDiff, Nat.reduceAdd, Nat.reduceSub, reduceCtorEq, wbb, wib, wgf, zD] <;> omega) | fail) only [zS, argl, insA, Go.Den.wm, wo, wu, looks, wfb, web, idOf, riA, Nat.reduceLeDiff, Nat.reduceLT, Nat.reduceEqDiff, Nat.reduceDiv, Nat.reduceMod, Int.reduceLT, Int.reduceLE, Int.reduceEq, Int.reduceNeg, Int.reduceToNat, Int.reduceSub, Int.reduceMul, Int.reduceNe, Nat.reduceAdd, Nat.reduceMul, Nat.reduceSub, Int.reduceAdd, reduceCtorEq, Go.Den.wh, kK, wpd, wmb, wrb, wbb, wib, ej70, *, zT]) | (with_reducible (first | apply z1 | apply z2 | apply z3 | apply z4) <;> intro hq <;> (try simp only [zH] at hq) <;> (try (exfalso; omega)))))
      · rw [if_neg (fun h => h2 h.2.2), Option.getD_none, Option.isSome_none]
        (repeat' (first | (simp -implicitDefEqProofs (maxSteps := 2000000) (disch := first | with_reducible assumption | omega | (simp only [zS, zA, Nat.reduceEqDiff, Nat.reduceLT, Nat.reduceLeDiff, Nat.reduceAdd, Nat.reduceSub, reduceCtorEq, wgf, zD] <;> omega) | fail) only [zS, argl, insA, Go.Den.wm, wo, wu, looks, wfb, web, idOf, riA, Nat.reduceLeDiff, Nat.reduceLT, Nat.reduceEqDiff, Nat.reduceDiv, Nat.reduceMod, Int.reduceLT, Int.reduceLE, Int.reduceEq, Int.reduceNeg, Int.reduceToNat, Int.reduceSub, Int.reduceMul, Int.reduceNe, Nat.reduceAdd, Nat.reduceMul, Nat.reduceSub, Int.reduceAdd, reduceCtorEq, Go.Den.wh, kK, wpd, wmb, wrb, *, zT]) | (with_reducible (first | apply z1 | apply z2 | apply z3 | apply z4) <;> intro hq <;> (try simp only [zH] at hq) <;> (try (exfalso; omega)))))
    · rw [if_neg (fun h => h1 h.2.1), Option.getD_none, Option.isSome_none]
      (repeat' (first | (simp -implicitDefEqProofs (maxSteps := 2000000) (disch := first | with_reducible assumption | omega | (simp only [zS, zA, Nat.reduceEqDiff, Nat.reduceLT, Nat.reduceLeDiff, Nat.reduceAdd, Nat.reduceSub, reduceCtorEq, wgf, zD] <;> omega) | fail) only [zS, argl, insA, Go.Den.wm, wo, wu, looks, wfb, web, idOf, riA, Nat.reduceLeDiff, Nat.reduceLT, Nat.reduceEqDiff, Nat.reduceDiv, Nat.reduceMod, Int.reduceLT, Int.reduceLE, Int.reduceEq, Int.reduceNeg, Int.reduceToNat, Int.reduceSub, Int.reduceMul, Int.reduceNe, Nat.reduceAdd, Nat.reduceMul, Nat.reduceSub, Int.reduceAdd, reduceCtorEq, Go.Den.wh, kK, wpd, wmb, wrb, *, zT]) | (with_reducible (first | apply z1 | apply z2 | apply z3 | apply z4) <;> intro hq <;> (try simp only [zH] at hq) <;> (try (exfalso; omega)))))
end
end Go.Proofs.Ytdbhfmdndiphcaa
