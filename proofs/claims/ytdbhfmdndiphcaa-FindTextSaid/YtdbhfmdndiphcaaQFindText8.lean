/-
  PARTS OF A PROOF, joined by a program (8 of 8): a proved reckoner of the model, and what the functions come to.
-/
import Derived.Test.YtdbhfmdndiphcaaQFindText7
import Derived.ChangeSame
import Derived.WideKeyArgs
import Derived.OpenShut
import Derived.WideKeyPair
import Derived.ChangeSlices
set_option linter.unusedVariables false
set_option linter.unusedSimpArgs false
namespace Go.Proofs.Ytdbhfmdndiphcaa
set_option linter.unusedVariables false
set_option linter.unusedSimpArgs false
open Go.Den
noncomputable section
theorem best_mem : ∀ (l : List St) (b : Option St) (x : St), wdq l b = some x → x ∈ l ∨ b = some x := by
  intro l
  induction l with
  | nil => intro b x h; exact .inr h
  | cons y l ih =>
    intro b x h
    cases b with
    | none =>
      rw [wdq] at h
      rcases ih _ _ h with h | h
      · exact .inl (List.mem_cons_of_mem _ h)
      · cases h; exact .inl (List.mem_cons_self ..)
    | some b =>
      rw [wdq] at h
      rcases ih _ _ h with h | h
      · exact .inl (List.mem_cons_of_mem _ h)
      · split at h
        · cases h; exact .inl (List.mem_cons_self ..)
        · exact .inr h
theorem wnkb {r : Rx} {s : List UInt8} {m : Mt} : ∀ (k : Nat) (a : Int), wqk r s k a = some m → ∃ b : St, ∃ a2 : Int, a ≤ a2 ∧ a2 < a + k ∧ wdq (wrm r s true a2) none = some b ∧ m = (b.2.put 0 a2).put 1 b.1 := by
  intro k
  induction k with
  | zero => intro a h; cases h
  | succ k ih =>
    intro a h
    rw [wqk] at h
    cases hb : wdq (wrm r s true a) none with
    | some b =>
      rw [hb] at h
      cases h
      exact ⟨b, a, Int.le_refl _, by omega, hb, rfl⟩
    | none =>
      rw [hb] at h
      obtain ⟨b, a2, h1, h2, h3, h4⟩ := ih (a + 1) h
      exact ⟨b, a2, by omega, by omega, h3, h4⟩
theorem mt_at0 {m : Mt} {x y : Int} : ((m.put 0 x).put 1 y).at 0 = x := by rw [Mt.at_put, if_neg (by omega), Mt.at_put, if_pos ⟨rfl, by omega⟩]
theorem mt_at1 {m : Mt} {x y : Int} : ((m.put 0 x).put 1 y).at 1 = y := by rw [Mt.at_put, if_pos ⟨rfl, by omega⟩]
theorem wagb {r : Rx} {s : List UInt8} {a : Int} {m : Mt} (h : waj r s a = some m) : 0 ≤ a ∧ a ≤ m.at 0 ∧ m.at 0 ≤ m.at 1 ∧ m.at 1 ≤ s.length := by
  unfold waj at h
  split at h
  · rename_i hq
    obtain ⟨b, a2, h1, h2, h3, h4⟩ := wnkb _ _ h
    subst h4
    rw [mt_at0, mt_at1]
    rcases best_mem _ _ _ h3 with hb | hb
    · have := (wez (r := r) (s := s) (bol := true) (a := a2)).good b hb
      exact ⟨hq.2.1, h1, this.2, this.1.hi⟩
    · cases hb
  · cases h
theorem wokb (r : Rx) (hn : wed r ≤ 1000000) (s : List UInt8) (hs : s.length ≤ 12) : lim Try.prog cfg (.call 36 [.agg ⟨rxC r⟩, str s]) (HP []) = some (.val (.bool (waj r s 0).isSome), HP []) := by
  have h := wfcb r hn s hs 0
  generalize (waj r s 0).getD wyi = m at h
  generalize (waj r s 0).isSome = b at h ⊢
  refine wjc hc wjx (Nat.le_of_ble_eq_true rfl) (Nat.le_of_ble_eq_true rfl) ?_
  unfold waw
  (repeat' (first | (simp -implicitDefEqProofs (maxSteps := 2000000) (disch := first | with_reducible assumption | omega | (simp only [zS, zA, Nat.reduceEqDiff, Nat.reduceLT, Nat.reduceLeDiff, Nat.reduceAdd, Nat.reduceSub, reduceCtorEq, zD] <;> omega) | fail) only [zS, argl, insA, Go.Den.wm, wo, wu, looks, wfb, web, idOf, riA, Nat.reduceLeDiff, Nat.reduceLT, Nat.reduceEqDiff, Nat.reduceDiv, Nat.reduceMod, Int.reduceLT, Int.reduceLE, Int.reduceEq, Int.reduceNeg, Int.reduceToNat, Int.reduceSub, Int.reduceMul, Int.reduceNe, Nat.reduceAdd, Nat.reduceMul, Nat.reduceSub, Int.reduceAdd, reduceCtorEq, Go.Den.wh, kK, *, zT]) | (with_reducible (first | apply z1 | apply z2 | apply z3 | apply z4) <;> intro hq <;> (try simp only [zH] at hq) <;> (try (exfalso; omega)))))
def alF (r : Rx) (s : List UInt8) : Nat → Int → Int → List Mt → Bool × List Mt
  | 0, _, _, out => (true, out)
  | k + 1, a, last, out => if a ≤ s.length then (match waj r s a with
    | none => (false, out)
    | some m => if m.at 0 = m.at 1 then (if m.at 1 = last then alF r s k (m.at 1 + 1) last out else alF r s k (m.at 1 + 1) (m.at 1) (out ++ [m])) else alF r s k (m.at 1) (m.at 1) (out ++ [m])) else (true, out)
def alV (l : List Mt) : Value := if l = [] then .slice none 0 0 else FO 0 l.length (mtsC l)
def alH (l : List Mt) : List ABlk := if l = [] then [] else [.tok l.length 55 8]
def alO (p : Bool × List Mt) : Option (Out × AH) := if p.1 = true then some (.code (.exit 0) (SE (EJ 47 G0) [(5, alV p.2), (4, JK)]), HP (alH p.2)) else some (.code .ret (SE (EJ 47 G0) [(5, alV p.2), (4, alV p.2)]), HP (alH p.2))
theorem ej47 : (EJ 47 G0).get 4 = JK := rfl
theorem wbgb {r : Rx} {s : List UInt8} : ∀ (k : Nat) (a last : Int) (out : List Mt), out ≠ [] → (alF r s k a last out).2 ≠ [] := by
  intro k
  induction k with
  | zero => intro a l out h; exact h
  | succ k ih =>
    intro a l out h
    rw [alF]
    split
    · split
      · exact h
      · split
        · split
          · exact ih _ _ _ h
          · exact ih _ _ _ (by simp)
        · exact ih _ _ _ (by simp)
    · exact h
theorem wmp {p : Bool × List Mt} (h : p.2 ≠ []) : alO p = some (.code (if p.1 = true then .exit 0 else .ret) (SE (EJ 47 G0) [(5, FO 0 p.2.length (mtsC p.2)), (4, if p.1 = true then JK else FO 0 p.2.length (mtsC p.2))]), HP [.tok p.2.length 55 8]) := by
  unfold alO alV alH
  rw [if_neg h, if_neg h]
  split <;> rfl
theorem wumb {l : List Mt} {m : Mt} : mtsC (l ++ [m]) = mtsC l ++ mtC m := by rw [wdkb, mts_app]
set_option maxHeartbeats 4000000 in
theorem wcgb (r : Rx) (hn : wed r ≤ 1000000) (s : List UInt8) (hs : s.length ≤ 12) : ∀ (k : Nat) (a last : Int) (out : List Mt), 0 ≤ a → a ≤ s.length + 1 → s.length + 1 ≤ a + k → out ≠ [] → (out.length : Int) ≤ a →
    lim Try.prog cfg (.loop 27 0 (wak 0) (SE (EJ 47 G0) [(7, .int .i64 a), (6, .int .i64 last), (5, FO 1 out.length (mtsC out)), (2, .pointer (some ⟨0, 0, none⟩)), (1, str s)])) (HP [X (rxC r) 47 0 true, .tok out.length 55 8]) = alO (alF r s k a last out) := by
  intro k
  induction k with
  | zero =>
    intro a last out h0 h1 h2 ho hl
    rw [alF, wmp ho, if_pos rfl, if_pos rfl]
    refine ww wtb ?_
    unfold wec
    (repeat' (first | (simp -implicitDefEqProofs (maxSteps := 2000000) (disch := first | with_reducible assumption | omega | (simp only [zS, zA, Nat.reduceEqDiff, Nat.reduceLT, Nat.reduceLeDiff, Nat.reduceAdd, Nat.reduceSub, reduceCtorEq, wbb, wib, zD] <;> omega) | fail) only [zS, argl, insA, Go.Den.wm, wo, wu, looks, wfb, web, idOf, riA, Nat.reduceLeDiff, Nat.reduceLT, Nat.reduceEqDiff, Nat.reduceDiv, Nat.reduceMod, Int.reduceLT, Int.reduceLE, Int.reduceEq, Int.reduceNeg, Int.reduceToNat, Int.reduceSub, Int.reduceMul, Int.reduceNe, Nat.reduceAdd, Nat.reduceMul, Nat.reduceSub, Int.reduceAdd, reduceCtorEq, Go.Den.wh, kK, wxb, wbb, wib, ej47, *, zT]) | (with_reducible (first | apply z1 | apply z2 | apply z3 | apply z4) <;> intro hq <;> (try simp only [zH] at hq) <;> (try (exfalso; omega)))))
  | succ k ih =>
    intro a last out h0 h1 h2 ho hl
    rw [alF]
    by_cases ha : a ≤ s.length
    · rw [if_pos ha]
      have hf := wfcb r hn s hs a
      cases hm : waj r s a with
      | none =>
        rw [hm, Option.getD_none, Option.isSome_none] at hf
        show _ = alO (false, out)
        rw [wmp ho, if_neg (by simp), if_neg (by simp)]
        clear ih hm
        refine ww wtb ?_
        unfold wec
        (repeat' (first | (simp -implicitDefEqProofs (maxSteps := 2000000) (disch := first | with_reducible assumption | omega | (simp only [zS, zA, Nat.reduceEqDiff, Nat.reduceLT, Nat.reduceLeDiff, Nat.reduceAdd, Nat.reduceSub, reduceCtorEq, wbb, wib, zD] <;> omega) | fail) only [zS, argl, insA, Go.Den.wm, wo, wu, looks, wfb, web, idOf, riA, Nat.reduceLeDiff, Nat.reduceLT, Nat.reduceEqDiff, Nat.reduceDiv, Nat.reduceMod, Int.reduceLT, Int.reduceLE, Int.reduceEq, Int.reduceNeg, Int.reduceToNat, Int.reduceSub, Int.reduceMul, Int.reduceNe, Nat.reduceAdd, Nat.reduceMul, Nat.reduceSub, Int.reduceAdd, reduceCtorEq, Go.Den.wh, kK, wxb, wbb, wib, ej47, *, zT]) | (with_reducible (first | apply z1 | apply z2 | apply z3 | apply z4) <;> intro hq <;> (try simp only [zH] at hq) <;> (try (exfalso; omega)))))
      | some m =>
        rw [hm, Option.getD_some, Option.isSome_some] at hf
        have hr := wagb hm
        clear hm
        show _ = alO (if m.at 0 = m.at 1 then (if m.at 1 = last then alF r s k (m.at 1 + 1) last out else alF r s k (m.at 1 + 1) (m.at 1) (out ++ [m])) else alF r s k (m.at 1) (m.at 1) (out ++ [m]))
        by_cases hq : m.at 0 = m.at 1
        · rw [if_pos hq]
          by_cases hl2 : m.at 1 = last
          · rw [if_pos hl2]
            have h := ih (m.at 1 + 1) last out (by omega) (by omega) (by omega) ho (by omega)
            have hne := wbgb (r := r) (s := s) k (m.at 1 + 1) last out ho
            generalize alF r s k (m.at 1 + 1) last out = p at h hne ⊢
            obtain ⟨b, l⟩ := p
            rw [wmp hne] at h ⊢
            rw [hl2] at h
            clear ih
            cases b with
            | true =>
              rw [if_pos rfl, if_pos rfl] at h ⊢
              refine ww wtb ?_
              unfold wec
              (repeat' (first | (simp -implicitDefEqProofs (maxSteps := 2000000) (disch := first | with_reducible assumption | omega | (simp only [zS, zA, Nat.reduceEqDiff, Nat.reduceLT, Nat.reduceLeDiff, Nat.reduceAdd, Nat.reduceSub, reduceCtorEq, wbb, wib, wse, wgf, zD] <;> omega) | fail) only [zS, argl, insA, Go.Den.wm, wo, wu, looks, wfb, web, idOf, riA, Nat.reduceLeDiff, Nat.reduceLT, Nat.reduceEqDiff, Nat.reduceDiv, Nat.reduceMod, Int.reduceLT, Int.reduceLE, Int.reduceEq, Int.reduceNeg, Int.reduceToNat, Int.reduceSub, Int.reduceMul, Int.reduceNe, Nat.reduceAdd, Nat.reduceMul, Nat.reduceSub, Int.reduceAdd, reduceCtorEq, Go.Den.wh, kK, wxb, wbb, wib, ej47, *, zT]) | (with_reducible (first | apply z1 | apply z2 | apply z3 | apply z4) <;> intro hq <;> (try simp only [zH] at hq) <;> (try (exfalso; omega)))))
            | false =>
              rw [if_neg (by simp), if_neg (by simp)] at h ⊢
              refine ww wtb ?_
              unfold wec
              (repeat' (first | (simp -implicitDefEqProofs (maxSteps := 2000000) (disch := first | with_reducible assumption | omega | (simp only [zS, zA, Nat.reduceEqDiff, Nat.reduceLT, Nat.reduceLeDiff, Nat.reduceAdd, Nat.reduceSub, reduceCtorEq, wbb, wib, wse, wgf, zD] <;> omega) | fail) only [zS, argl, insA, Go.Den.wm, wo, wu, looks, wfb, web, idOf, riA, Nat.reduceLeDiff, Nat.reduceLT, Nat.reduceEqDiff, Nat.reduceDiv, Nat.reduceMod, Int.reduceLT, Int.reduceLE, Int.reduceEq, Int.reduceNeg, Int.reduceToNat, Int.reduceSub, Int.reduceMul, Int.reduceNe, Nat.reduceAdd, Nat.reduceMul, Nat.reduceSub, Int.reduceAdd, reduceCtorEq, Go.Den.wh, kK, wxb, wbb, wib, ej47, *, zT]) | (with_reducible (first | apply z1 | apply z2 | apply z3 | apply z4) <;> intro hq <;> (try simp only [zH] at hq) <;> (try (exfalso; omega)))))
          · rw [if_neg hl2]
            have h := ih (m.at 1 + 1) (m.at 1) (out ++ [m]) (by omega) (by omega) (by omega) (by simp) (by simp; omega)
            have hne := wbgb (r := r) (s := s) k (m.at 1 + 1) (m.at 1) (out ++ [m]) (by simp)
            generalize alF r s k (m.at 1 + 1) (m.at 1) (out ++ [m]) = p at h hne ⊢
            obtain ⟨b, l⟩ := p
            rw [wmp hne] at h ⊢
            clear ih
            rw [show (out ++ [m]).length = out.length + 1 by simp, wumb] at h
            cases b with
            | true =>
              rw [if_pos rfl, if_pos rfl] at h ⊢
              refine ww wtb ?_
              unfold wec
              (repeat' (first | (simp -implicitDefEqProofs (maxSteps := 2000000) (disch := first | with_reducible assumption | omega | (simp only [zS, zA, Nat.reduceEqDiff, Nat.reduceLT, Nat.reduceLeDiff, Nat.reduceAdd, Nat.reduceSub, reduceCtorEq, wbb, wib, wse, wgf, zD] <;> omega) | fail) only [zS, argl, insA, Go.Den.wm, wo, wu, looks, wfb, web, idOf, riA, Nat.reduceLeDiff, Nat.reduceLT, Nat.reduceEqDiff, Nat.reduceDiv, Nat.reduceMod, Int.reduceLT, Int.reduceLE, Int.reduceEq, Int.reduceNeg, Int.reduceToNat, Int.reduceSub, Int.reduceMul, Int.reduceNe, Nat.reduceAdd, Nat.reduceMul, Nat.reduceSub, Int.reduceAdd, reduceCtorEq, Go.Den.wh, kK, wxb, wbb, wib, ej47, *, zT]) | (with_reducible (first | apply z1 | apply z2 | apply z3 | apply z4) <;> intro hq <;> (try simp only [zH] at hq) <;> (try (exfalso; omega)))))
            | false =>
              rw [if_neg (by simp), if_neg (by simp)] at h ⊢
              refine ww wtb ?_
              unfold wec
              (repeat' (first | (simp -implicitDefEqProofs (maxSteps := 2000000) (disch := first | with_reducible assumption | omega | (simp only [zS, zA, Nat.reduceEqDiff, Nat.reduceLT, Nat.reduceLeDiff, Nat.reduceAdd, Nat.reduceSub, reduceCtorEq, wbb, wib, wse, wgf, zD] <;> omega) | fail) only [zS, argl, insA, Go.Den.wm, wo, wu, looks, wfb, web, idOf, riA, Nat.reduceLeDiff, Nat.reduceLT, Nat.reduceEqDiff, Nat.reduceDiv, Nat.reduceMod, Int.reduceLT, Int.reduceLE, Int.reduceEq, Int.reduceNeg, Int.reduceToNat, Int.reduceSub, Int.reduceMul, Int.reduceNe, Nat.reduceAdd, Nat.reduceMul, Nat.reduceSub, Int.reduceAdd, reduceCtorEq, Go.Den.wh, kK, wxb, wbb, wib, ej47, *, zT]) | (with_reducible (first | apply z1 | apply z2 | apply z3 | apply z4) <;> intro hq <;> (try simp only [zH] at hq) <;> (try (exfalso; omega)))))
        · rw [if_neg hq]
          have h := ih (m.at 1) (m.at 1) (out ++ [m]) (by omega) (by omega) (by omega) (by simp) (by simp; omega)
          have hne := wbgb (r := r) (s := s) k (m.at 1) (m.at 1) (out ++ [m]) (by simp)
          generalize alF r s k (m.at 1) (m.at 1) (out ++ [m]) = p at h hne ⊢
          obtain ⟨b, l⟩ := p
          rw [wmp hne] at h ⊢
          clear ih
          rw [show (out ++ [m]).length = out.length + 1 by simp, wumb] at h
          cases b with
          | true =>
            rw [if_pos rfl, if_pos rfl] at h ⊢
            refine ww wtb ?_
            unfold wec
            (repeat' (first | (simp -implicitDefEqProofs (maxSteps := 2000000) (disch := first | with_reducible assumption | omega | (simp only [zS, zA, Nat.reduceEqDiff, Nat.reduceLT, Nat.reduceLeDiff, Nat.reduceAdd, Nat.reduceSub, reduceCtorEq, wbb, wib, wse, wgf, zD] <;> omega) | fail) only [zS, argl, insA, Go.Den.wm, wo, wu, looks, wfb, web, idOf, riA, Nat.reduceLeDiff, Nat.reduceLT, Nat.reduceEqDiff, Nat.reduceDiv, Nat.reduceMod, Int.reduceLT, Int.reduceLE, Int.reduceEq, Int.reduceNeg, Int.reduceToNat, Int.reduceSub, Int.reduceMul, Int.reduceNe, Nat.reduceAdd, Nat.reduceMul, Nat.reduceSub, Int.reduceAdd, reduceCtorEq, Go.Den.wh, kK, wxb, wbb, wib, ej47, *, zT]) | (with_reducible (first | apply z1 | apply z2 | apply z3 | apply z4) <;> intro hq <;> (try simp only [zH] at hq) <;> (try (exfalso; omega)))))
          | false =>
            rw [if_neg (by simp), if_neg (by simp)] at h ⊢
            refine ww wtb ?_
            unfold wec
            (repeat' (first | (simp -implicitDefEqProofs (maxSteps := 2000000) (disch := first | with_reducible assumption | omega | (simp only [zS, zA, Nat.reduceEqDiff, Nat.reduceLT, Nat.reduceLeDiff, Nat.reduceAdd, Nat.reduceSub, reduceCtorEq, wbb, wib, wse, wgf, zD] <;> omega) | fail) only [zS, argl, insA, Go.Den.wm, wo, wu, looks, wfb, web, idOf, riA, Nat.reduceLeDiff, Nat.reduceLT, Nat.reduceEqDiff, Nat.reduceDiv, Nat.reduceMod, Int.reduceLT, Int.reduceLE, Int.reduceEq, Int.reduceNeg, Int.reduceToNat, Int.reduceSub, Int.reduceMul, Int.reduceNe, Nat.reduceAdd, Nat.reduceMul, Nat.reduceSub, Int.reduceAdd, reduceCtorEq, Go.Den.wh, kK, wxb, wbb, wib, ej47, *, zT]) | (with_reducible (first | apply z1 | apply z2 | apply z3 | apply z4) <;> intro hq <;> (try simp only [zH] at hq) <;> (try (exfalso; omega)))))
    · rw [if_neg ha]
      show _ = alO (true, out)
      rw [wmp ho, if_pos rfl, if_pos rfl]
      clear ih
      refine ww wtb ?_
      unfold wec
      (repeat' (first | (simp -implicitDefEqProofs (maxSteps := 2000000) (disch := first | with_reducible assumption | omega | (simp only [zS, zA, Nat.reduceEqDiff, Nat.reduceLT, Nat.reduceLeDiff, Nat.reduceAdd, Nat.reduceSub, reduceCtorEq, wbb, wib, zD] <;> omega) | fail) only [zS, argl, insA, Go.Den.wm, wo, wu, looks, wfb, web, idOf, riA, Nat.reduceLeDiff, Nat.reduceLT, Nat.reduceEqDiff, Nat.reduceDiv, Nat.reduceMod, Int.reduceLT, Int.reduceLE, Int.reduceEq, Int.reduceNeg, Int.reduceToNat, Int.reduceSub, Int.reduceMul, Int.reduceNe, Nat.reduceAdd, Nat.reduceMul, Nat.reduceSub, Int.reduceAdd, reduceCtorEq, Go.Den.wh, kK, wxb, wbb, wib, ej47, *, zT]) | (with_reducible (first | apply z1 | apply z2 | apply z3 | apply z4) <;> intro hq <;> (try simp only [zH] at hq) <;> (try (exfalso; omega)))))
theorem wqw {b : Bool} : alO (b, []) = some (.code (if b = true then .exit 0 else .ret) (SE (EJ 47 G0) [(5, .slice none 0 0), (4, if b = true then JK else .slice none 0 0)]), HP []) := by
  unfold alO alV alH
  rw [if_pos rfl, if_pos rfl]
  cases b <;> rfl
set_option maxHeartbeats 4000000 in
theorem wxbc (r : Rx) (hn : wed r ≤ 1000000) (s : List UInt8) (hs : s.length ≤ 12) : ∀ (k : Nat) (a last : Int), 0 ≤ a → a ≤ s.length + 1 → s.length + 1 ≤ a + k →
    lim Try.prog cfg (.loop 27 0 (wak 0) (SE (EJ 47 G0) [(7, .int .i64 a), (6, .int .i64 last), (5, .slice none 0 0), (2, .pointer (some ⟨0, 0, none⟩)), (1, str s)])) (HP [X (rxC r) 47 0 true]) = alO (alF r s k a last []) := by
  intro k
  induction k with
  | zero =>
    intro a last h0 h1 h2
    rw [alF, wqw, if_pos rfl, if_pos rfl]
    refine ww wtb ?_
    unfold wec
    (repeat' (first | (simp -implicitDefEqProofs (maxSteps := 2000000) (disch := first | with_reducible assumption | omega | (simp only [zS, zA, Nat.reduceEqDiff, Nat.reduceLT, Nat.reduceLeDiff, Nat.reduceAdd, Nat.reduceSub, reduceCtorEq, wbb, wib, zD] <;> omega) | fail) only [zS, argl, insA, Go.Den.wm, wo, wu, looks, wfb, web, idOf, riA, Nat.reduceLeDiff, Nat.reduceLT, Nat.reduceEqDiff, Nat.reduceDiv, Nat.reduceMod, Int.reduceLT, Int.reduceLE, Int.reduceEq, Int.reduceNeg, Int.reduceToNat, Int.reduceSub, Int.reduceMul, Int.reduceNe, Nat.reduceAdd, Nat.reduceMul, Nat.reduceSub, Int.reduceAdd, reduceCtorEq, Go.Den.wh, kK, wxb, wbb, wib, ej47, *, zT]) | (with_reducible (first | apply z1 | apply z2 | apply z3 | apply z4) <;> intro hq <;> (try simp only [zH] at hq) <;> (try (exfalso; omega)))))
  | succ k ih =>
    intro a last h0 h1 h2
    rw [alF]
    by_cases ha : a ≤ s.length
    · rw [if_pos ha]
      have hf := wfcb r hn s hs a
      cases hm : waj r s a with
      | none =>
        rw [hm, Option.getD_none, Option.isSome_none] at hf
        show _ = alO (false, [])
        rw [wqw, if_neg (by simp), if_neg (by simp)]
        clear ih hm
        refine ww wtb ?_
        unfold wec
        (repeat' (first | (simp -implicitDefEqProofs (maxSteps := 2000000) (disch := first | with_reducible assumption | omega | (simp only [zS, zA, Nat.reduceEqDiff, Nat.reduceLT, Nat.reduceLeDiff, Nat.reduceAdd, Nat.reduceSub, reduceCtorEq, wbb, wib, zD] <;> omega) | fail) only [zS, argl, insA, Go.Den.wm, wo, wu, looks, wfb, web, idOf, riA, Nat.reduceLeDiff, Nat.reduceLT, Nat.reduceEqDiff, Nat.reduceDiv, Nat.reduceMod, Int.reduceLT, Int.reduceLE, Int.reduceEq, Int.reduceNeg, Int.reduceToNat, Int.reduceSub, Int.reduceMul, Int.reduceNe, Nat.reduceAdd, Nat.reduceMul, Nat.reduceSub, Int.reduceAdd, reduceCtorEq, Go.Den.wh, kK, wxb, wbb, wib, ej47, *, zT]) | (with_reducible (first | apply z1 | apply z2 | apply z3 | apply z4) <;> intro hq <;> (try simp only [zH] at hq) <;> (try (exfalso; omega)))))
      | some m =>
        rw [hm, Option.getD_some, Option.isSome_some] at hf
        have hr := wagb hm
        clear hm
        show _ = alO (if m.at 0 = m.at 1 then (if m.at 1 = last then alF r s k (m.at 1 + 1) last [] else alF r s k (m.at 1 + 1) (m.at 1) ([] ++ [m])) else alF r s k (m.at 1) (m.at 1) ([] ++ [m]))
        rw [List.nil_append]
        by_cases hq : m.at 0 = m.at 1
        · rw [if_pos hq]
          by_cases hl2 : m.at 1 = last
          · rw [if_pos hl2]
            have h := ih (m.at 1 + 1) last (by omega) (by omega) (by omega)
            generalize alF r s k (m.at 1 + 1) last [] = p at h ⊢
            obtain ⟨b, l⟩ := p
            rw [hl2] at h
            clear ih
            by_cases hne : l = []
            · subst hne
              rw [wqw] at h ⊢
              cases b with
              | true =>
                rw [if_pos rfl, if_pos rfl] at h ⊢
                refine ww wtb ?_
                unfold wec
                (repeat' (first | (simp -implicitDefEqProofs (maxSteps := 2000000) (disch := first | with_reducible assumption | omega | (simp only [zS, zA, Nat.reduceEqDiff, Nat.reduceLT, Nat.reduceLeDiff, Nat.reduceAdd, Nat.reduceSub, reduceCtorEq, wbb, wib, wse, wgf, zD] <;> omega) | fail) only [zS, argl, insA, Go.Den.wm, wo, wu, looks, wfb, web, idOf, riA, Nat.reduceLeDiff, Nat.reduceLT, Nat.reduceEqDiff, Nat.reduceDiv, Nat.reduceMod, Int.reduceLT, Int.reduceLE, Int.reduceEq, Int.reduceNeg, Int.reduceToNat, Int.reduceSub, Int.reduceMul, Int.reduceNe, Nat.reduceAdd, Nat.reduceMul, Nat.reduceSub, Int.reduceAdd, reduceCtorEq, Go.Den.wh, kK, wxb, wbb, wib, ej47, *, zT]) | (with_reducible (first | apply z1 | apply z2 | apply z3 | apply z4) <;> intro hq <;> (try simp only [zH] at hq) <;> (try (exfalso; omega)))))
              | false =>
                rw [if_neg (by simp), if_neg (by simp)] at h ⊢
                refine ww wtb ?_
                unfold wec
                (repeat' (first | (simp -implicitDefEqProofs (maxSteps := 2000000) (disch := first | with_reducible assumption | omega | (simp only [zS, zA, Nat.reduceEqDiff, Nat.reduceLT, Nat.reduceLeDiff, Nat.reduceAdd, Nat.reduceSub, reduceCtorEq, wbb, wib, wse, wgf, zD] <;> omega) | fail) only [zS, argl, insA, Go.Den.wm, wo, wu, looks, wfb, web, idOf, riA, Nat.reduceLeDiff, Nat.reduceLT, Nat.reduceEqDiff, Nat.reduceDiv, Nat.reduceMod, Int.reduceLT, Int.reduceLE, Int.reduceEq, Int.reduceNeg, Int.reduceToNat, Int.reduceSub, Int.reduceMul, Int.reduceNe, Nat.reduceAdd, Nat.reduceMul, Nat.reduceSub, Int.reduceAdd, reduceCtorEq, Go.Den.wh, kK, wxb, wbb, wib, ej47, *, zT]) | (with_reducible (first | apply z1 | apply z2 | apply z3 | apply z4) <;> intro hq <;> (try simp only [zH] at hq) <;> (try (exfalso; omega)))))
            · rw [wmp hne] at h ⊢
              cases b with
              | true =>
                rw [if_pos rfl, if_pos rfl] at h ⊢
                refine ww wtb ?_
                unfold wec
                (repeat' (first | (simp -implicitDefEqProofs (maxSteps := 2000000) (disch := first | with_reducible assumption | omega | (simp only [zS, zA, Nat.reduceEqDiff, Nat.reduceLT, Nat.reduceLeDiff, Nat.reduceAdd, Nat.reduceSub, reduceCtorEq, wbb, wib, wse, wgf, zD] <;> omega) | fail) only [zS, argl, insA, Go.Den.wm, wo, wu, looks, wfb, web, idOf, riA, Nat.reduceLeDiff, Nat.reduceLT, Nat.reduceEqDiff, Nat.reduceDiv, Nat.reduceMod, Int.reduceLT, Int.reduceLE, Int.reduceEq, Int.reduceNeg, Int.reduceToNat, Int.reduceSub, Int.reduceMul, Int.reduceNe, Nat.reduceAdd, Nat.reduceMul, Nat.reduceSub, Int.reduceAdd, reduceCtorEq, Go.Den.wh, kK, wxb, wbb, wib, ej47, *, zT]) | (with_reducible (first | apply z1 | apply z2 | apply z3 | apply z4) <;> intro hq <;> (try simp only [zH] at hq) <;> (try (exfalso; omega)))))
              | false =>
                rw [if_neg (by simp), if_neg (by simp)] at h ⊢
                refine ww wtb ?_
                unfold wec
                (repeat' (first | (simp -implicitDefEqProofs (maxSteps := 2000000) (disch := first | with_reducible assumption | omega | (simp only [zS, zA, Nat.reduceEqDiff, Nat.reduceLT, Nat.reduceLeDiff, Nat.reduceAdd, Nat.reduceSub, reduceCtorEq, wbb, wib, wse, wgf, zD] <;> omega) | fail) only [zS, argl, insA, Go.Den.wm, wo, wu, looks, wfb, web, idOf, riA, Nat.reduceLeDiff, Nat.reduceLT, Nat.reduceEqDiff, Nat.reduceDiv, Nat.reduceMod, Int.reduceLT, Int.reduceLE, Int.reduceEq, Int.reduceNeg, Int.reduceToNat, Int.reduceSub, Int.reduceMul, Int.reduceNe, Nat.reduceAdd, Nat.reduceMul, Nat.reduceSub, Int.reduceAdd, reduceCtorEq, Go.Den.wh, kK, wxb, wbb, wib, ej47, *, zT]) | (with_reducible (first | apply z1 | apply z2 | apply z3 | apply z4) <;> intro hq <;> (try simp only [zH] at hq) <;> (try (exfalso; omega)))))
          · rw [if_neg hl2]
            have h := wcgb r hn s hs k (m.at 1 + 1) (m.at 1) [m] (by omega) (by omega) (by omega) (by simp) (by simp; omega)
            have hne := wbgb (r := r) (s := s) k (m.at 1 + 1) (m.at 1) [m] (List.cons_ne_nil m [])
            generalize alF r s k (m.at 1 + 1) (m.at 1) [m] = p at h hne ⊢
            obtain ⟨b, l⟩ := p
            rw [wmp hne] at h ⊢
            clear ih
            rw [show [m].length = 1 from rfl, ← wdkb] at h
            cases b with
            | true =>
              rw [if_pos rfl, if_pos rfl] at h ⊢
              refine ww wtb ?_
              unfold wec
              (repeat' (first | (simp -implicitDefEqProofs (maxSteps := 2000000) (disch := first | with_reducible assumption | omega | (simp only [zS, zA, Nat.reduceEqDiff, Nat.reduceLT, Nat.reduceLeDiff, Nat.reduceAdd, Nat.reduceSub, reduceCtorEq, wbb, wib, wse, wgf, zD] <;> omega) | fail) only [zS, argl, insA, Go.Den.wm, wo, wu, looks, wfb, web, idOf, riA, Nat.reduceLeDiff, Nat.reduceLT, Nat.reduceEqDiff, Nat.reduceDiv, Nat.reduceMod, Int.reduceLT, Int.reduceLE, Int.reduceEq, Int.reduceNeg, Int.reduceToNat, Int.reduceSub, Int.reduceMul, Int.reduceNe, Nat.reduceAdd, Nat.reduceMul, Nat.reduceSub, Int.reduceAdd, reduceCtorEq, Go.Den.wh, kK, wxb, wbb, wib, ej47, *, zT]) | (with_reducible (first | apply z1 | apply z2 | apply z3 | apply z4) <;> intro hq <;> (try simp only [zH] at hq) <;> (try (exfalso; omega)))))
            | false =>
              rw [if_neg (by simp), if_neg (by simp)] at h ⊢
              refine ww wtb ?_
              unfold wec
              (repeat' (first | (simp -implicitDefEqProofs (maxSteps := 2000000) (disch := first | with_reducible assumption | omega | (simp only [zS, zA, Nat.reduceEqDiff, Nat.reduceLT, Nat.reduceLeDiff, Nat.reduceAdd, Nat.reduceSub, reduceCtorEq, wbb, wib, wse, wgf, zD] <;> omega) | fail) only [zS, argl, insA, Go.Den.wm, wo, wu, looks, wfb, web, idOf, riA, Nat.reduceLeDiff, Nat.reduceLT, Nat.reduceEqDiff, Nat.reduceDiv, Nat.reduceMod, Int.reduceLT, Int.reduceLE, Int.reduceEq, Int.reduceNeg, Int.reduceToNat, Int.reduceSub, Int.reduceMul, Int.reduceNe, Nat.reduceAdd, Nat.reduceMul, Nat.reduceSub, Int.reduceAdd, reduceCtorEq, Go.Den.wh, kK, wxb, wbb, wib, ej47, *, zT]) | (with_reducible (first | apply z1 | apply z2 | apply z3 | apply z4) <;> intro hq <;> (try simp only [zH] at hq) <;> (try (exfalso; omega)))))
        · rw [if_neg hq]
          have h := wcgb r hn s hs k (m.at 1) (m.at 1) [m] (by omega) (by omega) (by omega) (by simp) (by simp; omega)
          have hne := wbgb (r := r) (s := s) k (m.at 1) (m.at 1) [m] (List.cons_ne_nil m [])
          generalize alF r s k (m.at 1) (m.at 1) [m] = p at h hne ⊢
          obtain ⟨b, l⟩ := p
          rw [wmp hne] at h ⊢
          clear ih
          rw [show [m].length = 1 from rfl, ← wdkb] at h
          cases b with
          | true =>
            rw [if_pos rfl, if_pos rfl] at h ⊢
            refine ww wtb ?_
            unfold wec
            (repeat' (first | (simp -implicitDefEqProofs (maxSteps := 2000000) (disch := first | with_reducible assumption | omega | (simp only [zS, zA, Nat.reduceEqDiff, Nat.reduceLT, Nat.reduceLeDiff, Nat.reduceAdd, Nat.reduceSub, reduceCtorEq, wbb, wib, wse, wgf, zD] <;> omega) | fail) only [zS, argl, insA, Go.Den.wm, wo, wu, looks, wfb, web, idOf, riA, Nat.reduceLeDiff, Nat.reduceLT, Nat.reduceEqDiff, Nat.reduceDiv, Nat.reduceMod, Int.reduceLT, Int.reduceLE, Int.reduceEq, Int.reduceNeg, Int.reduceToNat, Int.reduceSub, Int.reduceMul, Int.reduceNe, Nat.reduceAdd, Nat.reduceMul, Nat.reduceSub, Int.reduceAdd, reduceCtorEq, Go.Den.wh, kK, wxb, wbb, wib, ej47, *, zT]) | (with_reducible (first | apply z1 | apply z2 | apply z3 | apply z4) <;> intro hq <;> (try simp only [zH] at hq) <;> (try (exfalso; omega)))))
          | false =>
            rw [if_neg (by simp), if_neg (by simp)] at h ⊢
            refine ww wtb ?_
            unfold wec
            (repeat' (first | (simp -implicitDefEqProofs (maxSteps := 2000000) (disch := first | with_reducible assumption | omega | (simp only [zS, zA, Nat.reduceEqDiff, Nat.reduceLT, Nat.reduceLeDiff, Nat.reduceAdd, Nat.reduceSub, reduceCtorEq, wbb, wib, wse, wgf, zD] <;> omega) | fail) only [zS, argl, insA, Go.Den.wm, wo, wu, looks, wfb, web, idOf, riA, Nat.reduceLeDiff, Nat.reduceLT, Nat.reduceEqDiff, Nat.reduceDiv, Nat.reduceMod, Int.reduceLT, Int.reduceLE, Int.reduceEq, Int.reduceNeg, Int.reduceToNat, Int.reduceSub, Int.reduceMul, Int.reduceNe, Nat.reduceAdd, Nat.reduceMul, Nat.reduceSub, Int.reduceAdd, reduceCtorEq, Go.Den.wh, kK, wxb, wbb, wib, ej47, *, zT]) | (with_reducible (first | apply z1 | apply z2 | apply z3 | apply z4) <;> intro hq <;> (try simp only [zH] at hq) <;> (try (exfalso; omega)))))
    · rw [if_neg ha]
      show _ = alO (true, [])
      rw [wqw, if_pos rfl, if_pos rfl]
      clear ih
      refine ww wtb ?_
      unfold wec
      (repeat' (first | (simp -implicitDefEqProofs (maxSteps := 2000000) (disch := first | with_reducible assumption | omega | (simp only [zS, zA, Nat.reduceEqDiff, Nat.reduceLT, Nat.reduceLeDiff, Nat.reduceAdd, Nat.reduceSub, reduceCtorEq, wbb, wib, zD] <;> omega) | fail) only [zS, argl, insA, Go.Den.wm, wo, wu, looks, wfb, web, idOf, riA, Nat.reduceLeDiff, Nat.reduceLT, Nat.reduceEqDiff, Nat.reduceDiv, Nat.reduceMod, Int.reduceLT, Int.reduceLE, Int.reduceEq, Int.reduceNeg, Int.reduceToNat, Int.reduceSub, Int.reduceMul, Int.reduceNe, Nat.reduceAdd, Nat.reduceMul, Nat.reduceSub, Int.reduceAdd, reduceCtorEq, Go.Den.wh, kK, wxb, wbb, wib, ej47, *, zT]) | (with_reducible (first | apply z1 | apply z2 | apply z3 | apply z4) <;> intro hq <;> (try simp only [zH] at hq) <;> (try (exfalso; omega)))))
def allR (r : Rx) (s : List UInt8) : List Mt := (alF r s (s.length + 1) 0 (-1) []).2
theorem wybc (r : Rx) (hn : wed r ≤ 1000000) (s : List UInt8) (hs : s.length ≤ 12) : lim Try.prog cfg (.call 27 [.agg ⟨rxC r⟩, str s]) (HP []) = some (.val (FL (allR r s).length (mtsC (allR r s))), HP []) := by
  have h := wxbc r hn s hs (s.length + 1) 0 (-1) (by omega) (by omega) (by omega)
  refine wjc hc wix (Nat.le_of_ble_eq_true rfl) (Nat.le_of_ble_eq_true rfl) ?_
  unfold wzv allR
  generalize alF r s (s.length + 1) 0 (-1) [] = p at h ⊢
  obtain ⟨b, l⟩ := p
  by_cases hne : l = []
  · subst hne
    rw [wqw] at h
    cases b with
    | true =>
      rw [if_pos rfl, if_pos rfl] at h
      (repeat' (first | (simp -implicitDefEqProofs (maxSteps := 2000000) (disch := first | with_reducible assumption | omega | (simp only [zS, zA, Nat.reduceEqDiff, Nat.reduceLT, Nat.reduceLeDiff, Nat.reduceAdd, Nat.reduceSub, reduceCtorEq, wbb, wib, wse, wgf, zD] <;> omega) | fail) only [zS, argl, insA, Go.Den.wm, wo, wu, looks, wfb, web, idOf, riA, Nat.reduceLeDiff, Nat.reduceLT, Nat.reduceEqDiff, Nat.reduceDiv, Nat.reduceMod, Int.reduceLT, Int.reduceLE, Int.reduceEq, Int.reduceNeg, Int.reduceToNat, Int.reduceSub, Int.reduceMul, Int.reduceNe, Nat.reduceAdd, Nat.reduceMul, Nat.reduceSub, Int.reduceAdd, reduceCtorEq, Go.Den.wh, kK, wxb, wbb, wib, ej47, *, zT]) | (with_reducible (first | apply z1 | apply z2 | apply z3 | apply z4) <;> intro hq <;> (try simp only [zH] at hq) <;> (try (exfalso; omega)))))
      all_goals rfl
    | false =>
      rw [if_neg (by simp), if_neg (by simp)] at h
      (repeat' (first | (simp -implicitDefEqProofs (maxSteps := 2000000) (disch := first | with_reducible assumption | omega | (simp only [zS, zA, Nat.reduceEqDiff, Nat.reduceLT, Nat.reduceLeDiff, Nat.reduceAdd, Nat.reduceSub, reduceCtorEq, wbb, wib, wse, wgf, zD] <;> omega) | fail) only [zS, argl, insA, Go.Den.wm, wo, wu, looks, wfb, web, idOf, riA, Nat.reduceLeDiff, Nat.reduceLT, Nat.reduceEqDiff, Nat.reduceDiv, Nat.reduceMod, Int.reduceLT, Int.reduceLE, Int.reduceEq, Int.reduceNeg, Int.reduceToNat, Int.reduceSub, Int.reduceMul, Int.reduceNe, Nat.reduceAdd, Nat.reduceMul, Nat.reduceSub, Int.reduceAdd, reduceCtorEq, Go.Den.wh, kK, wxb, wbb, wib, ej47, *, zT]) | (with_reducible (first | apply z1 | apply z2 | apply z3 | apply z4) <;> intro hq <;> (try simp only [zH] at hq) <;> (try (exfalso; omega)))))
      all_goals rfl
  · rw [wmp hne] at h
    cases b with
    | true =>
      rw [if_pos rfl, if_pos rfl] at h
      (repeat' (first | (simp -implicitDefEqProofs (maxSteps := 2000000) (disch := first | with_reducible assumption | omega | (simp only [zS, zA, Nat.reduceEqDiff, Nat.reduceLT, Nat.reduceLeDiff, Nat.reduceAdd, Nat.reduceSub, reduceCtorEq, wbb, wib, wse, wgf, zD] <;> omega) | fail) only [zS, argl, insA, Go.Den.wm, wo, wu, looks, wfb, web, idOf, riA, Nat.reduceLeDiff, Nat.reduceLT, Nat.reduceEqDiff, Nat.reduceDiv, Nat.reduceMod, Int.reduceLT, Int.reduceLE, Int.reduceEq, Int.reduceNeg, Int.reduceToNat, Int.reduceSub, Int.reduceMul, Int.reduceNe, Nat.reduceAdd, Nat.reduceMul, Nat.reduceSub, Int.reduceAdd, reduceCtorEq, Go.Den.wh, kK, wxb, wbb, wib, ej47, *, zT]) | (with_reducible (first | apply z1 | apply z2 | apply z3 | apply z4) <;> intro hq <;> (try simp only [zH] at hq) <;> (try (exfalso; omega)))))
      all_goals rfl
    | false =>
      rw [if_neg (by simp), if_neg (by simp)] at h
      (repeat' (first | (simp -implicitDefEqProofs (maxSteps := 2000000) (disch := first | with_reducible assumption | omega | (simp only [zS, zA, Nat.reduceEqDiff, Nat.reduceLT, Nat.reduceLeDiff, Nat.reduceAdd, Nat.reduceSub, reduceCtorEq, wbb, wib, wse, wgf, zD] <;> omega) | fail) only [zS, argl, insA, Go.Den.wm, wo, wu, looks, wfb, web, idOf, riA, Nat.reduceLeDiff, Nat.reduceLT, Nat.reduceEqDiff, Nat.reduceDiv, Nat.reduceMod, Int.reduceLT, Int.reduceLE, Int.reduceEq, Int.reduceNeg, Int.reduceToNat, Int.reduceSub, Int.reduceMul, Int.reduceNe, Nat.reduceAdd, Nat.reduceMul, Nat.reduceSub, Int.reduceAdd, reduceCtorEq, Go.Den.wh, kK, wxb, wbb, wib, ej47, *, zT]) | (with_reducible (first | apply z1 | apply z2 | apply z3 | apply z4) <;> intro hq <;> (try simp only [zH] at hq) <;> (try (exfalso; omega)))))
      all_goals rfl
end
end Go.Proofs.Ytdbhfmdndiphcaa
namespace Go.Proofs.Ytdbhfmdndiphcaa
open Go.Den
noncomputable section
def setR (b : UInt8) : Rx := .mk 1 0 0 0 (one b.toNat) []
def rxT (t : List UInt8) : Rx := if t.length = 1 then setR (t.getD 0 0) else .mk 2 0 0 0 0#256 (t.map setR)
def wbk (s t : List UInt8) (a : Nat) : Bool := decide (a + t.length ≤ s.length) && decide ((s.take (a + t.length)).drop a = t)
theorem one_ne {x : Nat} (h : x < 256) : one x ≠ 0#256 := by
  intro h0
  have := wyjb x x
  rw [h0] at this
  simp [h] at this
theorem one_has {x y : UInt8} : ((one x.toNat).getLsbD y.toNat = true) = (y = x) := by
  have hx := x.toNat_lt
  have hy := y.toNat_lt
  rw [wyjb, decide_eq_true (show y.toNat < 256 by omega), Bool.true_and, decide_eq_true_eq]
  apply propext
  constructor
  · intro h; exact UInt8.toNat_inj.1 h
  · intro h; rw [h]
theorem wgcb (b : UInt8) (d g : Int) : wxh (setR b) d g = (true, g) := by
  have hb : wlkb (setR b) = true := rfl
  have hk : wyn (setR b) = true := by
    show (decide ((0 : Int) = 0) && decide (one b.toNat ≠ 0#256)) = true
    rw [decide_eq_true (one_ne (by have := b.toNat_lt; omega))]; rfl
  unfold setR at *
  rw [wxh, if_pos hb, if_pos hk, if_neg (by decide), if_neg (by decide), wqf]
theorem wzn : ∀ (t : List UInt8), t.length ≤ 2 → whl (rxT t) = true := by
  intro t ht
  match t, ht with
  | [], _ => rfl
  | [b], _ =>
    show whl (setR b) = true
    rw [whl, wgcb]
    rfl
  | [b, c], _ =>
    show whl (.mk 2 0 0 0 0#256 [setR b, setR c]) = true
    have h1 : wlkb (.mk 2 0 0 0 0#256 [setR b, setR c]) = true := rfl
    have h2 : wyn (.mk 2 0 0 0 0#256 [setR b, setR c]) = true := rfl
    have h3 : wxh (.mk 2 0 0 0 0#256 [setR b, setR c]) 0 0 = (true, 0) := by
      rw [wxh, if_pos h1, if_pos h2, if_neg (by decide), if_neg (by decide), wqf, wgcb, if_pos rfl, wqf, wgcb, if_pos rfl, wqf]
    rw [whl, h3]
    rfl
theorem wil : ∀ (t : List UInt8), t.length ≤ 2 → wed (rxT t) ≤ 1000000 := by
  intro t ht
  match t, ht with
  | [], _ => decide
  | [b], _ =>
    show wed (setR b) ≤ _
    rw [setR, wed, wyc]; omega
  | [b, c], _ =>
    show wed (.mk 2 0 0 0 0#256 [setR b, setR c]) ≤ _
    rw [wed, wyc, wyc, wyc, setR, setR, wed, wed, wyc]; omega
theorem whcb (s : List UInt8) (bol : Bool) (b : UInt8) (x : St) : wof s bol (setR b) x = if x.1 < s.length ∧ s.getD x.1.toNat 0 = b then [(x.1 + 1, x.2)] else [] := by
  rw [setR, wof, if_pos rfl]
  simp only [one_has]
theorem wrx (s : List UInt8) (a n : Nat) (h : a < s.length) : (s.take (a + (n + 1))).drop a = s.getD a 0 :: (s.take (a + 1 + n)).drop (a + 1) := by
  rw [show a + (n + 1) = a + 1 + n by omega, List.drop_eq_getElem_cons (show a < (s.take (a + 1 + n)).length by rw [List.length_take]; omega), List.getElem_take, List.getD_eq_getElem?_getD, List.getElem?_eq_getElem h]
  rfl
theorem wvo (s : List UInt8) (a : Nat) (h : a ≤ s.length) : wbk s [] a = true := by
  unfold wbk
  rw [decide_eq_true (by simpa using h), decide_eq_true (by simp)]; rfl
theorem weq (s : List UInt8) (b : UInt8) (t : List UInt8) (a : Nat) : wbk s (b :: t) a = (decide (a < s.length ∧ s.getD a 0 = b) && wbk s t (a + 1)) := by
  unfold wbk
  rw [List.length_cons]
  by_cases h : a < s.length
  · rw [wrx s a t.length h, show a + 1 + t.length = a + (t.length + 1) by omega]
    by_cases h2 : s.getD a 0 = b
    · rw [decide_eq_true (show a < s.length ∧ s.getD a 0 = b from ⟨h, h2⟩), Bool.true_and, h2]
      congr 1
      simp
    · rw [decide_eq_false (fun hh : a < s.length ∧ s.getD a 0 = b => h2 hh.2), Bool.false_and]
      rw [decide_eq_false (fun hh => h2 (List.cons.inj hh).1), Bool.and_false]
  · rw [decide_eq_false (fun hh : a < s.length ∧ s.getD a 0 = b => h hh.1), Bool.false_and, decide_eq_false (by omega), Bool.false_and]
theorem ways_T (s : List UInt8) (t : List UInt8) (ht : t.length ≤ 2) (a : Nat) (ha : a ≤ s.length) : wrm (rxT t) s true a = if wbk s t a = true then [((a : Int) + t.length, wyi)] else [] := by
  unfold wrm
  rw [if_pos ⟨wzn t ht, by omega, by omega⟩]
  match t, ht with
  | [], _ =>
    rw [wvo s a ha, if_pos rfl]
    show wof s true (.mk 2 0 0 0 0#256 []) _ = _
    rw [wof, catF]
    simp
  | [b], _ =>
    show wof s true (setR b) _ = _
    rw [whcb, weq]
    by_cases h : a < s.length ∧ s.getD a 0 = b
    · rw [decide_eq_true h, wvo s (a + 1) (by omega), if_pos ⟨by show (a : Int) < _; omega, h.2⟩]
      rfl
    · rw [decide_eq_false h, if_neg (fun hh => h ⟨by have h1 : (a : Int) < s.length := hh.1; omega, hh.2⟩)]
      rfl
  | [b, c], _ =>
    show wof s true (.mk 2 0 0 0 0#256 [setR b, setR c]) _ = _
    have hw : wof s true (.mk 2 0 0 0 0#256 [setR b, setR c]) ((a : Int), wyi) = catF s true [setR b, setR c] [((a : Int), wyi)] := by
      rw [wof]; simp
    rw [hw, catF, catF, catF, weq, weq]
    have e1 : ∀ (w : St → List St) (x : St), (w x).length ≤ 1 → wwbb w [x] = w x := by
      intro w x h
      show addF [] (w x) = w x
      match w x, h with
      | [], _ => rfl
      | [y], _ => rfl
    have e0 : ∀ (w : St → List St), wwbb w [] = [] := fun _ => rfl
    have hl : ∀ (c : UInt8) (x : St), (wof s true (setR c) x).length ≤ 1 := by
      intro c x
      rw [whcb]
      split <;> simp
    rw [e1 _ _ (hl b _)]
    simp only [whcb]
    by_cases h : a < s.length ∧ s.getD a 0 = b
    · rw [decide_eq_true h, if_pos ⟨by show (a : Int) < _; omega, h.2⟩]
      rw [e1 _ _ (by dsimp only; split <;> simp)]
      by_cases h2 : a + 1 < s.length ∧ s.getD (a + 1) 0 = c
      · rw [decide_eq_true h2, wvo s (a + 1 + 1) (by omega)]
        rw [if_pos ⟨by show (a : Int) + 1 < _; omega, by show s.getD ((a : Int) + 1).toNat 0 = c; rw [show ((a : Int) + 1).toNat = a + 1 by omega]; exact h2.2⟩]
        show [((a : Int) + 1 + 1, wyi)] = [((a : Int) + 2, wyi)]
        rw [Int.add_assoc]; rfl
      · rw [decide_eq_false h2, if_neg (fun hh => h2 ⟨by have h1 : (a : Int) + 1 < s.length := hh.1; omega, by have h1 : s.getD ((a : Int) + 1).toNat 0 = c := hh.2; rw [show ((a : Int) + 1).toNat = a + 1 by omega] at h1; exact h1⟩)]
        rfl
    · rw [decide_eq_false h, if_neg (fun hh => h ⟨by have h1 : (a : Int) < s.length := hh.1; omega, hh.2⟩), e0]
      rfl
def wic (s t : List UInt8) : Nat → Nat → List Nat
  | 0, _ => []
  | k + 1, i => if i + t.length ≤ s.length then (if wbk s t i = true then i :: wic s t k (i + t.length) else wic s t k (i + 1)) else []
theorem wni (s t : List UInt8) : ∀ (k i : Nat), ¬ i + t.length ≤ s.length → wic s t k i = [] := by
  intro k i h
  cases k with
  | zero => rfl
  | succ k => rw [wic, if_neg h]
theorem wrw (s t : List UInt8) (h0 : 0 < t.length) : ∀ (k k2 i : Nat), s.length + 1 ≤ i + k → s.length + 1 ≤ i + k2 → wic s t k i = wic s t k2 i := by
  intro k
  induction k with
  | zero => intro k2 i h1 h2; rw [wni s t 0 i (by omega), wni s t k2 i (by omega)]
  | succ k ih =>
    intro k2 i h1 h2
    cases k2 with
    | zero => rw [wni s t 0 i (by omega), wni s t (k + 1) i (by omega)]
    | succ k2 =>
      rw [wic, wic, ih k2 (i + t.length) (by omega) (by omega), ih k2 (i + 1) (by omega) (by omega)]
def mtT (t : List UInt8) (i : Nat) : Mt := (wyi.put 0 i).put 1 ((i : Int) + t.length)
theorem wzbc (s t : List UInt8) (ht : t.length ≤ 2) (h0 : 0 < t.length) : ∀ (k a : Nat), a + k = s.length + 1 →
    (wqk (rxT t) s k a = none ∧ wic s t k a = []) ∨ ∃ i : Nat, a ≤ i ∧ i + t.length ≤ s.length ∧ wqk (rxT t) s k a = some (mtT t i) ∧ wic s t k a = i :: wic s t (s.length + 1) (i + t.length) := by
  intro k
  induction k with
  | zero => intro a _; exact .inl ⟨rfl, rfl⟩
  | succ k ih =>
    intro a ha
    rw [wqk, wic, ways_T s t ht a (by omega)]
    by_cases h : wbk s t a = true
    · have hl : a + t.length ≤ s.length := by
        unfold wbk at h
        rw [Bool.and_eq_true, decide_eq_true_eq] at h
        exact h.1
      rw [if_pos h, if_pos h, if_pos hl]
      refine .inr ⟨a, Nat.le_refl _, hl, rfl, ?_⟩
      rw [wrw s t h0 k (s.length + 1) (a + t.length) (by omega) (by omega)]
    · rw [if_neg h, if_neg h]
      have h2 := ih (a + 1) (by omega)
      rw [show ((a + 1 : Nat) : Int) = (a : Int) + 1 from rfl] at h2
      simp only [wdq]
      by_cases hl : a + t.length ≤ s.length
      · rw [if_pos hl]
        rcases h2 with h2 | ⟨i, h3, h4, h5, h6⟩
        · exact .inl h2
        · exact .inr ⟨i, by omega, h4, h5, h6⟩
      · rw [if_neg hl]
        rw [wni s t k (a + 1) (by omega)] at h2
        rcases h2 with h2 | ⟨i, h3, h4, h5, h6⟩
        · exact .inl h2
        · omega
theorem mtT0 (t : List UInt8) (i : Nat) : (mtT t i).at 0 = i := mt_at0
theorem mtT1 (t : List UInt8) (i : Nat) : (mtT t i).at 1 = (i : Int) + t.length := mt_at1
theorem all_T (s t : List UInt8) (ht : t.length ≤ 2) (h0 : 0 < t.length) : ∀ (k a : Nat) (last : Int) (out : List Mt), s.length + 1 ≤ a + k →
    (alF (rxT t) s k a last out).2 = out ++ (wic s t (s.length + 1) a).map (mtT t) := by
  intro k
  induction k with
  | zero => intro a last out ha; rw [alF, wni s t _ a (by omega)]; simp
  | succ k ih =>
    intro a last out ha
    rw [alF]
    by_cases hq : a ≤ s.length
    · rw [if_pos (by omega), waj, if_pos ⟨wzn t ht, by omega, by omega⟩, show ((s.length : Int) + 1 - a).toNat = s.length + 1 - a by omega]
      rw [wrw s t h0 (s.length + 1) (s.length + 1 - a) a (by omega) (by omega)]
      rcases wzbc s t ht h0 (s.length + 1 - a) a (by omega) with ⟨h1, h2⟩ | ⟨i, h1, h2, h3, h4⟩
      · rw [h1, h2]; simp
      · rw [h3, h4]
        simp only []
        rw [mtT0, mtT1, if_neg (by omega)]
        have := ih (i + t.length) ((i : Int) + t.length) (out ++ [mtT t i]) (by omega)
        rw [show ((i + t.length : Nat) : Int) = (i : Int) + t.length from Int.natCast_add _ _] at this
        rw [this, List.map_cons, List.append_assoc]; rfl
    · rw [if_neg (by omega), wni s t _ a (by omega)]; simp
theorem allR_T (s t : List UInt8) (ht : t.length ≤ 2) (h0 : 0 < t.length) : allR (rxT t) s = (wic s t (s.length + 1) 0).map (mtT t) := by
  unfold allR
  have := all_T s t ht h0 (s.length + 1) 0 (-1) [] (by omega)
  rwa [List.nil_append] at this
theorem has_T (s t : List UInt8) (ht : t.length ≤ 2) (h0 : 0 < t.length) : (waj (rxT t) s 0).isSome = decide (0 < (wic s t (s.length + 1) 0).length) := by
  rw [waj, if_pos ⟨wzn t ht, by omega, by omega⟩, show ((s.length : Int) + 1 - 0).toNat = s.length + 1 by omega]
  rcases wzbc s t ht h0 (s.length + 1) 0 (by omega) with ⟨h1, h2⟩ | ⟨i, h1, h2, h3, h4⟩
  · rw [show ((0 : Nat) : Int) = 0 from rfl] at h1
    rw [h1, h2]; rfl
  · rw [show ((0 : Nat) : Int) = 0 from rfl] at h3
    rw [h3, h4]; rfl
theorem wacc (s : List UInt8) (k a : Nat) (ha : a + (k + 1) = s.length + 1) : wqk (rxT []) s (k + 1) a = some (mtT [] a) := by
  rw [wqk, ways_T s [] (by simp) a (by omega), wvo s a (by omega), if_pos rfl]
  rfl
theorem all_0 (s : List UInt8) : ∀ (k a : Nat) (last : Int) (out : List Mt), a + k = s.length + 1 → last < a → (alF (rxT []) s k a last out).2 = out ++ (List.range' a k).map (mtT []) := by
  intro k
  induction k with
  | zero => intro a last out ha _; rw [alF]; simp
  | succ k ih =>
    intro a last out ha hl
    rw [alF, if_pos (by omega), waj, if_pos ⟨wzn [] (by simp), by omega, by omega⟩, show ((s.length : Int) + 1 - a).toNat = k + 1 by omega, wacc s k a ha]
    simp only []
    rw [mtT0, mtT1, if_pos (by simp), if_neg (by simp; omega), List.length_nil]
    have := ih (a + 1) a (out ++ [mtT [] a]) (by omega) (by omega)
    rw [show ((a + 1 : Nat) : Int) = (a : Int) + 1 from rfl] at this
    rw [show (a : Int) + ((0 : Nat) : Int) = a by omega, this, List.range'_succ, List.map_cons, List.append_assoc]; rfl
theorem allR_0 (s : List UInt8) : allR (rxT []) s = (List.range' 0 (s.length + 1)).map (mtT []) := by
  unfold allR
  have := all_0 s (s.length + 1) 0 (-1) [] (by omega) (by omega)
  rwa [List.nil_append] at this
theorem has_0 (s : List UInt8) : (waj (rxT []) s 0).isSome = true := by
  rw [waj, if_pos ⟨wzn [] (by simp), by omega, by omega⟩, show ((s.length : Int) + 1 - 0).toNat = s.length + 1 by omega]
  have := wacc s s.length 0 (by omega)
  rw [show ((0 : Nat) : Int) = 0 from rfl] at this
  rw [this]; rfl
end
end Go.Proofs.Ytdbhfmdndiphcaa
namespace Go.Proofs.Ytdbhfmdndiphcaa
set_option linter.unusedVariables false
set_option linter.unusedSimpArgs false
open Go.Den
noncomputable section
def elems1 : Option ABlk → Option (List Value)
  | some (.cells b) => (match (bif rdOk b 0 1 then some b else none) with
    | some b => some (slotsOf b.cells 0 1)
    | none => none)
  | _ => none
def b2s1 (o : Option ABlk) : ARes := match elems1 o with
  | some l => bif l.all isU8 then val (.string ⟨(l.map toU8).toArray⟩) else .none
  | none => .none
theorem b2s_HP {h : List ABlk} (hh : h.length ≤ 1099511627774) {i c : Nat} : b2sR (HP h) (.slice (some ⟨i, 0, none⟩) 1 c) = b2s1 h[i]? := by
  have h2 : wfj (HP h) 1 1 (.slice (some ⟨i, 0, none⟩) 1 c) = elems1 h[i]? := by
    show (match wch (HP h) ⟨i, 0, none⟩ 1 with
      | some b => some (slotsOf b.cells 0 1)
      | none => none) = _
    unfold wch
    rw [wuh h hh]
    cases h[i]? with
    | none => rfl
    | some b => cases b <;> rfl
  show (match wfj (HP h) 1 1 (.slice (some ⟨i, 0, none⟩) 1 c) with
    | some l => bif l.all isU8 then val (.string ⟨(l.map toU8).toArray⟩) else .none
    | none => .none) = _
  rw [h2]
  rfl
theorem b2s_X {x : Nat} {t z : Nat} {pf : Bool} (hx : x < 256) : b2s1 (some (X [.int .u8 (x : Nat)] t z pf)) = val (str [UInt8.ofNat x]) := by
  show (bif (Nat.blt x 256 && true) then val (.string ⟨#[UInt8.ofNat x]⟩) else .none) = _
  rw [nblt, decide_eq_true hx]
  rfl
def tb (k : Nat) : Nat := [97, 98, 97, 99, 98, 46, 97, 32].getD k 0
theorem tb_get {k : Nat} (h : k < 8) : ([.int .u8 97, .int .u8 98, .int .u8 97, .int .u8 99, .int .u8 98, .int .u8 46, .int .u8 97, .int .u8 32] : List Value)[k]? = some (.int .u8 (tb k)) := by
  rcases (show k = 0 ∨ k = 1 ∨ k = 2 ∨ k = 3 ∨ k = 4 ∨ k = 5 ∨ k = 6 ∨ k = 7 by omega) with rfl | rfl | rfl | rfl | rfl | rfl | rfl | rfl <;> rfl
theorem tb_lt (k : Nat) : tb k < 256 := by
  unfold tb
  rw [List.getD_eq_getElem?_getD]
  by_cases h : k < 8
  · rcases (show k = 0 ∨ k = 1 ∨ k = 2 ∨ k = 3 ∨ k = 4 ∨ k = 5 ∨ k = 6 ∨ k = 7 by omega) with rfl | rfl | rfl | rfl | rfl | rfl | rfl | rfl <;> decide
  · rw [List.getElem?_eq_none (by simp; omega)]; decide
def wbcc (n : Int) : UInt8 := UInt8.ofNat (tb (wkm n 0 7).toNat)
def wccc (l : List Int) (most : Nat) : List UInt8 := (l.take most).map wbcc
theorem wpkb (n : Int) : 0 ≤ wkm n 0 7 ∧ wkm n 0 7 ≤ 7 := by
  unfold wkm
  have := Int.emod_nonneg n (show (8 : Int) ≠ 0 by omega)
  have h5 := Int.emod_lt_of_pos n (show (0 : Int) < 8 by omega)
  rw [show (7 : Int) - 0 + 1 = 8 from rfl, Int.tmod_eq_emod]
  repeat' split
  all_goals omega
theorem wdcc (l : List Int) (most : Nat) (hm : most ≤ 1000) : ∀ (k i : Nat) (acc : List UInt8), i + k = min l.length most → acc.length ≤ i →
    lim Try.prog cfg (.loop 26 0 (wug 0) (SE (EJ 31 G0) [(6, .int .i64 i), (5, str acc), (1, .int .i64 most), (0, FL l.length (ints l))])) (HP []) = some (.code (.exit 0) (SE (EJ 31 G0) [(5, str (acc ++ ((l.take most).drop i).map wbcc))]), HP []) := by
  intro k
  induction k with
  | zero =>
    intro i acc hi ha
    rw [List.drop_of_length_le (by rw [List.length_take]; omega), List.map_nil, List.append_nil]
    refine ww wgi ?_
    unfold wmh
    by_cases h1 : (i : Int) < l.length
    · have h2 : ¬ (i : Int) < most := by omega
      (repeat' (first | (simp -implicitDefEqProofs (maxSteps := 2000000) (disch := first | with_reducible assumption | omega | (simp only [zS, zA, Nat.reduceEqDiff, Nat.reduceLT, Nat.reduceLeDiff, Nat.reduceAdd, Nat.reduceSub, reduceCtorEq] <;> omega) | fail) only [zS, argl, insA, Go.Den.wm, wo, wu, looks, wfb, web, idOf, riA, Nat.reduceLeDiff, Nat.reduceLT, Nat.reduceEqDiff, Nat.reduceDiv, Nat.reduceMod, Int.reduceLT, Int.reduceLE, Int.reduceEq, Int.reduceNeg, Int.reduceToNat, Int.reduceSub, Int.reduceMul, Int.reduceNe, Nat.reduceAdd, Nat.reduceMul, Nat.reduceSub, Int.reduceAdd, reduceCtorEq, Go.Den.wh, kK, wxf, wqb, wmb, wrb, *]) | (with_reducible (first | apply z1 | apply z2 | apply z3 | apply z4) <;> intro hq <;> (try simp only [zH] at hq) <;> (try (exfalso; omega)))))
    · (repeat' (first | (simp -implicitDefEqProofs (maxSteps := 2000000) (disch := first | with_reducible assumption | omega | (simp only [zS, zA, Nat.reduceEqDiff, Nat.reduceLT, Nat.reduceLeDiff, Nat.reduceAdd, Nat.reduceSub, reduceCtorEq] <;> omega) | fail) only [zS, argl, insA, Go.Den.wm, wo, wu, looks, wfb, web, idOf, riA, Nat.reduceLeDiff, Nat.reduceLT, Nat.reduceEqDiff, Nat.reduceDiv, Nat.reduceMod, Int.reduceLT, Int.reduceLE, Int.reduceEq, Int.reduceNeg, Int.reduceToNat, Int.reduceSub, Int.reduceMul, Int.reduceNe, Nat.reduceAdd, Nat.reduceMul, Nat.reduceSub, Int.reduceAdd, reduceCtorEq, Go.Den.wh, kK, wxf, wqb, wmb, wrb, *]) | (with_reducible (first | apply z1 | apply z2 | apply z3 | apply z4) <;> intro hq <;> (try simp only [zH] at hq) <;> (try (exfalso; omega)))))
  | succ k ih =>
    intro i acc hi ha
    have hlt : i < (l.take most).length := by rw [List.length_take]; omega
    rw [List.drop_eq_getElem_cons hlt, List.map_cons]
    have hg := wbcb (l := l) (i := i) (by omega)
    have hv : (l.take most)[i] = l.getD i 0 := by rw [List.getElem_take, List.getD_eq_getElem?_getD, List.getElem?_eq_getElem (by omega)]; rfl
    rw [hv]
    have hw := wyac (l.getD i 0) 0 7 (by omega) (by omega) (by omega)
    have hin := wpkb (l.getD i 0)
    have htb := tb_get (k := (wkm (l.getD i 0) 0 7).toNat) (by omega)
    have hlt2 := tb_lt (wkm (l.getD i 0) 0 7).toNat
    have h1 : (i : Int) < l.length := by omega
    have h2 : (i : Int) < most := by omega
    · have h := ih (i + 1) (acc ++ [wbcc (l.getD i 0)]) (by omega) (by simp; omega)
      rw [List.append_assoc, List.singleton_append] at h
      clear ih hv hlt
      unfold wbcc at h ⊢
      generalize wkm (l.getD i 0) 0 7 = w at *
      generalize tb w.toNat = c at *
      refine ww wgi ?_
      unfold wmh
      (repeat' (first | (simp -implicitDefEqProofs (maxSteps := 2000000) (disch := first | with_reducible assumption | omega | (simp only [zS, zA, Nat.reduceEqDiff, Nat.reduceLT, Nat.reduceLeDiff, Nat.reduceAdd, Nat.reduceSub, reduceCtorEq] <;> omega) | fail) only [zS, argl, insA, Go.Den.wm, wo, wu, looks, wfb, web, idOf, riA, Nat.reduceLeDiff, Nat.reduceLT, Nat.reduceEqDiff, Nat.reduceDiv, Nat.reduceMod, Int.reduceLT, Int.reduceLE, Int.reduceEq, Int.reduceNeg, Int.reduceToNat, Int.reduceSub, Int.reduceMul, Int.reduceNe, Nat.reduceAdd, Nat.reduceMul, Nat.reduceSub, Int.reduceAdd, reduceCtorEq, Go.Den.wh, kK, wxf, wqb, wmb, wrb, b2s_HP, b2s_X, *]) | (with_reducible (first | apply z1 | apply z2 | apply z3 | apply z4) <;> intro hq <;> (try simp only [zH] at hq) <;> (try (exfalso; omega)))))
      exact h
theorem wecc (l : List Int) (most : Nat) (hm : most ≤ 1000) : lim Try.prog cfg (.call 26 [FL l.length (ints l), .int .i64 most]) (HP []) = some (.val (str (wccc l most)), HP []) := by
  have h := wdcc l most hm (min l.length most) 0 [] (by omega) (by simp)
  rw [List.drop_zero, List.nil_append, show ((0 : Nat) : Int) = 0 from rfl] at h
  refine wjc hc wdp (Nat.le_of_ble_eq_true rfl) (Nat.le_of_ble_eq_true rfl) ?_
  unfold wdl
  show _ = some (Out.val (str ((l.take most).map wbcc)), HP [])
  (repeat' (first | (simp -implicitDefEqProofs (maxSteps := 2000000) (disch := first | with_reducible assumption | omega | (simp only [zS, zA, Nat.reduceEqDiff, Nat.reduceLT, Nat.reduceLeDiff, Nat.reduceAdd, Nat.reduceSub, reduceCtorEq] <;> omega) | fail) only [zS, argl, insA, Go.Den.wm, wo, wu, looks, wfb, web, idOf, riA, Nat.reduceLeDiff, Nat.reduceLT, Nat.reduceEqDiff, Nat.reduceDiv, Nat.reduceMod, Int.reduceLT, Int.reduceLE, Int.reduceEq, Int.reduceNeg, Int.reduceToNat, Int.reduceSub, Int.reduceMul, Int.reduceNe, Nat.reduceAdd, Nat.reduceMul, Nat.reduceSub, Int.reduceAdd, reduceCtorEq, Go.Den.wh, kK, wxf, wqb, *]) | (with_reducible (first | apply z1 | apply z2 | apply z3 | apply z4) <;> intro hq <;> (try simp only [zH] at hq) <;> (try (exfalso; omega)))))
end
end Go.Proofs.Ytdbhfmdndiphcaa
namespace Go.Proofs.Ytdbhfmdndiphcaa
set_option linter.unusedVariables false
set_option linter.unusedSimpArgs false
open Go.Den
noncomputable section
abbrev bsB (z s : BitVec 256) : List ABlk := [X (setC z) 44 0 true, X (setC s) 44 0 true]
theorem wdgb {a b c d e : Value} {s : BitVec 256} : wm [a, b, c, d, e] 0 (setC s) = [wdV s 0, wdV s 1, wdV s 2, wdV s 3, e] := rfl
theorem ej26 : (EJ 26 G0).get 4 = JK := rfl
theorem wfcc (l : List Int) (hl : l.length ≤ 16000000) : ∀ (k i : Nat), i + k = l.length →
    lim Try.prog cfg (.loop 38 0 (wff 0) (SE (EJ 26 G0) [(5, .int .i64 i), (1, FL l.length (ints l)), (0, FL l.length (ints l))])) (HP []) = some (.code (.exit 0) (SE (EJ 26 G0) [(4, JK)]), HP []) := by
  intro k
  induction k with
  | zero =>
    intro i hi
    refine ww wyg ?_
    unfold wwf
    (repeat' (first | (simp -implicitDefEqProofs (maxSteps := 2000000) (disch := first | with_reducible assumption | omega | (simp only [zS, zA, Nat.reduceEqDiff, Nat.reduceLT, Nat.reduceLeDiff, Nat.reduceAdd, Nat.reduceSub, reduceCtorEq, wbb, wib] <;> omega) | fail) only [zS, argl, insA, Go.Den.wm, wo, wu, looks, wfb, web, idOf, riA, Nat.reduceLeDiff, Nat.reduceLT, Nat.reduceEqDiff, Nat.reduceDiv, Nat.reduceMod, Int.reduceLT, Int.reduceLE, Int.reduceEq, Int.reduceNeg, Int.reduceToNat, Int.reduceSub, Int.reduceMul, Int.reduceNe, Nat.reduceAdd, Nat.reduceMul, Nat.reduceSub, Int.reduceAdd, reduceCtorEq, Go.Den.wh, kK, wyf, wqb, wbb, wib, ej26, *]) | (with_reducible (first | apply z1 | apply z2 | apply z3 | apply z4) <;> intro hq <;> (try simp only [zH] at hq) <;> (try (exfalso; omega))) | (with_reducible apply z5; (case hl => (repeat (first | exact .nil | with_reducible apply z6 | with_reducible apply z7))); (case h => kernel_rfl))))
  | succ k ih =>
    intro i hi
    have h := ih (i + 1) (by omega)
    have hg := wbcb (l := l) (i := i) (by omega)
    clear ih
    refine ww wyg ?_
    unfold wwf
    (repeat' (first | (simp -implicitDefEqProofs (maxSteps := 2000000) (disch := first | with_reducible assumption | omega | (simp only [zS, zA, Nat.reduceEqDiff, Nat.reduceLT, Nat.reduceLeDiff, Nat.reduceAdd, Nat.reduceSub, reduceCtorEq, wbb, wib] <;> omega) | fail) only [zS, argl, insA, Go.Den.wm, wo, wu, looks, wfb, web, idOf, riA, Nat.reduceLeDiff, Nat.reduceLT, Nat.reduceEqDiff, Nat.reduceDiv, Nat.reduceMod, Int.reduceLT, Int.reduceLE, Int.reduceEq, Int.reduceNeg, Int.reduceToNat, Int.reduceSub, Int.reduceMul, Int.reduceNe, Nat.reduceAdd, Nat.reduceMul, Nat.reduceSub, Int.reduceAdd, reduceCtorEq, Go.Den.wh, kK, wyf, wqb, wbb, wib, ej26, *]) | (with_reducible (first | apply z1 | apply z2 | apply z3 | apply z4) <;> intro hq <;> (try simp only [zH] at hq) <;> (try (exfalso; omega))) | (with_reducible apply z5; (case hl => (repeat (first | exact .nil | with_reducible apply z6 | with_reducible apply z7))); (case h => kernel_rfl))))
    all_goals exact h
theorem wzt (l : List Int) (hl : l.length ≤ 16000000) : lim Try.prog cfg (.call 38 [FL l.length (ints l), FL l.length (ints l)]) (HP []) = some (.val (.bool true), HP []) := by
  have h := wfcc l hl l.length 0 (by omega)
  rw [show ((0 : Nat) : Int) = 0 from rfl] at h
  refine wjc hc wel (Nat.le_of_ble_eq_true rfl) (Nat.le_of_ble_eq_true rfl) ?_
  unfold wxi
  (repeat' (first | (simp -implicitDefEqProofs (maxSteps := 2000000) (disch := first | with_reducible assumption | omega | (simp only [zS, zA, Nat.reduceEqDiff, Nat.reduceLT, Nat.reduceLeDiff, Nat.reduceAdd, Nat.reduceSub, reduceCtorEq, wbb, wib] <;> omega) | fail) only [zS, argl, insA, Go.Den.wm, wo, wu, looks, wfb, web, idOf, riA, Nat.reduceLeDiff, Nat.reduceLT, Nat.reduceEqDiff, Nat.reduceDiv, Nat.reduceMod, Int.reduceLT, Int.reduceLE, Int.reduceEq, Int.reduceNeg, Int.reduceToNat, Int.reduceSub, Int.reduceMul, Int.reduceNe, Nat.reduceAdd, Nat.reduceMul, Nat.reduceSub, Int.reduceAdd, reduceCtorEq, Go.Den.wh, kK, wyf, wqb, wbb, wib, ej26, *]) | (with_reducible (first | apply z1 | apply z2 | apply z3 | apply z4) <;> intro hq <;> (try simp only [zH] at hq) <;> (try (exfalso; omega)))))
end
end Go.Proofs.Ytdbhfmdndiphcaa
namespace Go.Proofs.Ytdbhfmdndiphcaa
set_option linter.unusedVariables false
set_option linter.unusedSimpArgs false
open Go.Den
noncomputable section
theorem of_end (x : Nat) (z s : BitVec 256) :
    lim Try.prog cfg (.loop 37 0 (wfl 0) (SE (EJ 23 G0) [(8, .int .i64 1), (7, .int .i64 1), (6, FL 1 [.int .u8 x]), (3, .pointer (some ⟨1, 0, none⟩)), (2, .pointer (some ⟨0, 0, none⟩))])) (HP (bsB z s)) = some (.code (.exit 0) (SE (EJ 23 G0) [(3, .pointer (some ⟨1, 0, none⟩)), (2, .pointer (some ⟨0, 0, none⟩))]), HP (bsB z s)) := by
  refine ww wwn ?_
  unfold wvn
  (repeat' (first | (simp -implicitDefEqProofs (maxSteps := 2000000) (disch := first | with_reducible assumption | omega | (simp only [zS, zA, Nat.reduceEqDiff, Nat.reduceLT, Nat.reduceLeDiff, Nat.reduceAdd, Nat.reduceSub, reduceCtorEq, wbz, zD] <;> omega) | fail) only [zS, argl, insA, Go.Den.wm, wo, wu, looks, wfb, web, idOf, riA, Nat.reduceLeDiff, Nat.reduceLT, Nat.reduceEqDiff, Nat.reduceDiv, Nat.reduceMod, Int.reduceLT, Int.reduceLE, Int.reduceEq, Int.reduceNeg, Int.reduceToNat, Int.reduceSub, Int.reduceMul, Int.reduceNe, Nat.reduceAdd, Nat.reduceMul, Nat.reduceSub, Int.reduceAdd, reduceCtorEq, Go.Den.wh, kK, wxn, *, zT]) | (with_reducible (first | apply z1 | apply z2 | apply z3 | apply z4) <;> intro hq <;> (try simp only [zH] at hq) <;> (try (exfalso; omega)))))
theorem of_step (x : Nat) (hx : x < 256) (z s : BitVec 256) :
    lim Try.prog cfg (.loop 37 0 (wfl 0) (SE (EJ 23 G0) [(8, .int .i64 0), (7, .int .i64 1), (6, FL 1 [.int .u8 x]), (3, .pointer (some ⟨1, 0, none⟩)), (2, .pointer (some ⟨0, 0, none⟩))])) (HP (bsB z s)) = some (.code (.exit 0) (SE (EJ 23 G0) [(3, .pointer (some ⟨1, 0, none⟩)), (2, .pointer (some ⟨0, 0, none⟩))]), HP (bsB z (s ||| one x))) := by
  have h := of_end x z (s ||| one x)
  rw [← or_one s x hx] at h
  refine ww wwn ?_
  unfold wvn
  have h1 : BitVec.ofInt (IntKind.bits .u64) 1 = BitVec.ofInt (IntKind.bits .u64) (((1#64).toNat : Nat) : Int) := rfl
  have e1 : ((x : Int) / 64).toNat = x / 64 := by omega
  have e2 : ((x : Int) % 64).toNat = x % 64 := by omega
  have hs : IntKind.wrap .u64 (1 * 2 ^ (min (x % 64) (IntKind.bits .u64))) = ((1#64 <<< (x % 64)).toNat : Nat) := by
    have := shl_u64 (b := ((x % 64 : Nat) : Int)) (by omega) (by omega)
    rwa [Int.toNat_natCast] at this
  have ho := or_u64 (wd s (x / 64)) (1#64 <<< (x % 64))
  have hset := setC_set s (show x / 64 < 4 by omega) (wd s (x / 64) ||| (1#64 <<< (x % 64)))
  rw [← or_one s x hx]
  (repeat' (first | (simp -implicitDefEqProofs (maxSteps := 2000000) (disch := first | with_reducible assumption | omega | (simp only [zS, zA, Nat.reduceEqDiff, Nat.reduceLT, Nat.reduceLeDiff, Nat.reduceAdd, Nat.reduceSub, reduceCtorEq, wbz, zD] <;> omega) | fail) only [zS, argl, insA, Go.Den.wm, wo, wu, looks, wfb, web, idOf, riA, Nat.reduceLeDiff, Nat.reduceLT, Nat.reduceEqDiff, Nat.reduceDiv, Nat.reduceMod, Int.reduceLT, Int.reduceLE, Int.reduceEq, Int.reduceNeg, Int.reduceToNat, Int.reduceSub, Int.reduceMul, Int.reduceNe, Nat.reduceAdd, Nat.reduceMul, Nat.reduceSub, Int.reduceAdd, reduceCtorEq, Go.Den.wh, kK, wxn, wimb, wgw, *, zT]) | (with_reducible (first | apply z1 | apply z2 | apply z3 | apply z4) <;> intro hq <;> (try simp only [zH] at hq) <;> (try (exfalso; omega)))))
  all_goals exact h
theorem ev_Of1 (x : Nat) (hx : x < 256) : lim Try.prog cfg (.call 37 [FL 1 [.int .u8 x]]) (HP []) = some (.val (.agg ⟨setC (one x)⟩), HP []) := by
  have h := of_step x hx 0#256 0#256
  rw [show (0#256 ||| one x) = one x by simp] at h
  unfold bsB at h
  rw [show setC 0#256 = [.int .u64 0, .int .u64 0, .int .u64 0, .int .u64 0] from rfl] at h
  have h0 : ((1 : Nat) : Int) = 1 := rfl
  refine wjc hc wqbb (Nat.le_of_ble_eq_true rfl) (Nat.le_of_ble_eq_true rfl) ?_
  unfold wzy
  (repeat' (first | (simp -implicitDefEqProofs (maxSteps := 2000000) (disch := first | with_reducible assumption | omega | (simp only [zS, zA, Nat.reduceEqDiff, Nat.reduceLT, Nat.reduceLeDiff, Nat.reduceAdd, Nat.reduceSub, reduceCtorEq, wbz, zD] <;> omega) | fail) only [zS, argl, insA, Go.Den.wm, wo, wu, looks, wfb, web, idOf, riA, Nat.reduceLeDiff, Nat.reduceLT, Nat.reduceEqDiff, Nat.reduceDiv, Nat.reduceMod, Int.reduceLT, Int.reduceLE, Int.reduceEq, Int.reduceNeg, Int.reduceToNat, Int.reduceSub, Int.reduceMul, Int.reduceNe, Nat.reduceAdd, Nat.reduceMul, Nat.reduceSub, Int.reduceAdd, reduceCtorEq, Go.Den.wh, kK, wxn, *, zT]) | (with_reducible (first | apply z1 | apply z2 | apply z3 | apply z4) <;> intro hq <;> (try simp only [zH] at hq) <;> (try (exfalso; omega)))))
end
end Go.Proofs.Ytdbhfmdndiphcaa
namespace Go.Den
noncomputable section
variable {P : Program}
end
end Go.Den
namespace Go.Den
noncomputable section
theorem wicb : nfL [] = [] := rfl
theorem wau {v : Value} {r : List Value} : nfL (v :: r) = nfV v :: nfL r := rfl
theorem wvmb {k : IntKind} {n : Int} : nfV (.int k n) = .int k n := rfl
theorem nf_FL {n : Nat} {cs : List Value} : nfV (FL n cs) = FL n cs := rfl
theorem wjcb : nfV (.slice none 0 0) = FL 0 [] := rfl
theorem wegb {h : List ABlk} (hh : h.length ≤ 1099511627774) {elem size bytes n : Nat} {new : List Value} (hn : n ≤ 16777216) (hb : bytes ≤ 1048576) (ha : wwe (nfL new) = true) :
    appN h elem size bytes (.slice none 0 0) n new = .eff (FO h.length n (nfL new)) (HP (h ++ [.tok n elem size])) := by
  show (bif roomy n bytes then wyh true (HP h) elem size new n else .none) = _
  have h1 : roomy n bytes = true := by unfold roomy; rw [nble, nble, decide_eq_true hn, decide_eq_true hb]; rfl
  rw [h1, cond_true]
  show (bif wvw (HP h) (nfL new) then ARes.eff (FO (HP h).n n (nfL new)) ((HP h).push (.tok n elem size)) else .none) = _
  have h2 : wvw (HP h) (nfL new) = true := by
    unfold wvw
    rw [wvi ha, wun ha, HP_n, wih hh]; rfl
  rw [h2, cond_true, HP_n, wxj]
theorem wwmb {h : List ABlk} (hh : h.length ≤ 1099511627774) {elem size bytes t len n : Nat} {cs new : List Value} (ht : t < h.length) (hn : len + n ≤ 16777216) (hb : bytes ≤ 1048576) (hc : cs.length = len * size) (ha : wwe (nfL new) = true) :
    appN h elem size bytes (FO t len cs) n new = appT h elem size t len n cs (nfL new) h[t]? := by
  show (bif roomy (len + n) bytes then wml (HP h) elem size t len cs (nfL new) n else .none) = _
  have h1 : roomy (len + n) bytes = true := by unfold roomy; rw [nble, nble, decide_eq_true hn, decide_eq_true hb]; rfl
  rw [h1, cond_true]
  generalize nfL new = new at *
  unfold wml
  rw [wuh h hh]
  cases hq : h[t]? with
  | none => rfl
  | some b =>
    cases b with
    | cells b => rfl
    | map es => rfl
    | tok m el es =>
      show (bif wgp m el es elem size t len cs new then _ else _) = (bif decide (m = len ∧ el = elem ∧ es = size) then _ else _)
      have h2 : wgp m el es elem size t len cs new = decide (m = len ∧ el = elem ∧ es = size) := by
        unfold wgp
        rw [wvi ha, wun ha, hc, Nat.beq_refl, wih (by omega), nbeq, nbeq, nbeq]
        by_cases q1 : m = len <;> by_cases q2 : el = elem <;> by_cases q3 : es = size <;> simp [q1, q2, q3]
      rw [h2, wnr _ _ _ ht]
      by_cases q : m = len ∧ el = elem ∧ es = size
      · obtain ⟨rfl, rfl, rfl⟩ := q; rfl
      · rw [decide_eq_false q]; rfl
end
end Go.Den
namespace Go.Proofs.Ytdbhfmdndiphcaa
set_option linter.unusedVariables false
set_option linter.unusedSimpArgs false
open Go.Den
noncomputable section
theorem wjl {l : List Int} {x : Int} : ints (l ++ [x]) = ints l ++ [.int .i64 x] := by rw [ints, List.map_append]; rfl
theorem rxs_snoc {l : List Rx} {r : Rx} : rxsC (l ++ [r]) = rxsC l ++ rxC r := by
  induction l with
  | nil => rw [List.nil_append, rxsC, rxsC, rxsC, List.append_nil]; rfl
  | cons a l ih => rw [List.cons_append, rxsC, ih, rxsC, List.append_assoc]
theorem wgcc {b : UInt8} : rxC (setR b) = [.int .i64 1, .int .i64 0, .int .i64 0, .int .i64 0, wdV (one b.toNat) 0, wdV (one b.toNat) 1, wdV (one b.toNat) 2, wdV (one b.toNat) 3, FL 0 []] := by rw [setR, rxC, rxsC]; rfl
abbrev ftP : Value := .pointer (some ⟨0, 0, none⟩)
def rxF (t n : Nat) (c : List Value) : List Value := [.int .i64 2, .int .i64 0, .int .i64 0, .int .i64 0, .int .u64 0, .int .u64 0, .int .u64 0, .int .u64 0, FO t n c]
theorem ft_kidsC (s t : List UInt8) (ht : t.length ≤ 2) : ∀ (k i : Nat), i + k = t.length → 0 < i →
    lim Try.prog cfg (.loop 8 0 (wz 0) (SE (EJ 128 G0) [(22, .int .i64 i), (21, .int .i64 t.length), (7, FO 0 i (rxsC ((t.take i).map setR))), (6, str t), (5, str s)])) (HP [.tok i 47 9]) = some (.code (.exit 0) (SE (EJ 128 G0) [(7, FO 0 t.length (rxsC (t.map setR))), (6, str t), (5, str s)]), HP [.tok t.length 47 9]) := by
  intro k
  induction k with
  | zero =>
    intro i hi h0
    obtain rfl : i = t.length := by omega
    rw [List.take_length]
    refine ww wsd ?_
    unfold wnd
    (repeat' (first | (simp -implicitDefEqProofs (maxSteps := 2000000) (disch := first | with_reducible assumption | omega | (simp only [zS, zA, Nat.reduceEqDiff, Nat.reduceLT, Nat.reduceLeDiff, Nat.reduceAdd, Nat.reduceSub, reduceCtorEq, zD] <;> omega) | fail) only [zS, argl, insA, Go.Den.wm, wo, wu, looks, wfb, web, idOf, riA, Nat.reduceLeDiff, Nat.reduceLT, Nat.reduceEqDiff, Nat.reduceDiv, Nat.reduceMod, Int.reduceLT, Int.reduceLE, Int.reduceEq, Int.reduceNeg, Int.reduceToNat, Int.reduceSub, Int.reduceMul, Int.reduceNe, Nat.reduceAdd, Nat.reduceMul, Nat.reduceSub, Int.reduceAdd, reduceCtorEq, Go.Den.wh, kK, wkc, *, zT]) | (with_reducible (first | apply z1 | apply z2 | apply z3 | apply z4) <;> intro hq <;> (try simp only [zH] at hq) <;> (try (exfalso; omega)))))
  | succ k ih =>
    intro i hi h0
    have h := ih (i + 1) (by omega) (by omega)
    have e : (t.take (i + 1)).map setR = (t.take i).map setR ++ [setR (t.getD i 0)] := by
      rw [List.take_add_one, List.getD_eq_getElem?_getD, List.getElem?_eq_getElem (show i < t.length by omega), List.map_append]; rfl
    rw [e, rxs_snoc, wgcc] at h
    have hl : ((t.take i).map setR).length = i := by rw [List.length_map, List.length_take]; omega
    clear ih e
    have ho := ev_Of1 (t.getD i 0).toNat (t.getD i 0).toNat_lt
    refine ww wsd ?_
    unfold wnd
    (repeat' (first | (simp -implicitDefEqProofs (maxSteps := 2000000) (disch := first | with_reducible assumption | omega | (simp only [zS, zA, Nat.reduceEqDiff, Nat.reduceLT, Nat.reduceLeDiff, Nat.reduceAdd, Nat.reduceSub, reduceCtorEq, wicb, wau, wvmb, nf_FL, wjcb, zD] <;> omega) | fail) only [zS, argl, insA, Go.Den.wm, wo, wu, looks, wfb, web, idOf, riA, Nat.reduceLeDiff, Nat.reduceLT, Nat.reduceEqDiff, Nat.reduceDiv, Nat.reduceMod, Int.reduceLT, Int.reduceLE, Int.reduceEq, Int.reduceNeg, Int.reduceToNat, Int.reduceSub, Int.reduceMul, Int.reduceNe, Nat.reduceAdd, Nat.reduceMul, Nat.reduceSub, Int.reduceAdd, reduceCtorEq, Go.Den.wh, kK, wkc, wmb, wrb, wicb, wau, wvmb, nf_FL, wjcb, wegb, wwmb, wdgb, *, zT]) | (with_reducible (first | apply z1 | apply z2 | apply z3 | apply z4) <;> intro hq <;> (try simp only [zH] at hq) <;> (try (exfalso; omega)))))
    all_goals exact h
theorem rxs_one {r : Rx} : rxsC [r] = rxC r := by rw [rxsC, rxsC, List.append_nil]
theorem wxmb (s t : List UInt8) (ht : t.length ≤ 2) (h0 : 0 < t.length) :
    lim Try.prog cfg (.loop 8 0 (wz 0) (SE (EJ 128 G0) [(22, .int .i64 0), (21, .int .i64 t.length), (7, .slice none 0 0), (6, str t), (5, str s)])) (HP []) = some (.code (.exit 0) (SE (EJ 128 G0) [(7, FO 0 t.length (rxsC (t.map setR))), (6, str t), (5, str s)]), HP [.tok t.length 47 9]) := by
  have h := ft_kidsC s t ht (t.length - 1) 1 (by omega) (by omega)
  have e : (t.take 1).map setR = [setR (t.getD 0 0)] := by
    cases t with
    | nil => cases h0
    | cons a t => rfl
  rw [e, rxs_one, wgcc, show ((1 : Nat) : Int) = 1 from rfl] at h
  have ho := ev_Of1 (t.getD 0 0).toNat (t.getD 0 0).toNat_lt
  clear e
  refine ww wsd ?_
  unfold wnd
  (repeat' (first | (simp -implicitDefEqProofs (maxSteps := 2000000) (disch := first | with_reducible assumption | omega | (simp only [zS, zA, Nat.reduceEqDiff, Nat.reduceLT, Nat.reduceLeDiff, Nat.reduceAdd, Nat.reduceSub, reduceCtorEq, wicb, wau, wvmb, nf_FL, wjcb, zD] <;> omega) | fail) only [zS, argl, insA, Go.Den.wm, wo, wu, looks, wfb, web, idOf, riA, Nat.reduceLeDiff, Nat.reduceLT, Nat.reduceEqDiff, Nat.reduceDiv, Nat.reduceMod, Int.reduceLT, Int.reduceLE, Int.reduceEq, Int.reduceNeg, Int.reduceToNat, Int.reduceSub, Int.reduceMul, Int.reduceNe, Nat.reduceAdd, Nat.reduceMul, Nat.reduceSub, Int.reduceAdd, reduceCtorEq, Go.Den.wh, kK, wkc, wmb, wrb, wicb, wau, wvmb, nf_FL, wjcb, wegb, wwmb, wdgb, *, zT]) | (with_reducible (first | apply z1 | apply z2 | apply z3 | apply z4) <;> intro hq <;> (try simp only [zH] at hq) <;> (try (exfalso; omega)))))
theorem ft_kids0 (s : List UInt8) :
    lim Try.prog cfg (.loop 8 0 (wz 0) (SE (EJ 128 G0) [(22, .int .i64 0), (21, .int .i64 0), (7, .slice none 0 0), (6, str []), (5, str s)])) (HP []) = some (.code (.exit 0) (SE (EJ 128 G0) [(7, .slice none 0 0), (6, str []), (5, str s)]), HP []) := by
  refine ww wsd ?_
  unfold wnd
  (repeat' (first | (simp -implicitDefEqProofs (maxSteps := 2000000) (disch := first | with_reducible assumption | omega | (simp only [zS, zA, Nat.reduceEqDiff, Nat.reduceLT, Nat.reduceLeDiff, Nat.reduceAdd, Nat.reduceSub, reduceCtorEq, zD] <;> omega) | fail) only [zS, argl, insA, Go.Den.wm, wo, wu, looks, wfb, web, idOf, riA, Nat.reduceLeDiff, Nat.reduceLT, Nat.reduceEqDiff, Nat.reduceDiv, Nat.reduceMod, Int.reduceLT, Int.reduceLE, Int.reduceEq, Int.reduceNeg, Int.reduceToNat, Int.reduceSub, Int.reduceMul, Int.reduceNe, Nat.reduceAdd, Nat.reduceMul, Nat.reduceSub, Int.reduceAdd, reduceCtorEq, Go.Den.wh, kK, wkc, wmb, wrb, *, zT]) | (with_reducible (first | apply z1 | apply z2 | apply z3 | apply z4) <;> intro hq <;> (try simp only [zH] at hq) <;> (try (exfalso; omega)))))
def zs (l : List Nat) : List Int := l.map Int.ofNat
theorem wts {a : Nat} {l : List Nat} : zs (a :: l) = (a : Int) :: zs l := rfl
theorem wao : zs [] = [] := rfl
theorem whcc {l : List Nat} : (zs l).length = l.length := List.length_map ..
theorem wwo {s t : List UInt8} {i : Nat} (hl : i + t.length ≤ s.length) : wbk s t i = decide ((s.take (i + t.length)).drop i = t) := by
  unfold wbk
  rw [decide_eq_true hl, Bool.true_and]
def ftV (t : Nat) (l : List Int) : Value := if l = [] then .slice none 0 0 else FO t l.length (ints l)
theorem wymb {t : Nat} {l : List Int} (h : l ≠ []) : ftV t l = FO t l.length (ints l) := by unfold ftV; rw [if_neg h]
set_option maxHeartbeats 2000000 in
theorem ft_wA (s t : List UInt8) (hs : s.length ≤ 12) (ht : 0 < t.length) (ht2 : t.length ≤ 2) (r : Rx) : ∀ (k i : Nat) (l : List Int), s.length + 1 ≤ i + k → i ≤ s.length + 1 → l.length ≤ i → l ≠ [] →
    lim Try.prog cfg (.loop 8 0 (wz 1) (SE (EJ 128 G0) [(11, .int .i64 i), (10, FO 1 l.length (ints l)), (9, ftP), (6, str t), (5, str s)])) (HP [X (rxC r) 47 0 false, .tok l.length 3 1]) = some (.code (.exit 2) (SE (EJ 128 G0) [(10, FO 1 (l ++ zs (wic s t k i)).length (ints (l ++ zs (wic s t k i)))), (9, ftP), (6, str t), (5, str s)]), HP [X (rxC r) 47 0 false, .tok (l ++ zs (wic s t k i)).length 3 1]) := by
  intro k
  induction k with
  | zero =>
    intro i l hi hi2 hl hne
    rw [wic, wao, List.append_nil]
    refine ww wgb ?_
    unfold whb
    (repeat' (first | (simp -implicitDefEqProofs (maxSteps := 2000000) (disch := first | with_reducible assumption | omega | (simp only [zS, zA, Nat.reduceEqDiff, Nat.reduceLT, Nat.reduceLeDiff, Nat.reduceAdd, Nat.reduceSub, reduceCtorEq, zD] <;> omega) | fail) only [zS, argl, insA, Go.Den.wm, wo, wu, looks, wfb, web, idOf, riA, Nat.reduceLeDiff, Nat.reduceLT, Nat.reduceEqDiff, Nat.reduceDiv, Nat.reduceMod, Int.reduceLT, Int.reduceLE, Int.reduceEq, Int.reduceNeg, Int.reduceToNat, Int.reduceSub, Int.reduceMul, Int.reduceNe, Nat.reduceAdd, Nat.reduceMul, Nat.reduceSub, Int.reduceAdd, reduceCtorEq, Go.Den.wh, kK, wdb, wmb, wrb, *, zT]) | (with_reducible (first | apply z1 | apply z2 | apply z3 | apply z4) <;> intro hq <;> (try simp only [zH] at hq) <;> (try (exfalso; omega)))))
  | succ k ih =>
    intro i l hi hi2 hl hne
    rw [wic]
    by_cases hq : i + t.length ≤ s.length
    · rw [if_pos hq, wwo hq]
      have e1 : ((i : Int) + t.length).toNat = i + t.length := by omega
      by_cases hst : (s.take (i + t.length)).drop i = t
      · rw [decide_eq_true hst, if_pos rfl, wts]
        have h := ih (i + t.length) (l ++ [(i : Int)]) (by omega) (by omega) (by rw [List.length_append, List.length_singleton]; omega) (by simp)
        rw [List.append_assoc, List.singleton_append] at h
        generalize l ++ ((i : Int) :: zs (wic s t k (i + t.length))) = L at h ⊢
        rw [wjl, List.length_append, List.length_singleton] at h
        have e2 : (i : Int) + t.length - 1 + 1 = ((i + t.length : Nat) : Int) := by omega
        clear ih
        refine ww wgb ?_
        unfold whb
        (repeat' (first | (simp -implicitDefEqProofs (maxSteps := 2000000) (disch := first | with_reducible assumption | omega | (simp only [zS, zA, Nat.reduceEqDiff, Nat.reduceLT, Nat.reduceLeDiff, Nat.reduceAdd, Nat.reduceSub, reduceCtorEq, wqb, zD] <;> omega) | fail) only [zS, argl, insA, Go.Den.wm, wo, wu, looks, wfb, web, idOf, riA, Nat.reduceLeDiff, Nat.reduceLT, Nat.reduceEqDiff, Nat.reduceDiv, Nat.reduceMod, Int.reduceLT, Int.reduceLE, Int.reduceEq, Int.reduceNeg, Int.reduceToNat, Int.reduceSub, Int.reduceMul, Int.reduceNe, Nat.reduceAdd, Nat.reduceMul, Nat.reduceSub, Int.reduceAdd, reduceCtorEq, Go.Den.wh, kK, wdb, wmb, wrb, wqb, *, zT]) | (with_reducible (first | apply z1 | apply z2 | apply z3 | apply z4) <;> intro hq <;> (try simp only [zH] at hq) <;> (try (exfalso; omega)))))
        all_goals exact h
      · rw [decide_eq_false hst, if_neg (by simp)]
        have h := ih (i + 1) l (by omega) (by omega) (by omega) hne
        generalize l ++ zs (wic s t k (i + 1)) = L at h ⊢
        clear ih
        refine ww wgb ?_
        unfold whb
        (repeat' (first | (simp -implicitDefEqProofs (maxSteps := 2000000) (disch := first | with_reducible assumption | omega | (simp only [zS, zA, Nat.reduceEqDiff, Nat.reduceLT, Nat.reduceLeDiff, Nat.reduceAdd, Nat.reduceSub, reduceCtorEq, wqb, zD] <;> omega) | fail) only [zS, argl, insA, Go.Den.wm, wo, wu, looks, wfb, web, idOf, riA, Nat.reduceLeDiff, Nat.reduceLT, Nat.reduceEqDiff, Nat.reduceDiv, Nat.reduceMod, Int.reduceLT, Int.reduceLE, Int.reduceEq, Int.reduceNeg, Int.reduceToNat, Int.reduceSub, Int.reduceMul, Int.reduceNe, Nat.reduceAdd, Nat.reduceMul, Nat.reduceSub, Int.reduceAdd, reduceCtorEq, Go.Den.wh, kK, wdb, wmb, wrb, wqb, *, zT]) | (with_reducible (first | apply z1 | apply z2 | apply z3 | apply z4) <;> intro hq <;> (try simp only [zH] at hq) <;> (try (exfalso; omega)))))
        all_goals exact h
    · rw [if_neg hq, wao, List.append_nil]
      clear ih
      refine ww wgb ?_
      unfold whb
      (repeat' (first | (simp -implicitDefEqProofs (maxSteps := 2000000) (disch := first | with_reducible assumption | omega | (simp only [zS, zA, Nat.reduceEqDiff, Nat.reduceLT, Nat.reduceLeDiff, Nat.reduceAdd, Nat.reduceSub, reduceCtorEq, zD] <;> omega) | fail) only [zS, argl, insA, Go.Den.wm, wo, wu, looks, wfb, web, idOf, riA, Nat.reduceLeDiff, Nat.reduceLT, Nat.reduceEqDiff, Nat.reduceDiv, Nat.reduceMod, Int.reduceLT, Int.reduceLE, Int.reduceEq, Int.reduceNeg, Int.reduceToNat, Int.reduceSub, Int.reduceMul, Int.reduceNe, Nat.reduceAdd, Nat.reduceMul, Nat.reduceSub, Int.reduceAdd, reduceCtorEq, Go.Den.wh, kK, wdb, wmb, wrb, *, zT]) | (with_reducible (first | apply z1 | apply z2 | apply z3 | apply z4) <;> intro hq <;> (try simp only [zH] at hq) <;> (try (exfalso; omega)))))
set_option maxHeartbeats 2000000 in
theorem ft_wB (s t : List UInt8) (hs : s.length ≤ 12) (ht : 0 < t.length) (ht2 : t.length ≤ 2) (n : Nat) (c : List Value) : ∀ (k i : Nat) (l : List Int), s.length + 1 ≤ i + k → i ≤ s.length + 1 → l.length ≤ i → l ≠ [] →
    lim Try.prog cfg (.loop 8 0 (wz 1) (SE (EJ 128 G0) [(11, .int .i64 i), (10, FO 1 l.length (ints l)), (9, ftP), (6, str t), (5, str s)])) (HP [X (rxF 2 n c) 47 0 false, .tok l.length 3 1, .tok n 47 9]) = some (.code (.exit 2) (SE (EJ 128 G0) [(10, FO 1 (l ++ zs (wic s t k i)).length (ints (l ++ zs (wic s t k i)))), (9, ftP), (6, str t), (5, str s)]), HP [X (rxF 2 n c) 47 0 false, .tok (l ++ zs (wic s t k i)).length 3 1, .tok n 47 9]) := by
  intro k
  induction k with
  | zero =>
    intro i l hi hi2 hl hne
    rw [wic, wao, List.append_nil]
    refine ww wgb ?_
    unfold whb
    (repeat' (first | (simp -implicitDefEqProofs (maxSteps := 2000000) (disch := first | with_reducible assumption | omega | (simp only [zS, zA, Nat.reduceEqDiff, Nat.reduceLT, Nat.reduceLeDiff, Nat.reduceAdd, Nat.reduceSub, reduceCtorEq, zD] <;> omega) | fail) only [zS, argl, insA, Go.Den.wm, wo, wu, looks, wfb, web, idOf, riA, Nat.reduceLeDiff, Nat.reduceLT, Nat.reduceEqDiff, Nat.reduceDiv, Nat.reduceMod, Int.reduceLT, Int.reduceLE, Int.reduceEq, Int.reduceNeg, Int.reduceToNat, Int.reduceSub, Int.reduceMul, Int.reduceNe, Nat.reduceAdd, Nat.reduceMul, Nat.reduceSub, Int.reduceAdd, reduceCtorEq, Go.Den.wh, kK, wdb, wmb, wrb, rxF, *, zT]) | (with_reducible (first | apply z1 | apply z2 | apply z3 | apply z4) <;> intro hq <;> (try simp only [zH] at hq) <;> (try (exfalso; omega)))))
  | succ k ih =>
    intro i l hi hi2 hl hne
    rw [wic]
    by_cases hq : i + t.length ≤ s.length
    · rw [if_pos hq, wwo hq]
      have e1 : ((i : Int) + t.length).toNat = i + t.length := by omega
      by_cases hst : (s.take (i + t.length)).drop i = t
      · rw [decide_eq_true hst, if_pos rfl, wts]
        have h := ih (i + t.length) (l ++ [(i : Int)]) (by omega) (by omega) (by rw [List.length_append, List.length_singleton]; omega) (by simp)
        rw [List.append_assoc, List.singleton_append] at h
        generalize l ++ ((i : Int) :: zs (wic s t k (i + t.length))) = L at h ⊢
        rw [wjl, List.length_append, List.length_singleton] at h
        have e2 : (i : Int) + t.length - 1 + 1 = ((i + t.length : Nat) : Int) := by omega
        clear ih
        refine ww wgb ?_
        unfold whb
        (repeat' (first | (simp -implicitDefEqProofs (maxSteps := 2000000) (disch := first | with_reducible assumption | omega | (simp only [zS, zA, Nat.reduceEqDiff, Nat.reduceLT, Nat.reduceLeDiff, Nat.reduceAdd, Nat.reduceSub, reduceCtorEq, wqb, zD] <;> omega) | fail) only [zS, argl, insA, Go.Den.wm, wo, wu, looks, wfb, web, idOf, riA, Nat.reduceLeDiff, Nat.reduceLT, Nat.reduceEqDiff, Nat.reduceDiv, Nat.reduceMod, Int.reduceLT, Int.reduceLE, Int.reduceEq, Int.reduceNeg, Int.reduceToNat, Int.reduceSub, Int.reduceMul, Int.reduceNe, Nat.reduceAdd, Nat.reduceMul, Nat.reduceSub, Int.reduceAdd, reduceCtorEq, Go.Den.wh, kK, wdb, wmb, wrb, wqb, rxF, *, zT]) | (with_reducible (first | apply z1 | apply z2 | apply z3 | apply z4) <;> intro hq <;> (try simp only [zH] at hq) <;> (try (exfalso; omega)))))
        all_goals exact h
      · rw [decide_eq_false hst, if_neg (by simp)]
        have h := ih (i + 1) l (by omega) (by omega) (by omega) hne
        generalize l ++ zs (wic s t k (i + 1)) = L at h ⊢
        clear ih
        refine ww wgb ?_
        unfold whb
        (repeat' (first | (simp -implicitDefEqProofs (maxSteps := 2000000) (disch := first | with_reducible assumption | omega | (simp only [zS, zA, Nat.reduceEqDiff, Nat.reduceLT, Nat.reduceLeDiff, Nat.reduceAdd, Nat.reduceSub, reduceCtorEq, wqb, zD] <;> omega) | fail) only [zS, argl, insA, Go.Den.wm, wo, wu, looks, wfb, web, idOf, riA, Nat.reduceLeDiff, Nat.reduceLT, Nat.reduceEqDiff, Nat.reduceDiv, Nat.reduceMod, Int.reduceLT, Int.reduceLE, Int.reduceEq, Int.reduceNeg, Int.reduceToNat, Int.reduceSub, Int.reduceMul, Int.reduceNe, Nat.reduceAdd, Nat.reduceMul, Nat.reduceSub, Int.reduceAdd, reduceCtorEq, Go.Den.wh, kK, wdb, wmb, wrb, wqb, rxF, *, zT]) | (with_reducible (first | apply z1 | apply z2 | apply z3 | apply z4) <;> intro hq <;> (try simp only [zH] at hq) <;> (try (exfalso; omega)))))
        all_goals exact h
    · rw [if_neg hq, wao, List.append_nil]
      clear ih
      refine ww wgb ?_
      unfold whb
      (repeat' (first | (simp -implicitDefEqProofs (maxSteps := 2000000) (disch := first | with_reducible assumption | omega | (simp only [zS, zA, Nat.reduceEqDiff, Nat.reduceLT, Nat.reduceLeDiff, Nat.reduceAdd, Nat.reduceSub, reduceCtorEq, zD] <;> omega) | fail) only [zS, argl, insA, Go.Den.wm, wo, wu, looks, wfb, web, idOf, riA, Nat.reduceLeDiff, Nat.reduceLT, Nat.reduceEqDiff, Nat.reduceDiv, Nat.reduceMod, Int.reduceLT, Int.reduceLE, Int.reduceEq, Int.reduceNeg, Int.reduceToNat, Int.reduceSub, Int.reduceMul, Int.reduceNe, Nat.reduceAdd, Nat.reduceMul, Nat.reduceSub, Int.reduceAdd, reduceCtorEq, Go.Den.wh, kK, wdb, wmb, wrb, rxF, *, zT]) | (with_reducible (first | apply z1 | apply z2 | apply z3 | apply z4) <;> intro hq <;> (try simp only [zH] at hq) <;> (try (exfalso; omega)))))
def ftA (r : Rx) (L : List Int) : List ABlk := if L = [] then [X (rxC r) 47 0 false] else [X (rxC r) 47 0 false, .tok L.length 3 1]
def ftB (n : Nat) (c : List Value) (L : List Int) : List ABlk := if L = [] then [X (rxF 1 n c) 47 0 false, .tok n 47 9] else [X (rxF 2 n c) 47 0 false, .tok L.length 3 1, .tok n 47 9]
theorem wicc {r : Rx} : ftA r [] = [X (rxC r) 47 0 false] := rfl
theorem ftA_ne {r : Rx} {L : List Int} (h : L ≠ []) : ftA r L = [X (rxC r) 47 0 false, .tok L.length 3 1] := by unfold ftA; rw [if_neg h]
theorem wjcc {n : Nat} {c : List Value} : ftB n c [] = [X (rxF 1 n c) 47 0 false, .tok n 47 9] := rfl
theorem ftB_ne {n : Nat} {c : List Value} {L : List Int} (h : L ≠ []) : ftB n c L = [X (rxF 2 n c) 47 0 false, .tok L.length 3 1, .tok n 47 9] := by unfold ftB; rw [if_neg h]
theorem wfz {t : Nat} : ftV t [] = .slice none 0 0 := rfl
theorem wrk {x : Int} : ints [x] = [.int .i64 x] := rfl
set_option maxHeartbeats 2000000 in
theorem ft_wNA (s t : List UInt8) (hs : s.length ≤ 12) (ht : 0 < t.length) (ht2 : t.length ≤ 2) (r : Rx) : ∀ (k i : Nat), s.length + 1 ≤ i + k → i ≤ s.length + 1 →
    lim Try.prog cfg (.loop 8 0 (wz 1) (SE (EJ 128 G0) [(11, .int .i64 i), (10, .slice none 0 0), (9, ftP), (6, str t), (5, str s)])) (HP [X (rxC r) 47 0 false]) = some (.code (.exit 2) (SE (EJ 128 G0) [(10, ftV 1 (zs (wic s t k i))), (9, ftP), (6, str t), (5, str s)]), HP (ftA r (zs (wic s t k i)))) := by
  intro k
  induction k with
  | zero =>
    intro i hi hi2
    rw [wic, wao, wfz, wicc]
    refine ww wgb ?_
    unfold whb
    (repeat' (first | (simp -implicitDefEqProofs (maxSteps := 2000000) (disch := first | with_reducible assumption | omega | (simp only [zS, zA, Nat.reduceEqDiff, Nat.reduceLT, Nat.reduceLeDiff, Nat.reduceAdd, Nat.reduceSub, reduceCtorEq, zD] <;> omega) | fail) only [zS, argl, insA, Go.Den.wm, wo, wu, looks, wfb, web, idOf, riA, Nat.reduceLeDiff, Nat.reduceLT, Nat.reduceEqDiff, Nat.reduceDiv, Nat.reduceMod, Int.reduceLT, Int.reduceLE, Int.reduceEq, Int.reduceNeg, Int.reduceToNat, Int.reduceSub, Int.reduceMul, Int.reduceNe, Nat.reduceAdd, Nat.reduceMul, Nat.reduceSub, Int.reduceAdd, reduceCtorEq, Go.Den.wh, kK, wdb, wmb, wrb, *, zT]) | (with_reducible (first | apply z1 | apply z2 | apply z3 | apply z4) <;> intro hq <;> (try simp only [zH] at hq) <;> (try (exfalso; omega)))))
  | succ k ih =>
    intro i hi hi2
    rw [wic]
    by_cases hq : i + t.length ≤ s.length
    · rw [if_pos hq, wwo hq]
      have e1 : ((i : Int) + t.length).toNat = i + t.length := by omega
      by_cases hst : (s.take (i + t.length)).drop i = t
      · rw [decide_eq_true hst, if_pos rfl, wts, wymb (by simp), ftA_ne (by simp)]
        by_cases h0 : i = 0
        · have h := ft_wA s t hs ht ht2 r k (i + t.length) [(i : Int)] (by omega) (by omega) (by rw [List.length_singleton]; omega) (by simp)
          rw [List.singleton_append] at h
          generalize ((i : Int) :: zs (wic s t k (i + t.length))) = L at h ⊢
          rw [wrk, List.length_singleton] at h
          have e2 : (i : Int) + t.length - 1 + 1 = ((i + t.length : Nat) : Int) := by omega
          clear ih
          clear h0
          refine ww wgb ?_
          unfold whb
          (repeat' (first | (simp -implicitDefEqProofs (maxSteps := 2000000) (disch := first | with_reducible assumption | omega | (simp only [zS, zA, Nat.reduceEqDiff, Nat.reduceLT, Nat.reduceLeDiff, Nat.reduceAdd, Nat.reduceSub, reduceCtorEq, wqb, zD] <;> omega) | fail) only [zS, argl, insA, Go.Den.wm, wo, wu, looks, wfb, web, idOf, riA, Nat.reduceLeDiff, Nat.reduceLT, Nat.reduceEqDiff, Nat.reduceDiv, Nat.reduceMod, Int.reduceLT, Int.reduceLE, Int.reduceEq, Int.reduceNeg, Int.reduceToNat, Int.reduceSub, Int.reduceMul, Int.reduceNe, Nat.reduceAdd, Nat.reduceMul, Nat.reduceSub, Int.reduceAdd, reduceCtorEq, Go.Den.wh, kK, wdb, wmb, wrb, wqb, *, zT]) | (with_reducible (first | apply z1 | apply z2 | apply z3 | apply z4) <;> intro hq <;> (try simp only [zH] at hq) <;> (try (exfalso; omega)))))
          all_goals exact h
        · have h := ft_wA s t hs ht ht2 r k (i + t.length) [(i : Int)] (by omega) (by omega) (by rw [List.length_singleton]; omega) (by simp)
          rw [List.singleton_append] at h
          generalize ((i : Int) :: zs (wic s t k (i + t.length))) = L at h ⊢
          rw [wrk, List.length_singleton] at h
          have e2 : (i : Int) + t.length - 1 + 1 = ((i + t.length : Nat) : Int) := by omega
          clear ih
          clear h0
          refine ww wgb ?_
          unfold whb
          (repeat' (first | (simp -implicitDefEqProofs (maxSteps := 2000000) (disch := first | with_reducible assumption | omega | (simp only [zS, zA, Nat.reduceEqDiff, Nat.reduceLT, Nat.reduceLeDiff, Nat.reduceAdd, Nat.reduceSub, reduceCtorEq, wqb, zD] <;> omega) | fail) only [zS, argl, insA, Go.Den.wm, wo, wu, looks, wfb, web, idOf, riA, Nat.reduceLeDiff, Nat.reduceLT, Nat.reduceEqDiff, Nat.reduceDiv, Nat.reduceMod, Int.reduceLT, Int.reduceLE, Int.reduceEq, Int.reduceNeg, Int.reduceToNat, Int.reduceSub, Int.reduceMul, Int.reduceNe, Nat.reduceAdd, Nat.reduceMul, Nat.reduceSub, Int.reduceAdd, reduceCtorEq, Go.Den.wh, kK, wdb, wmb, wrb, wqb, *, zT]) | (with_reducible (first | apply z1 | apply z2 | apply z3 | apply z4) <;> intro hq <;> (try simp only [zH] at hq) <;> (try (exfalso; omega)))))
          all_goals exact h
      · rw [decide_eq_false hst, if_neg (by simp)]
        have h := ih (i + 1) (by omega) (by omega)
        generalize ftV 1 (zs (wic s t k (i + 1))) = L at h ⊢
        generalize ftA r (zs (wic s t k (i + 1))) = M at h ⊢
        clear ih
        refine ww wgb ?_
        unfold whb
        (repeat' (first | (simp -implicitDefEqProofs (maxSteps := 2000000) (disch := first | with_reducible assumption | omega | (simp only [zS, zA, Nat.reduceEqDiff, Nat.reduceLT, Nat.reduceLeDiff, Nat.reduceAdd, Nat.reduceSub, reduceCtorEq, wqb, zD] <;> omega) | fail) only [zS, argl, insA, Go.Den.wm, wo, wu, looks, wfb, web, idOf, riA, Nat.reduceLeDiff, Nat.reduceLT, Nat.reduceEqDiff, Nat.reduceDiv, Nat.reduceMod, Int.reduceLT, Int.reduceLE, Int.reduceEq, Int.reduceNeg, Int.reduceToNat, Int.reduceSub, Int.reduceMul, Int.reduceNe, Nat.reduceAdd, Nat.reduceMul, Nat.reduceSub, Int.reduceAdd, reduceCtorEq, Go.Den.wh, kK, wdb, wmb, wrb, wqb, *, zT]) | (with_reducible (first | apply z1 | apply z2 | apply z3 | apply z4) <;> intro hq <;> (try simp only [zH] at hq) <;> (try (exfalso; omega)))))
        all_goals exact h
    · rw [if_neg hq, wao, wfz, wicc]
      clear ih
      refine ww wgb ?_
      unfold whb
      (repeat' (first | (simp -implicitDefEqProofs (maxSteps := 2000000) (disch := first | with_reducible assumption | omega | (simp only [zS, zA, Nat.reduceEqDiff, Nat.reduceLT, Nat.reduceLeDiff, Nat.reduceAdd, Nat.reduceSub, reduceCtorEq, zD] <;> omega) | fail) only [zS, argl, insA, Go.Den.wm, wo, wu, looks, wfb, web, idOf, riA, Nat.reduceLeDiff, Nat.reduceLT, Nat.reduceEqDiff, Nat.reduceDiv, Nat.reduceMod, Int.reduceLT, Int.reduceLE, Int.reduceEq, Int.reduceNeg, Int.reduceToNat, Int.reduceSub, Int.reduceMul, Int.reduceNe, Nat.reduceAdd, Nat.reduceMul, Nat.reduceSub, Int.reduceAdd, reduceCtorEq, Go.Den.wh, kK, wdb, wmb, wrb, *, zT]) | (with_reducible (first | apply z1 | apply z2 | apply z3 | apply z4) <;> intro hq <;> (try simp only [zH] at hq) <;> (try (exfalso; omega)))))
set_option maxHeartbeats 2000000 in
theorem ft_wNB (s t : List UInt8) (hs : s.length ≤ 12) (ht : 0 < t.length) (ht2 : t.length ≤ 2) (n : Nat) (c : List Value) : ∀ (k i : Nat), s.length + 1 ≤ i + k → i ≤ s.length + 1 →
    lim Try.prog cfg (.loop 8 0 (wz 1) (SE (EJ 128 G0) [(11, .int .i64 i), (10, .slice none 0 0), (9, ftP), (6, str t), (5, str s)])) (HP [X (rxF 1 n c) 47 0 false, .tok n 47 9]) = some (.code (.exit 2) (SE (EJ 128 G0) [(10, ftV 1 (zs (wic s t k i))), (9, ftP), (6, str t), (5, str s)]), HP (ftB n c (zs (wic s t k i)))) := by
  intro k
  induction k with
  | zero =>
    intro i hi hi2
    rw [wic, wao, wfz, wjcc]
    refine ww wgb ?_
    unfold whb
    (repeat' (first | (simp -implicitDefEqProofs (maxSteps := 2000000) (disch := first | with_reducible assumption | omega | (simp only [zS, zA, Nat.reduceEqDiff, Nat.reduceLT, Nat.reduceLeDiff, Nat.reduceAdd, Nat.reduceSub, reduceCtorEq, zD] <;> omega) | fail) only [zS, argl, insA, Go.Den.wm, wo, wu, looks, wfb, web, idOf, riA, Nat.reduceLeDiff, Nat.reduceLT, Nat.reduceEqDiff, Nat.reduceDiv, Nat.reduceMod, Int.reduceLT, Int.reduceLE, Int.reduceEq, Int.reduceNeg, Int.reduceToNat, Int.reduceSub, Int.reduceMul, Int.reduceNe, Nat.reduceAdd, Nat.reduceMul, Nat.reduceSub, Int.reduceAdd, reduceCtorEq, Go.Den.wh, kK, wdb, wmb, wrb, rxF, *, zT]) | (with_reducible (first | apply z1 | apply z2 | apply z3 | apply z4) <;> intro hq <;> (try simp only [zH] at hq) <;> (try (exfalso; omega)))))
  | succ k ih =>
    intro i hi hi2
    rw [wic]
    by_cases hq : i + t.length ≤ s.length
    · rw [if_pos hq, wwo hq]
      have e1 : ((i : Int) + t.length).toNat = i + t.length := by omega
      by_cases hst : (s.take (i + t.length)).drop i = t
      · rw [decide_eq_true hst, if_pos rfl, wts, wymb (by simp), ftB_ne (by simp)]
        by_cases h0 : i = 0
        · have h := ft_wB s t hs ht ht2 n c k (i + t.length) [(i : Int)] (by omega) (by omega) (by rw [List.length_singleton]; omega) (by simp)
          rw [List.singleton_append] at h
          generalize ((i : Int) :: zs (wic s t k (i + t.length))) = L at h ⊢
          rw [wrk, List.length_singleton] at h
          have e2 : (i : Int) + t.length - 1 + 1 = ((i + t.length : Nat) : Int) := by omega
          clear ih
          clear h0
          refine ww wgb ?_
          unfold whb
          (repeat' (first | (simp -implicitDefEqProofs (maxSteps := 2000000) (disch := first | with_reducible assumption | omega | (simp only [zS, zA, Nat.reduceEqDiff, Nat.reduceLT, Nat.reduceLeDiff, Nat.reduceAdd, Nat.reduceSub, reduceCtorEq, wqb, zD] <;> omega) | fail) only [zS, argl, insA, Go.Den.wm, wo, wu, looks, wfb, web, idOf, riA, Nat.reduceLeDiff, Nat.reduceLT, Nat.reduceEqDiff, Nat.reduceDiv, Nat.reduceMod, Int.reduceLT, Int.reduceLE, Int.reduceEq, Int.reduceNeg, Int.reduceToNat, Int.reduceSub, Int.reduceMul, Int.reduceNe, Nat.reduceAdd, Nat.reduceMul, Nat.reduceSub, Int.reduceAdd, reduceCtorEq, Go.Den.wh, kK, wdb, wmb, wrb, wqb, rxF, *, zT]) | (with_reducible (first | apply z1 | apply z2 | apply z3 | apply z4) <;> intro hq <;> (try simp only [zH] at hq) <;> (try (exfalso; omega)))))
          all_goals exact h
        · have h := ft_wB s t hs ht ht2 n c k (i + t.length) [(i : Int)] (by omega) (by omega) (by rw [List.length_singleton]; omega) (by simp)
          rw [List.singleton_append] at h
          generalize ((i : Int) :: zs (wic s t k (i + t.length))) = L at h ⊢
          rw [wrk, List.length_singleton] at h
          have e2 : (i : Int) + t.length - 1 + 1 = ((i + t.length : Nat) : Int) := by omega
          clear ih
          clear h0
          refine ww wgb ?_
          unfold whb
          (repeat' (first | (simp -implicitDefEqProofs (maxSteps := 2000000) (disch := first | with_reducible assumption | omega | (simp only [zS, zA, Nat.reduceEqDiff, Nat.reduceLT, Nat.reduceLeDiff, Nat.reduceAdd, Nat.reduceSub, reduceCtorEq, wqb, zD] <;> omega) | fail) only [zS, argl, insA, Go.Den.wm, wo, wu, looks, wfb, web, idOf, riA, Nat.reduceLeDiff, Nat.reduceLT, Nat.reduceEqDiff, Nat.reduceDiv, Nat.reduceMod, Int.reduceLT, Int.reduceLE, Int.reduceEq, Int.reduceNeg, Int.reduceToNat, Int.reduceSub, Int.reduceMul, Int.reduceNe, Nat.reduceAdd, Nat.reduceMul, Nat.reduceSub, Int.reduceAdd, reduceCtorEq, Go.Den.wh, kK, wdb, wmb, wrb, wqb, rxF, *, zT]) | (with_reducible (first | apply z1 | apply z2 | apply z3 | apply z4) <;> intro hq <;> (try simp only [zH] at hq) <;> (try (exfalso; omega)))))
          all_goals exact h
      · rw [decide_eq_false hst, if_neg (by simp)]
        have h := ih (i + 1) (by omega) (by omega)
        generalize ftV 1 (zs (wic s t k (i + 1))) = L at h ⊢
        generalize ftB n c (zs (wic s t k (i + 1))) = M at h ⊢
        clear ih
        refine ww wgb ?_
        unfold whb
        (repeat' (first | (simp -implicitDefEqProofs (maxSteps := 2000000) (disch := first | with_reducible assumption | omega | (simp only [zS, zA, Nat.reduceEqDiff, Nat.reduceLT, Nat.reduceLeDiff, Nat.reduceAdd, Nat.reduceSub, reduceCtorEq, wqb, zD] <;> omega) | fail) only [zS, argl, insA, Go.Den.wm, wo, wu, looks, wfb, web, idOf, riA, Nat.reduceLeDiff, Nat.reduceLT, Nat.reduceEqDiff, Nat.reduceDiv, Nat.reduceMod, Int.reduceLT, Int.reduceLE, Int.reduceEq, Int.reduceNeg, Int.reduceToNat, Int.reduceSub, Int.reduceMul, Int.reduceNe, Nat.reduceAdd, Nat.reduceMul, Nat.reduceSub, Int.reduceAdd, reduceCtorEq, Go.Den.wh, kK, wdb, wmb, wrb, wqb, rxF, *, zT]) | (with_reducible (first | apply z1 | apply z2 | apply z3 | apply z4) <;> intro hq <;> (try simp only [zH] at hq) <;> (try (exfalso; omega)))))
        all_goals exact h
    · rw [if_neg hq, wao, wfz, wjcc]
      clear ih
      refine ww wgb ?_
      unfold whb
      (repeat' (first | (simp -implicitDefEqProofs (maxSteps := 2000000) (disch := first | with_reducible assumption | omega | (simp only [zS, zA, Nat.reduceEqDiff, Nat.reduceLT, Nat.reduceLeDiff, Nat.reduceAdd, Nat.reduceSub, reduceCtorEq, zD] <;> omega) | fail) only [zS, argl, insA, Go.Den.wm, wo, wu, looks, wfb, web, idOf, riA, Nat.reduceLeDiff, Nat.reduceLT, Nat.reduceEqDiff, Nat.reduceDiv, Nat.reduceMod, Int.reduceLT, Int.reduceLE, Int.reduceEq, Int.reduceNeg, Int.reduceToNat, Int.reduceSub, Int.reduceMul, Int.reduceNe, Nat.reduceAdd, Nat.reduceMul, Nat.reduceSub, Int.reduceAdd, reduceCtorEq, Go.Den.wh, kK, wdb, wmb, wrb, rxF, *, zT]) | (with_reducible (first | apply z1 | apply z2 | apply z3 | apply z4) <;> intro hq <;> (try simp only [zH] at hq) <;> (try (exfalso; omega)))))
def rxN : List Value := [.int .i64 2, .int .i64 0, .int .i64 0, .int .i64 0, .int .u64 0, .int .u64 0, .int .u64 0, .int .u64 0, .slice none 0 0]
theorem ft_w0 (s : List UInt8) : lim Try.prog cfg (.loop 8 0 (wz 1) (SE (EJ 128 G0) [(11, .int .i64 0), (10, .slice none 0 0), (9, ftP), (6, str []), (5, str s)])) (HP [X rxN 47 0 false]) = some (.code (.exit 2) (SE (EJ 128 G0) [(10, .slice none 0 0), (9, ftP), (6, str []), (5, str s)]), HP [X rxN 47 0 false]) := by
  refine ww wgb ?_
  unfold whb
  (repeat' (first | (simp -implicitDefEqProofs (maxSteps := 2000000) (disch := first | with_reducible assumption | omega | (simp only [zS, zA, Nat.reduceEqDiff, Nat.reduceLT, Nat.reduceLeDiff, Nat.reduceAdd, Nat.reduceSub, reduceCtorEq, zD] <;> omega) | fail) only [zS, argl, insA, Go.Den.wm, wo, wu, looks, wfb, web, idOf, riA, Nat.reduceLeDiff, Nat.reduceLT, Nat.reduceEqDiff, Nat.reduceDiv, Nat.reduceMod, Int.reduceLT, Int.reduceLE, Int.reduceEq, Int.reduceNeg, Int.reduceToNat, Int.reduceSub, Int.reduceMul, Int.reduceNe, Nat.reduceAdd, Nat.reduceMul, Nat.reduceSub, Int.reduceAdd, reduceCtorEq, Go.Den.wh, kK, wdb, wmb, wrb, rxN, *, zT]) | (with_reducible (first | apply z1 | apply z2 | apply z3 | apply z4) <;> intro hq <;> (try simp only [zH] at hq) <;> (try (exfalso; omega)))))
theorem ft_z (s : List UInt8) (hs : s.length ≤ 12) : ∀ (k i : Nat) (l : List Int), i + k = s.length + 1 → l.length ≤ i → l ≠ [] →
    lim Try.prog cfg (.loop 8 0 (wz 2) (SE (EJ 128 G0) [(12, .int .i64 i), (10, FO 1 l.length (ints l)), (9, ftP), (6, str []), (5, str s)])) (HP [X rxN 47 0 false, .tok l.length 3 1]) = some (.code (.exit 4) (SE (EJ 128 G0) [(10, FO 1 (l ++ zs (List.range' i k)).length (ints (l ++ zs (List.range' i k)))), (9, ftP), (6, str []), (5, str s)]), HP [X rxN 47 0 false, .tok (l ++ zs (List.range' i k)).length 3 1]) := by
  intro k
  induction k with
  | zero =>
    intro i l hi hl hne
    rw [List.range'_zero, wao, List.append_nil]
    refine ww wue ?_
    unfold wge
    (repeat' (first | (simp -implicitDefEqProofs (maxSteps := 2000000) (disch := first | with_reducible assumption | omega | (simp only [zS, zA, Nat.reduceEqDiff, Nat.reduceLT, Nat.reduceLeDiff, Nat.reduceAdd, Nat.reduceSub, reduceCtorEq, zD] <;> omega) | fail) only [zS, argl, insA, Go.Den.wm, wo, wu, looks, wfb, web, idOf, riA, Nat.reduceLeDiff, Nat.reduceLT, Nat.reduceEqDiff, Nat.reduceDiv, Nat.reduceMod, Int.reduceLT, Int.reduceLE, Int.reduceEq, Int.reduceNeg, Int.reduceToNat, Int.reduceSub, Int.reduceMul, Int.reduceNe, Nat.reduceAdd, Nat.reduceMul, Nat.reduceSub, Int.reduceAdd, reduceCtorEq, Go.Den.wh, kK, wpc, wmb, wrb, rxN, *, zT]) | (with_reducible (first | apply z1 | apply z2 | apply z3 | apply z4) <;> intro hq <;> (try simp only [zH] at hq) <;> (try (exfalso; omega)))))
  | succ k ih =>
    intro i l hi hl hne
    have h := ih (i + 1) (l ++ [(i : Int)]) (by omega) (by rw [List.length_append, List.length_singleton]; omega) (by simp)
    rw [List.range'_succ, wts]
    rw [List.append_assoc, List.singleton_append] at h
    generalize l ++ ((i : Int) :: zs (List.range' (i + 1) k)) = L at h ⊢
    rw [wjl, List.length_append, List.length_singleton] at h
    clear ih
    refine ww wue ?_
    unfold wge
    (repeat' (first | (simp -implicitDefEqProofs (maxSteps := 2000000) (disch := first | with_reducible assumption | omega | (simp only [zS, zA, Nat.reduceEqDiff, Nat.reduceLT, Nat.reduceLeDiff, Nat.reduceAdd, Nat.reduceSub, reduceCtorEq, wqb, zD] <;> omega) | fail) only [zS, argl, insA, Go.Den.wm, wo, wu, looks, wfb, web, idOf, riA, Nat.reduceLeDiff, Nat.reduceLT, Nat.reduceEqDiff, Nat.reduceDiv, Nat.reduceMod, Int.reduceLT, Int.reduceLE, Int.reduceEq, Int.reduceNeg, Int.reduceToNat, Int.reduceSub, Int.reduceMul, Int.reduceNe, Nat.reduceAdd, Nat.reduceMul, Nat.reduceSub, Int.reduceAdd, reduceCtorEq, Go.Den.wh, kK, wpc, wmb, wrb, wqb, rxN, *, zT]) | (with_reducible (first | apply z1 | apply z2 | apply z3 | apply z4) <;> intro hq <;> (try simp only [zH] at hq) <;> (try (exfalso; omega)))))
    all_goals exact h
theorem ft_zN (s : List UInt8) (hs : s.length ≤ 12) :
    lim Try.prog cfg (.loop 8 0 (wz 2) (SE (EJ 128 G0) [(12, .int .i64 0), (10, .slice none 0 0), (9, ftP), (6, str []), (5, str s)])) (HP [X rxN 47 0 false]) = some (.code (.exit 4) (SE (EJ 128 G0) [(10, FO 1 (zs (List.range' 0 (s.length + 1))).length (ints (zs (List.range' 0 (s.length + 1))))), (9, ftP), (6, str []), (5, str s)]), HP [X rxN 47 0 false, .tok (zs (List.range' 0 (s.length + 1))).length 3 1]) := by
  have h := ft_z s hs s.length 1 [0] (by omega) (by simp) (by simp)
  rw [List.range'_succ, wts]
  rw [List.singleton_append] at h
  rw [show ((0 : Nat) : Int) = 0 from rfl, Nat.zero_add]
  generalize ((0 : Int) :: zs (List.range' 1 s.length)) = L at h ⊢
  rw [wrk, List.length_singleton] at h
  rw [show ((1 : Nat) : Int) = 1 from rfl] at h
  refine ww wue ?_
  unfold wge
  (repeat' (first | (simp -implicitDefEqProofs (maxSteps := 2000000) (disch := first | with_reducible assumption | omega | (simp only [zS, zA, Nat.reduceEqDiff, Nat.reduceLT, Nat.reduceLeDiff, Nat.reduceAdd, Nat.reduceSub, reduceCtorEq, wqb, zD] <;> omega) | fail) only [zS, argl, insA, Go.Den.wm, wo, wu, looks, wfb, web, idOf, riA, Nat.reduceLeDiff, Nat.reduceLT, Nat.reduceEqDiff, Nat.reduceDiv, Nat.reduceMod, Int.reduceLT, Int.reduceLE, Int.reduceEq, Int.reduceNeg, Int.reduceToNat, Int.reduceSub, Int.reduceMul, Int.reduceNe, Nat.reduceAdd, Nat.reduceMul, Nat.reduceSub, Int.reduceAdd, reduceCtorEq, Go.Den.wh, kK, wpc, wmb, wrb, wqb, rxN, *, zT]) | (with_reducible (first | apply z1 | apply z2 | apply z3 | apply z4) <;> intro hq <;> (try simp only [zH] at hq) <;> (try (exfalso; omega)))))
  all_goals exact h
theorem wxo {ms : List Mt} {i : Nat} (h : i < ms.length) : ms.drop i = ms.getD i Mt.zero :: ms.drop (i + 1) := by
  rw [List.drop_eq_getElem_cons h, List.getD_eq_getElem?_getD, List.getElem?_eq_getElem h]; rfl
def wdi (ms : List Mt) : List Int := ms.map fun m => m.at 0
theorem wpj {m : Mt} {ms : List Mt} : wdi (m :: ms) = m.at 0 :: wdi ms := rfl
theorem wsw : wdi [] = [] := rfl
theorem wyo {ms : List Mt} {i : Nat} (h : i < ms.length) : ms.getD i Mt.zero ∈ ms := by
  rw [List.getD_eq_getElem?_getD, List.getElem?_eq_getElem h]; exact List.getElem_mem h
theorem wep : (EJ 128 G0).get 4 = JK := rfl
set_option maxHeartbeats 2000000 in
theorem ft_gA (s t : List UInt8) (ht2 : t.length ≤ 2) (L : List Int) (ms : List Mt) (hn : ms.length ≤ 1000) (hm : ∀ m ∈ ms, 0 ≤ m.at 0 ∧ m.at 0 ≤ 1000 ∧ m.at 1 - m.at 0 = t.length) (r : Rx) : ∀ (k i : Nat) (g : List Int), i + k = ms.length → g.length ≤ i → g ≠ [] →
    lim Try.prog cfg (.loop 8 0 (wz 3) (SE (EJ 128 G0) [(92, .int .i64 i), (91, .int .i64 ms.length), (90, FL ms.length (mtsC ms)), (13, FO 2 g.length (ints g)), (10, FO 1 L.length (ints L)), (9, ftP), (6, str t), (5, str s)])) (HP [X (rxC r) 47 0 false, .tok L.length 3 1, .tok g.length 3 1]) = some (.code (.exit 6) (SE (EJ 128 G0) [(13, FO 2 (g ++ wdi (ms.drop i)).length (ints (g ++ wdi (ms.drop i)))), (10, FO 1 L.length (ints L)), (9, ftP), (5, str s), (4, JK)]), HP [X (rxC r) 47 0 false, .tok L.length 3 1, .tok (g ++ wdi (ms.drop i)).length 3 1]) := by
  intro k
  induction k with
  | zero =>
    intro i g hi hg hne
    rw [List.drop_of_length_le (by omega), wsw, List.append_nil]
    clear hm
    refine ww wsb ?_
    unfold wvb
    (repeat' (first | (simp -implicitDefEqProofs (maxSteps := 2000000) (disch := first | with_reducible assumption | omega | (simp only [zS, zA, Nat.reduceEqDiff, Nat.reduceLT, Nat.reduceLeDiff, Nat.reduceAdd, Nat.reduceSub, reduceCtorEq, wbb, wib, zD] <;> omega) | fail) only [zS, argl, insA, Go.Den.wm, wo, wu, looks, wfb, web, idOf, riA, Nat.reduceLeDiff, Nat.reduceLT, Nat.reduceEqDiff, Nat.reduceDiv, Nat.reduceMod, Int.reduceLT, Int.reduceLE, Int.reduceEq, Int.reduceNeg, Int.reduceToNat, Int.reduceSub, Int.reduceMul, Int.reduceNe, Nat.reduceAdd, Nat.reduceMul, Nat.reduceSub, Int.reduceAdd, reduceCtorEq, Go.Den.wh, kK, wob, wmb, wrb, wbb, wib, wep, *, zT]) | (with_reducible (first | apply z1 | apply z2 | apply z3 | apply z4) <;> intro hq <;> (try simp only [zH] at hq) <;> (try (exfalso; omega)))))
  | succ k ih =>
    intro i g hi hg hne
    have hlt : i < ms.length := by omega
    rw [wxo hlt, wpj]
    obtain ⟨b1, b2, b3⟩ := hm _ (wyo hlt)
    have h := ih (i + 1) (g ++ [(ms.getD i Mt.zero).at 0]) (by omega) (by rw [List.length_append, List.length_singleton]; omega) (by simp)
    rw [List.append_assoc, List.singleton_append] at h
    generalize g ++ ((ms.getD i Mt.zero).at 0 :: wdi (ms.drop (i + 1))) = G at h ⊢
    rw [wjl, List.length_append, List.length_singleton] at h
    clear ih hm
    refine ww wsb ?_
    unfold wvb
    (repeat' (first | (simp -implicitDefEqProofs (maxSteps := 2000000) (disch := first | with_reducible assumption | omega | (simp only [zS, zA, Nat.reduceEqDiff, Nat.reduceLT, Nat.reduceLeDiff, Nat.reduceAdd, Nat.reduceSub, reduceCtorEq, wbb, wib, wqb, wse, wgf, zD] <;> omega) | fail) only [zS, argl, insA, Go.Den.wm, wo, wu, looks, wfb, web, idOf, riA, Nat.reduceLeDiff, Nat.reduceLT, Nat.reduceEqDiff, Nat.reduceDiv, Nat.reduceMod, Int.reduceLT, Int.reduceLE, Int.reduceEq, Int.reduceNeg, Int.reduceToNat, Int.reduceSub, Int.reduceMul, Int.reduceNe, Nat.reduceAdd, Nat.reduceMul, Nat.reduceSub, Int.reduceAdd, reduceCtorEq, Go.Den.wh, kK, wob, wmb, wrb, wqb, wbb, wib, wep, *, zT]) | (with_reducible (first | apply z1 | apply z2 | apply z3 | apply z4) <;> intro hq <;> (try simp only [zH] at hq) <;> (try (exfalso; omega)))))
    all_goals exact h
set_option maxHeartbeats 2000000 in
theorem ft_gNA (s t : List UInt8) (ht2 : t.length ≤ 2) (L : List Int) (ms : List Mt) (hn : ms.length ≤ 1000) (hm : ∀ m ∈ ms, 0 ≤ m.at 0 ∧ m.at 0 ≤ 1000 ∧ m.at 1 - m.at 0 = t.length) (r : Rx) (hms : 0 < ms.length) :
    lim Try.prog cfg (.loop 8 0 (wz 3) (SE (EJ 128 G0) [(92, .int .i64 0), (91, .int .i64 ms.length), (90, FL ms.length (mtsC ms)), (13, .slice none 0 0), (10, FO 1 L.length (ints L)), (9, ftP), (6, str t), (5, str s)])) (HP [X (rxC r) 47 0 false, .tok L.length 3 1]) = some (.code (.exit 6) (SE (EJ 128 G0) [(13, FO 2 (wdi ms).length (ints (wdi ms))), (10, FO 1 L.length (ints L)), (9, ftP), (5, str s), (4, JK)]), HP [X (rxC r) 47 0 false, .tok L.length 3 1, .tok (wdi ms).length 3 1]) := by
  have h := ft_gA s t ht2 L ms hn hm r (ms.length - 1) 1 [(ms.getD 0 Mt.zero).at 0] (by omega) (by simp) (by simp)
  obtain ⟨b1, b2, b3⟩ := hm _ (wyo hms)
  rw [List.singleton_append, ← wpj, ← wxo hms, List.drop_zero] at h
  generalize wdi ms = G at h ⊢
  rw [wrk, List.length_singleton] at h
  rw [show ((1 : Nat) : Int) = 1 from rfl] at h
  have hs0 : slotsOf (mtsC ms) 0 8 = mtC (ms.getD 0 Mt.zero) := by
    have := wxt (l := ms) (i := 0) hms
    rwa [Nat.zero_mul] at this
  clear hm
  refine ww wsb ?_
  unfold wvb
  (repeat' (first | (simp -implicitDefEqProofs (maxSteps := 2000000) (disch := first | with_reducible assumption | omega | (simp only [zS, zA, Nat.reduceEqDiff, Nat.reduceLT, Nat.reduceLeDiff, Nat.reduceAdd, Nat.reduceSub, reduceCtorEq, wbb, wib, wqb, wse, wgf, zD] <;> omega) | fail) only [zS, argl, insA, Go.Den.wm, wo, wu, looks, wfb, web, idOf, riA, Nat.reduceLeDiff, Nat.reduceLT, Nat.reduceEqDiff, Nat.reduceDiv, Nat.reduceMod, Int.reduceLT, Int.reduceLE, Int.reduceEq, Int.reduceNeg, Int.reduceToNat, Int.reduceSub, Int.reduceMul, Int.reduceNe, Nat.reduceAdd, Nat.reduceMul, Nat.reduceSub, Int.reduceAdd, reduceCtorEq, Go.Den.wh, kK, wob, wmb, wrb, wqb, wbb, wib, wep, *, zT]) | (with_reducible (first | apply z1 | apply z2 | apply z3 | apply z4) <;> intro hq <;> (try simp only [zH] at hq) <;> (try (exfalso; omega)))))
  all_goals exact h
theorem ft_gEA (s t : List UInt8) (r : Rx) :
    lim Try.prog cfg (.loop 8 0 (wz 3) (SE (EJ 128 G0) [(92, .int .i64 0), (91, .int .i64 0), (90, FL 0 []), (13, .slice none 0 0), (10, .slice none 0 0), (9, ftP), (6, str t), (5, str s)])) (HP [X (rxC r) 47 0 false]) = some (.code (.exit 6) (SE (EJ 128 G0) [(13, .slice none 0 0), (10, .slice none 0 0), (9, ftP), (5, str s), (4, JK)]), HP [X (rxC r) 47 0 false]) := by
  refine ww wsb ?_
  unfold wvb
  (repeat' (first | (simp -implicitDefEqProofs (maxSteps := 2000000) (disch := first | with_reducible assumption | omega | (simp only [zS, zA, Nat.reduceEqDiff, Nat.reduceLT, Nat.reduceLeDiff, Nat.reduceAdd, Nat.reduceSub, reduceCtorEq, wbb, wib, zD] <;> omega) | fail) only [zS, argl, insA, Go.Den.wm, wo, wu, looks, wfb, web, idOf, riA, Nat.reduceLeDiff, Nat.reduceLT, Nat.reduceEqDiff, Nat.reduceDiv, Nat.reduceMod, Int.reduceLT, Int.reduceLE, Int.reduceEq, Int.reduceNeg, Int.reduceToNat, Int.reduceSub, Int.reduceMul, Int.reduceNe, Nat.reduceAdd, Nat.reduceMul, Nat.reduceSub, Int.reduceAdd, reduceCtorEq, Go.Den.wh, kK, wob, wmb, wrb, wbb, wib, wep, *, zT]) | (with_reducible (first | apply z1 | apply z2 | apply z3 | apply z4) <;> intro hq <;> (try simp only [zH] at hq) <;> (try (exfalso; omega)))))
set_option maxHeartbeats 2000000 in
theorem ft_gB (s t : List UInt8) (ht2 : t.length ≤ 2) (L : List Int) (ms : List Mt) (hn : ms.length ≤ 1000) (hm : ∀ m ∈ ms, 0 ≤ m.at 0 ∧ m.at 0 ≤ 1000 ∧ m.at 1 - m.at 0 = t.length) (n : Nat) (c : List Value) : ∀ (k i : Nat) (g : List Int), i + k = ms.length → g.length ≤ i → g ≠ [] →
    lim Try.prog cfg (.loop 8 0 (wz 3) (SE (EJ 128 G0) [(92, .int .i64 i), (91, .int .i64 ms.length), (90, FL ms.length (mtsC ms)), (13, FO 2 g.length (ints g)), (10, FO 1 L.length (ints L)), (9, ftP), (6, str t), (5, str s)])) (HP [X (rxF 3 n c) 47 0 false, .tok L.length 3 1, .tok g.length 3 1, .tok n 47 9]) = some (.code (.exit 6) (SE (EJ 128 G0) [(13, FO 2 (g ++ wdi (ms.drop i)).length (ints (g ++ wdi (ms.drop i)))), (10, FO 1 L.length (ints L)), (9, ftP), (5, str s), (4, JK)]), HP [X (rxF 3 n c) 47 0 false, .tok L.length 3 1, .tok (g ++ wdi (ms.drop i)).length 3 1, .tok n 47 9]) := by
  intro k
  induction k with
  | zero =>
    intro i g hi hg hne
    rw [List.drop_of_length_le (by omega), wsw, List.append_nil]
    clear hm
    refine ww wsb ?_
    unfold wvb
    (repeat' (first | (simp -implicitDefEqProofs (maxSteps := 2000000) (disch := first | with_reducible assumption | omega | (simp only [zS, zA, Nat.reduceEqDiff, Nat.reduceLT, Nat.reduceLeDiff, Nat.reduceAdd, Nat.reduceSub, reduceCtorEq, wbb, wib, zD] <;> omega) | fail) only [zS, argl, insA, Go.Den.wm, wo, wu, looks, wfb, web, idOf, riA, Nat.reduceLeDiff, Nat.reduceLT, Nat.reduceEqDiff, Nat.reduceDiv, Nat.reduceMod, Int.reduceLT, Int.reduceLE, Int.reduceEq, Int.reduceNeg, Int.reduceToNat, Int.reduceSub, Int.reduceMul, Int.reduceNe, Nat.reduceAdd, Nat.reduceMul, Nat.reduceSub, Int.reduceAdd, reduceCtorEq, Go.Den.wh, kK, wob, wmb, wrb, wbb, wib, wep, rxF, *, zT]) | (with_reducible (first | apply z1 | apply z2 | apply z3 | apply z4) <;> intro hq <;> (try simp only [zH] at hq) <;> (try (exfalso; omega)))))
  | succ k ih =>
    intro i g hi hg hne
    have hlt : i < ms.length := by omega
    rw [wxo hlt, wpj]
    obtain ⟨b1, b2, b3⟩ := hm _ (wyo hlt)
    have h := ih (i + 1) (g ++ [(ms.getD i Mt.zero).at 0]) (by omega) (by rw [List.length_append, List.length_singleton]; omega) (by simp)
    rw [List.append_assoc, List.singleton_append] at h
    generalize g ++ ((ms.getD i Mt.zero).at 0 :: wdi (ms.drop (i + 1))) = G at h ⊢
    rw [wjl, List.length_append, List.length_singleton] at h
    clear ih hm
    refine ww wsb ?_
    unfold wvb
    (repeat' (first | (simp -implicitDefEqProofs (maxSteps := 2000000) (disch := first | with_reducible assumption | omega | (simp only [zS, zA, Nat.reduceEqDiff, Nat.reduceLT, Nat.reduceLeDiff, Nat.reduceAdd, Nat.reduceSub, reduceCtorEq, wbb, wib, wqb, wse, wgf, zD] <;> omega) | fail) only [zS, argl, insA, Go.Den.wm, wo, wu, looks, wfb, web, idOf, riA, Nat.reduceLeDiff, Nat.reduceLT, Nat.reduceEqDiff, Nat.reduceDiv, Nat.reduceMod, Int.reduceLT, Int.reduceLE, Int.reduceEq, Int.reduceNeg, Int.reduceToNat, Int.reduceSub, Int.reduceMul, Int.reduceNe, Nat.reduceAdd, Nat.reduceMul, Nat.reduceSub, Int.reduceAdd, reduceCtorEq, Go.Den.wh, kK, wob, wmb, wrb, wqb, wbb, wib, wep, rxF, *, zT]) | (with_reducible (first | apply z1 | apply z2 | apply z3 | apply z4) <;> intro hq <;> (try simp only [zH] at hq) <;> (try (exfalso; omega)))))
    all_goals exact h
set_option maxHeartbeats 2000000 in
theorem ft_gNB (s t : List UInt8) (ht2 : t.length ≤ 2) (L : List Int) (ms : List Mt) (hn : ms.length ≤ 1000) (hm : ∀ m ∈ ms, 0 ≤ m.at 0 ∧ m.at 0 ≤ 1000 ∧ m.at 1 - m.at 0 = t.length) (n : Nat) (c : List Value) (hms : 0 < ms.length) :
    lim Try.prog cfg (.loop 8 0 (wz 3) (SE (EJ 128 G0) [(92, .int .i64 0), (91, .int .i64 ms.length), (90, FL ms.length (mtsC ms)), (13, .slice none 0 0), (10, FO 1 L.length (ints L)), (9, ftP), (6, str t), (5, str s)])) (HP [X (rxF 2 n c) 47 0 false, .tok L.length 3 1, .tok n 47 9]) = some (.code (.exit 6) (SE (EJ 128 G0) [(13, FO 2 (wdi ms).length (ints (wdi ms))), (10, FO 1 L.length (ints L)), (9, ftP), (5, str s), (4, JK)]), HP [X (rxF 3 n c) 47 0 false, .tok L.length 3 1, .tok (wdi ms).length 3 1, .tok n 47 9]) := by
  have h := ft_gB s t ht2 L ms hn hm n c (ms.length - 1) 1 [(ms.getD 0 Mt.zero).at 0] (by omega) (by simp) (by simp)
  obtain ⟨b1, b2, b3⟩ := hm _ (wyo hms)
  rw [List.singleton_append, ← wpj, ← wxo hms, List.drop_zero] at h
  generalize wdi ms = G at h ⊢
  rw [wrk, List.length_singleton] at h
  rw [show ((1 : Nat) : Int) = 1 from rfl] at h
  have hs0 : slotsOf (mtsC ms) 0 8 = mtC (ms.getD 0 Mt.zero) := by
    have := wxt (l := ms) (i := 0) hms
    rwa [Nat.zero_mul] at this
  clear hm
  refine ww wsb ?_
  unfold wvb
  (repeat' (first | (simp -implicitDefEqProofs (maxSteps := 2000000) (disch := first | with_reducible assumption | omega | (simp only [zS, zA, Nat.reduceEqDiff, Nat.reduceLT, Nat.reduceLeDiff, Nat.reduceAdd, Nat.reduceSub, reduceCtorEq, wbb, wib, wqb, wse, wgf, zD] <;> omega) | fail) only [zS, argl, insA, Go.Den.wm, wo, wu, looks, wfb, web, idOf, riA, Nat.reduceLeDiff, Nat.reduceLT, Nat.reduceEqDiff, Nat.reduceDiv, Nat.reduceMod, Int.reduceLT, Int.reduceLE, Int.reduceEq, Int.reduceNeg, Int.reduceToNat, Int.reduceSub, Int.reduceMul, Int.reduceNe, Nat.reduceAdd, Nat.reduceMul, Nat.reduceSub, Int.reduceAdd, reduceCtorEq, Go.Den.wh, kK, wob, wmb, wrb, wqb, wbb, wib, wep, rxF, *, zT]) | (with_reducible (first | apply z1 | apply z2 | apply z3 | apply z4) <;> intro hq <;> (try simp only [zH] at hq) <;> (try (exfalso; omega)))))
  all_goals exact h
theorem ft_gEB (s t : List UInt8) (n : Nat) (c : List Value) :
    lim Try.prog cfg (.loop 8 0 (wz 3) (SE (EJ 128 G0) [(92, .int .i64 0), (91, .int .i64 0), (90, FL 0 []), (13, .slice none 0 0), (10, .slice none 0 0), (9, ftP), (6, str t), (5, str s)])) (HP [X (rxF 1 n c) 47 0 false, .tok n 47 9]) = some (.code (.exit 6) (SE (EJ 128 G0) [(13, .slice none 0 0), (10, .slice none 0 0), (9, ftP), (5, str s), (4, JK)]), HP [X (rxF 1 n c) 47 0 false, .tok n 47 9]) := by
  refine ww wsb ?_
  unfold wvb
  (repeat' (first | (simp -implicitDefEqProofs (maxSteps := 2000000) (disch := first | with_reducible assumption | omega | (simp only [zS, zA, Nat.reduceEqDiff, Nat.reduceLT, Nat.reduceLeDiff, Nat.reduceAdd, Nat.reduceSub, reduceCtorEq, wbb, wib, zD] <;> omega) | fail) only [zS, argl, insA, Go.Den.wm, wo, wu, looks, wfb, web, idOf, riA, Nat.reduceLeDiff, Nat.reduceLT, Nat.reduceEqDiff, Nat.reduceDiv, Nat.reduceMod, Int.reduceLT, Int.reduceLE, Int.reduceEq, Int.reduceNeg, Int.reduceToNat, Int.reduceSub, Int.reduceMul, Int.reduceNe, Nat.reduceAdd, Nat.reduceMul, Nat.reduceSub, Int.reduceAdd, reduceCtorEq, Go.Den.wh, kK, wob, wmb, wrb, wbb, wib, wep, rxF, *, zT]) | (with_reducible (first | apply z1 | apply z2 | apply z3 | apply z4) <;> intro hq <;> (try simp only [zH] at hq) <;> (try (exfalso; omega)))))
set_option maxHeartbeats 2000000 in
theorem ft_gZ (s t : List UInt8) (ht2 : t.length ≤ 2) (L : List Int) (ms : List Mt) (hn : ms.length ≤ 1000) (hm : ∀ m ∈ ms, 0 ≤ m.at 0 ∧ m.at 0 ≤ 1000 ∧ m.at 1 - m.at 0 = t.length)  : ∀ (k i : Nat) (g : List Int), i + k = ms.length → g.length ≤ i → g ≠ [] →
    lim Try.prog cfg (.loop 8 0 (wz 3) (SE (EJ 128 G0) [(92, .int .i64 i), (91, .int .i64 ms.length), (90, FL ms.length (mtsC ms)), (13, FO 2 g.length (ints g)), (10, FO 1 L.length (ints L)), (9, ftP), (6, str t), (5, str s)])) (HP [X rxN 47 0 false, .tok L.length 3 1, .tok g.length 3 1]) = some (.code (.exit 6) (SE (EJ 128 G0) [(13, FO 2 (g ++ wdi (ms.drop i)).length (ints (g ++ wdi (ms.drop i)))), (10, FO 1 L.length (ints L)), (9, ftP), (5, str s), (4, JK)]), HP [X rxN 47 0 false, .tok L.length 3 1, .tok (g ++ wdi (ms.drop i)).length 3 1]) := by
  intro k
  induction k with
  | zero =>
    intro i g hi hg hne
    rw [List.drop_of_length_le (by omega), wsw, List.append_nil]
    clear hm
    refine ww wsb ?_
    unfold wvb
    (repeat' (first | (simp -implicitDefEqProofs (maxSteps := 2000000) (disch := first | with_reducible assumption | omega | (simp only [zS, zA, Nat.reduceEqDiff, Nat.reduceLT, Nat.reduceLeDiff, Nat.reduceAdd, Nat.reduceSub, reduceCtorEq, wbb, wib, zD] <;> omega) | fail) only [zS, argl, insA, Go.Den.wm, wo, wu, looks, wfb, web, idOf, riA, Nat.reduceLeDiff, Nat.reduceLT, Nat.reduceEqDiff, Nat.reduceDiv, Nat.reduceMod, Int.reduceLT, Int.reduceLE, Int.reduceEq, Int.reduceNeg, Int.reduceToNat, Int.reduceSub, Int.reduceMul, Int.reduceNe, Nat.reduceAdd, Nat.reduceMul, Nat.reduceSub, Int.reduceAdd, reduceCtorEq, Go.Den.wh, kK, wob, wmb, wrb, wbb, wib, wep, rxN, *, zT]) | (with_reducible (first | apply z1 | apply z2 | apply z3 | apply z4) <;> intro hq <;> (try simp only [zH] at hq) <;> (try (exfalso; omega)))))
  | succ k ih =>
    intro i g hi hg hne
    have hlt : i < ms.length := by omega
    rw [wxo hlt, wpj]
    obtain ⟨b1, b2, b3⟩ := hm _ (wyo hlt)
    have h := ih (i + 1) (g ++ [(ms.getD i Mt.zero).at 0]) (by omega) (by rw [List.length_append, List.length_singleton]; omega) (by simp)
    rw [List.append_assoc, List.singleton_append] at h
    generalize g ++ ((ms.getD i Mt.zero).at 0 :: wdi (ms.drop (i + 1))) = G at h ⊢
    rw [wjl, List.length_append, List.length_singleton] at h
    clear ih hm
    refine ww wsb ?_
    unfold wvb
    (repeat' (first | (simp -implicitDefEqProofs (maxSteps := 2000000) (disch := first | with_reducible assumption | omega | (simp only [zS, zA, Nat.reduceEqDiff, Nat.reduceLT, Nat.reduceLeDiff, Nat.reduceAdd, Nat.reduceSub, reduceCtorEq, wbb, wib, wqb, wse, wgf, zD] <;> omega) | fail) only [zS, argl, insA, Go.Den.wm, wo, wu, looks, wfb, web, idOf, riA, Nat.reduceLeDiff, Nat.reduceLT, Nat.reduceEqDiff, Nat.reduceDiv, Nat.reduceMod, Int.reduceLT, Int.reduceLE, Int.reduceEq, Int.reduceNeg, Int.reduceToNat, Int.reduceSub, Int.reduceMul, Int.reduceNe, Nat.reduceAdd, Nat.reduceMul, Nat.reduceSub, Int.reduceAdd, reduceCtorEq, Go.Den.wh, kK, wob, wmb, wrb, wqb, wbb, wib, wep, rxN, *, zT]) | (with_reducible (first | apply z1 | apply z2 | apply z3 | apply z4) <;> intro hq <;> (try simp only [zH] at hq) <;> (try (exfalso; omega)))))
    all_goals exact h
set_option maxHeartbeats 2000000 in
theorem ft_gNZ (s t : List UInt8) (ht2 : t.length ≤ 2) (L : List Int) (ms : List Mt) (hn : ms.length ≤ 1000) (hm : ∀ m ∈ ms, 0 ≤ m.at 0 ∧ m.at 0 ≤ 1000 ∧ m.at 1 - m.at 0 = t.length)  (hms : 0 < ms.length) :
    lim Try.prog cfg (.loop 8 0 (wz 3) (SE (EJ 128 G0) [(92, .int .i64 0), (91, .int .i64 ms.length), (90, FL ms.length (mtsC ms)), (13, .slice none 0 0), (10, FO 1 L.length (ints L)), (9, ftP), (6, str t), (5, str s)])) (HP [X rxN 47 0 false, .tok L.length 3 1]) = some (.code (.exit 6) (SE (EJ 128 G0) [(13, FO 2 (wdi ms).length (ints (wdi ms))), (10, FO 1 L.length (ints L)), (9, ftP), (5, str s), (4, JK)]), HP [X rxN 47 0 false, .tok L.length 3 1, .tok (wdi ms).length 3 1]) := by
  have h := ft_gZ s t ht2 L ms hn hm  (ms.length - 1) 1 [(ms.getD 0 Mt.zero).at 0] (by omega) (by simp) (by simp)
  obtain ⟨b1, b2, b3⟩ := hm _ (wyo hms)
  rw [List.singleton_append, ← wpj, ← wxo hms, List.drop_zero] at h
  generalize wdi ms = G at h ⊢
  rw [wrk, List.length_singleton] at h
  rw [show ((1 : Nat) : Int) = 1 from rfl] at h
  have hs0 : slotsOf (mtsC ms) 0 8 = mtC (ms.getD 0 Mt.zero) := by
    have := wxt (l := ms) (i := 0) hms
    rwa [Nat.zero_mul] at this
  clear hm
  refine ww wsb ?_
  unfold wvb
  (repeat' (first | (simp -implicitDefEqProofs (maxSteps := 2000000) (disch := first | with_reducible assumption | omega | (simp only [zS, zA, Nat.reduceEqDiff, Nat.reduceLT, Nat.reduceLeDiff, Nat.reduceAdd, Nat.reduceSub, reduceCtorEq, wbb, wib, wqb, wse, wgf, zD] <;> omega) | fail) only [zS, argl, insA, Go.Den.wm, wo, wu, looks, wfb, web, idOf, riA, Nat.reduceLeDiff, Nat.reduceLT, Nat.reduceEqDiff, Nat.reduceDiv, Nat.reduceMod, Int.reduceLT, Int.reduceLE, Int.reduceEq, Int.reduceNeg, Int.reduceToNat, Int.reduceSub, Int.reduceMul, Int.reduceNe, Nat.reduceAdd, Nat.reduceMul, Nat.reduceSub, Int.reduceAdd, reduceCtorEq, Go.Den.wh, kK, wob, wmb, wrb, wqb, wbb, wib, wep, rxN, *, zT]) | (with_reducible (first | apply z1 | apply z2 | apply z3 | apply z4) <;> intro hq <;> (try simp only [zH] at hq) <;> (try (exfalso; omega)))))
  all_goals exact h
theorem wqkb {t : List UInt8} {l : List Nat} : wdi (l.map (mtT t)) = zs l := by
  unfold wdi zs
  rw [List.map_map]
  apply List.map_congr_left
  intro a _
  exact mtT0 t a
theorem wzmb : lim Try.prog cfg (.call 38 [FL 0 [], FL 0 []]) (HP []) = some (.val (.bool true), HP []) := wzt [] (by simp)
theorem wfgb (s t : List UInt8) : ∀ (k i : Nat), ∀ a ∈ wic s t k i, a + t.length ≤ s.length := by
  intro k
  induction k with
  | zero => intro i a h; cases h
  | succ k ih =>
    intro i a h
    rw [wic] at h
    split at h
    · rename_i hq
      split at h
      · rcases List.mem_cons.1 h with rfl | h
        · exact hq
        · exact ih _ _ h
      · exact ih _ _ h
    · cases h
theorem ms_T {s t : List UInt8} (hs : s.length ≤ 12) {l : List Nat} (h : ∀ a ∈ l, a + t.length ≤ s.length) : ∀ m ∈ l.map (mtT t), 0 ≤ m.at 0 ∧ m.at 0 ≤ 1000 ∧ m.at 1 - m.at 0 = t.length := by
  intro m hm
  obtain ⟨a, ha, rfl⟩ := List.mem_map.1 hm
  have := h a ha
  rw [mtT0, mtT1]
  exact ⟨by omega, by omega, by omega⟩
theorem wgz (s t : List UInt8) (h0 : 0 < t.length) : ∀ (k i : Nat), (wic s t k i).length ≤ s.length - i := by
  intro k
  induction k with
  | zero => intro i; exact Nat.zero_le _
  | succ k ih =>
    intro i
    rw [wic]
    split
    · split
      · have := ih (i + t.length)
        rw [List.length_cons]; omega
      · have := ih (i + 1); omega
    · exact Nat.zero_le _
end
end Go.Proofs.Ytdbhfmdndiphcaa
namespace Go.Proofs.Ytdbhfmdndiphcaa
set_option linter.unusedVariables false
set_option linter.unusedSimpArgs false
open Go.Den
noncomputable section
theorem wanb (l : List Int) (n : Nat) : (wccc l n).length ≤ n := by unfold wccc; rw [List.length_map, List.length_take]; omega
set_option maxHeartbeats 4000000 in
theorem text_0 (s : List UInt8) (hs : s.length ≤ 12) (text part : List Int) (h1 : lim Try.prog cfg (.call 26 [FL text.length (ints text), .int .i64 12]) (HP []) = some (.val (str s), HP []))
    (h2 : lim Try.prog cfg (.call 26 [FL part.length (ints part), .int .i64 2]) (HP []) = some (.val (str []), HP [])) :
    lim Try.prog cfg (.call 8 [FL text.length (ints text), FL part.length (ints part)]) (HP []) = some (.val (.bool true), HP []) := by
  have k0 := ft_kids0 s
  have w0 := ft_w0 s
  have z0 := ft_zN s hs
  have ha := wybc (rxT []) (wil [] (by simp)) s hs
  have hh := wokb (rxT []) (wil [] (by simp)) s hs
  rw [allR_0] at ha
  rw [has_0] at hh
  have hm := ms_T (s := s) (t := []) hs (l := List.range' 0 (s.length + 1)) (by intro a h; rw [List.mem_range'_1] at h; simp; omega)
  have hlen : ((List.range' 0 (s.length + 1)).map (mtT [])).length = s.length + 1 := by rw [List.length_map, List.length_range']
  have g0 := ft_gNZ s [] (by simp) (zs (List.range' 0 (s.length + 1))) ((List.range' 0 (s.length + 1)).map (mtT [])) (by rw [hlen]; omega) hm (by rw [hlen]; omega)
  rw [wqkb] at g0
  have hL : (zs (List.range' 0 (s.length + 1))).length = s.length + 1 := by rw [whcc, List.length_range']
  have he := wzt (zs (List.range' 0 (s.length + 1))) (by rw [hL]; omega)
  have hL0 : 0 < (zs (List.range' 0 (s.length + 1))).length := by omega
  have hL1 : (zs (List.range' 0 (s.length + 1))).length ≤ 13 := by omega
  have hM1 : ((List.range' 0 (s.length + 1)).map (mtT [])).length ≤ 13 := by omega
  clear hm hL hlen
  generalize zs (List.range' 0 (s.length + 1)) = L at *
  generalize (List.range' 0 (s.length + 1)).map (mtT []) = ms at *
  have er : rxC (rxT []) = [.int .i64 2, .int .i64 0, .int .i64 0, .int .i64 0, .int .u64 0, .int .u64 0, .int .u64 0, .int .u64 0, FL 0 []] := by
    show rxC (.mk 2 0 0 0 0#256 []) = _
    rw [rxC, rxsC]; rfl
  rw [er] at ha hh
  clear er
  unfold rxN at *
  have c0 : ((0 : Nat) : Int) = 0 := rfl
  have b1 : decide (0 < (L.length : Int)) = true := decide_eq_true (by omega)
  have b2 : (true == true) = true := rfl
  refine wjc hc wkd (Nat.le_of_ble_eq_true rfl) (Nat.le_of_ble_eq_true rfl) ?_
  unfold wjd
  (repeat' (first | (simp -implicitDefEqProofs (maxSteps := 2000000) (disch := first | with_reducible assumption | omega | (simp only [zS, zA, Nat.reduceEqDiff, Nat.reduceLT, Nat.reduceLeDiff, Nat.reduceAdd, Nat.reduceSub, reduceCtorEq, wbb, wib, wqb, wse, wgf, zD] <;> omega) | fail) only [zS, argl, insA, Go.Den.wm, wo, wu, looks, wfb, web, idOf, riA, Nat.reduceLeDiff, Nat.reduceLT, Nat.reduceEqDiff, Nat.reduceDiv, Nat.reduceMod, Int.reduceLT, Int.reduceLE, Int.reduceEq, Int.reduceNeg, Int.reduceToNat, Int.reduceSub, Int.reduceMul, Int.reduceNe, Nat.reduceAdd, Nat.reduceMul, Nat.reduceSub, Int.reduceAdd, reduceCtorEq, Go.Den.wh, kK, wkc, wdb, wpc, wob, wmb, wrb, wqb, wbb, wib, wep, *, zT]) | (with_reducible (first | apply z1 | apply z2 | apply z3 | apply z4) <;> intro hq <;> (try simp only [zH] at hq) <;> (try (exfalso; omega)))))
theorem len_map {t : List UInt8} : (t.map setR).length = t.length := List.length_map ..
theorem rx_litT {l : List Rx} : rxC (.mk 2 0 0 0 0#256 l) = [.int .i64 2, .int .i64 0, .int .i64 0, .int .i64 0, .int .u64 0, .int .u64 0, .int .u64 0, .int .u64 0, FL l.length (rxsC l)] := by rw [rxC]; rfl
theorem wkcc {t : List UInt8} (h : 0 < t.length) : slotsOf (rxsC (t.map setR)) 0 9 = rxC (setR (t.getD 0 0)) := by
  cases t with
  | nil => cases h
  | cons a t =>
    have := wto (l := (a :: t).map setR) (i := 0) (by simp)
    rw [Nat.zero_mul] at this
    exact this
set_option maxHeartbeats 4000000 in
theorem text_A (s t : List UInt8) (hs : s.length ≤ 12) (ht : 0 < t.length) (ht2 : t.length < 2) (text part : List Int) (h1 : lim Try.prog cfg (.call 26 [FL text.length (ints text), .int .i64 12]) (HP []) = some (.val (str s), HP []))
    (h2 : lim Try.prog cfg (.call 26 [FL part.length (ints part), .int .i64 2]) (HP []) = some (.val (str t), HP [])) :
    lim Try.prog cfg (.call 8 [FL text.length (ints text), FL part.length (ints part)]) (HP []) = some (.val (.bool true), HP []) := by
  have hr : rxT t = setR (t.getD 0 0) := by unfold rxT; rw [if_pos (by omega)]
  have k0 := wxmb s t (by omega) (by omega)
  have w0 := ft_wNA s t hs (by omega) (by omega) (setR (t.getD 0 0)) (s.length + 1) 0 (by omega) (by omega)
  have ha := wybc (rxT t) (wil t (by omega)) s hs
  have hh := wokb (rxT t) (wil t (by omega)) s hs
  rw [allR_T s t (by omega) (by omega)] at ha
  rw [has_T s t (by omega) (by omega)] at hh
  rw [hr] at ha hh
  clear hr
  have hsl := wkcc (t := t) (by omega)
  have hcl : 9 ≤ (rxsC (t.map setR)).length := by rw [wmw, List.length_map]; omega
  have hin := wfgb s t (s.length + 1) 0
  have hlen := wgz s t (by omega) (s.length + 1) 0
  have c0 : ((0 : Nat) : Int) = 0 := rfl
  rw [c0] at w0
  generalize wic s t (s.length + 1) 0 = l at *
  cases l with
  | nil =>
    rw [wao, wfz, wicc] at w0
    have g0 := ft_gEA s t (setR (t.getD 0 0))
    have ha2 : ([] : List Nat).map (mtT t) = [] := rfl
    rw [ha2] at ha
    have e1 : mtsC [] = [] := rfl
    rw [e1, List.length_nil] at ha
    have he := wzmb
    have b1 : decide (0 < ([] : List Nat).length) = false := rfl
    rw [b1] at hh
    have b2 : (false == false) = true := rfl
    clear hin hlen ha2 e1 b1
    try simp only [rxF] at *
    refine wjc hc wkd (Nat.le_of_ble_eq_true rfl) (Nat.le_of_ble_eq_true rfl) ?_
    unfold wjd
    (repeat' (first | (simp -implicitDefEqProofs (maxSteps := 2000000) (disch := first | with_reducible assumption | omega | (simp only [zS, zA, Nat.reduceEqDiff, Nat.reduceLT, Nat.reduceLeDiff, Nat.reduceAdd, Nat.reduceSub, reduceCtorEq, wbb, wib, wqb, wse, wgf, wtrb, zD] <;> omega) | fail) only [zS, argl, insA, Go.Den.wm, wo, wu, looks, wfb, web, idOf, riA, Nat.reduceLeDiff, Nat.reduceLT, Nat.reduceEqDiff, Nat.reduceDiv, Nat.reduceMod, Int.reduceLT, Int.reduceLE, Int.reduceEq, Int.reduceNeg, Int.reduceToNat, Int.reduceSub, Int.reduceMul, Int.reduceNe, Nat.reduceAdd, Nat.reduceMul, Nat.reduceSub, Int.reduceAdd, reduceCtorEq, Go.Den.wh, kK, wkc, wdb, wpc, wob, wmb, wrb, wqb, wbb, wib, wep, *, zT]) | (with_reducible (first | apply z1 | apply z2 | apply z3 | apply z4) <;> intro hq <;> (try simp only [zH] at hq) <;> (try (exfalso; omega)))))
  | cons x l =>
    rw [wymb (by simp [zs]), ftA_ne (by simp [zs])] at w0
    have g0 := ft_gNA s t (by omega) (zs (x :: l)) ((x :: l).map (mtT t)) (by rw [List.length_map]; omega) (ms_T hs hin) (setR (t.getD 0 0)) (by simp)
    rw [wqkb] at g0
    have hL : (zs (x :: l)).length = (x :: l).length := whcc
    have hM : ((x :: l).map (mtT t)).length = (x :: l).length := List.length_map ..
    have he := wzt (zs (x :: l)) (by rw [hL]; omega)
    have b0 : decide (0 < (x :: l).length) = true := rfl
    rw [b0] at hh
    have hx : 0 < (x :: l).length := by simp
    have hL0 : 0 < (zs (x :: l)).length := by omega
    have hL1 : (zs (x :: l)).length ≤ 13 := by omega
    have hM1 : ((x :: l).map (mtT t)).length ≤ 13 := by omega
    clear hL hM hin hlen b0 hx
    generalize zs (x :: l) = L at *
    generalize (x :: l).map (mtT t) = ms at *
    have b1 : decide (0 < (L.length : Int)) = true := decide_eq_true (by omega)
    have b2 : (true == true) = true := rfl
    try simp only [rxF] at *
    refine wjc hc wkd (Nat.le_of_ble_eq_true rfl) (Nat.le_of_ble_eq_true rfl) ?_
    unfold wjd
    (repeat' (first | (simp -implicitDefEqProofs (maxSteps := 2000000) (disch := first | with_reducible assumption | omega | (simp only [zS, zA, Nat.reduceEqDiff, Nat.reduceLT, Nat.reduceLeDiff, Nat.reduceAdd, Nat.reduceSub, reduceCtorEq, wbb, wib, wqb, wse, wgf, wtrb, zD] <;> omega) | fail) only [zS, argl, insA, Go.Den.wm, wo, wu, looks, wfb, web, idOf, riA, Nat.reduceLeDiff, Nat.reduceLT, Nat.reduceEqDiff, Nat.reduceDiv, Nat.reduceMod, Int.reduceLT, Int.reduceLE, Int.reduceEq, Int.reduceNeg, Int.reduceToNat, Int.reduceSub, Int.reduceMul, Int.reduceNe, Nat.reduceAdd, Nat.reduceMul, Nat.reduceSub, Int.reduceAdd, reduceCtorEq, Go.Den.wh, kK, wkc, wdb, wpc, wob, wmb, wrb, wqb, wbb, wib, wep, *, zT]) | (with_reducible (first | apply z1 | apply z2 | apply z3 | apply z4) <;> intro hq <;> (try simp only [zH] at hq) <;> (try (exfalso; omega)))))
set_option maxHeartbeats 4000000 in
theorem text_B (s t : List UInt8) (hs : s.length ≤ 12) (ht : 1 < t.length) (ht2 : t.length ≤ 2) (text part : List Int) (h1 : lim Try.prog cfg (.call 26 [FL text.length (ints text), .int .i64 12]) (HP []) = some (.val (str s), HP []))
    (h2 : lim Try.prog cfg (.call 26 [FL part.length (ints part), .int .i64 2]) (HP []) = some (.val (str t), HP [])) :
    lim Try.prog cfg (.call 8 [FL text.length (ints text), FL part.length (ints part)]) (HP []) = some (.val (.bool true), HP []) := by
  have hr : rxT t = .mk 2 0 0 0 0#256 (t.map setR) := by unfold rxT; rw [if_neg (by omega)]
  have k0 := wxmb s t (by omega) (by omega)
  have w0 := ft_wNB s t hs (by omega) (by omega) t.length (rxsC (t.map setR)) (s.length + 1) 0 (by omega) (by omega)
  have ha := wybc (rxT t) (wil t (by omega)) s hs
  have hh := wokb (rxT t) (wil t (by omega)) s hs
  rw [allR_T s t (by omega) (by omega)] at ha
  rw [has_T s t (by omega) (by omega)] at hh
  rw [hr] at ha hh
  clear hr
  rw [rx_litT, len_map] at ha hh
  have hin := wfgb s t (s.length + 1) 0
  have hlen := wgz s t (by omega) (s.length + 1) 0
  have c0 : ((0 : Nat) : Int) = 0 := rfl
  rw [c0] at w0
  generalize wic s t (s.length + 1) 0 = l at *
  cases l with
  | nil =>
    rw [wao, wfz, wjcc] at w0
    have g0 := ft_gEB s t t.length (rxsC (t.map setR))
    have ha2 : ([] : List Nat).map (mtT t) = [] := rfl
    rw [ha2] at ha
    have e1 : mtsC [] = [] := rfl
    rw [e1, List.length_nil] at ha
    have he := wzmb
    have b1 : decide (0 < ([] : List Nat).length) = false := rfl
    rw [b1] at hh
    have b2 : (false == false) = true := rfl
    clear hin hlen ha2 e1 b1
    try simp only [rxF] at *
    refine wjc hc wkd (Nat.le_of_ble_eq_true rfl) (Nat.le_of_ble_eq_true rfl) ?_
    unfold wjd
    (repeat' (first | (simp -implicitDefEqProofs (maxSteps := 2000000) (disch := first | with_reducible assumption | omega | (simp only [zS, zA, Nat.reduceEqDiff, Nat.reduceLT, Nat.reduceLeDiff, Nat.reduceAdd, Nat.reduceSub, reduceCtorEq, wbb, wib, wqb, wse, wgf, wtrb, zD] <;> omega) | fail) only [zS, argl, insA, Go.Den.wm, wo, wu, looks, wfb, web, idOf, riA, Nat.reduceLeDiff, Nat.reduceLT, Nat.reduceEqDiff, Nat.reduceDiv, Nat.reduceMod, Int.reduceLT, Int.reduceLE, Int.reduceEq, Int.reduceNeg, Int.reduceToNat, Int.reduceSub, Int.reduceMul, Int.reduceNe, Nat.reduceAdd, Nat.reduceMul, Nat.reduceSub, Int.reduceAdd, reduceCtorEq, Go.Den.wh, kK, wkc, wdb, wpc, wob, wmb, wrb, wqb, wbb, wib, wep, *, zT]) | (with_reducible (first | apply z1 | apply z2 | apply z3 | apply z4) <;> intro hq <;> (try simp only [zH] at hq) <;> (try (exfalso; omega)))))
  | cons x l =>
    rw [wymb (by simp [zs]), ftB_ne (by simp [zs])] at w0
    have g0 := ft_gNB s t (by omega) (zs (x :: l)) ((x :: l).map (mtT t)) (by rw [List.length_map]; omega) (ms_T hs hin) t.length (rxsC (t.map setR)) (by simp)
    rw [wqkb] at g0
    have hL : (zs (x :: l)).length = (x :: l).length := whcc
    have hM : ((x :: l).map (mtT t)).length = (x :: l).length := List.length_map ..
    have he := wzt (zs (x :: l)) (by rw [hL]; omega)
    have b0 : decide (0 < (x :: l).length) = true := rfl
    rw [b0] at hh
    have hx : 0 < (x :: l).length := by simp
    have hL0 : 0 < (zs (x :: l)).length := by omega
    have hL1 : (zs (x :: l)).length ≤ 13 := by omega
    have hM1 : ((x :: l).map (mtT t)).length ≤ 13 := by omega
    clear hL hM hin hlen b0 hx
    generalize zs (x :: l) = L at *
    generalize (x :: l).map (mtT t) = ms at *
    have b1 : decide (0 < (L.length : Int)) = true := decide_eq_true (by omega)
    have b2 : (true == true) = true := rfl
    try simp only [rxF] at *
    refine wjc hc wkd (Nat.le_of_ble_eq_true rfl) (Nat.le_of_ble_eq_true rfl) ?_
    unfold wjd
    (repeat' (first | (simp -implicitDefEqProofs (maxSteps := 2000000) (disch := first | with_reducible assumption | omega | (simp only [zS, zA, Nat.reduceEqDiff, Nat.reduceLT, Nat.reduceLeDiff, Nat.reduceAdd, Nat.reduceSub, reduceCtorEq, wbb, wib, wqb, wse, wgf, wtrb, zD] <;> omega) | fail) only [zS, argl, insA, Go.Den.wm, wo, wu, looks, wfb, web, idOf, riA, Nat.reduceLeDiff, Nat.reduceLT, Nat.reduceEqDiff, Nat.reduceDiv, Nat.reduceMod, Int.reduceLT, Int.reduceLE, Int.reduceEq, Int.reduceNeg, Int.reduceToNat, Int.reduceSub, Int.reduceMul, Int.reduceNe, Nat.reduceAdd, Nat.reduceMul, Nat.reduceSub, Int.reduceAdd, reduceCtorEq, Go.Den.wh, kK, wkc, wdb, wpc, wob, wmb, wrb, wqb, wbb, wib, wep, *, zT]) | (with_reducible (first | apply z1 | apply z2 | apply z3 | apply z4) <;> intro hq <;> (try simp only [zH] at hq) <;> (try (exfalso; omega)))))
theorem wrkb (text part : List Int) : lim Try.prog cfg (.call 8 [FL text.length (ints text), FL part.length (ints part)]) (HP []) = some (.val (.bool true), HP []) := by
  have h1 := wecc text 12 (by omega)
  have h2 := wecc part 2 (by omega)
  have hs := wanb text 12
  have ht := wanb part 2
  generalize wccc text 12 = s at *
  generalize wccc part 2 = t at *
  rw [show ((12 : Nat) : Int) = 12 from rfl] at h1
  rw [show ((2 : Nat) : Int) = 2 from rfl] at h2
  by_cases q0 : t.length = 0
  · obtain rfl := List.eq_nil_of_length_eq_zero q0
    exact text_0 s hs text part h1 h2
  · by_cases q1 : t.length < 2
    · exact text_A s t hs (by omega) q1 text part h1 h2
    · exact text_B s t hs (by omega) ht text part h1 h2
end
end Go.Proofs.Ytdbhfmdndiphcaa
namespace Go.Den
noncomputable section
open Go.ChangeShapes Go.WideShapes Go.RowKit
variable {P : Program} {cfg : Cfg} {H : Type} {enc : TypeId × Value → H}
theorem known_ev (wci : wsh P cfg.glob cfg.know) (hm : P.follows .mixedOrders = true) {f : FuncId} {a : List Value} {v : Value} (h : Ev P cfg (.call f a) AH0 (.val v, AH0)) (ha : wac a = true) (hv : wyd v = true) : wul P cfg.glob f a v := by
  obtain ⟨n, h⟩ := h
  exact wdt wci hm (h n (Nat.le_refl n)) ha hv
def renW (w : World) : Ren := ⟨fun _ _ => none, fun b i => w.cell? ⟨b, i, none⟩⟩
theorem wlcc (wci : wsh P cfg.glob cfg.know) (hm : P.follows .mixedOrders = true) (hg : cfg.glob = fun _ => none) {f : FuncId} {a : List Value} (h : Ev P cfg (.call f a) AH0 (.val (.bool true), AH0)) (ha : wac a = true) (w : World) (args' : Array Value) (hA : VRL (renW w) a args'.toList) :
    Calls P f args' w fun e w' => e = .returned (.bool true) ∧ w.heap.size ≤ w'.heap.size ∧ (∀ b : Nat, b < w.heap.size → w'.heap[b]? = w.heap[b]?) ∧ w'.os = w.os ∧ w'.output = w.output := by
  refine (known_ev wci hm h ha rfl (renW w) w args' (fun _ _ _ h => h) (by rw [hg]; exact gok_none _) hA).mono ?_
  rintro e w' ⟨ρ', v', rfl, h1, _, _, _, _, h5, h2, h3, h4⟩
  rw [h1.bool_inv]
  exact ⟨rfl, h5, h2, h3, h4⟩
theorem same_at {W W' : World} (hb : ∀ b : Nat, b < W.heap.size → W'.heap[b]? = W.heap[b]?) {p : MemPlace} (hp : p.block < W.heap.size) : W.sameAt W' p := by
  cases p with
  | cell b o => exact World.cell?_of_block (w := W) (hb b hp)
  | map b => exact hb b hp
theorem wkcb (hl : laidOutB P = true) {W W' : World} (hb : ∀ b : Nat, b < W.heap.size → W'.heap[b]? = W.heap[b]?) {sp : Nat → Bool} : ∀ (ts : List TypeId) (vs : List Value) (ds : List (DataW H)) (ps : List MemPlace), (ts.all fun t => P.readableRec t && decide (t < P.types.size)) = true →
    DataW.TrodAll enc P W 0 (fun _ => true) true ts vs ds ps → (∀ p ∈ ps, p.block < W.heap.size) → (∀ p ∈ ps, sp p.block = true) → DataW.TrodAll enc P W' 0 sp true ts vs ds ps := by
  intro ts
  induction ts with
  | nil =>
    intro vs ds ps _ h _ _
    obtain ⟨rfl, rfl, rfl⟩ := trodAll_nil h
    exact trodAll_mk0
  | cons t ts ih =>
    intro vs ds ps ht h hlt hs
    obtain ⟨v, vs', d, ds', p, q, rfl, rfl, rfl, h0, h1⟩ := trodAll_cons h
    simp only [List.all_cons, Bool.and_eq_true, decide_eq_true_eq] at ht
    exact trodAll_cons_mk (WideElems.Trod_stays hl ht.1.1 ht.1.2 h0 (fun x hx => same_at hb (hlt x (List.mem_append_left _ hx))) (fun x hx => hs x (List.mem_append_left _ hx)))
      (ih vs' ds' q (by simpa using ht.2) h1 (fun x hx => hlt x (List.mem_append_right _ hx)) (fun x hx => hs x (List.mem_append_right _ hx)))
theorem law_post (hl : laidOutB P = true) {f : Func} {s : ChangeSpec} {apart fresh handsOn : Bool} {W W' : World} {args : Array Value} {ds gs : List (DataW H)} {before : List MemPlace}
    (hW : DataW.Whole enc P f.params.toList s.vars apart W args.toList ds gs before) (hvars : s.vars = []) (hbool : ∃ t, f.resultTypes = #[t] ∧ P.underlying t = some .bool)
    (hts : (f.params.toList.all fun t => P.readableRec t && decide (t < P.types.size)) = true)
    (hfn : s.fn H (ds ++ gs) = { results := [.lit (.bool true)], args := ds })
    (hs : ∀ b : Nat, b < W.heap.size → W'.heap[b]? = W.heap[b]?) (ho : W'.os = W.os) (hp : W'.output = W.output) : s.post enc P f apart fresh handsOn false W args (.bool true) W' := by
  have hW' := hW
  obtain ⟨p, q, hA, hV, rfl, hfz, hnd⟩ := hW
  rw [hvars] at hV
  obtain ⟨rfl, rfl⟩ := trodVars_none hV
  obtain ⟨t, ht, hu⟩ := hbool
  refine wpub (pa := p) (pv := []) hW' (fun b sp hd => ?_) (fun sp hsp => ?_) (fun sp _ => ?_) rfl (kept_of hs ho hp)
  · rw [ht, hfn]
    exact trodAll_cons_mk (shut_bool hu _) trodAll_mk0
  · rw [hfn]
    exact wkcb hl hs _ _ _ _ hts hA (fun x hx => hW'.lt x (List.mem_append_left _ hx)) (fun x hx => hsp x (List.mem_append_left _ hx))
  · rw [hfn, hvars]
    exact rfl
end
end Go.Den
namespace Go.Den
noncomputable section
open Go.ChangeShapes Go.WideShapes Go.RowKit
variable {P : Program} {H : Type} {enc : TypeId × Value → H}
theorem row_VR {W : World} {t e : TypeId} {k : IntKind} (ht : P.underlying t = some (.slice e)) (he : P.underlying e = some (.int k)) (hc : P.cellsOf e = 1) {r : Reach} {b0 base fuel : Nat} {sp : Nat → Bool} {held : Bool} {v : Value} {x : DataW H × List MemPlace}
    (hval : Cell.okWide P W r b0 t v) (hf : DataW.trod enc P W base sp held fuel t [v] = some x) : ∃ l : List Int, VR (renW W) (FL l.length (l.map (Value.int k))) v := by
  rcases open_ints ht he hc hf with ⟨hcs, _⟩ | ⟨a, len, cap, zs, hcs, _, hl, hm, hz, _, hcell, _⟩
  · cases hcs
    exact ⟨[], .listNo⟩
  · cases hcs
    have hsp : a.spot = none := by
      simp only [Cell.okWide, ht, Cell.ok] at hval
      exact hval.2.2.2.1
    obtain ⟨blk, off, spot⟩ := a
    subst hsp
    have hlz : len ≤ zs.length := by rw [hz]; split <;> omega
    have hlen : (zs.take len).length = len := by rw [List.length_take]; omega
    refine ⟨zs.take len, ?_⟩
    rw [hlen]
    refine VR.list (a' := ⟨blk, off, none⟩) hl (fun i => .int k (zs.getD i 0)) (fun i hi => ?_) (fun i v hv => ?_)
    · rw [List.length_map, hlen] at hi
      have := hcell i (by omega)
      rw [show (⟨blk, off, none⟩ : Addr).add i = ⟨blk, off + i, none⟩ by unfold Addr.add; split <;> simp_all] at this
      exact this
    · rw [List.getElem?_map] at hv
      have hi : i < len := by
        have := (List.getElem?_eq_some_iff.1 (show ((zs.take len).map (Value.int k))[i]? = some v by rw [List.getElem?_map]; exact hv)).1
        rw [List.length_map, hlen] at this; exact this
      rw [List.getElem?_take, if_pos hi, List.getElem?_eq_getElem (by omega)] at hv
      cases hv
      rw [List.getD_eq_getElem?_getD, List.getElem?_eq_getElem (by omega)]
      exact .flat rfl
theorem wggb {W : World} {t e : TypeId} {k : IntKind} (ht : P.underlying t = some (.slice e)) (he : P.underlying e = some (.int k)) (hc : P.cellsOf e = 1) {r : Reach} {b0 base : Nat} {sp : Nat → Bool} {held : Bool} {v : Value} {d : DataW H} {ps : List MemPlace}
    (hval : Value.okWide P W r b0 t v) (hd : DataW.Trod enc P W base sp held t v d ps) : ∃ l : List Int, VR (renW W) (FL l.length (l.map (Value.int k))) v := by
  obtain ⟨a, len, cap, rfl⟩ := okWide_slice ht hval
  obtain ⟨fuel, hf⟩ := hd
  simp only [Value.okWide, ht] at hval
  exact row_VR ht he hc hval hf
end
end Go.Den
