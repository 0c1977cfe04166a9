/-
  PARTS OF A PROOF, joined by a program (8 of 8): a proved reckoner of the model, and what the functions come to.
-/
import Derived.Test.YtdbhfmdndiphcaaQFindAll7
import Derived.ChangeSame
import Derived.WideKeyArgs
import Derived.OpenShut
import Derived.WideKeyPair
import Derived.ChangeSlices
set_option linter.unusedVariables false
set_option linter.unusedSimpArgs false
namespace Go.Proofs.Ytdbhfmdndiphcaa
set_option linter.unusedVariables false
set_option linter.unusedSimpArgs false
open Go.Den
noncomputable section
theorem wonb : ∀ (l : List St) (b : Option St) (x : St), wxq l b = some x → x ∈ l ∨ b = some x := by
  intro l
  induction l with
  | nil => intro b x h; exact .inr h
  | cons y l ih =>
    intro b x h
    cases b with
    | none =>
      rw [wxq] at h
      rcases ih _ _ h with h | h
      · exact .inl (List.mem_cons_of_mem _ h)
      · cases h; exact .inl (List.mem_cons_self ..)
    | some b =>
      rw [wxq] at h
      rcases ih _ _ h with h | h
      · exact .inl (List.mem_cons_of_mem _ h)
      · split at h
        · cases h; exact .inl (List.mem_cons_self ..)
        · exact .inr h
theorem wkx {r : Rx} {s : List UInt8} {m : Mt} : ∀ (k : Nat) (a : Int), weq r s k a = some m → ∃ b : St, ∃ a2 : Int, a ≤ a2 ∧ a2 < a + k ∧ wxq (whm r s true a2) none = some b ∧ m = (b.2.put 0 a2).put 1 b.1 := by
  intro k
  induction k with
  | zero => intro a h; cases h
  | succ k ih =>
    intro a h
    rw [weq] at h
    cases hb : wxq (whm r s true a) none with
    | some b =>
      rw [hb] at h
      cases h
      exact ⟨b, a, Int.le_refl _, by omega, hb, rfl⟩
    | none =>
      rw [hb] at h
      obtain ⟨b, a2, h1, h2, h3, h4⟩ := ih (a + 1) h
      exact ⟨b, a2, by omega, by omega, h3, h4⟩
theorem mt_at0 {m : Mt} {x y : Int} : ((m.put 0 x).put 1 y).at 0 = x := by rw [Mt.at_put, if_neg (by omega), Mt.at_put, if_pos ⟨rfl, by omega⟩]
theorem mt_at1 {m : Mt} {x y : Int} : ((m.put 0 x).put 1 y).at 1 = y := by rw [Mt.at_put, if_pos ⟨rfl, by omega⟩]
theorem wim {r : Rx} {s : List UInt8} {a : Int} {m : Mt} (h : wrh r s a = some m) : 0 ≤ a ∧ a ≤ m.at 0 ∧ m.at 0 ≤ m.at 1 ∧ m.at 1 ≤ s.length := by
  unfold wrh at h
  split at h
  · rename_i hq
    obtain ⟨b, a2, h1, h2, h3, h4⟩ := wkx _ _ h
    subst h4
    rw [mt_at0, mt_at1]
    rcases wonb _ _ _ h3 with hb | hb
    · have := (wyz (r := r) (s := s) (bol := true) (a := a2)).good b hb
      exact ⟨hq.2.1, h1, this.2, this.1.hi⟩
    · cases hb
  · cases h
def alF (r : Rx) (s : List UInt8) : Nat → Int → Int → List Mt → Bool × List Mt
  | 0, _, _, out => (true, out)
  | k + 1, a, last, out => if a ≤ s.length then (match wrh r s a with
    | none => (false, out)
    | some m => if m.at 0 = m.at 1 then (if m.at 1 = last then alF r s k (m.at 1 + 1) last out else alF r s k (m.at 1 + 1) (m.at 1) (out ++ [m])) else alF r s k (m.at 1) (m.at 1) (out ++ [m])) else (true, out)
def alV (l : List Mt) : Value := if l = [] then .slice none 0 0 else FO 0 l.length (mtsC l)
def alH (l : List Mt) : List ABlk := if l = [] then [] else [.tok l.length 55 8]
def alO (p : Bool × List Mt) : Option (Out × AH) := if p.1 = true then some (.code (.exit 0) (SE (EJ 47 G0) [(5, alV p.2), (4, JK)]), HP (alH p.2)) else some (.code .ret (SE (EJ 47 G0) [(5, alV p.2), (4, alV p.2)]), HP (alH p.2))
theorem ej47 : (EJ 47 G0).get 4 = JK := rfl
theorem wlx {r : Rx} {s : List UInt8} : ∀ (k : Nat) (a last : Int) (out : List Mt), out ≠ [] → (alF r s k a last out).2 ≠ [] := by
  intro k
  induction k with
  | zero => intro a l out h; exact h
  | succ k ih =>
    intro a l out h
    rw [alF]
    split
    · split
      · exact h
      · split
        · split
          · exact ih _ _ _ h
          · exact ih _ _ _ (by simp)
        · exact ih _ _ _ (by simp)
    · exact h
theorem wfq {p : Bool × List Mt} (h : p.2 ≠ []) : alO p = some (.code (if p.1 = true then .exit 0 else .ret) (SE (EJ 47 G0) [(5, FO 0 p.2.length (mtsC p.2)), (4, if p.1 = true then JK else FO 0 p.2.length (mtsC p.2))]), HP [.tok p.2.length 55 8]) := by
  unfold alO alV alH
  rw [if_neg h, if_neg h]
  split <;> rfl
theorem wpnb {l : List Mt} {m : Mt} : mtsC (l ++ [m]) = mtsC l ++ mtC m := by rw [wtkb, mts_app]
set_option maxHeartbeats 4000000 in
theorem wqgb (r : Rx) (hn : wec r ≤ 1000000) (s : List UInt8) (hs : s.length ≤ 12) : ∀ (k : Nat) (a last : Int) (out : List Mt), 0 ≤ a → a ≤ s.length + 1 → s.length + 1 ≤ a + k → out ≠ [] → (out.length : Int) ≤ a →
    lim Try.prog cfg (.loop 27 0 (wxk 0) (SE (EJ 47 G0) [(7, .int .i64 a), (6, .int .i64 last), (5, FO 1 out.length (mtsC out)), (2, .pointer (some ⟨0, 0, none⟩)), (1, str s)])) (HP [X (rxC r) 47 0 true, .tok out.length 55 8]) = alO (alF r s k a last out) := by
  intro k
  induction k with
  | zero =>
    intro a last out h0 h1 h2 ho hl
    rw [alF, wfq ho, if_pos rfl, if_pos rfl]
    refine wdb wob ?_
    unfold wzb
    (repeat' (first | (simp -implicitDefEqProofs (maxSteps := 2000000) (disch := first | with_reducible assumption | omega | (simp only [zS, zA, Nat.reduceEqDiff, Nat.reduceLT, Nat.reduceLeDiff, Nat.reduceAdd, Nat.reduceSub, reduceCtorEq, wcb, wjb, zD] <;> omega) | fail) only [zS, argl, insA, Go.Den.wm, wo, wu, looks, wbb, wab, idOf, riA, Nat.reduceLeDiff, Nat.reduceLT, Nat.reduceEqDiff, Nat.reduceDiv, Nat.reduceMod, Int.reduceLT, Int.reduceLE, Int.reduceEq, Int.reduceNeg, Int.reduceToNat, Int.reduceSub, Int.reduceMul, Int.reduceNe, Nat.reduceAdd, Nat.reduceMul, Nat.reduceSub, Int.reduceAdd, reduceCtorEq, Go.Den.wh, kK, wrb, wcb, wjb, ej47, *, zT]) | (with_reducible (first | apply z1 | apply z2 | apply z3 | apply z4) <;> intro hq <;> (try simp only [zH] at hq) <;> (try (exfalso; omega)))))
  | succ k ih =>
    intro a last out h0 h1 h2 ho hl
    rw [alF]
    by_cases ha : a ≤ s.length
    · rw [if_pos ha]
      have hf := wus r hn s hs a
      cases hm : wrh r s a with
      | none =>
        rw [hm, Option.getD_none, Option.isSome_none] at hf
        show _ = alO (false, out)
        rw [wfq ho, if_neg (by simp), if_neg (by simp)]
        clear ih hm
        refine wdb wob ?_
        unfold wzb
        (repeat' (first | (simp -implicitDefEqProofs (maxSteps := 2000000) (disch := first | with_reducible assumption | omega | (simp only [zS, zA, Nat.reduceEqDiff, Nat.reduceLT, Nat.reduceLeDiff, Nat.reduceAdd, Nat.reduceSub, reduceCtorEq, wcb, wjb, zD] <;> omega) | fail) only [zS, argl, insA, Go.Den.wm, wo, wu, looks, wbb, wab, idOf, riA, Nat.reduceLeDiff, Nat.reduceLT, Nat.reduceEqDiff, Nat.reduceDiv, Nat.reduceMod, Int.reduceLT, Int.reduceLE, Int.reduceEq, Int.reduceNeg, Int.reduceToNat, Int.reduceSub, Int.reduceMul, Int.reduceNe, Nat.reduceAdd, Nat.reduceMul, Nat.reduceSub, Int.reduceAdd, reduceCtorEq, Go.Den.wh, kK, wrb, wcb, wjb, ej47, *, zT]) | (with_reducible (first | apply z1 | apply z2 | apply z3 | apply z4) <;> intro hq <;> (try simp only [zH] at hq) <;> (try (exfalso; omega)))))
      | some m =>
        rw [hm, Option.getD_some, Option.isSome_some] at hf
        have hr := wim hm
        clear hm
        show _ = alO (if m.at 0 = m.at 1 then (if m.at 1 = last then alF r s k (m.at 1 + 1) last out else alF r s k (m.at 1 + 1) (m.at 1) (out ++ [m])) else alF r s k (m.at 1) (m.at 1) (out ++ [m]))
        by_cases hq : m.at 0 = m.at 1
        · rw [if_pos hq]
          by_cases hl2 : m.at 1 = last
          · rw [if_pos hl2]
            have h := ih (m.at 1 + 1) last out (by omega) (by omega) (by omega) ho (by omega)
            have hne := wlx (r := r) (s := s) k (m.at 1 + 1) last out ho
            generalize alF r s k (m.at 1 + 1) last out = p at h hne ⊢
            obtain ⟨b, l⟩ := p
            rw [wfq hne] at h ⊢
            rw [hl2] at h
            clear ih
            cases b with
            | true =>
              rw [if_pos rfl, if_pos rfl] at h ⊢
              refine wdb wob ?_
              unfold wzb
              (repeat' (first | (simp -implicitDefEqProofs (maxSteps := 2000000) (disch := first | with_reducible assumption | omega | (simp only [zS, zA, Nat.reduceEqDiff, Nat.reduceLT, Nat.reduceLeDiff, Nat.reduceAdd, Nat.reduceSub, reduceCtorEq, wcb, wjb, wdg, wcg, zD] <;> omega) | fail) only [zS, argl, insA, Go.Den.wm, wo, wu, looks, wbb, wab, idOf, riA, Nat.reduceLeDiff, Nat.reduceLT, Nat.reduceEqDiff, Nat.reduceDiv, Nat.reduceMod, Int.reduceLT, Int.reduceLE, Int.reduceEq, Int.reduceNeg, Int.reduceToNat, Int.reduceSub, Int.reduceMul, Int.reduceNe, Nat.reduceAdd, Nat.reduceMul, Nat.reduceSub, Int.reduceAdd, reduceCtorEq, Go.Den.wh, kK, wrb, wcb, wjb, ej47, *, zT]) | (with_reducible (first | apply z1 | apply z2 | apply z3 | apply z4) <;> intro hq <;> (try simp only [zH] at hq) <;> (try (exfalso; omega)))))
            | false =>
              rw [if_neg (by simp), if_neg (by simp)] at h ⊢
              refine wdb wob ?_
              unfold wzb
              (repeat' (first | (simp -implicitDefEqProofs (maxSteps := 2000000) (disch := first | with_reducible assumption | omega | (simp only [zS, zA, Nat.reduceEqDiff, Nat.reduceLT, Nat.reduceLeDiff, Nat.reduceAdd, Nat.reduceSub, reduceCtorEq, wcb, wjb, wdg, wcg, zD] <;> omega) | fail) only [zS, argl, insA, Go.Den.wm, wo, wu, looks, wbb, wab, idOf, riA, Nat.reduceLeDiff, Nat.reduceLT, Nat.reduceEqDiff, Nat.reduceDiv, Nat.reduceMod, Int.reduceLT, Int.reduceLE, Int.reduceEq, Int.reduceNeg, Int.reduceToNat, Int.reduceSub, Int.reduceMul, Int.reduceNe, Nat.reduceAdd, Nat.reduceMul, Nat.reduceSub, Int.reduceAdd, reduceCtorEq, Go.Den.wh, kK, wrb, wcb, wjb, ej47, *, zT]) | (with_reducible (first | apply z1 | apply z2 | apply z3 | apply z4) <;> intro hq <;> (try simp only [zH] at hq) <;> (try (exfalso; omega)))))
          · rw [if_neg hl2]
            have h := ih (m.at 1 + 1) (m.at 1) (out ++ [m]) (by omega) (by omega) (by omega) (by simp) (by simp; omega)
            have hne := wlx (r := r) (s := s) k (m.at 1 + 1) (m.at 1) (out ++ [m]) (by simp)
            generalize alF r s k (m.at 1 + 1) (m.at 1) (out ++ [m]) = p at h hne ⊢
            obtain ⟨b, l⟩ := p
            rw [wfq hne] at h ⊢
            clear ih
            rw [show (out ++ [m]).length = out.length + 1 by simp, wpnb] at h
            cases b with
            | true =>
              rw [if_pos rfl, if_pos rfl] at h ⊢
              refine wdb wob ?_
              unfold wzb
              (repeat' (first | (simp -implicitDefEqProofs (maxSteps := 2000000) (disch := first | with_reducible assumption | omega | (simp only [zS, zA, Nat.reduceEqDiff, Nat.reduceLT, Nat.reduceLeDiff, Nat.reduceAdd, Nat.reduceSub, reduceCtorEq, wcb, wjb, wdg, wcg, zD] <;> omega) | fail) only [zS, argl, insA, Go.Den.wm, wo, wu, looks, wbb, wab, idOf, riA, Nat.reduceLeDiff, Nat.reduceLT, Nat.reduceEqDiff, Nat.reduceDiv, Nat.reduceMod, Int.reduceLT, Int.reduceLE, Int.reduceEq, Int.reduceNeg, Int.reduceToNat, Int.reduceSub, Int.reduceMul, Int.reduceNe, Nat.reduceAdd, Nat.reduceMul, Nat.reduceSub, Int.reduceAdd, reduceCtorEq, Go.Den.wh, kK, wrb, wcb, wjb, ej47, *, zT]) | (with_reducible (first | apply z1 | apply z2 | apply z3 | apply z4) <;> intro hq <;> (try simp only [zH] at hq) <;> (try (exfalso; omega)))))
            | false =>
              rw [if_neg (by simp), if_neg (by simp)] at h ⊢
              refine wdb wob ?_
              unfold wzb
              (repeat' (first | (simp -implicitDefEqProofs (maxSteps := 2000000) (disch := first | with_reducible assumption | omega | (simp only [zS, zA, Nat.reduceEqDiff, Nat.reduceLT, Nat.reduceLeDiff, Nat.reduceAdd, Nat.reduceSub, reduceCtorEq, wcb, wjb, wdg, wcg, zD] <;> omega) | fail) only [zS, argl, insA, Go.Den.wm, wo, wu, looks, wbb, wab, idOf, riA, Nat.reduceLeDiff, Nat.reduceLT, Nat.reduceEqDiff, Nat.reduceDiv, Nat.reduceMod, Int.reduceLT, Int.reduceLE, Int.reduceEq, Int.reduceNeg, Int.reduceToNat, Int.reduceSub, Int.reduceMul, Int.reduceNe, Nat.reduceAdd, Nat.reduceMul, Nat.reduceSub, Int.reduceAdd, reduceCtorEq, Go.Den.wh, kK, wrb, wcb, wjb, ej47, *, zT]) | (with_reducible (first | apply z1 | apply z2 | apply z3 | apply z4) <;> intro hq <;> (try simp only [zH] at hq) <;> (try (exfalso; omega)))))
        · rw [if_neg hq]
          have h := ih (m.at 1) (m.at 1) (out ++ [m]) (by omega) (by omega) (by omega) (by simp) (by simp; omega)
          have hne := wlx (r := r) (s := s) k (m.at 1) (m.at 1) (out ++ [m]) (by simp)
          generalize alF r s k (m.at 1) (m.at 1) (out ++ [m]) = p at h hne ⊢
          obtain ⟨b, l⟩ := p
          rw [wfq hne] at h ⊢
          clear ih
          rw [show (out ++ [m]).length = out.length + 1 by simp, wpnb] at h
          cases b with
          | true =>
            rw [if_pos rfl, if_pos rfl] at h ⊢
            refine wdb wob ?_
            unfold wzb
            (repeat' (first | (simp -implicitDefEqProofs (maxSteps := 2000000) (disch := first | with_reducible assumption | omega | (simp only [zS, zA, Nat.reduceEqDiff, Nat.reduceLT, Nat.reduceLeDiff, Nat.reduceAdd, Nat.reduceSub, reduceCtorEq, wcb, wjb, wdg, wcg, zD] <;> omega) | fail) only [zS, argl, insA, Go.Den.wm, wo, wu, looks, wbb, wab, idOf, riA, Nat.reduceLeDiff, Nat.reduceLT, Nat.reduceEqDiff, Nat.reduceDiv, Nat.reduceMod, Int.reduceLT, Int.reduceLE, Int.reduceEq, Int.reduceNeg, Int.reduceToNat, Int.reduceSub, Int.reduceMul, Int.reduceNe, Nat.reduceAdd, Nat.reduceMul, Nat.reduceSub, Int.reduceAdd, reduceCtorEq, Go.Den.wh, kK, wrb, wcb, wjb, ej47, *, zT]) | (with_reducible (first | apply z1 | apply z2 | apply z3 | apply z4) <;> intro hq <;> (try simp only [zH] at hq) <;> (try (exfalso; omega)))))
          | false =>
            rw [if_neg (by simp), if_neg (by simp)] at h ⊢
            refine wdb wob ?_
            unfold wzb
            (repeat' (first | (simp -implicitDefEqProofs (maxSteps := 2000000) (disch := first | with_reducible assumption | omega | (simp only [zS, zA, Nat.reduceEqDiff, Nat.reduceLT, Nat.reduceLeDiff, Nat.reduceAdd, Nat.reduceSub, reduceCtorEq, wcb, wjb, wdg, wcg, zD] <;> omega) | fail) only [zS, argl, insA, Go.Den.wm, wo, wu, looks, wbb, wab, idOf, riA, Nat.reduceLeDiff, Nat.reduceLT, Nat.reduceEqDiff, Nat.reduceDiv, Nat.reduceMod, Int.reduceLT, Int.reduceLE, Int.reduceEq, Int.reduceNeg, Int.reduceToNat, Int.reduceSub, Int.reduceMul, Int.reduceNe, Nat.reduceAdd, Nat.reduceMul, Nat.reduceSub, Int.reduceAdd, reduceCtorEq, Go.Den.wh, kK, wrb, wcb, wjb, ej47, *, zT]) | (with_reducible (first | apply z1 | apply z2 | apply z3 | apply z4) <;> intro hq <;> (try simp only [zH] at hq) <;> (try (exfalso; omega)))))
    · rw [if_neg ha]
      show _ = alO (true, out)
      rw [wfq ho, if_pos rfl, if_pos rfl]
      clear ih
      refine wdb wob ?_
      unfold wzb
      (repeat' (first | (simp -implicitDefEqProofs (maxSteps := 2000000) (disch := first | with_reducible assumption | omega | (simp only [zS, zA, Nat.reduceEqDiff, Nat.reduceLT, Nat.reduceLeDiff, Nat.reduceAdd, Nat.reduceSub, reduceCtorEq, wcb, wjb, zD] <;> omega) | fail) only [zS, argl, insA, Go.Den.wm, wo, wu, looks, wbb, wab, idOf, riA, Nat.reduceLeDiff, Nat.reduceLT, Nat.reduceEqDiff, Nat.reduceDiv, Nat.reduceMod, Int.reduceLT, Int.reduceLE, Int.reduceEq, Int.reduceNeg, Int.reduceToNat, Int.reduceSub, Int.reduceMul, Int.reduceNe, Nat.reduceAdd, Nat.reduceMul, Nat.reduceSub, Int.reduceAdd, reduceCtorEq, Go.Den.wh, kK, wrb, wcb, wjb, ej47, *, zT]) | (with_reducible (first | apply z1 | apply z2 | apply z3 | apply z4) <;> intro hq <;> (try simp only [zH] at hq) <;> (try (exfalso; omega)))))
theorem wmx {b : Bool} : alO (b, []) = some (.code (if b = true then .exit 0 else .ret) (SE (EJ 47 G0) [(5, .slice none 0 0), (4, if b = true then JK else .slice none 0 0)]), HP []) := by
  unfold alO alV alH
  rw [if_pos rfl, if_pos rfl]
  cases b <;> rfl
set_option maxHeartbeats 4000000 in
theorem wscc (r : Rx) (hn : wec r ≤ 1000000) (s : List UInt8) (hs : s.length ≤ 12) : ∀ (k : Nat) (a last : Int), 0 ≤ a → a ≤ s.length + 1 → s.length + 1 ≤ a + k →
    lim Try.prog cfg (.loop 27 0 (wxk 0) (SE (EJ 47 G0) [(7, .int .i64 a), (6, .int .i64 last), (5, .slice none 0 0), (2, .pointer (some ⟨0, 0, none⟩)), (1, str s)])) (HP [X (rxC r) 47 0 true]) = alO (alF r s k a last []) := by
  intro k
  induction k with
  | zero =>
    intro a last h0 h1 h2
    rw [alF, wmx, if_pos rfl, if_pos rfl]
    refine wdb wob ?_
    unfold wzb
    (repeat' (first | (simp -implicitDefEqProofs (maxSteps := 2000000) (disch := first | with_reducible assumption | omega | (simp only [zS, zA, Nat.reduceEqDiff, Nat.reduceLT, Nat.reduceLeDiff, Nat.reduceAdd, Nat.reduceSub, reduceCtorEq, wcb, wjb, zD] <;> omega) | fail) only [zS, argl, insA, Go.Den.wm, wo, wu, looks, wbb, wab, idOf, riA, Nat.reduceLeDiff, Nat.reduceLT, Nat.reduceEqDiff, Nat.reduceDiv, Nat.reduceMod, Int.reduceLT, Int.reduceLE, Int.reduceEq, Int.reduceNeg, Int.reduceToNat, Int.reduceSub, Int.reduceMul, Int.reduceNe, Nat.reduceAdd, Nat.reduceMul, Nat.reduceSub, Int.reduceAdd, reduceCtorEq, Go.Den.wh, kK, wrb, wcb, wjb, ej47, *, zT]) | (with_reducible (first | apply z1 | apply z2 | apply z3 | apply z4) <;> intro hq <;> (try simp only [zH] at hq) <;> (try (exfalso; omega)))))
  | succ k ih =>
    intro a last h0 h1 h2
    rw [alF]
    by_cases ha : a ≤ s.length
    · rw [if_pos ha]
      have hf := wus r hn s hs a
      cases hm : wrh r s a with
      | none =>
        rw [hm, Option.getD_none, Option.isSome_none] at hf
        show _ = alO (false, [])
        rw [wmx, if_neg (by simp), if_neg (by simp)]
        clear ih hm
        refine wdb wob ?_
        unfold wzb
        (repeat' (first | (simp -implicitDefEqProofs (maxSteps := 2000000) (disch := first | with_reducible assumption | omega | (simp only [zS, zA, Nat.reduceEqDiff, Nat.reduceLT, Nat.reduceLeDiff, Nat.reduceAdd, Nat.reduceSub, reduceCtorEq, wcb, wjb, zD] <;> omega) | fail) only [zS, argl, insA, Go.Den.wm, wo, wu, looks, wbb, wab, idOf, riA, Nat.reduceLeDiff, Nat.reduceLT, Nat.reduceEqDiff, Nat.reduceDiv, Nat.reduceMod, Int.reduceLT, Int.reduceLE, Int.reduceEq, Int.reduceNeg, Int.reduceToNat, Int.reduceSub, Int.reduceMul, Int.reduceNe, Nat.reduceAdd, Nat.reduceMul, Nat.reduceSub, Int.reduceAdd, reduceCtorEq, Go.Den.wh, kK, wrb, wcb, wjb, ej47, *, zT]) | (with_reducible (first | apply z1 | apply z2 | apply z3 | apply z4) <;> intro hq <;> (try simp only [zH] at hq) <;> (try (exfalso; omega)))))
      | some m =>
        rw [hm, Option.getD_some, Option.isSome_some] at hf
        have hr := wim hm
        clear hm
        show _ = alO (if m.at 0 = m.at 1 then (if m.at 1 = last then alF r s k (m.at 1 + 1) last [] else alF r s k (m.at 1 + 1) (m.at 1) ([] ++ [m])) else alF r s k (m.at 1) (m.at 1) ([] ++ [m]))
        rw [List.nil_append]
        by_cases hq : m.at 0 = m.at 1
        · rw [if_pos hq]
          by_cases hl2 : m.at 1 = last
          · rw [if_pos hl2]
            have h := ih (m.at 1 + 1) last (by omega) (by omega) (by omega)
            generalize alF r s k (m.at 1 + 1) last [] = p at h ⊢
            obtain ⟨b, l⟩ := p
            rw [hl2] at h
            clear ih
            by_cases hne : l = []
            · subst hne
              rw [wmx] at h ⊢
              cases b with
              | true =>
                rw [if_pos rfl, if_pos rfl] at h ⊢
                refine wdb wob ?_
                unfold wzb
                (repeat' (first | (simp -implicitDefEqProofs (maxSteps := 2000000) (disch := first | with_reducible assumption | omega | (simp only [zS, zA, Nat.reduceEqDiff, Nat.reduceLT, Nat.reduceLeDiff, Nat.reduceAdd, Nat.reduceSub, reduceCtorEq, wcb, wjb, wdg, wcg, zD] <;> omega) | fail) only [zS, argl, insA, Go.Den.wm, wo, wu, looks, wbb, wab, idOf, riA, Nat.reduceLeDiff, Nat.reduceLT, Nat.reduceEqDiff, Nat.reduceDiv, Nat.reduceMod, Int.reduceLT, Int.reduceLE, Int.reduceEq, Int.reduceNeg, Int.reduceToNat, Int.reduceSub, Int.reduceMul, Int.reduceNe, Nat.reduceAdd, Nat.reduceMul, Nat.reduceSub, Int.reduceAdd, reduceCtorEq, Go.Den.wh, kK, wrb, wcb, wjb, ej47, *, zT]) | (with_reducible (first | apply z1 | apply z2 | apply z3 | apply z4) <;> intro hq <;> (try simp only [zH] at hq) <;> (try (exfalso; omega)))))
              | false =>
                rw [if_neg (by simp), if_neg (by simp)] at h ⊢
                refine wdb wob ?_
                unfold wzb
                (repeat' (first | (simp -implicitDefEqProofs (maxSteps := 2000000) (disch := first | with_reducible assumption | omega | (simp only [zS, zA, Nat.reduceEqDiff, Nat.reduceLT, Nat.reduceLeDiff, Nat.reduceAdd, Nat.reduceSub, reduceCtorEq, wcb, wjb, wdg, wcg, zD] <;> omega) | fail) only [zS, argl, insA, Go.Den.wm, wo, wu, looks, wbb, wab, idOf, riA, Nat.reduceLeDiff, Nat.reduceLT, Nat.reduceEqDiff, Nat.reduceDiv, Nat.reduceMod, Int.reduceLT, Int.reduceLE, Int.reduceEq, Int.reduceNeg, Int.reduceToNat, Int.reduceSub, Int.reduceMul, Int.reduceNe, Nat.reduceAdd, Nat.reduceMul, Nat.reduceSub, Int.reduceAdd, reduceCtorEq, Go.Den.wh, kK, wrb, wcb, wjb, ej47, *, zT]) | (with_reducible (first | apply z1 | apply z2 | apply z3 | apply z4) <;> intro hq <;> (try simp only [zH] at hq) <;> (try (exfalso; omega)))))
            · rw [wfq hne] at h ⊢
              cases b with
              | true =>
                rw [if_pos rfl, if_pos rfl] at h ⊢
                refine wdb wob ?_
                unfold wzb
                (repeat' (first | (simp -implicitDefEqProofs (maxSteps := 2000000) (disch := first | with_reducible assumption | omega | (simp only [zS, zA, Nat.reduceEqDiff, Nat.reduceLT, Nat.reduceLeDiff, Nat.reduceAdd, Nat.reduceSub, reduceCtorEq, wcb, wjb, wdg, wcg, zD] <;> omega) | fail) only [zS, argl, insA, Go.Den.wm, wo, wu, looks, wbb, wab, idOf, riA, Nat.reduceLeDiff, Nat.reduceLT, Nat.reduceEqDiff, Nat.reduceDiv, Nat.reduceMod, Int.reduceLT, Int.reduceLE, Int.reduceEq, Int.reduceNeg, Int.reduceToNat, Int.reduceSub, Int.reduceMul, Int.reduceNe, Nat.reduceAdd, Nat.reduceMul, Nat.reduceSub, Int.reduceAdd, reduceCtorEq, Go.Den.wh, kK, wrb, wcb, wjb, ej47, *, zT]) | (with_reducible (first | apply z1 | apply z2 | apply z3 | apply z4) <;> intro hq <;> (try simp only [zH] at hq) <;> (try (exfalso; omega)))))
              | false =>
                rw [if_neg (by simp), if_neg (by simp)] at h ⊢
                refine wdb wob ?_
                unfold wzb
                (repeat' (first | (simp -implicitDefEqProofs (maxSteps := 2000000) (disch := first | with_reducible assumption | omega | (simp only [zS, zA, Nat.reduceEqDiff, Nat.reduceLT, Nat.reduceLeDiff, Nat.reduceAdd, Nat.reduceSub, reduceCtorEq, wcb, wjb, wdg, wcg, zD] <;> omega) | fail) only [zS, argl, insA, Go.Den.wm, wo, wu, looks, wbb, wab, idOf, riA, Nat.reduceLeDiff, Nat.reduceLT, Nat.reduceEqDiff, Nat.reduceDiv, Nat.reduceMod, Int.reduceLT, Int.reduceLE, Int.reduceEq, Int.reduceNeg, Int.reduceToNat, Int.reduceSub, Int.reduceMul, Int.reduceNe, Nat.reduceAdd, Nat.reduceMul, Nat.reduceSub, Int.reduceAdd, reduceCtorEq, Go.Den.wh, kK, wrb, wcb, wjb, ej47, *, zT]) | (with_reducible (first | apply z1 | apply z2 | apply z3 | apply z4) <;> intro hq <;> (try simp only [zH] at hq) <;> (try (exfalso; omega)))))
          · rw [if_neg hl2]
            have h := wqgb r hn s hs k (m.at 1 + 1) (m.at 1) [m] (by omega) (by omega) (by omega) (by simp) (by simp; omega)
            have hne := wlx (r := r) (s := s) k (m.at 1 + 1) (m.at 1) [m] (List.cons_ne_nil m [])
            generalize alF r s k (m.at 1 + 1) (m.at 1) [m] = p at h hne ⊢
            obtain ⟨b, l⟩ := p
            rw [wfq hne] at h ⊢
            clear ih
            rw [show [m].length = 1 from rfl, ← wtkb] at h
            cases b with
            | true =>
              rw [if_pos rfl, if_pos rfl] at h ⊢
              refine wdb wob ?_
              unfold wzb
              (repeat' (first | (simp -implicitDefEqProofs (maxSteps := 2000000) (disch := first | with_reducible assumption | omega | (simp only [zS, zA, Nat.reduceEqDiff, Nat.reduceLT, Nat.reduceLeDiff, Nat.reduceAdd, Nat.reduceSub, reduceCtorEq, wcb, wjb, wdg, wcg, zD] <;> omega) | fail) only [zS, argl, insA, Go.Den.wm, wo, wu, looks, wbb, wab, idOf, riA, Nat.reduceLeDiff, Nat.reduceLT, Nat.reduceEqDiff, Nat.reduceDiv, Nat.reduceMod, Int.reduceLT, Int.reduceLE, Int.reduceEq, Int.reduceNeg, Int.reduceToNat, Int.reduceSub, Int.reduceMul, Int.reduceNe, Nat.reduceAdd, Nat.reduceMul, Nat.reduceSub, Int.reduceAdd, reduceCtorEq, Go.Den.wh, kK, wrb, wcb, wjb, ej47, *, zT]) | (with_reducible (first | apply z1 | apply z2 | apply z3 | apply z4) <;> intro hq <;> (try simp only [zH] at hq) <;> (try (exfalso; omega)))))
            | false =>
              rw [if_neg (by simp), if_neg (by simp)] at h ⊢
              refine wdb wob ?_
              unfold wzb
              (repeat' (first | (simp -implicitDefEqProofs (maxSteps := 2000000) (disch := first | with_reducible assumption | omega | (simp only [zS, zA, Nat.reduceEqDiff, Nat.reduceLT, Nat.reduceLeDiff, Nat.reduceAdd, Nat.reduceSub, reduceCtorEq, wcb, wjb, wdg, wcg, zD] <;> omega) | fail) only [zS, argl, insA, Go.Den.wm, wo, wu, looks, wbb, wab, idOf, riA, Nat.reduceLeDiff, Nat.reduceLT, Nat.reduceEqDiff, Nat.reduceDiv, Nat.reduceMod, Int.reduceLT, Int.reduceLE, Int.reduceEq, Int.reduceNeg, Int.reduceToNat, Int.reduceSub, Int.reduceMul, Int.reduceNe, Nat.reduceAdd, Nat.reduceMul, Nat.reduceSub, Int.reduceAdd, reduceCtorEq, Go.Den.wh, kK, wrb, wcb, wjb, ej47, *, zT]) | (with_reducible (first | apply z1 | apply z2 | apply z3 | apply z4) <;> intro hq <;> (try simp only [zH] at hq) <;> (try (exfalso; omega)))))
        · rw [if_neg hq]
          have h := wqgb r hn s hs k (m.at 1) (m.at 1) [m] (by omega) (by omega) (by omega) (by simp) (by simp; omega)
          have hne := wlx (r := r) (s := s) k (m.at 1) (m.at 1) [m] (List.cons_ne_nil m [])
          generalize alF r s k (m.at 1) (m.at 1) [m] = p at h hne ⊢
          obtain ⟨b, l⟩ := p
          rw [wfq hne] at h ⊢
          clear ih
          rw [show [m].length = 1 from rfl, ← wtkb] at h
          cases b with
          | true =>
            rw [if_pos rfl, if_pos rfl] at h ⊢
            refine wdb wob ?_
            unfold wzb
            (repeat' (first | (simp -implicitDefEqProofs (maxSteps := 2000000) (disch := first | with_reducible assumption | omega | (simp only [zS, zA, Nat.reduceEqDiff, Nat.reduceLT, Nat.reduceLeDiff, Nat.reduceAdd, Nat.reduceSub, reduceCtorEq, wcb, wjb, wdg, wcg, zD] <;> omega) | fail) only [zS, argl, insA, Go.Den.wm, wo, wu, looks, wbb, wab, idOf, riA, Nat.reduceLeDiff, Nat.reduceLT, Nat.reduceEqDiff, Nat.reduceDiv, Nat.reduceMod, Int.reduceLT, Int.reduceLE, Int.reduceEq, Int.reduceNeg, Int.reduceToNat, Int.reduceSub, Int.reduceMul, Int.reduceNe, Nat.reduceAdd, Nat.reduceMul, Nat.reduceSub, Int.reduceAdd, reduceCtorEq, Go.Den.wh, kK, wrb, wcb, wjb, ej47, *, zT]) | (with_reducible (first | apply z1 | apply z2 | apply z3 | apply z4) <;> intro hq <;> (try simp only [zH] at hq) <;> (try (exfalso; omega)))))
          | false =>
            rw [if_neg (by simp), if_neg (by simp)] at h ⊢
            refine wdb wob ?_
            unfold wzb
            (repeat' (first | (simp -implicitDefEqProofs (maxSteps := 2000000) (disch := first | with_reducible assumption | omega | (simp only [zS, zA, Nat.reduceEqDiff, Nat.reduceLT, Nat.reduceLeDiff, Nat.reduceAdd, Nat.reduceSub, reduceCtorEq, wcb, wjb, wdg, wcg, zD] <;> omega) | fail) only [zS, argl, insA, Go.Den.wm, wo, wu, looks, wbb, wab, idOf, riA, Nat.reduceLeDiff, Nat.reduceLT, Nat.reduceEqDiff, Nat.reduceDiv, Nat.reduceMod, Int.reduceLT, Int.reduceLE, Int.reduceEq, Int.reduceNeg, Int.reduceToNat, Int.reduceSub, Int.reduceMul, Int.reduceNe, Nat.reduceAdd, Nat.reduceMul, Nat.reduceSub, Int.reduceAdd, reduceCtorEq, Go.Den.wh, kK, wrb, wcb, wjb, ej47, *, zT]) | (with_reducible (first | apply z1 | apply z2 | apply z3 | apply z4) <;> intro hq <;> (try simp only [zH] at hq) <;> (try (exfalso; omega)))))
    · rw [if_neg ha]
      show _ = alO (true, [])
      rw [wmx, if_pos rfl, if_pos rfl]
      clear ih
      refine wdb wob ?_
      unfold wzb
      (repeat' (first | (simp -implicitDefEqProofs (maxSteps := 2000000) (disch := first | with_reducible assumption | omega | (simp only [zS, zA, Nat.reduceEqDiff, Nat.reduceLT, Nat.reduceLeDiff, Nat.reduceAdd, Nat.reduceSub, reduceCtorEq, wcb, wjb, zD] <;> omega) | fail) only [zS, argl, insA, Go.Den.wm, wo, wu, looks, wbb, wab, idOf, riA, Nat.reduceLeDiff, Nat.reduceLT, Nat.reduceEqDiff, Nat.reduceDiv, Nat.reduceMod, Int.reduceLT, Int.reduceLE, Int.reduceEq, Int.reduceNeg, Int.reduceToNat, Int.reduceSub, Int.reduceMul, Int.reduceNe, Nat.reduceAdd, Nat.reduceMul, Nat.reduceSub, Int.reduceAdd, reduceCtorEq, Go.Den.wh, kK, wrb, wcb, wjb, ej47, *, zT]) | (with_reducible (first | apply z1 | apply z2 | apply z3 | apply z4) <;> intro hq <;> (try simp only [zH] at hq) <;> (try (exfalso; omega)))))
def allR (r : Rx) (s : List UInt8) : List Mt := (alF r s (s.length + 1) 0 (-1) []).2
theorem ev_All (r : Rx) (hn : wec r ≤ 1000000) (s : List UInt8) (hs : s.length ≤ 12) : lim Try.prog cfg (.call 27 [.agg ⟨rxC r⟩, str s]) (HP []) = some (.val (FL (allR r s).length (mtsC (allR r s))), HP []) := by
  have h := wscc r hn s hs (s.length + 1) 0 (-1) (by omega) (by omega) (by omega)
  refine wnb hc wgy (Nat.le_of_ble_eq_true rfl) (Nat.le_of_ble_eq_true rfl) ?_
  unfold www allR
  generalize alF r s (s.length + 1) 0 (-1) [] = p at h ⊢
  obtain ⟨b, l⟩ := p
  by_cases hne : l = []
  · subst hne
    rw [wmx] at h
    cases b with
    | true =>
      rw [if_pos rfl, if_pos rfl] at h
      (repeat' (first | (simp -implicitDefEqProofs (maxSteps := 2000000) (disch := first | with_reducible assumption | omega | (simp only [zS, zA, Nat.reduceEqDiff, Nat.reduceLT, Nat.reduceLeDiff, Nat.reduceAdd, Nat.reduceSub, reduceCtorEq, wcb, wjb, wdg, wcg, zD] <;> omega) | fail) only [zS, argl, insA, Go.Den.wm, wo, wu, looks, wbb, wab, idOf, riA, Nat.reduceLeDiff, Nat.reduceLT, Nat.reduceEqDiff, Nat.reduceDiv, Nat.reduceMod, Int.reduceLT, Int.reduceLE, Int.reduceEq, Int.reduceNeg, Int.reduceToNat, Int.reduceSub, Int.reduceMul, Int.reduceNe, Nat.reduceAdd, Nat.reduceMul, Nat.reduceSub, Int.reduceAdd, reduceCtorEq, Go.Den.wh, kK, wrb, wcb, wjb, ej47, *, zT]) | (with_reducible (first | apply z1 | apply z2 | apply z3 | apply z4) <;> intro hq <;> (try simp only [zH] at hq) <;> (try (exfalso; omega)))))
      all_goals rfl
    | false =>
      rw [if_neg (by simp), if_neg (by simp)] at h
      (repeat' (first | (simp -implicitDefEqProofs (maxSteps := 2000000) (disch := first | with_reducible assumption | omega | (simp only [zS, zA, Nat.reduceEqDiff, Nat.reduceLT, Nat.reduceLeDiff, Nat.reduceAdd, Nat.reduceSub, reduceCtorEq, wcb, wjb, wdg, wcg, zD] <;> omega) | fail) only [zS, argl, insA, Go.Den.wm, wo, wu, looks, wbb, wab, idOf, riA, Nat.reduceLeDiff, Nat.reduceLT, Nat.reduceEqDiff, Nat.reduceDiv, Nat.reduceMod, Int.reduceLT, Int.reduceLE, Int.reduceEq, Int.reduceNeg, Int.reduceToNat, Int.reduceSub, Int.reduceMul, Int.reduceNe, Nat.reduceAdd, Nat.reduceMul, Nat.reduceSub, Int.reduceAdd, reduceCtorEq, Go.Den.wh, kK, wrb, wcb, wjb, ej47, *, zT]) | (with_reducible (first | apply z1 | apply z2 | apply z3 | apply z4) <;> intro hq <;> (try simp only [zH] at hq) <;> (try (exfalso; omega)))))
      all_goals rfl
  · rw [wfq hne] at h
    cases b with
    | true =>
      rw [if_pos rfl, if_pos rfl] at h
      (repeat' (first | (simp -implicitDefEqProofs (maxSteps := 2000000) (disch := first | with_reducible assumption | omega | (simp only [zS, zA, Nat.reduceEqDiff, Nat.reduceLT, Nat.reduceLeDiff, Nat.reduceAdd, Nat.reduceSub, reduceCtorEq, wcb, wjb, wdg, wcg, zD] <;> omega) | fail) only [zS, argl, insA, Go.Den.wm, wo, wu, looks, wbb, wab, idOf, riA, Nat.reduceLeDiff, Nat.reduceLT, Nat.reduceEqDiff, Nat.reduceDiv, Nat.reduceMod, Int.reduceLT, Int.reduceLE, Int.reduceEq, Int.reduceNeg, Int.reduceToNat, Int.reduceSub, Int.reduceMul, Int.reduceNe, Nat.reduceAdd, Nat.reduceMul, Nat.reduceSub, Int.reduceAdd, reduceCtorEq, Go.Den.wh, kK, wrb, wcb, wjb, ej47, *, zT]) | (with_reducible (first | apply z1 | apply z2 | apply z3 | apply z4) <;> intro hq <;> (try simp only [zH] at hq) <;> (try (exfalso; omega)))))
      all_goals rfl
    | false =>
      rw [if_neg (by simp), if_neg (by simp)] at h
      (repeat' (first | (simp -implicitDefEqProofs (maxSteps := 2000000) (disch := first | with_reducible assumption | omega | (simp only [zS, zA, Nat.reduceEqDiff, Nat.reduceLT, Nat.reduceLeDiff, Nat.reduceAdd, Nat.reduceSub, reduceCtorEq, wcb, wjb, wdg, wcg, zD] <;> omega) | fail) only [zS, argl, insA, Go.Den.wm, wo, wu, looks, wbb, wab, idOf, riA, Nat.reduceLeDiff, Nat.reduceLT, Nat.reduceEqDiff, Nat.reduceDiv, Nat.reduceMod, Int.reduceLT, Int.reduceLE, Int.reduceEq, Int.reduceNeg, Int.reduceToNat, Int.reduceSub, Int.reduceMul, Int.reduceNe, Nat.reduceAdd, Nat.reduceMul, Nat.reduceSub, Int.reduceAdd, reduceCtorEq, Go.Den.wh, kK, wrb, wcb, wjb, ej47, *, zT]) | (with_reducible (first | apply z1 | apply z2 | apply z3 | apply z4) <;> intro hq <;> (try simp only [zH] at hq) <;> (try (exfalso; omega)))))
      all_goals rfl
end
end Go.Proofs.Ytdbhfmdndiphcaa
namespace Go.Den
noncomputable section
section
variable {len : Nat} {s : List UInt8} {bol : Bool} {Q : St → Prop}
theorem wqnb {α : Type} (f : α → List St) : ∀ (l : List α), (∀ z ∈ l, ∀ y ∈ f z, Q y) → ∀ out : List St, (∀ y ∈ out, Q y) → ∀ y ∈ l.foldl (fun out z => addF out (f z)) out, Q y := by
  intro l
  induction l with
  | nil => intro _ out h; exact h
  | cons z l ih =>
    intro hf out h
    refine ih (fun z' hz' => hf z' (List.mem_cons_of_mem _ hz')) _ ?_
    intro y hy
    rcases (wqp _ _).1 hy with h1 | h1
    · exact h y h1
    · exact hf z (List.mem_cons_self ..) y h1
theorem inv_on {w : St → List St} {mn mx : Int} (hw : ∀ x, GdS len x → Q x → ∀ y ∈ w x, GdS len y ∧ Q y) : ∀ (k : Nat) (n : Int) (x : St) (a : List (Int × St) × List St), GdS len x → Q x → (∀ y ∈ a.2, Q y) → ∀ y ∈ (onF w mn mx k n x a).2, Q y := by
  intro k
  induction k with
  | zero => intro n x a _ _ h; exact h
  | succ k ih =>
    intro n x a hx hxq h
    have hf : ∀ (l : List St), (∀ y ∈ l, GdS len y ∧ Q y) → ∀ b : List (Int × St) × List St, (∀ y ∈ b.2, Q y) → ∀ y ∈ (l.foldl (fun b y => if y.1 ≠ x.1 ∨ n < mn then onF w mn mx k (n + 1) y b else b) b).2, Q y := by
      intro l
      induction l with
      | nil => intro _ b hb; exact hb
      | cons y l ih2 =>
        intro hl b hb
        have hy := hl y (List.mem_cons_self ..)
        refine ih2 (fun z hz => hl z (List.mem_cons_of_mem _ hz)) _ ?_
        show ∀ z ∈ (if y.1 ≠ x.1 ∨ n < mn then onF w mn mx k (n + 1) y b else b).2, Q z
        split
        · exact ih _ _ _ hy.1 hy.2 hb
        · exact hb
    unfold onF
    split
    · exact h
    · simp only
      have hb : ∀ y ∈ (if mx < 0 ∨ n < mx then (w x).foldl (fun b y => if y.1 ≠ x.1 ∨ n < mn then onF w mn mx k (n + 1) y b else b) (a.1 ++ [keyF mn mx n x], a.2) else (a.1 ++ [keyF mn mx n x], a.2)).2, Q y := by
        split
        · exact hf (w x) (hw x hx hxq) _ h
        · exact h
      split
      · intro y hy
        rcases (wqp _ _).1 hy with h1 | h1
        · exact hb y h1
        · rw [List.mem_singleton] at h1; subst h1; exact hxq
      · exact hb
theorem ways_inv (hs : s.length = len) (hmove : ∀ (x : St) (a : Int), Q x → x.1 ≤ a → Q (a, x.2)) (hgroup : ∀ (x y : St) (n : Int), Q x → Q y → x.1 ≤ y.1 → 1 ≤ n → n ≤ 3 → Q (y.1, (y.2.put (n.toNat * 2) x.1).put (n.toNat * 2 + 1) y.1)) :
    ∀ (r : Rx), okR r = true → ∀ x, GdS len x → Q x → ∀ y ∈ wgg s bol r x, Q y := by
  refine Rx.rec (motive_1 := fun r => okR r = true → ∀ x, GdS len x → Q x → ∀ y ∈ wgg s bol r x, Q y)
    (motive_2 := fun kids => okRs kids = true → (∀ r ∈ kids, okR r = true ∧ ∀ x, GdS len x → Q x → ∀ y ∈ wgg s bol r x, Q y)) ?_ ?_ ?_
  · intro k mn mx n set kids ih hok x hx hq
    have hrow := wps (s := s) hs (bol := bol) _ hok x hx
    rw [okR, Bool.and_eq_true] at hok
    have hk := ih hok.2
    have hkq : ∀ r ∈ kids, ∀ x, GdS len x → Q x → ∀ y ∈ wgg s bol r x, GdS len y ∧ Q y ∧ x.1 ≤ y.1 := by
      intro r hr x hx hq y hy
      have h1 := (wps (s := s) hs (bol := bol) r (hk r hr).1 x hx).good y hy
      exact ⟨h1.1, (hk r hr).2 x hx hq y hy, h1.2⟩
    have kid : kids ≠ [] → ∀ x, GdS len x → Q x → ∀ y ∈ kidF s bol kids x, GdS len y ∧ Q y ∧ x.1 ≤ y.1 := by
      intro hne y hy
      cases kids with
      | nil => exact absurd rfl hne
      | cons r rs => rw [kidF]; exact hkq r (List.mem_cons_self ..) y hy
    clear hrow
    rw [wgg]
    split
    · split
      · intro y hy; rw [List.mem_singleton] at hy; subst hy; exact hmove x _ hq (by omega)
      · intro y hy; cases hy
    split
    · split
      · intro y hy; rw [List.mem_singleton] at hy; subst hy; exact hq
      · intro y hy; cases hy
    split
    · split
      · intro y hy; rw [List.mem_singleton] at hy; subst hy; exact hq
      · intro y hy; cases hy
    split
    · rename_i h6
      have h := hok.1
      rw [if_neg (by omega), if_neg (by omega), if_pos h6] at h
      simp only [Bool.and_eq_true, decide_eq_true_eq] at h
      intro y hy
      have hb := (whnb hs h.1 h.2 hx (n := n)).good y hy
      unfold wxkb at hy
      split at hy
      · cases hy
      split at hy
      · cases hy
      split at hy
      · cases hy
      rw [List.mem_singleton] at hy
      subst hy
      exact hmove x _ hq hb.2
    split
    · rename_i h5
      have h := hok.1
      rw [if_pos h5] at h
      simp only [Bool.and_eq_true, decide_eq_true_eq] at h
      refine wqnb (fun y : St => [(y.1, (y.2.put (n.toNat * 2) x.1).put (n.toNat * 2 + 1) y.1)]) _ (fun z hz y hy => ?_) _ (fun y hy => by cases hy)
      rw [List.mem_singleton] at hy
      subst hy
      have hz := kid h.1 x hx hq z hz
      exact hgroup x z n hq hz.2.1 hz.2.2 h.2.1 h.2.2
    split
    · have alt : ∀ (l : List Rx), (∀ r ∈ l, ∀ x, GdS len x → Q x → ∀ y ∈ wgg s bol r x, GdS len y ∧ Q y ∧ x.1 ≤ y.1) → ∀ out : List St, (∀ y ∈ out, Q y) → ∀ y ∈ altF s bol l x out, Q y := by
        intro l
        induction l with
        | nil => intro _ out h; rw [altF]; exact h
        | cons r l ih =>
          intro hl out h
          rw [altF]
          refine ih (fun r hr => hl r (List.mem_cons_of_mem _ hr)) _ ?_
          intro y hy
          rcases (wqp _ _).1 hy with h1 | h1
          · exact h y h1
          · exact (hl r (List.mem_cons_self ..) x hx hq y h1).2.1
      exact alt kids hkq [] (fun y hy => by cases hy)
    split
    · have cat : ∀ (l : List Rx), (∀ r ∈ l, ∀ x, GdS len x → Q x → ∀ y ∈ wgg s bol r x, GdS len y ∧ Q y ∧ x.1 ≤ y.1) → ∀ out : List St, (∀ y ∈ out, GdS len y ∧ Q y) → ∀ y ∈ catF s bol l out, Q y := by
        intro l
        induction l with
        | nil => intro _ out h; rw [catF]; exact fun y hy => (h y hy).2
        | cons r l ih =>
          intro hl out h
          rw [catF]
          refine ih (fun r hr => hl r (List.mem_cons_of_mem _ hr)) _ ?_
          refine wqnb (Q := fun y => GdS len y ∧ Q y) (fun y => wgg s bol r y) _ (fun z hz y hy => ?_) _ (fun y hy => by cases hy)
          have h1 := h z hz
          have h2 := hl r (List.mem_cons_self ..) z h1.1 h1.2 y hy
          exact ⟨h2.1, h2.2.1⟩
      exact cat kids hkq [x] (fun y hy => by rw [List.mem_singleton] at hy; subst hy; exact ⟨hx, hq⟩)
    split
    · rename_i h4
      have h := hok.1
      rw [if_neg (by omega), if_pos h4] at h
      simp only [Bool.and_eq_true, decide_eq_true_eq] at h
      exact inv_on (fun y hy hyq z hz => by have := kid h.1 y hy hyq z hz; exact ⟨this.1, this.2.1⟩) 100 0 x _ hx hq (fun y hy => by cases hy)
    · intro y hy; cases hy
  · intro _ r hr; cases hr
  · intro r rs ih1 ih2 hok
    rw [okRs, Bool.and_eq_true] at hok
    intro r' hr'
    rcases List.mem_cons.1 hr' with rfl | h
    · exact ⟨hok.1, ih1 hok.1⟩
    · exact ih2 hok.2 r' h
end
end
end Go.Den
namespace Go.Proofs.Ytdbhfmdndiphcaa
open Go.Den
noncomputable section
def Inn (a : Int) (x : St) : Prop := a ≤ x.1 ∧ ∀ g : Nat, 1 ≤ g → g ≤ 3 → 0 ≤ x.2.at (g * 2) → a ≤ x.2.at (g * 2) ∧ x.2.at (g * 2 + 1) ≤ x.1
theorem inn_ways {r : Rx} {s : List UInt8} {a : Int} : ∀ y ∈ whm r s true a, Inn a y := by
  unfold whm
  split
  · rename_i h
    refine ways_inv (Q := Inn a) (len := s.length) rfl ?_ ?_ r (wucb h.1) (a, wol) (wqcc h.2.1 h.2.2) ?_
    · intro x b hx hb
      refine ⟨Int.le_trans hx.1 hb, fun g g1 g3 h0 => ?_⟩
      have := hx.2 g g1 g3 h0
      exact ⟨this.1, Int.le_trans this.2 hb⟩
    · intro x y n hx hy hxy n1 n3
      refine ⟨hy.1, fun g g1 g3 h0 => ?_⟩
      have e0 : ((y.2.put (n.toNat * 2) x.1).put (n.toNat * 2 + 1) y.1).at (g * 2) = if n.toNat = g then x.1 else y.2.at (g * 2) := by
        rw [Mt.at_put, if_neg (by omega), Mt.at_put]
        by_cases hn : n.toNat = g
        · rw [if_pos (by omega), if_pos hn]
        · rw [if_neg (by omega), if_neg hn]
      have e1 : ((y.2.put (n.toNat * 2) x.1).put (n.toNat * 2 + 1) y.1).at (g * 2 + 1) = if n.toNat = g then y.1 else y.2.at (g * 2 + 1) := by
        rw [Mt.at_put, Mt.at_put]
        by_cases hn : n.toNat = g
        · rw [if_pos (by omega), if_pos hn]
        · rw [if_neg (by omega), if_neg (by omega), if_neg hn]
      simp only [e0, e1] at h0 ⊢
      by_cases hn : n.toNat = g
      · rw [if_pos hn, if_pos hn]; exact ⟨hx.1, Int.le_refl _⟩
      · rw [if_neg hn] at h0
        rw [if_neg hn, if_neg hn]; exact hy.2 g g1 g3 h0
    · refine ⟨Int.le_refl _, fun g g1 g3 h0 => ?_⟩
      exfalso
      have : wol.at (g * 2) = -1 := by
        rcases (show g = 1 ∨ g = 2 ∨ g = 3 by omega) with rfl | rfl | rfl <;> rfl
      simp only [this] at h0
      omega
  · intro y hy; cases hy
theorem wnx {r : Rx} {s : List UInt8} {a : Int} {m : Mt} (h : wrh r s a = some m) : ∃ b : St, wts r = true ∧ wxq (whm r s true (m.at 0)) none = some b ∧ m = (b.2.put 0 (m.at 0)).put 1 b.1 ∧ 0 ≤ a ∧ a ≤ m.at 0 ∧ m.at 0 ≤ s.length := by
  have hat := wim h
  unfold wrh at h
  split at h
  · rename_i hq
    obtain ⟨b, a2, h1, h2, h3, h4⟩ := wkx _ _ h
    subst h4
    rw [mt_at0] at *
    exact ⟨b, hq.1, h3, rfl, hq.2.1, h1, by omega⟩
  · cases h
theorem wrgb {r : Rx} {s : List UInt8} {a : Int} {m : Mt} (h : wrh r s a = some m) : wrh r s (m.at 0) = some m := by
  obtain ⟨b, hr, hb, hm, h0, h1, h2⟩ := wnx h
  unfold wrh
  rw [if_pos ⟨hr, by omega, h2⟩]
  obtain ⟨k, hk⟩ : ∃ k, ((s.length : Int) + 1 - m.at 0).toNat = k + 1 := ⟨((s.length : Int) - m.at 0).toNat, by omega⟩
  rw [hk, weq, hb]
  exact congrArg some hm.symm
def SpOk (m : Mt) : Prop := ∀ g : Nat, 1 ≤ g → g ≤ 3 → 0 ≤ m.at (g * 2) → m.at 0 ≤ m.at (g * 2) ∧ m.at (g * 2 + 1) ≤ m.at 1
theorem wtcc {r : Rx} {s : List UInt8} {a : Int} {m : Mt} (h : wrh r s a = some m) : SpOk m := by
  obtain ⟨b, hr, hb, hm, _⟩ := wnx h
  have hi : Inn (m.at 0) b := by
    rcases wonb _ _ _ hb with h1 | h1
    · exact inn_ways b h1
    · cases h1
  have hat1 : m.at 1 = b.1 := by rw [hm, mt_at1]
  intro g g1 g3 h0
  have e0 : m.at (g * 2) = b.2.at (g * 2) := by
    conv => lhs; rw [hm]
    rw [Mt.at_put, if_neg (by omega), Mt.at_put, if_neg (by omega)]
  have e1 : m.at (g * 2 + 1) = b.2.at (g * 2 + 1) := by
    conv => lhs; rw [hm]
    rw [Mt.at_put, if_neg (by omega), Mt.at_put, if_neg (by omega)]
  rw [e0] at h0 ⊢
  rw [e1, hat1]
  exact hi.2 g g1 g3 h0
def BehF (r : Rx) (s : List UInt8) (p m : Mt) : Prop :=
  p.at 1 ≤ m.at 0 ∧ ¬ (m.at 0 = m.at 1 ∧ m.at 0 = p.at 1) ∧ ∃ x, wrh r s (p.at 1) = some x ∧ 0 ≤ x.at 0 ∧ x.at 0 ≤ m.at 0 ∧ (x.at 0 = m.at 0 ∨ x.at 0 = x.at 1)
structure MtOk (r : Rx) (s : List UInt8) (prev : Option Mt) (m : Mt) : Prop where
  lo : 0 ≤ m.at 0
  le : m.at 0 ≤ m.at 1
  hi : m.at 1 ≤ s.length
  sp : SpOk m
  fst : prev = none → wrh r s 0 = some m
  beh : ∀ p, prev = some p → BehF r s p m
def wrnb (r : Rx) (s : List UInt8) : Option Mt → List Mt → Prop
  | _, [] => True
  | prev, m :: l => MtOk r s prev m ∧ wrnb r s (some m) l
def AtF (r : Rx) (s : List UInt8) (a last : Int) : Option Mt → Prop
  | none => a = 0 ∧ last = -1
  | some p => p.at 1 = last ∧ 0 ≤ last ∧ (a = last ∨ (a = last + 1 ∧ ∃ x, wrh r s last = some x ∧ x.at 0 = last ∧ x.at 1 = last))
theorem mt_ok {r : Rx} {s : List UInt8} {a last : Int} {prev : Option Mt} {m : Mt} (hat : AtF r s a last prev) (hm : wrh r s a = some m) (hne : ¬ (m.at 0 = m.at 1 ∧ m.at 1 = last)) : MtOk r s prev m := by
  have h := wim hm
  refine ⟨by omega, h.2.2.1, h.2.2.2, wtcc hm, fun hp => ?_, fun p hp => ?_⟩
  · subst hp
    obtain ⟨rfl, _⟩ := hat
    exact hm
  · subst hp
    obtain ⟨h1, h0, h2⟩ := hat
    unfold BehF
    rw [h1]
    rcases h2 with rfl | ⟨rfl, x, hx, x0, x1⟩
    · exact ⟨h.2.1, fun hc => hne ⟨hc.1, by omega⟩, m, hm, by omega, Int.le_refl _, .inl rfl⟩
    · exact ⟨by omega, fun hc => by omega, x, hx, by omega, by omega, .inr (by omega)⟩
theorem wucc {r : Rx} {s : List UInt8} : ∀ (k : Nat) (a last : Int) (out : List Mt), AtF r s a last out.getLast? → ∃ l, (alF r s k a last out).2 = out ++ l ∧ wrnb r s out.getLast? l := by
  intro k
  induction k with
  | zero => intro a last out _; exact ⟨[], by rw [alF, List.append_nil], trivial⟩
  | succ k ih =>
    intro a last out hat
    rw [alF]
    split
    · cases hf : wrh r s a with
      | none => exact ⟨[], by rw [List.append_nil], trivial⟩
      | some m =>
        have h := wim hf
        have hlast : (out ++ [m]).getLast? = some m := by simp
        simp only
        by_cases he : m.at 0 = m.at 1
        · rw [if_pos he]
          have hag := wrgb hf
          by_cases hl : m.at 1 = last
          · rw [if_pos hl]
            refine ih _ _ _ ?_
            cases hp : out.getLast? with
            | none =>
              rw [hp] at hat
              obtain ⟨_, h2⟩ := hat
              omega
            | some p =>
              rw [hp] at hat
              obtain ⟨h1, h0, _⟩ := hat
              refine ⟨h1, h0, .inr ⟨by omega, m, ?_, by omega, by omega⟩⟩
              rw [he, hl] at hag
              exact hag
          · rw [if_neg hl]
            obtain ⟨l, h1, h2⟩ := ih (m.at 1 + 1) (m.at 1) (out ++ [m]) (by rw [hlast]; exact ⟨rfl, by omega, .inr ⟨rfl, m, by rw [he] at hag; exact hag, he, rfl⟩⟩)
            refine ⟨m :: l, by rw [h1, List.append_assoc]; rfl, mt_ok hat hf (fun hc => hl hc.2), ?_⟩
            rwa [hlast] at h2
        · rw [if_neg he]
          obtain ⟨l, h1, h2⟩ := ih (m.at 1) (m.at 1) (out ++ [m]) (by rw [hlast]; exact ⟨rfl, by omega, .inl rfl⟩)
          refine ⟨m :: l, by rw [h1, List.append_assoc]; rfl, mt_ok hat hf (fun hc => he hc.1), ?_⟩
          rwa [hlast] at h2
    · exact ⟨[], by rw [List.append_nil], trivial⟩
theorem wzz (r : Rx) (s : List UInt8) : wrnb r s none (allR r s) := by
  obtain ⟨l, h1, h2⟩ := wucc (r := r) (s := s) (s.length + 1) 0 (-1) [] ⟨rfl, rfl⟩
  unfold allR
  rw [h1, List.nil_append]
  exact h2
theorem chain_at {r : Rx} {s : List UInt8} : ∀ (l : List Mt) (prev : Option Mt), wrnb r s prev l → ∀ i, i < l.length → MtOk r s (if i = 0 then prev else some (l.getD (i - 1) Mt.zero)) (l.getD i Mt.zero) := by
  intro l
  induction l with
  | nil => intro _ _ i hi; cases hi
  | cons m l ih =>
    intro prev h i hi
    cases i with
    | zero => rw [if_pos rfl]; exact h.1
    | succ i =>
      rw [if_neg (by omega)]
      have := ih (some m) h.2 i (by rw [List.length_cons] at hi; omega)
      rw [show i + 1 - 1 = i by omega]
      rw [show (m :: l).getD (i + 1) Mt.zero = l.getD i Mt.zero from rfl]
      cases i with
      | zero => exact this
      | succ i => rw [if_neg (by omega)] at this; exact this
theorem wrsb (r : Rx) (s : List UInt8) : (wrh r s 0 = none ∧ allR r s = []) ∨ ∃ m l, wrh r s 0 = some m ∧ allR r s = m :: l := by
  have hc := wzz r s
  cases hl : allR r s with
  | cons m l =>
    rw [hl] at hc
    exact .inr ⟨m, l, hc.1.fst rfl, rfl⟩
  | nil =>
    refine .inl ⟨?_, rfl⟩
    cases hf : wrh r s 0 with
    | none => rfl
    | some m =>
      exfalso
      have h := wim hf
      have : (alF r s (s.length + 1) 0 (-1) []).2 = [] := hl
      rw [alF, if_pos (by omega), hf] at this
      simp only at this
      by_cases he : m.at 0 = m.at 1
      · rw [if_pos he, if_neg (by omega)] at this
        exact wlx _ _ _ _ (by simp) this
      · rw [if_neg he] at this
        exact wlx _ _ _ _ (by simp) this
theorem al_len {r : Rx} {s : List UInt8} : ∀ (k : Nat) (a last : Int) (out : List Mt), (alF r s k a last out).2.length ≤ out.length + k := by
  intro k
  induction k with
  | zero => intro a last out; exact Nat.le_refl _
  | succ k ih =>
    intro a last out
    rw [alF]
    split
    · split
      · exact Nat.le_add_right _ _
      · split
        · split
          · exact Nat.le_trans (ih _ _ _) (by omega)
          · refine Nat.le_trans (ih _ _ _) ?_
            rw [List.length_append, List.length_singleton]; omega
        · refine Nat.le_trans (ih _ _ _) ?_
          rw [List.length_append, List.length_singleton]; omega
    · exact Nat.le_add_right _ _
theorem allR_len (r : Rx) (s : List UInt8) : (allR r s).length ≤ s.length + 1 := by
  have := al_len (r := r) (s := s) (s.length + 1) 0 (-1) []
  rw [List.length_nil, Nat.zero_add] at this
  exact this
end
end Go.Proofs.Ytdbhfmdndiphcaa
namespace Go.Proofs.Ytdbhfmdndiphcaa
set_option linter.unusedVariables false
set_option linter.unusedSimpArgs false
open Go.Den
noncomputable section
def elems1 : Option ABlk → Option (List Value)
  | some (.cells b) => (match (bif rdOk b 0 1 then some b else none) with
    | some b => some (slotsOf b.cells 0 1)
    | none => none)
  | _ => none
def b2s1 (o : Option ABlk) : ARes := match elems1 o with
  | some l => bif l.all isU8 then val (.string ⟨(l.map toU8).toArray⟩) else .none
  | none => .none
theorem b2s_HP {h : List ABlk} (hh : h.length ≤ 1099511627774) {i c : Nat} : b2sR (HP h) (.slice (some ⟨i, 0, none⟩) 1 c) = b2s1 h[i]? := by
  have h2 : wcj (HP h) 1 1 (.slice (some ⟨i, 0, none⟩) 1 c) = elems1 h[i]? := by
    show (match whh (HP h) ⟨i, 0, none⟩ 1 with
      | some b => some (slotsOf b.cells 0 1)
      | none => none) = _
    unfold whh
    rw [wci h hh]
    cases h[i]? with
    | none => rfl
    | some b => cases b <;> rfl
  show (match wcj (HP h) 1 1 (.slice (some ⟨i, 0, none⟩) 1 c) with
    | some l => bif l.all isU8 then val (.string ⟨(l.map toU8).toArray⟩) else .none
    | none => .none) = _
  rw [h2]
  rfl
theorem b2s_X {x : Nat} {t z : Nat} {pf : Bool} (hx : x < 256) : b2s1 (some (X [.int .u8 (x : Nat)] t z pf)) = val (str [UInt8.ofNat x]) := by
  show (bif (Nat.blt x 256 && true) then val (.string ⟨#[UInt8.ofNat x]⟩) else .none) = _
  rw [nblt, decide_eq_true hx]
  rfl
def tb (k : Nat) : Nat := [97, 98, 97, 99, 98, 46, 97, 32].getD k 0
theorem tb_get {k : Nat} (h : k < 8) : ([.int .u8 97, .int .u8 98, .int .u8 97, .int .u8 99, .int .u8 98, .int .u8 46, .int .u8 97, .int .u8 32] : List Value)[k]? = some (.int .u8 (tb k)) := by
  rcases (show k = 0 ∨ k = 1 ∨ k = 2 ∨ k = 3 ∨ k = 4 ∨ k = 5 ∨ k = 6 ∨ k = 7 by omega) with rfl | rfl | rfl | rfl | rfl | rfl | rfl | rfl <;> rfl
theorem tb_lt (k : Nat) : tb k < 256 := by
  unfold tb
  rw [List.getD_eq_getElem?_getD]
  by_cases h : k < 8
  · rcases (show k = 0 ∨ k = 1 ∨ k = 2 ∨ k = 3 ∨ k = 4 ∨ k = 5 ∨ k = 6 ∨ k = 7 by omega) with rfl | rfl | rfl | rfl | rfl | rfl | rfl | rfl <;> decide
  · rw [List.getElem?_eq_none (by simp; omega)]; decide
def wvcc (n : Int) : UInt8 := UInt8.ofNat (tb (whc n 0 7).toNat)
def textF (l : List Int) (most : Nat) : List UInt8 := (l.take most).map wvcc
theorem welb (n : Int) : 0 ≤ whc n 0 7 ∧ whc n 0 7 ≤ 7 := by
  unfold whc
  have := Int.emod_nonneg n (show (8 : Int) ≠ 0 by omega)
  have h5 := Int.emod_lt_of_pos n (show (0 : Int) < 8 by omega)
  rw [show (7 : Int) - 0 + 1 = 8 from rfl, Int.tmod_eq_emod]
  repeat' split
  all_goals omega
theorem wwcc (l : List Int) (most : Nat) (hm : most ≤ 1000) : ∀ (k i : Nat) (acc : List UInt8), i + k = min l.length most → acc.length ≤ i →
    lim Try.prog cfg (.loop 26 0 (wmh 0) (SE (EJ 31 G0) [(6, .int .i64 i), (5, str acc), (1, .int .i64 most), (0, FL l.length (ints l))])) (HP []) = some (.code (.exit 0) (SE (EJ 31 G0) [(5, str (acc ++ ((l.take most).drop i).map wvcc))]), HP []) := by
  intro k
  induction k with
  | zero =>
    intro i acc hi ha
    rw [List.drop_of_length_le (by rw [List.length_take]; omega), List.map_nil, List.append_nil]
    refine wdb wgj ?_
    unfold wli
    by_cases h1 : (i : Int) < l.length
    · have h2 : ¬ (i : Int) < most := by omega
      (repeat' (first | (simp -implicitDefEqProofs (maxSteps := 2000000) (disch := first | with_reducible assumption | omega | (simp only [zS, zA, Nat.reduceEqDiff, Nat.reduceLT, Nat.reduceLeDiff, Nat.reduceAdd, Nat.reduceSub, reduceCtorEq] <;> omega) | fail) only [zS, argl, insA, Go.Den.wm, wo, wu, looks, wbb, wab, idOf, riA, Nat.reduceLeDiff, Nat.reduceLT, Nat.reduceEqDiff, Nat.reduceDiv, Nat.reduceMod, Int.reduceLT, Int.reduceLE, Int.reduceEq, Int.reduceNeg, Int.reduceToNat, Int.reduceSub, Int.reduceMul, Int.reduceNe, Nat.reduceAdd, Nat.reduceMul, Nat.reduceSub, Int.reduceAdd, reduceCtorEq, Go.Den.wh, kK, wog, wcf, web, wkb, *]) | (with_reducible (first | apply z1 | apply z2 | apply z3 | apply z4) <;> intro hq <;> (try simp only [zH] at hq) <;> (try (exfalso; omega)))))
    · (repeat' (first | (simp -implicitDefEqProofs (maxSteps := 2000000) (disch := first | with_reducible assumption | omega | (simp only [zS, zA, Nat.reduceEqDiff, Nat.reduceLT, Nat.reduceLeDiff, Nat.reduceAdd, Nat.reduceSub, reduceCtorEq] <;> omega) | fail) only [zS, argl, insA, Go.Den.wm, wo, wu, looks, wbb, wab, idOf, riA, Nat.reduceLeDiff, Nat.reduceLT, Nat.reduceEqDiff, Nat.reduceDiv, Nat.reduceMod, Int.reduceLT, Int.reduceLE, Int.reduceEq, Int.reduceNeg, Int.reduceToNat, Int.reduceSub, Int.reduceMul, Int.reduceNe, Nat.reduceAdd, Nat.reduceMul, Nat.reduceSub, Int.reduceAdd, reduceCtorEq, Go.Den.wh, kK, wog, wcf, web, wkb, *]) | (with_reducible (first | apply z1 | apply z2 | apply z3 | apply z4) <;> intro hq <;> (try simp only [zH] at hq) <;> (try (exfalso; omega)))))
  | succ k ih =>
    intro i acc hi ha
    have hlt : i < (l.take most).length := by rw [List.length_take]; omega
    rw [List.drop_eq_getElem_cons hlt, List.map_cons]
    have hg := wss (l := l) (i := i) (by omega)
    have hv : (l.take most)[i] = l.getD i 0 := by rw [List.getElem_take, List.getD_eq_getElem?_getD, List.getElem?_eq_getElem (by omega)]; rfl
    rw [hv]
    have hw := wke (l.getD i 0) 0 7 (by omega) (by omega) (by omega)
    have hin := welb (l.getD i 0)
    have htb := tb_get (k := (whc (l.getD i 0) 0 7).toNat) (by omega)
    have hlt2 := tb_lt (whc (l.getD i 0) 0 7).toNat
    have h1 : (i : Int) < l.length := by omega
    have h2 : (i : Int) < most := by omega
    · have h := ih (i + 1) (acc ++ [wvcc (l.getD i 0)]) (by omega) (by simp; omega)
      rw [List.append_assoc, List.singleton_append] at h
      clear ih hv hlt
      unfold wvcc at h ⊢
      generalize whc (l.getD i 0) 0 7 = w at *
      generalize tb w.toNat = c at *
      refine wdb wgj ?_
      unfold wli
      (repeat' (first | (simp -implicitDefEqProofs (maxSteps := 2000000) (disch := first | with_reducible assumption | omega | (simp only [zS, zA, Nat.reduceEqDiff, Nat.reduceLT, Nat.reduceLeDiff, Nat.reduceAdd, Nat.reduceSub, reduceCtorEq] <;> omega) | fail) only [zS, argl, insA, Go.Den.wm, wo, wu, looks, wbb, wab, idOf, riA, Nat.reduceLeDiff, Nat.reduceLT, Nat.reduceEqDiff, Nat.reduceDiv, Nat.reduceMod, Int.reduceLT, Int.reduceLE, Int.reduceEq, Int.reduceNeg, Int.reduceToNat, Int.reduceSub, Int.reduceMul, Int.reduceNe, Nat.reduceAdd, Nat.reduceMul, Nat.reduceSub, Int.reduceAdd, reduceCtorEq, Go.Den.wh, kK, wog, wcf, web, wkb, b2s_HP, b2s_X, *]) | (with_reducible (first | apply z1 | apply z2 | apply z3 | apply z4) <;> intro hq <;> (try simp only [zH] at hq) <;> (try (exfalso; omega)))))
      exact h
theorem ev_Text (l : List Int) (most : Nat) (hm : most ≤ 1000) : lim Try.prog cfg (.call 26 [FL l.length (ints l), .int .i64 most]) (HP []) = some (.val (str (textF l most)), HP []) := by
  have h := wwcc l most hm (min l.length most) 0 [] (by omega) (by simp)
  rw [List.drop_zero, List.nil_append, show ((0 : Nat) : Int) = 0 from rfl] at h
  refine wnb hc wwp (Nat.le_of_ble_eq_true rfl) (Nat.le_of_ble_eq_true rfl) ?_
  unfold wem
  show _ = some (Out.val (str ((l.take most).map wvcc)), HP [])
  (repeat' (first | (simp -implicitDefEqProofs (maxSteps := 2000000) (disch := first | with_reducible assumption | omega | (simp only [zS, zA, Nat.reduceEqDiff, Nat.reduceLT, Nat.reduceLeDiff, Nat.reduceAdd, Nat.reduceSub, reduceCtorEq] <;> omega) | fail) only [zS, argl, insA, Go.Den.wm, wo, wu, looks, wbb, wab, idOf, riA, Nat.reduceLeDiff, Nat.reduceLT, Nat.reduceEqDiff, Nat.reduceDiv, Nat.reduceMod, Int.reduceLT, Int.reduceLE, Int.reduceEq, Int.reduceNeg, Int.reduceToNat, Int.reduceSub, Int.reduceMul, Int.reduceNe, Nat.reduceAdd, Nat.reduceMul, Nat.reduceSub, Int.reduceAdd, reduceCtorEq, Go.Den.wh, kK, wog, wcf, *]) | (with_reducible (first | apply z1 | apply z2 | apply z3 | apply z4) <;> intro hq <;> (try simp only [zH] at hq) <;> (try (exfalso; omega)))))
end
end Go.Proofs.Ytdbhfmdndiphcaa
namespace Go.Proofs.Ytdbhfmdndiphcaa
set_option linter.unusedVariables false
set_option linter.unusedSimpArgs false
open Go.Den
noncomputable section
abbrev bsB (z s : BitVec 256) : List ABlk := [X (setC z) 44 0 true, X (setC s) 44 0 true]
theorem wgd {a b c d e : Value} {s : BitVec 256} : wm [a, b, c, d, e] 0 (setC s) = [wdV s 0, wdV s 1, wdV s 2, wdV s 3, e] := rfl
end
end Go.Proofs.Ytdbhfmdndiphcaa
namespace Go.Proofs.Ytdbhfmdndiphcaa
set_option linter.unusedVariables false
set_option linter.unusedSimpArgs false
open Go.Den
noncomputable section
abbrev mkB (ks ns : List Int) (ere : Bool) : List Value := [FL ks.length (ints ks), FL ns.length (ints ns), .bool ere, .pointer (some ⟨0, 0, none⟩), .pointer (some ⟨1, 0, none⟩), .pointer (some ⟨2, 0, none⟩)]
abbrev mkH (a g l : Int) : List ABlk := [X [.int .i64 a] 3 0 true, X [.int .i64 g] 3 0 true, X [.int .i64 l] 3 0 true]
def wbk (ks : List Int) (a : Nat) : Int := if a < ks.length ∧ a < 30 then ks.getD a 0 else 0
def wzf (ns : List Int) (a : Nat) : Int := if 0 < ns.length then ns.getD (a % ns.length) 0 else 0
set_option maxHeartbeats 4000000 in
theorem wox (ks ns : List Int) (ere : Bool) (a : Nat) (ha : a ≤ 1000000) (g l : Int) : lim Try.prog cfg (.call 76 [.agg ⟨mkB ks ns ere⟩]) (HP (mkH a g l)) = some (.val (.tuple ⟨[.int .i64 (wbk ks a), .int .i64 (wzf ns a)]⟩), HP (mkH (a + 1 : Nat) g l)) := by
  refine wnb hc wcl (Nat.le_of_ble_eq_true rfl) (Nat.le_of_ble_eq_true rfl) ?_
  unfold wzi wbk wzf
  have hx : ∃ x, (if a < ks.length ∧ a < 30 then ks.getD a 0 else 0) = x := ⟨_, rfl⟩
  have e0 : ((a + 1 : Nat) : Int) = (a : Int) + 1 := by omega
  by_cases hn : 0 < ns.length
  · rw [if_pos hn]
    obtain ⟨q, hq⟩ : ∃ q, a % ns.length = q := ⟨_, rfl⟩
    have hq1 : (a : Int) % (ns.length : Int) = (q : Int) := by omega
    have hq2 : q < ns.length := by rw [← hq]; exact Nat.mod_lt _ hn
    have hq3 : q ≤ a := by rw [← hq]; exact Nat.mod_le _ _
    rw [hq]
    have hg := wss hq2
    clear hq hx
    by_cases h1 : a < ks.length
    · by_cases h2 : a < 30
      · rw [if_pos ⟨h1, h2⟩]
        have hk := wss h1
        (repeat' (first | (simp -implicitDefEqProofs (maxSteps := 2000000) (disch := first | with_reducible assumption | omega | (simp only [zS, zA, Nat.reduceEqDiff, Nat.reduceLT, Nat.reduceLeDiff, Nat.reduceAdd, Nat.reduceSub, reduceCtorEq] <;> omega) | fail) only [zS, argl, insA, Go.Den.wm, wo, wu, looks, wbb, wab, idOf, riA, Nat.reduceLeDiff, Nat.reduceLT, Nat.reduceEqDiff, Nat.reduceDiv, Nat.reduceMod, Int.reduceLT, Int.reduceLE, Int.reduceEq, Int.reduceNeg, Int.reduceToNat, Int.reduceSub, Int.reduceMul, Int.reduceNe, Nat.reduceAdd, Nat.reduceMul, Nat.reduceSub, Int.reduceAdd, reduceCtorEq, Go.Den.wh, kK, wcf, web, wkb, *]) | (with_reducible (first | apply z1 | apply z2 | apply z3 | apply z4) <;> intro hq <;> (try simp only [zH] at hq) <;> (try (exfalso; omega))) | (with_reducible apply z5; (case hl => (repeat (first | exact .nil | with_reducible apply z6 | with_reducible apply z7))); (case h => kernel_rfl))))
      · rw [if_neg (fun h => h2 h.2)]
        (repeat' (first | (simp -implicitDefEqProofs (maxSteps := 2000000) (disch := first | with_reducible assumption | omega | (simp only [zS, zA, Nat.reduceEqDiff, Nat.reduceLT, Nat.reduceLeDiff, Nat.reduceAdd, Nat.reduceSub, reduceCtorEq] <;> omega) | fail) only [zS, argl, insA, Go.Den.wm, wo, wu, looks, wbb, wab, idOf, riA, Nat.reduceLeDiff, Nat.reduceLT, Nat.reduceEqDiff, Nat.reduceDiv, Nat.reduceMod, Int.reduceLT, Int.reduceLE, Int.reduceEq, Int.reduceNeg, Int.reduceToNat, Int.reduceSub, Int.reduceMul, Int.reduceNe, Nat.reduceAdd, Nat.reduceMul, Nat.reduceSub, Int.reduceAdd, reduceCtorEq, Go.Den.wh, kK, wcf, web, wkb, *]) | (with_reducible (first | apply z1 | apply z2 | apply z3 | apply z4) <;> intro hq <;> (try simp only [zH] at hq) <;> (try (exfalso; omega))) | (with_reducible apply z5; (case hl => (repeat (first | exact .nil | with_reducible apply z6 | with_reducible apply z7))); (case h => kernel_rfl))))
    · rw [if_neg (fun h => h1 h.1)]
      (repeat' (first | (simp -implicitDefEqProofs (maxSteps := 2000000) (disch := first | with_reducible assumption | omega | (simp only [zS, zA, Nat.reduceEqDiff, Nat.reduceLT, Nat.reduceLeDiff, Nat.reduceAdd, Nat.reduceSub, reduceCtorEq] <;> omega) | fail) only [zS, argl, insA, Go.Den.wm, wo, wu, looks, wbb, wab, idOf, riA, Nat.reduceLeDiff, Nat.reduceLT, Nat.reduceEqDiff, Nat.reduceDiv, Nat.reduceMod, Int.reduceLT, Int.reduceLE, Int.reduceEq, Int.reduceNeg, Int.reduceToNat, Int.reduceSub, Int.reduceMul, Int.reduceNe, Nat.reduceAdd, Nat.reduceMul, Nat.reduceSub, Int.reduceAdd, reduceCtorEq, Go.Den.wh, kK, wcf, web, wkb, *]) | (with_reducible (first | apply z1 | apply z2 | apply z3 | apply z4) <;> intro hq <;> (try simp only [zH] at hq) <;> (try (exfalso; omega))) | (with_reducible apply z5; (case hl => (repeat (first | exact .nil | with_reducible apply z6 | with_reducible apply z7))); (case h => kernel_rfl))))
  · rw [if_neg hn]
    clear hx
    by_cases h1 : a < ks.length
    · by_cases h2 : a < 30
      · rw [if_pos ⟨h1, h2⟩]
        have hk := wss h1
        (repeat' (first | (simp -implicitDefEqProofs (maxSteps := 2000000) (disch := first | with_reducible assumption | omega | (simp only [zS, zA, Nat.reduceEqDiff, Nat.reduceLT, Nat.reduceLeDiff, Nat.reduceAdd, Nat.reduceSub, reduceCtorEq] <;> omega) | fail) only [zS, argl, insA, Go.Den.wm, wo, wu, looks, wbb, wab, idOf, riA, Nat.reduceLeDiff, Nat.reduceLT, Nat.reduceEqDiff, Nat.reduceDiv, Nat.reduceMod, Int.reduceLT, Int.reduceLE, Int.reduceEq, Int.reduceNeg, Int.reduceToNat, Int.reduceSub, Int.reduceMul, Int.reduceNe, Nat.reduceAdd, Nat.reduceMul, Nat.reduceSub, Int.reduceAdd, reduceCtorEq, Go.Den.wh, kK, wcf, web, wkb, *]) | (with_reducible (first | apply z1 | apply z2 | apply z3 | apply z4) <;> intro hq <;> (try simp only [zH] at hq) <;> (try (exfalso; omega))) | (with_reducible apply z5; (case hl => (repeat (first | exact .nil | with_reducible apply z6 | with_reducible apply z7))); (case h => kernel_rfl))))
      · rw [if_neg (fun h => h2 h.2)]
        (repeat' (first | (simp -implicitDefEqProofs (maxSteps := 2000000) (disch := first | with_reducible assumption | omega | (simp only [zS, zA, Nat.reduceEqDiff, Nat.reduceLT, Nat.reduceLeDiff, Nat.reduceAdd, Nat.reduceSub, reduceCtorEq] <;> omega) | fail) only [zS, argl, insA, Go.Den.wm, wo, wu, looks, wbb, wab, idOf, riA, Nat.reduceLeDiff, Nat.reduceLT, Nat.reduceEqDiff, Nat.reduceDiv, Nat.reduceMod, Int.reduceLT, Int.reduceLE, Int.reduceEq, Int.reduceNeg, Int.reduceToNat, Int.reduceSub, Int.reduceMul, Int.reduceNe, Nat.reduceAdd, Nat.reduceMul, Nat.reduceSub, Int.reduceAdd, reduceCtorEq, Go.Den.wh, kK, wcf, web, wkb, *]) | (with_reducible (first | apply z1 | apply z2 | apply z3 | apply z4) <;> intro hq <;> (try simp only [zH] at hq) <;> (try (exfalso; omega))) | (with_reducible apply z5; (case hl => (repeat (first | exact .nil | with_reducible apply z6 | with_reducible apply z7))); (case h => kernel_rfl))))
    · rw [if_neg (fun h => h1 h.1)]
      (repeat' (first | (simp -implicitDefEqProofs (maxSteps := 2000000) (disch := first | with_reducible assumption | omega | (simp only [zS, zA, Nat.reduceEqDiff, Nat.reduceLT, Nat.reduceLeDiff, Nat.reduceAdd, Nat.reduceSub, reduceCtorEq] <;> omega) | fail) only [zS, argl, insA, Go.Den.wm, wo, wu, looks, wbb, wab, idOf, riA, Nat.reduceLeDiff, Nat.reduceLT, Nat.reduceEqDiff, Nat.reduceDiv, Nat.reduceMod, Int.reduceLT, Int.reduceLE, Int.reduceEq, Int.reduceNeg, Int.reduceToNat, Int.reduceSub, Int.reduceMul, Int.reduceNe, Nat.reduceAdd, Nat.reduceMul, Nat.reduceSub, Int.reduceAdd, reduceCtorEq, Go.Den.wh, kK, wcf, web, wkb, *]) | (with_reducible (first | apply z1 | apply z2 | apply z3 | apply z4) <;> intro hq <;> (try simp only [zH] at hq) <;> (try (exfalso; omega))) | (with_reducible apply z5; (case hl => (repeat (first | exact .nil | with_reducible apply z6 | with_reducible apply z7))); (case h => kernel_rfl))))
theorem wsgb (s : BitVec 256) (x : Nat) (hx : x < 256) : lim Try.prog cfg (.call 146 [.int .u8 x, .pointer (some ⟨0, 0, none⟩)]) (HP [X (setC s) 44 0 true]) = some (.val (.tuple ⟨[]⟩), HP [X (setC (s ||| one x)) 44 0 true]) := by
  refine wnb hc wvl (Nat.le_of_ble_eq_true rfl) (Nat.le_of_ble_eq_true rfl) ?_
  unfold wfj
  have h1 : BitVec.ofInt (IntKind.bits .u64) 1 = BitVec.ofInt (IntKind.bits .u64) (((1#64).toNat : Nat) : Int) := rfl
  have e1 : ((x : Int) / 64).toNat = x / 64 := by omega
  have e2 : ((x : Int) % 64).toNat = x % 64 := by omega
  rw [← or_one s x hx]
  have hs : IntKind.wrap .u64 (1 * 2 ^ (min (x % 64) (IntKind.bits .u64))) = ((1#64 <<< (x % 64)).toNat : Nat) := by
    have := shl_u64 (b := ((x % 64 : Nat) : Int)) (by omega) (by omega)
    rwa [Int.toNat_natCast] at this
  (repeat' (first | (simp -implicitDefEqProofs (maxSteps := 2000000) (disch := first | with_reducible assumption | omega | (simp only [zS, zA, Nat.reduceEqDiff, Nat.reduceLT, Nat.reduceLeDiff, Nat.reduceAdd, Nat.reduceSub, reduceCtorEq, zD] <;> omega) | fail) only [zS, argl, insA, Go.Den.wm, wo, wu, looks, wbb, wab, idOf, riA, Nat.reduceLeDiff, Nat.reduceLT, Nat.reduceEqDiff, Nat.reduceDiv, Nat.reduceMod, Int.reduceLT, Int.reduceLE, Int.reduceEq, Int.reduceNeg, Int.reduceToNat, Int.reduceSub, Int.reduceMul, Int.reduceNe, Nat.reduceAdd, Nat.reduceMul, Nat.reduceSub, Int.reduceAdd, reduceCtorEq, Go.Den.wh, kK, wbnb, wcx, *, zT]) | (with_reducible (first | apply z1 | apply z2 | apply z3 | apply z4) <;> intro hq <;> (try simp only [zH] at hq) <;> (try (exfalso; omega)))))
  rw [or_u64, setC_set _ (by omega)]
theorem hb_put : wjm Try.prog 146 = true := by kernel_rfl
theorem wpx : cfg.know 146 = none := by kernel_rfl
theorem wyq {i : Nat} {args : List Value} : dynA Try.prog (.func (.func 146) ⟨[]⟩ ⟨[.pointer (some ⟨i, 0, none⟩)]⟩) args = .call 146 (args ++ [.pointer (some ⟨i, 0, none⟩)]) := by
  unfold dynA
  simp only [hb_put, cond_true, List.nil_append]
def wxcc : Nat → Nat → BitVec 256 → BitVec 256
  | 0, _, s => s
  | k + 1, i, s => wxcc k (i + 1) (s ||| one i)
abbrev bsFn : Value := .func (.func 146) ⟨[]⟩ ⟨[.pointer (some ⟨1, 0, none⟩)]⟩
theorem wssb (z : BitVec 256) : ∀ (k i : Nat) (s : BitVec 256), i + k = 256 →
    lim Try.prog cfg (.loop 126 0 (wuc 0) (SE (EJ 47 G0) [(20, .int .i64 i), (4, bsFn), (3, .pointer (some ⟨1, 0, none⟩)), (2, .pointer (some ⟨0, 0, none⟩))])) (HP (bsB z s)) = some (.code (.exit 1) (SE (EJ 47 G0) [(3, .pointer (some ⟨1, 0, none⟩)), (2, .pointer (some ⟨0, 0, none⟩))]), HP (bsB z (wxcc k i s))) := by
  intro k
  induction k with
  | zero =>
    intro i s hi
    rw [wxcc]
    refine wdb wei ?_
    unfold wtg
    (repeat' (first | (simp -implicitDefEqProofs (maxSteps := 2000000) (disch := first | with_reducible assumption | omega | (simp only [zS, zA, Nat.reduceEqDiff, Nat.reduceLT, Nat.reduceLeDiff, Nat.reduceAdd, Nat.reduceSub, reduceCtorEq, wje, zD] <;> omega) | fail) only [zS, argl, insA, Go.Den.wm, wo, wu, looks, wbb, wab, idOf, riA, Nat.reduceLeDiff, Nat.reduceLT, Nat.reduceEqDiff, Nat.reduceDiv, Nat.reduceMod, Int.reduceLT, Int.reduceLE, Int.reduceEq, Int.reduceNeg, Int.reduceToNat, Int.reduceSub, Int.reduceMul, Int.reduceNe, Nat.reduceAdd, Nat.reduceMul, Nat.reduceSub, Int.reduceAdd, reduceCtorEq, Go.Den.wh, kK, wud, *, zT]) | (with_reducible (first | apply z1 | apply z2 | apply z3 | apply z4) <;> intro hq <;> (try simp only [zH] at hq) <;> (try (exfalso; omega)))))
  | succ k ih =>
    intro i s hi
    rw [wxcc]
    have h := ih (i + 1) (s ||| one i) (by omega)
    have hp := wsgb s i (by omega)
    clear ih
    refine wdb wei ?_
    unfold wtg
    (repeat' (first | (simp -implicitDefEqProofs (maxSteps := 2000000) (disch := first | with_reducible assumption | omega | (simp only [zS, zA, Nat.reduceEqDiff, Nat.reduceLT, Nat.reduceLeDiff, Nat.reduceAdd, Nat.reduceSub, reduceCtorEq, wje, zD] <;> omega) | fail) only [zS, argl, insA, Go.Den.wm, wo, wu, looks, wbb, wab, idOf, riA, Nat.reduceLeDiff, Nat.reduceLT, Nat.reduceEqDiff, Nat.reduceDiv, Nat.reduceMod, Int.reduceLT, Int.reduceLE, Int.reduceEq, Int.reduceNeg, Int.reduceToNat, Int.reduceSub, Int.reduceMul, Int.reduceNe, Nat.reduceAdd, Nat.reduceMul, Nat.reduceSub, Int.reduceAdd, reduceCtorEq, Go.Den.wh, kK, wud, wyq, wpx, *, zT]) | (with_reducible (first | apply z1 | apply z2 | apply z3 | apply z4) <;> intro hq <;> (try simp only [zH] at hq) <;> (try (exfalso; omega)))))
    exact h
end
end Go.Proofs.Ytdbhfmdndiphcaa
namespace Go.Proofs.Ytdbhfmdndiphcaa
set_option linter.unusedVariables false
set_option linter.unusedSimpArgs false
open Go.Den
noncomputable section
def wtgb : Nat → Nat → BitVec 256 → BitVec 256
  | 0, _, s => s
  | k + 1, i, s => wtgb k (i + 1) (if i = 97 then s else s ||| one i)
theorem wflb (z : BitVec 256) : ∀ (k i : Nat) (s : BitVec 256), i + k = 256 →
    lim Try.prog cfg (.loop 126 0 (wuc 1) (SE (EJ 47 G0) [(36, .int .i64 i), (4, bsFn), (3, .pointer (some ⟨1, 0, none⟩)), (2, .pointer (some ⟨0, 0, none⟩))])) (HP (bsB z s)) = some (.code (.exit 3) (SE (EJ 47 G0) [(3, .pointer (some ⟨1, 0, none⟩)), (2, .pointer (some ⟨0, 0, none⟩))]), HP (bsB z (wtgb k i s))) := by
  intro k
  induction k with
  | zero =>
    intro i s hi
    rw [wtgb]
    refine wdb wtf ?_
    unfold wye
    (repeat' (first | (simp -implicitDefEqProofs (maxSteps := 2000000) (disch := first | with_reducible assumption | omega | (simp only [zS, zA, Nat.reduceEqDiff, Nat.reduceLT, Nat.reduceLeDiff, Nat.reduceAdd, Nat.reduceSub, reduceCtorEq, wje, zD] <;> omega) | fail) only [zS, argl, insA, Go.Den.wm, wo, wu, looks, wbb, wab, idOf, riA, Nat.reduceLeDiff, Nat.reduceLT, Nat.reduceEqDiff, Nat.reduceDiv, Nat.reduceMod, Int.reduceLT, Int.reduceLE, Int.reduceEq, Int.reduceNeg, Int.reduceToNat, Int.reduceSub, Int.reduceMul, Int.reduceNe, Nat.reduceAdd, Nat.reduceMul, Nat.reduceSub, Int.reduceAdd, reduceCtorEq, Go.Den.wh, kK, wbf, *, zT]) | (with_reducible (first | apply z1 | apply z2 | apply z3 | apply z4) <;> intro hq <;> (try simp only [zH] at hq) <;> (try (exfalso; omega)))))
  | succ k ih =>
    intro i s hi
    rw [wtgb]
    by_cases h97 : i = 97
    · rw [if_pos h97]
      have h := ih (i + 1) s (by omega)
      have h1 : (i : Int) = 97 := by omega
      clear ih
      subst h97
      refine wdb wtf ?_
      unfold wye
      (repeat' (first | (simp -implicitDefEqProofs (maxSteps := 2000000) (disch := first | with_reducible assumption | omega | (simp only [zS, zA, Nat.reduceEqDiff, Nat.reduceLT, Nat.reduceLeDiff, Nat.reduceAdd, Nat.reduceSub, reduceCtorEq, wje, zD] <;> omega) | fail) only [zS, argl, insA, Go.Den.wm, wo, wu, looks, wbb, wab, idOf, riA, Nat.reduceLeDiff, Nat.reduceLT, Nat.reduceEqDiff, Nat.reduceDiv, Nat.reduceMod, Int.reduceLT, Int.reduceLE, Int.reduceEq, Int.reduceNeg, Int.reduceToNat, Int.reduceSub, Int.reduceMul, Int.reduceNe, Nat.reduceAdd, Nat.reduceMul, Nat.reduceSub, Int.reduceAdd, reduceCtorEq, Go.Den.wh, kK, wbf, wyq, wpx, *, zT]) | (with_reducible (first | apply z1 | apply z2 | apply z3 | apply z4) <;> intro hq <;> (try simp only [zH] at hq) <;> (try (exfalso; omega)))))
      all_goals exact h
    · rw [if_neg h97]
      have h1 : ¬ (i : Int) = 97 := by omega
      have h := ih (i + 1) (s ||| one i) (by omega)
      have hp := wsgb s i (by omega)
      clear ih
      refine wdb wtf ?_
      unfold wye
      (repeat' (first | (simp -implicitDefEqProofs (maxSteps := 2000000) (disch := first | with_reducible assumption | omega | (simp only [zS, zA, Nat.reduceEqDiff, Nat.reduceLT, Nat.reduceLeDiff, Nat.reduceAdd, Nat.reduceSub, reduceCtorEq, wje, zD] <;> omega) | fail) only [zS, argl, insA, Go.Den.wm, wo, wu, looks, wbb, wab, idOf, riA, Nat.reduceLeDiff, Nat.reduceLT, Nat.reduceEqDiff, Nat.reduceDiv, Nat.reduceMod, Int.reduceLT, Int.reduceLE, Int.reduceEq, Int.reduceNeg, Int.reduceToNat, Int.reduceSub, Int.reduceMul, Int.reduceNe, Nat.reduceAdd, Nat.reduceMul, Nat.reduceSub, Int.reduceAdd, reduceCtorEq, Go.Den.wh, kK, wbf, wyq, wpx, *, zT]) | (with_reducible (first | apply z1 | apply z2 | apply z3 | apply z4) <;> intro hq <;> (try simp only [zH] at hq) <;> (try (exfalso; omega)))))
      all_goals exact h
def tb6 (k : Nat) : Nat := [97, 98, 99, 46, 42, 10].getD k 0
theorem tb6_get {k : Nat} (h : k < 6) : ([.int .u8 97, .int .u8 98, .int .u8 99, .int .u8 46, .int .u8 42, .int .u8 10] : List Value)[k]? = some (.int .u8 (tb6 k)) := by
  rcases (show k = 0 ∨ k = 1 ∨ k = 2 ∨ k = 3 ∨ k = 4 ∨ k = 5 by omega) with rfl | rfl | rfl | rfl | rfl | rfl <;> rfl
theorem tb6_lt {k : Nat} (h : k < 6) : tb6 k < 256 := by
  rcases (show k = 0 ∨ k = 1 ∨ k = 2 ∨ k = 3 ∨ k = 4 ∨ k = 5 by omega) with rfl | rfl | rfl | rfl | rfl | rfl <;> decide
theorem within5 (n : Int) : 0 ≤ whc n 0 5 ∧ whc n 0 5 ≤ 5 := by
  unfold whc
  have := Int.emod_nonneg n (show (6 : Int) ≠ 0 by omega)
  have h5 := Int.emod_lt_of_pos n (show (0 : Int) < 6 by omega)
  rw [show (5 : Int) - 0 + 1 = 6 from rfl, Int.tmod_eq_emod]
  repeat' split
  all_goals omega
set_option maxHeartbeats 4000000 in
theorem wtt (n : Int) : ∃ s : BitVec 256, lim Try.prog cfg (.call 126 [.int .i64 n]) (HP []) = some (.val (.agg ⟨setC s⟩), HP []) := by
  have hb0 := wssb 0#256 256 0 0#256 (by omega)
  have hb2 := wflb 0#256 256 0 0#256 (by omega)
  have hw := wke (IntKind.wrap .i64 (n.tdiv 4)) 0 5 (by omega) (by omega) (by omega)
  have hw2 := wke n 0 5 (by omega) (by omega) (by omega)
  have hin := within5 n
  have hp1 := wsgb 0#256 97 (by omega)
  have hp2 := wsgb (0#256 ||| one 97) 98 (by omega)
  have hl := tb6_lt (k := (whc n 0 5).toNat) (by omega)
  have hp3 := wsgb 0#256 (tb6 (whc n 0 5).toNat) hl
  have hg := tb6_get (k := (whc n 0 5).toNat) (by omega)
  generalize whc (IntKind.wrap .i64 (n.tdiv 4)) 0 5 = w at *
  generalize whc n 0 5 = v at *
  generalize tb6 v.toNat = c at *
  generalize wxcc 256 0 0#256 = s0 at *
  generalize wtgb 256 0 0#256 = s2 at *
  generalize 0#256 ||| one 97 ||| one 98 = s1 at *
  have hz : setC 0#256 = [.int .u64 0, .int .u64 0, .int .u64 0, .int .u64 0] := rfl
  rw [show ((0 : Nat) : Int) = 0 from rfl] at hb0 hb2
  unfold bsB at hb0 hb2
  by_cases q0 : w = 0
  · refine ⟨s0, ?_⟩
    subst q0
    clear hp1 hp2 hp3 hb2 hw2 hg
    rw [hz] at hb0
    refine wnb hc wme (Nat.le_of_ble_eq_true rfl) (Nat.le_of_ble_eq_true rfl) ?_
    unfold wie
    (repeat' (first | (simp -implicitDefEqProofs (maxSteps := 2000000) (disch := first | with_reducible assumption | omega | (simp only [zS, zA, Nat.reduceEqDiff, Nat.reduceLT, Nat.reduceLeDiff, Nat.reduceAdd, Nat.reduceSub, reduceCtorEq, wje, zD] <;> omega) | fail) only [zS, argl, insA, Go.Den.wm, wo, wu, looks, wbb, wab, idOf, riA, Nat.reduceLeDiff, Nat.reduceLT, Nat.reduceEqDiff, Nat.reduceDiv, Nat.reduceMod, Int.reduceLT, Int.reduceLE, Int.reduceEq, Int.reduceNeg, Int.reduceToNat, Int.reduceSub, Int.reduceMul, Int.reduceNe, Nat.reduceAdd, Nat.reduceMul, Nat.reduceSub, Int.reduceAdd, reduceCtorEq, Go.Den.wh, kK, wud, wyq, wpx, *, zT]) | (with_reducible (first | apply z1 | apply z2 | apply z3 | apply z4) <;> intro hq <;> (try simp only [zH] at hq) <;> (try (exfalso; omega)))))
  by_cases q1 : w = 1
  · refine ⟨s1, ?_⟩
    subst q1
    clear hp3 hb2 hw2 hg hb0
    refine wnb hc wme (Nat.le_of_ble_eq_true rfl) (Nat.le_of_ble_eq_true rfl) ?_
    unfold wie
    rw [hz, show ((97 : Nat) : Int) = 97 from rfl] at hp1
    rw [show ((98 : Nat) : Int) = 98 from rfl] at hp2
    (repeat' (first | (simp -implicitDefEqProofs (maxSteps := 2000000) (disch := first | with_reducible assumption | omega | (simp only [zS, zA, Nat.reduceEqDiff, Nat.reduceLT, Nat.reduceLeDiff, Nat.reduceAdd, Nat.reduceSub, reduceCtorEq, wje, zD] <;> omega) | fail) only [zS, argl, insA, Go.Den.wm, wo, wu, looks, wbb, wab, idOf, riA, Nat.reduceLeDiff, Nat.reduceLT, Nat.reduceEqDiff, Nat.reduceDiv, Nat.reduceMod, Int.reduceLT, Int.reduceLE, Int.reduceEq, Int.reduceNeg, Int.reduceToNat, Int.reduceSub, Int.reduceMul, Int.reduceNe, Nat.reduceAdd, Nat.reduceMul, Nat.reduceSub, Int.reduceAdd, reduceCtorEq, Go.Den.wh, kK, wud, wyq, wpx, *, zT]) | (with_reducible (first | apply z1 | apply z2 | apply z3 | apply z4) <;> intro hq <;> (try simp only [zH] at hq) <;> (try (exfalso; omega)))))
  by_cases q2 : w = 2
  · refine ⟨s2, ?_⟩
    subst q2
    clear hp1 hp2 hp3 hb0 hw2 hg
    rw [hz] at hb2
    refine wnb hc wme (Nat.le_of_ble_eq_true rfl) (Nat.le_of_ble_eq_true rfl) ?_
    unfold wie
    (repeat' (first | (simp -implicitDefEqProofs (maxSteps := 2000000) (disch := first | with_reducible assumption | omega | (simp only [zS, zA, Nat.reduceEqDiff, Nat.reduceLT, Nat.reduceLeDiff, Nat.reduceAdd, Nat.reduceSub, reduceCtorEq, wje, zD] <;> omega) | fail) only [zS, argl, insA, Go.Den.wm, wo, wu, looks, wbb, wab, idOf, riA, Nat.reduceLeDiff, Nat.reduceLT, Nat.reduceEqDiff, Nat.reduceDiv, Nat.reduceMod, Int.reduceLT, Int.reduceLE, Int.reduceEq, Int.reduceNeg, Int.reduceToNat, Int.reduceSub, Int.reduceMul, Int.reduceNe, Nat.reduceAdd, Nat.reduceMul, Nat.reduceSub, Int.reduceAdd, reduceCtorEq, Go.Den.wh, kK, wbf, wyq, wpx, *, zT]) | (with_reducible (first | apply z1 | apply z2 | apply z3 | apply z4) <;> intro hq <;> (try simp only [zH] at hq) <;> (try (exfalso; omega)))))
  refine ⟨0#256 ||| one c, ?_⟩
  clear hp1 hp2 hb0 hb2
  refine wnb hc wme (Nat.le_of_ble_eq_true rfl) (Nat.le_of_ble_eq_true rfl) ?_
  unfold wie
  rw [hz] at hp3
  (repeat' (first | (simp -implicitDefEqProofs (maxSteps := 2000000) (disch := first | with_reducible assumption | omega | (simp only [zS, zA, Nat.reduceEqDiff, Nat.reduceLT, Nat.reduceLeDiff, Nat.reduceAdd, Nat.reduceSub, reduceCtorEq, wje, zD] <;> omega) | fail) only [zS, argl, insA, Go.Den.wm, wo, wu, looks, wbb, wab, idOf, riA, Nat.reduceLeDiff, Nat.reduceLT, Nat.reduceEqDiff, Nat.reduceDiv, Nat.reduceMod, Int.reduceLT, Int.reduceLE, Int.reduceEq, Int.reduceNeg, Int.reduceToNat, Int.reduceSub, Int.reduceMul, Int.reduceNe, Nat.reduceAdd, Nat.reduceMul, Nat.reduceSub, Int.reduceAdd, reduceCtorEq, Go.Den.wh, kK, wud, wyq, wpx, *, zT]) | (with_reducible (first | apply z1 | apply z2 | apply z3 | apply z4) <;> intro hq <;> (try simp only [zH] at hq) <;> (try (exfalso; omega)))))
end
end Go.Proofs.Ytdbhfmdndiphcaa
namespace Go.Den
noncomputable section
variable {P : Program}
def nfX : Option ABlk → Bool
  | some (.cells b) => isNil b.lens && (Nat.beq b.wver 0 && !b.pf)
  | _ => false
theorem wyd {cs : List Value} {t z : Nat} : nfX (some (X cs t z false)) = true := rfl
def rowU (i n k : Nat) : Option (List Value × Frs) → Option (Value × Frs)
  | some (cs, f) => bif wtb cs then some (FL n cs, (i, k) :: f) else none
  | none => none
theorem wnc {i n k : Nat} {cs : List Value} {f : Frs} : rowU i n k (some (cs, f)) = bif wtb cs then some (FL n cs, (i, k) :: f) else none := rfl
def rowT (P : Program) (i n c : Nat) (sl : List Value → Option (List Value × Frs)) : Option ABlk → Option (Value × Frs)
  | some (.cells b) => bif Nat.ble n c && (Nat.blt 0 (tsz P b.elem) && Nat.ble (n * tsz P b.elem) b.cells.length) then rowU i n (n * tsz P b.elem) (sl (slotsOf b.cells 0 (n * tsz P b.elem))) else none
  | _ => none
theorem weg {i n c : Nat} {sl : List Value → Option (List Value × Frs)} {cs : List Value} {t z : Nat} {pf : Bool} : rowT P i n c sl (some (X cs t z pf)) = bif Nat.ble n c && (Nat.blt 0 (tsz P t) && Nat.ble (n * tsz P t) cs.length) then rowU i n (n * tsz P t) (sl (slotsOf cs 0 (n * tsz P t))) else none := rfl
theorem woc {h : List ABlk} (hh : h.length ≤ 1099511627774) {i n c : Nat} {sl : List Value → Option (List Value × Frs)} (hx : nfX h[i]? = true) :
    wne P (HP h) sl (.slice (some ⟨i, 0, none⟩) (n + 1) (c + 1)) = rowT P i (n + 1) c sl h[i]? := by
  show wtl P (HP h) sl ⟨i, 0, none⟩ (n + 1) (c + 1) = _
  unfold wtl
  rw [wci h hh]
  cases hb : h[i]? with
  | none => rw [hb] at hx; cases hx
  | some b =>
    rw [hb] at hx
    cases b with
    | map es => cases hx
    | tok a b c => cases hx
    | cells b =>
      have hx : (isNil b.lens && (Nat.beq b.wver 0 && !b.pf)) = true := hx
      simp only [Bool.and_eq_true, Nat.beq_eq, Bool.not_eq_true'] at hx
      obtain ⟨h3, h4, h7⟩ := hx
      have h5 : b.lens = [] := by cases hl : b.lens with | nil => rfl | cons a r => rw [hl] at h3; cases h3
      have e0 : wag P b = tsz P b.elem := by unfold wag; rw [h5]; rfl
      have hi : wbc i = true := wkh (by have := wis hb; omega)
      have h6 : rdOk b (aver ⟨i, 0, none⟩) (0 + (n + 1) * tsz P b.elem) = Nat.ble ((n + 1) * tsz P b.elem) b.cells.length := by
        unfold rdOk
        have e1 : b.top = 0 := by unfold CBlk.top; rw [h5]; rfl
        have e2 : b.lenAt 0 = b.cells.length := by unfold CBlk.lenAt; rw [h5]
        rw [h4, e1]
        show (Nat.ble 0 0 && (Nat.ble 0 0 && Nat.ble (0 + (n + 1) * tsz P b.elem) (b.lenAt 0))) = _
        rw [e2, Nat.zero_add, nble 0 0]
        simp
      simp only [e0, h6, h7, cond_false]
      show (bif (Nat.ble (n + 1) c && Nat.blt 0 (tsz P b.elem)) && Nat.ble ((n + 1) * tsz P b.elem) b.cells.length then _ else none) = (bif Nat.ble (n + 1) c && (Nat.blt 0 (tsz P b.elem) && Nat.ble ((n + 1) * tsz P b.elem) b.cells.length) then _ else none)
      rw [Bool.and_assoc]
      cases (Nat.ble (n + 1) c && (Nat.blt 0 (tsz P b.elem) && Nat.ble ((n + 1) * tsz P b.elem) b.cells.length)) with
      | false => rfl
      | true =>
        simp only [cond_true, hi, Bool.and_true, Nat.zero_add]
        cases sl (slotsOf b.cells 0 ((n + 1) * tsz P b.elem)) <;> rfl
end
end Go.Den
namespace Go.Proofs.Ytdbhfmdndiphcaa
set_option linter.unusedVariables false
set_option linter.unusedSimpArgs false
open Go.Den
noncomputable section
def MkOk (ks ns : List Int) (ere : Bool) (f : FuncId) (args : List Value) (M : Nat) : Prop :=
  ∀ (a : Nat) (g l : Int), a + M ≤ 100000 → 0 ≤ g → g ≤ 3 → -1000000 + 2 * (M : Int) ≤ l → l ≤ 1000 →
    ∃ (r : Rx) (a' : Nat) (g' l' : Int), lim Try.prog cfg (.call f (.agg ⟨mkB ks ns ere⟩ :: args)) (HP (mkH a g l)) = some (.val (.agg ⟨rxC r⟩), HP (mkH a' g' l')) ∧ wec r ≤ M ∧ a' ≤ a + M ∧ 0 ≤ g' ∧ g' ≤ 3 ∧ l - 2 * (M : Int) ≤ l' ∧ l' ≤ l
theorem wxo (n : Int) : 0 ≤ whc n 0 2 ∧ whc n 0 2 ≤ 2 := by
  unfold whc
  have := Int.emod_nonneg n (show (3 : Int) ≠ 0 by omega)
  have h5 := Int.emod_lt_of_pos n (show (0 : Int) < 3 by omega)
  rw [show (2 : Int) - 0 + 1 = 3 from rfl, Int.tmod_eq_emod]
  repeat' split
  all_goals omega
theorem wglb {k n : Int} {s : BitVec 256} : rxC (.mk k 0 0 n s []) = [.int .i64 k, .int .i64 0, .int .i64 0, .int .i64 n, wdV s 0, wdV s 1, wdV s 2, wdV s 3, FL 0 []] := by rw [rxC, rxsC]; rfl
theorem wnn {k lo hi n : Int} {r : Rx} : rxC (.mk k lo hi n 0#256 [r]) = [.int .i64 k, .int .i64 lo, .int .i64 hi, .int .i64 n, .int .u64 0, .int .u64 0, .int .u64 0, .int .u64 0, FL 1 (rxC r)] := by rw [rxC, rxsC, rxsC, List.append_nil]; rfl
def wycc (ks ns : List Int) (ere : Bool) (f : FuncId) (args : List Value) (M : Nat) : Prop :=
  ∀ (a : Nat) (g l : Int), a + M ≤ 100000 → 0 ≤ g → g ≤ 3 → -1000000 + 2 * (M : Int) ≤ l → l ≤ 1000 →
    ∃ (r : Rx) (a' : Nat) (g' l' : Int), lim Try.prog cfg (.call f (.agg ⟨mkB ks ns ere⟩ :: args)) (HP (mkH a g l)) = some (.val (.agg ⟨rxC r⟩), HP (mkH a' g' l')) ∧ wec r ≤ M ∧ r.kind ≠ 2 ∧ a' ≤ a + M ∧ 0 ≤ g' ∧ g' ≤ 3 ∧ l - 2 * (M : Int) ≤ l' ∧ l' ≤ l
theorem whlb {k n : Int} : rxC (.mk k 0 0 n 0#256 []) = [.int .i64 k, .int .i64 0, .int .i64 0, .int .i64 n, .int .u64 0, .int .u64 0, .int .u64 0, .int .u64 0, FL 0 []] := by rw [rxC, rxsC]; rfl
set_option maxHeartbeats 8000000 in
theorem part_set (ks ns : List Int) (ere : Bool) (deep : Int) (hd : 0 ≤ deep) (hd2 : deep ≤ 3) (a : Nat) (ha : a ≤ 100000) (g l : Int) (hg : 0 ≤ g) (hg3 : g ≤ 3) (hl : -1000000 ≤ l) (hl2 : l ≤ 1000)
    (hno : ¬ (6 ≤ whc (wbk ks a) 0 9 ∧ 3 < l - 2 ∧ deep < 3 ∧ g < 3)) (hno2 : ¬ (whc (wbk ks a) 0 9 = 5 ∧ 0 < g)) :
    ∃ (r : Rx), lim Try.prog cfg (.call 95 [.agg ⟨mkB ks ns ere⟩, .int .i64 deep]) (HP (mkH a g l)) = some (.val (.agg ⟨rxC r⟩), HP (mkH (a + 1 : Nat) g (l - 2))) ∧ wec r ≤ 2 ∧ r.kind ≠ 2 := by
  have h1 := wox ks ns ere a (by omega) g l
  obtain ⟨s, h2⟩ := wtt (wzf ns a)
  have h3 := wke (wbk ks a) 0 9 (by omega) (by omega) (by omega)
  have h4 := wke (wzf ns a) 0 2 (by omega) (by omega) (by omega)
  have h5 := wke (IntKind.wrap .i64 ((wzf ns a).tdiv 8)) 0 2 (by omega) (by omega) (by omega)
  have i4 := wxo (wzf ns a)
  have i5 := wxo (IntKind.wrap .i64 ((wzf ns a).tdiv 8))
  generalize whc (wbk ks a) 0 9 = c at *
  generalize whc (wzf ns a) 0 2 = lo at *
  generalize whc (IntKind.wrap .i64 ((wzf ns a).tdiv 8)) 0 2 = up at *
  generalize wbk ks a = x at *
  generalize wzf ns a = y at *
  obtain ⟨e, he⟩ : ∃ e, IntKind.wrap .i64 ((BitVec.ofInt (IntKind.bits .i64) c &&& BitVec.ofInt (IntKind.bits .i64) 1).toNat : Int) = e := ⟨_, rfl⟩
  obtain ⟨f, hf⟩ : ∃ f, IntKind.wrap .i64 ((BitVec.ofInt (IntKind.bits .i64) y &&& BitVec.ofInt (IntKind.bits .i64) 4).toNat : Int) = f := ⟨_, rfl⟩
  by_cases q : e = 0
  · refine ⟨(.mk 1 0 0 0 s []), ?_, by simp [wec, wmb], by simp [Rx.kind]⟩
    rw [wglb]
    subst q
    clear h4 h5 i4 i5 hf
    refine wnb hc wvb (Nat.le_of_ble_eq_true rfl) (Nat.le_of_ble_eq_true rfl) ?_
    unfold wac
    by_cases c6 : 6 ≤ c
    · by_cases l3 : 3 < l - 2
      · by_cases d3 : deep < 3
        · have g3 : ¬ g < 3 := fun h => hno ⟨c6, l3, d3, h⟩
          clear hno hno2
          (repeat' (first | (simp -implicitDefEqProofs (maxSteps := 2000000) (disch := first | with_reducible assumption | omega | (simp only [zS, zA, Nat.reduceEqDiff, Nat.reduceLT, Nat.reduceLeDiff, Nat.reduceAdd, Nat.reduceSub, reduceCtorEq, wje, wng, wyd, zD] <;> omega) | fail) only [zS, argl, insA, Go.Den.wm, wo, wu, looks, wbb, wab, idOf, riA, Nat.reduceLeDiff, Nat.reduceLT, Nat.reduceEqDiff, Nat.reduceDiv, Nat.reduceMod, Int.reduceLT, Int.reduceLE, Int.reduceEq, Int.reduceNeg, Int.reduceToNat, Int.reduceSub, Int.reduceMul, Int.reduceNe, Nat.reduceAdd, Nat.reduceMul, Nat.reduceSub, Int.reduceAdd, reduceCtorEq, Go.Den.wh, kK, web, wkb, wgd, woc, wyd, weg, wnc, *, zT]) | (with_reducible (first | apply z1 | apply z2 | apply z3 | apply z4) <;> intro hq <;> (try simp only [zH] at hq) <;> (try (exfalso; omega))) | (with_reducible apply z5; (case hl => (repeat (first | exact .nil | with_reducible apply z6 | with_reducible apply z7))); (case h => kernel_rfl))))
        · clear hno hno2
          (repeat' (first | (simp -implicitDefEqProofs (maxSteps := 2000000) (disch := first | with_reducible assumption | omega | (simp only [zS, zA, Nat.reduceEqDiff, Nat.reduceLT, Nat.reduceLeDiff, Nat.reduceAdd, Nat.reduceSub, reduceCtorEq, wje, wng, wyd, zD] <;> omega) | fail) only [zS, argl, insA, Go.Den.wm, wo, wu, looks, wbb, wab, idOf, riA, Nat.reduceLeDiff, Nat.reduceLT, Nat.reduceEqDiff, Nat.reduceDiv, Nat.reduceMod, Int.reduceLT, Int.reduceLE, Int.reduceEq, Int.reduceNeg, Int.reduceToNat, Int.reduceSub, Int.reduceMul, Int.reduceNe, Nat.reduceAdd, Nat.reduceMul, Nat.reduceSub, Int.reduceAdd, reduceCtorEq, Go.Den.wh, kK, web, wkb, wgd, woc, wyd, weg, wnc, *, zT]) | (with_reducible (first | apply z1 | apply z2 | apply z3 | apply z4) <;> intro hq <;> (try simp only [zH] at hq) <;> (try (exfalso; omega))) | (with_reducible apply z5; (case hl => (repeat (first | exact .nil | with_reducible apply z6 | with_reducible apply z7))); (case h => kernel_rfl))))
      · clear hno hno2
        (repeat' (first | (simp -implicitDefEqProofs (maxSteps := 2000000) (disch := first | with_reducible assumption | omega | (simp only [zS, zA, Nat.reduceEqDiff, Nat.reduceLT, Nat.reduceLeDiff, Nat.reduceAdd, Nat.reduceSub, reduceCtorEq, wje, wng, wyd, zD] <;> omega) | fail) only [zS, argl, insA, Go.Den.wm, wo, wu, looks, wbb, wab, idOf, riA, Nat.reduceLeDiff, Nat.reduceLT, Nat.reduceEqDiff, Nat.reduceDiv, Nat.reduceMod, Int.reduceLT, Int.reduceLE, Int.reduceEq, Int.reduceNeg, Int.reduceToNat, Int.reduceSub, Int.reduceMul, Int.reduceNe, Nat.reduceAdd, Nat.reduceMul, Nat.reduceSub, Int.reduceAdd, reduceCtorEq, Go.Den.wh, kK, web, wkb, wgd, woc, wyd, weg, wnc, *, zT]) | (with_reducible (first | apply z1 | apply z2 | apply z3 | apply z4) <;> intro hq <;> (try simp only [zH] at hq) <;> (try (exfalso; omega))) | (with_reducible apply z5; (case hl => (repeat (first | exact .nil | with_reducible apply z6 | with_reducible apply z7))); (case h => kernel_rfl))))
    · clear hno
      by_cases c5 : c = 5
      · have g0 : ¬ 0 < g := fun h => hno2 ⟨c5, h⟩
        clear hno2
        subst c5
        (repeat' (first | (simp -implicitDefEqProofs (maxSteps := 2000000) (disch := first | with_reducible assumption | omega | (simp only [zS, zA, Nat.reduceEqDiff, Nat.reduceLT, Nat.reduceLeDiff, Nat.reduceAdd, Nat.reduceSub, reduceCtorEq, wje, wng, wyd, zD] <;> omega) | fail) only [zS, argl, insA, Go.Den.wm, wo, wu, looks, wbb, wab, idOf, riA, Nat.reduceLeDiff, Nat.reduceLT, Nat.reduceEqDiff, Nat.reduceDiv, Nat.reduceMod, Int.reduceLT, Int.reduceLE, Int.reduceEq, Int.reduceNeg, Int.reduceToNat, Int.reduceSub, Int.reduceMul, Int.reduceNe, Nat.reduceAdd, Nat.reduceMul, Nat.reduceSub, Int.reduceAdd, reduceCtorEq, Go.Den.wh, kK, web, wkb, wgd, woc, wyd, weg, wnc, *, zT]) | (with_reducible (first | apply z1 | apply z2 | apply z3 | apply z4) <;> intro hq <;> (try simp only [zH] at hq) <;> (try (exfalso; omega))) | (with_reducible apply z5; (case hl => (repeat (first | exact .nil | with_reducible apply z6 | with_reducible apply z7))); (case h => kernel_rfl))))
      · clear hno2
        (repeat' (first | (simp -implicitDefEqProofs (maxSteps := 2000000) (disch := first | with_reducible assumption | omega | (simp only [zS, zA, Nat.reduceEqDiff, Nat.reduceLT, Nat.reduceLeDiff, Nat.reduceAdd, Nat.reduceSub, reduceCtorEq, wje, wng, wyd, zD] <;> omega) | fail) only [zS, argl, insA, Go.Den.wm, wo, wu, looks, wbb, wab, idOf, riA, Nat.reduceLeDiff, Nat.reduceLT, Nat.reduceEqDiff, Nat.reduceDiv, Nat.reduceMod, Int.reduceLT, Int.reduceLE, Int.reduceEq, Int.reduceNeg, Int.reduceToNat, Int.reduceSub, Int.reduceMul, Int.reduceNe, Nat.reduceAdd, Nat.reduceMul, Nat.reduceSub, Int.reduceAdd, reduceCtorEq, Go.Den.wh, kK, web, wkb, wgd, woc, wyd, weg, wnc, *, zT]) | (with_reducible (first | apply z1 | apply z2 | apply z3 | apply z4) <;> intro hq <;> (try simp only [zH] at hq) <;> (try (exfalso; omega))) | (with_reducible apply z5; (case hl => (repeat (first | exact .nil | with_reducible apply z6 | with_reducible apply z7))); (case h => kernel_rfl))))
  by_cases f4 : f = 4
  · refine ⟨.mk 4 lo (max lo 1 + up) 0 0#256 [(.mk 1 0 0 0 s [])], ?_, by simp [wec, wmb], by simp [Rx.kind]⟩
    rw [wnn, wglb]
    subst f4
    refine wnb hc wvb (Nat.le_of_ble_eq_true rfl) (Nat.le_of_ble_eq_true rfl) ?_
    unfold wac
    by_cases c6 : 6 ≤ c
    · by_cases l3 : 3 < l - 2
      · by_cases d3 : deep < 3
        · have g3 : ¬ g < 3 := fun h => hno ⟨c6, l3, d3, h⟩
          clear hno hno2
          (repeat' (first | (simp -implicitDefEqProofs (maxSteps := 2000000) (disch := first | with_reducible assumption | omega | (simp only [zS, zA, Nat.reduceEqDiff, Nat.reduceLT, Nat.reduceLeDiff, Nat.reduceAdd, Nat.reduceSub, reduceCtorEq, wje, wng, wyd, zD] <;> omega) | fail) only [zS, argl, insA, Go.Den.wm, wo, wu, looks, wbb, wab, idOf, riA, Nat.reduceLeDiff, Nat.reduceLT, Nat.reduceEqDiff, Nat.reduceDiv, Nat.reduceMod, Int.reduceLT, Int.reduceLE, Int.reduceEq, Int.reduceNeg, Int.reduceToNat, Int.reduceSub, Int.reduceMul, Int.reduceNe, Nat.reduceAdd, Nat.reduceMul, Nat.reduceSub, Int.reduceAdd, reduceCtorEq, Go.Den.wh, kK, web, wkb, wgd, woc, wyd, weg, wnc, *, zT]) | (with_reducible (first | apply z1 | apply z2 | apply z3 | apply z4) <;> intro hq <;> (try simp only [zH] at hq) <;> (try (exfalso; omega))) | (with_reducible apply z5; (case hl => (repeat (first | exact .nil | with_reducible apply z6 | with_reducible apply z7))); (case h => kernel_rfl))))
        · clear hno hno2
          (repeat' (first | (simp -implicitDefEqProofs (maxSteps := 2000000) (disch := first | with_reducible assumption | omega | (simp only [zS, zA, Nat.reduceEqDiff, Nat.reduceLT, Nat.reduceLeDiff, Nat.reduceAdd, Nat.reduceSub, reduceCtorEq, wje, wng, wyd, zD] <;> omega) | fail) only [zS, argl, insA, Go.Den.wm, wo, wu, looks, wbb, wab, idOf, riA, Nat.reduceLeDiff, Nat.reduceLT, Nat.reduceEqDiff, Nat.reduceDiv, Nat.reduceMod, Int.reduceLT, Int.reduceLE, Int.reduceEq, Int.reduceNeg, Int.reduceToNat, Int.reduceSub, Int.reduceMul, Int.reduceNe, Nat.reduceAdd, Nat.reduceMul, Nat.reduceSub, Int.reduceAdd, reduceCtorEq, Go.Den.wh, kK, web, wkb, wgd, woc, wyd, weg, wnc, *, zT]) | (with_reducible (first | apply z1 | apply z2 | apply z3 | apply z4) <;> intro hq <;> (try simp only [zH] at hq) <;> (try (exfalso; omega))) | (with_reducible apply z5; (case hl => (repeat (first | exact .nil | with_reducible apply z6 | with_reducible apply z7))); (case h => kernel_rfl))))
      · clear hno hno2
        (repeat' (first | (simp -implicitDefEqProofs (maxSteps := 2000000) (disch := first | with_reducible assumption | omega | (simp only [zS, zA, Nat.reduceEqDiff, Nat.reduceLT, Nat.reduceLeDiff, Nat.reduceAdd, Nat.reduceSub, reduceCtorEq, wje, wng, wyd, zD] <;> omega) | fail) only [zS, argl, insA, Go.Den.wm, wo, wu, looks, wbb, wab, idOf, riA, Nat.reduceLeDiff, Nat.reduceLT, Nat.reduceEqDiff, Nat.reduceDiv, Nat.reduceMod, Int.reduceLT, Int.reduceLE, Int.reduceEq, Int.reduceNeg, Int.reduceToNat, Int.reduceSub, Int.reduceMul, Int.reduceNe, Nat.reduceAdd, Nat.reduceMul, Nat.reduceSub, Int.reduceAdd, reduceCtorEq, Go.Den.wh, kK, web, wkb, wgd, woc, wyd, weg, wnc, *, zT]) | (with_reducible (first | apply z1 | apply z2 | apply z3 | apply z4) <;> intro hq <;> (try simp only [zH] at hq) <;> (try (exfalso; omega))) | (with_reducible apply z5; (case hl => (repeat (first | exact .nil | with_reducible apply z6 | with_reducible apply z7))); (case h => kernel_rfl))))
    · clear hno
      by_cases c5 : c = 5
      · have g0 : ¬ 0 < g := fun h => hno2 ⟨c5, h⟩
        clear hno2
        subst c5
        (repeat' (first | (simp -implicitDefEqProofs (maxSteps := 2000000) (disch := first | with_reducible assumption | omega | (simp only [zS, zA, Nat.reduceEqDiff, Nat.reduceLT, Nat.reduceLeDiff, Nat.reduceAdd, Nat.reduceSub, reduceCtorEq, wje, wng, wyd, zD] <;> omega) | fail) only [zS, argl, insA, Go.Den.wm, wo, wu, looks, wbb, wab, idOf, riA, Nat.reduceLeDiff, Nat.reduceLT, Nat.reduceEqDiff, Nat.reduceDiv, Nat.reduceMod, Int.reduceLT, Int.reduceLE, Int.reduceEq, Int.reduceNeg, Int.reduceToNat, Int.reduceSub, Int.reduceMul, Int.reduceNe, Nat.reduceAdd, Nat.reduceMul, Nat.reduceSub, Int.reduceAdd, reduceCtorEq, Go.Den.wh, kK, web, wkb, wgd, woc, wyd, weg, wnc, *, zT]) | (with_reducible (first | apply z1 | apply z2 | apply z3 | apply z4) <;> intro hq <;> (try simp only [zH] at hq) <;> (try (exfalso; omega))) | (with_reducible apply z5; (case hl => (repeat (first | exact .nil | with_reducible apply z6 | with_reducible apply z7))); (case h => kernel_rfl))))
      · clear hno2
        (repeat' (first | (simp -implicitDefEqProofs (maxSteps := 2000000) (disch := first | with_reducible assumption | omega | (simp only [zS, zA, Nat.reduceEqDiff, Nat.reduceLT, Nat.reduceLeDiff, Nat.reduceAdd, Nat.reduceSub, reduceCtorEq, wje, wng, wyd, zD] <;> omega) | fail) only [zS, argl, insA, Go.Den.wm, wo, wu, looks, wbb, wab, idOf, riA, Nat.reduceLeDiff, Nat.reduceLT, Nat.reduceEqDiff, Nat.reduceDiv, Nat.reduceMod, Int.reduceLT, Int.reduceLE, Int.reduceEq, Int.reduceNeg, Int.reduceToNat, Int.reduceSub, Int.reduceMul, Int.reduceNe, Nat.reduceAdd, Nat.reduceMul, Nat.reduceSub, Int.reduceAdd, reduceCtorEq, Go.Den.wh, kK, web, wkb, wgd, woc, wyd, weg, wnc, *, zT]) | (with_reducible (first | apply z1 | apply z2 | apply z3 | apply z4) <;> intro hq <;> (try simp only [zH] at hq) <;> (try (exfalso; omega))) | (with_reducible apply z5; (case hl => (repeat (first | exact .nil | with_reducible apply z6 | with_reducible apply z7))); (case h => kernel_rfl))))
  refine ⟨.mk 4 lo (-1) 0 0#256 [(.mk 1 0 0 0 s [])], ?_, by simp [wec, wmb], by simp [Rx.kind]⟩
  rw [wnn, wglb]
  clear h5 i5
  refine wnb hc wvb (Nat.le_of_ble_eq_true rfl) (Nat.le_of_ble_eq_true rfl) ?_
  unfold wac
  by_cases c6 : 6 ≤ c
  · by_cases l3 : 3 < l - 2
    · by_cases d3 : deep < 3
      · have g3 : ¬ g < 3 := fun h => hno ⟨c6, l3, d3, h⟩
        clear hno hno2
        (repeat' (first | (simp -implicitDefEqProofs (maxSteps := 2000000) (disch := first | with_reducible assumption | omega | (simp only [zS, zA, Nat.reduceEqDiff, Nat.reduceLT, Nat.reduceLeDiff, Nat.reduceAdd, Nat.reduceSub, reduceCtorEq, wje, wng, wyd, zD] <;> omega) | fail) only [zS, argl, insA, Go.Den.wm, wo, wu, looks, wbb, wab, idOf, riA, Nat.reduceLeDiff, Nat.reduceLT, Nat.reduceEqDiff, Nat.reduceDiv, Nat.reduceMod, Int.reduceLT, Int.reduceLE, Int.reduceEq, Int.reduceNeg, Int.reduceToNat, Int.reduceSub, Int.reduceMul, Int.reduceNe, Nat.reduceAdd, Nat.reduceMul, Nat.reduceSub, Int.reduceAdd, reduceCtorEq, Go.Den.wh, kK, web, wkb, wgd, woc, wyd, weg, wnc, *, zT]) | (with_reducible (first | apply z1 | apply z2 | apply z3 | apply z4) <;> intro hq <;> (try simp only [zH] at hq) <;> (try (exfalso; omega))) | (with_reducible apply z5; (case hl => (repeat (first | exact .nil | with_reducible apply z6 | with_reducible apply z7))); (case h => kernel_rfl))))
      · clear hno hno2
        (repeat' (first | (simp -implicitDefEqProofs (maxSteps := 2000000) (disch := first | with_reducible assumption | omega | (simp only [zS, zA, Nat.reduceEqDiff, Nat.reduceLT, Nat.reduceLeDiff, Nat.reduceAdd, Nat.reduceSub, reduceCtorEq, wje, wng, wyd, zD] <;> omega) | fail) only [zS, argl, insA, Go.Den.wm, wo, wu, looks, wbb, wab, idOf, riA, Nat.reduceLeDiff, Nat.reduceLT, Nat.reduceEqDiff, Nat.reduceDiv, Nat.reduceMod, Int.reduceLT, Int.reduceLE, Int.reduceEq, Int.reduceNeg, Int.reduceToNat, Int.reduceSub, Int.reduceMul, Int.reduceNe, Nat.reduceAdd, Nat.reduceMul, Nat.reduceSub, Int.reduceAdd, reduceCtorEq, Go.Den.wh, kK, web, wkb, wgd, woc, wyd, weg, wnc, *, zT]) | (with_reducible (first | apply z1 | apply z2 | apply z3 | apply z4) <;> intro hq <;> (try simp only [zH] at hq) <;> (try (exfalso; omega))) | (with_reducible apply z5; (case hl => (repeat (first | exact .nil | with_reducible apply z6 | with_reducible apply z7))); (case h => kernel_rfl))))
    · clear hno hno2
      (repeat' (first | (simp -implicitDefEqProofs (maxSteps := 2000000) (disch := first | with_reducible assumption | omega | (simp only [zS, zA, Nat.reduceEqDiff, Nat.reduceLT, Nat.reduceLeDiff, Nat.reduceAdd, Nat.reduceSub, reduceCtorEq, wje, wng, wyd, zD] <;> omega) | fail) only [zS, argl, insA, Go.Den.wm, wo, wu, looks, wbb, wab, idOf, riA, Nat.reduceLeDiff, Nat.reduceLT, Nat.reduceEqDiff, Nat.reduceDiv, Nat.reduceMod, Int.reduceLT, Int.reduceLE, Int.reduceEq, Int.reduceNeg, Int.reduceToNat, Int.reduceSub, Int.reduceMul, Int.reduceNe, Nat.reduceAdd, Nat.reduceMul, Nat.reduceSub, Int.reduceAdd, reduceCtorEq, Go.Den.wh, kK, web, wkb, wgd, woc, wyd, weg, wnc, *, zT]) | (with_reducible (first | apply z1 | apply z2 | apply z3 | apply z4) <;> intro hq <;> (try simp only [zH] at hq) <;> (try (exfalso; omega))) | (with_reducible apply z5; (case hl => (repeat (first | exact .nil | with_reducible apply z6 | with_reducible apply z7))); (case h => kernel_rfl))))
  · clear hno
    by_cases c5 : c = 5
    · have g0 : ¬ 0 < g := fun h => hno2 ⟨c5, h⟩
      clear hno2
      subst c5
      (repeat' (first | (simp -implicitDefEqProofs (maxSteps := 2000000) (disch := first | with_reducible assumption | omega | (simp only [zS, zA, Nat.reduceEqDiff, Nat.reduceLT, Nat.reduceLeDiff, Nat.reduceAdd, Nat.reduceSub, reduceCtorEq, wje, wng, wyd, zD] <;> omega) | fail) only [zS, argl, insA, Go.Den.wm, wo, wu, looks, wbb, wab, idOf, riA, Nat.reduceLeDiff, Nat.reduceLT, Nat.reduceEqDiff, Nat.reduceDiv, Nat.reduceMod, Int.reduceLT, Int.reduceLE, Int.reduceEq, Int.reduceNeg, Int.reduceToNat, Int.reduceSub, Int.reduceMul, Int.reduceNe, Nat.reduceAdd, Nat.reduceMul, Nat.reduceSub, Int.reduceAdd, reduceCtorEq, Go.Den.wh, kK, web, wkb, wgd, woc, wyd, weg, wnc, *, zT]) | (with_reducible (first | apply z1 | apply z2 | apply z3 | apply z4) <;> intro hq <;> (try simp only [zH] at hq) <;> (try (exfalso; omega))) | (with_reducible apply z5; (case hl => (repeat (first | exact .nil | with_reducible apply z6 | with_reducible apply z7))); (case h => kernel_rfl))))
    · clear hno2
      (repeat' (first | (simp -implicitDefEqProofs (maxSteps := 2000000) (disch := first | with_reducible assumption | omega | (simp only [zS, zA, Nat.reduceEqDiff, Nat.reduceLT, Nat.reduceLeDiff, Nat.reduceAdd, Nat.reduceSub, reduceCtorEq, wje, wng, wyd, zD] <;> omega) | fail) only [zS, argl, insA, Go.Den.wm, wo, wu, looks, wbb, wab, idOf, riA, Nat.reduceLeDiff, Nat.reduceLT, Nat.reduceEqDiff, Nat.reduceDiv, Nat.reduceMod, Int.reduceLT, Int.reduceLE, Int.reduceEq, Int.reduceNeg, Int.reduceToNat, Int.reduceSub, Int.reduceMul, Int.reduceNe, Nat.reduceAdd, Nat.reduceMul, Nat.reduceSub, Int.reduceAdd, reduceCtorEq, Go.Den.wh, kK, web, wkb, wgd, woc, wyd, weg, wnc, *, zT]) | (with_reducible (first | apply z1 | apply z2 | apply z3 | apply z4) <;> intro hq <;> (try simp only [zH] at hq) <;> (try (exfalso; omega))) | (with_reducible apply z5; (case hl => (repeat (first | exact .nil | with_reducible apply z6 | with_reducible apply z7))); (case h => kernel_rfl))))
end
end Go.Proofs.Ytdbhfmdndiphcaa
namespace Go.Proofs.Ytdbhfmdndiphcaa
set_option linter.unusedVariables false
set_option linter.unusedSimpArgs false
open Go.Den
noncomputable section
set_option maxHeartbeats 8000000 in
theorem wzcc (ks ns : List Int) (ere : Bool) (deep : Int) (hd : 0 ≤ deep) (hd2 : deep ≤ 3) (a : Nat) (ha : a ≤ 100000) (g l : Int) (hg : 0 ≤ g) (hg3 : g ≤ 3) (hl : -1000000 ≤ l) (hl2 : l ≤ 1000)
    (hyes : whc (wbk ks a) 0 9 = 5 ∧ 0 < g) :
    ∃ (r : Rx), lim Try.prog cfg (.call 95 [.agg ⟨mkB ks ns ere⟩, .int .i64 deep]) (HP (mkH a g l)) = some (.val (.agg ⟨rxC r⟩), HP (mkH (a + 1 : Nat) g (l - 2))) ∧ wec r ≤ 2 ∧ r.kind ≠ 2 := by
  have h1 := wox ks ns ere a (by omega) g l
  obtain ⟨s, h2⟩ := wtt (wzf ns a)
  have h3 := wke (wbk ks a) 0 9 (by omega) (by omega) (by omega)
  have h4 := wke (wzf ns a) 0 2 (by omega) (by omega) (by omega)
  have h5 := wke (IntKind.wrap .i64 ((wzf ns a).tdiv 8)) 0 2 (by omega) (by omega) (by omega)
  have i4 := wxo (wzf ns a)
  have i5 := wxo (IntKind.wrap .i64 ((wzf ns a).tdiv 8))
  have h6 := wke (wzf ns a) 1 g (by omega) (by omega) (by omega)
  generalize whc (wzf ns a) 1 g = qq at *
  generalize whc (wbk ks a) 0 9 = c at *
  generalize whc (wzf ns a) 0 2 = lo at *
  generalize whc (IntKind.wrap .i64 ((wzf ns a).tdiv 8)) 0 2 = up at *
  generalize wbk ks a = x at *
  generalize wzf ns a = y at *
  obtain ⟨e, he⟩ : ∃ e, IntKind.wrap .i64 ((BitVec.ofInt (IntKind.bits .i64) c &&& BitVec.ofInt (IntKind.bits .i64) 1).toNat : Int) = e := ⟨_, rfl⟩
  obtain ⟨f, hf⟩ : ∃ f, IntKind.wrap .i64 ((BitVec.ofInt (IntKind.bits .i64) y &&& BitVec.ofInt (IntKind.bits .i64) 4).toNat : Int) = f := ⟨_, rfl⟩
  obtain ⟨c5, g0⟩ := hyes
  subst c5
  by_cases q : e = 0
  · refine ⟨(.mk 6 0 0 qq 0#256 []), ?_, by simp [wec, wmb], by simp [Rx.kind]⟩
    rw [whlb]
    subst q
    clear h4 h5 i4 i5 hf
    refine wnb hc wvb (Nat.le_of_ble_eq_true rfl) (Nat.le_of_ble_eq_true rfl) ?_
    unfold wac
    all_goals (repeat' (first | (simp -implicitDefEqProofs (maxSteps := 2000000) (disch := first | with_reducible assumption | omega | (simp only [zS, zA, Nat.reduceEqDiff, Nat.reduceLT, Nat.reduceLeDiff, Nat.reduceAdd, Nat.reduceSub, reduceCtorEq, wje, wng, wyd, zD] <;> omega) | fail) only [zS, argl, insA, Go.Den.wm, wo, wu, looks, wbb, wab, idOf, riA, Nat.reduceLeDiff, Nat.reduceLT, Nat.reduceEqDiff, Nat.reduceDiv, Nat.reduceMod, Int.reduceLT, Int.reduceLE, Int.reduceEq, Int.reduceNeg, Int.reduceToNat, Int.reduceSub, Int.reduceMul, Int.reduceNe, Nat.reduceAdd, Nat.reduceMul, Nat.reduceSub, Int.reduceAdd, reduceCtorEq, Go.Den.wh, kK, web, wkb, wgd, woc, wyd, weg, wnc, *, zT]) | (with_reducible (first | apply z1 | apply z2 | apply z3 | apply z4) <;> intro hq <;> (try simp only [zH] at hq) <;> (try (exfalso; omega))) | (with_reducible apply z5; (case hl => (repeat (first | exact .nil | with_reducible apply z6 | with_reducible apply z7))); (case h => kernel_rfl))))
  by_cases f4 : f = 4
  · refine ⟨.mk 4 lo (max lo 1 + up) 0 0#256 [(.mk 6 0 0 qq 0#256 [])], ?_, by simp [wec, wmb], by simp [Rx.kind]⟩
    rw [wnn, whlb]
    subst f4
    refine wnb hc wvb (Nat.le_of_ble_eq_true rfl) (Nat.le_of_ble_eq_true rfl) ?_
    unfold wac
    all_goals (repeat' (first | (simp -implicitDefEqProofs (maxSteps := 2000000) (disch := first | with_reducible assumption | omega | (simp only [zS, zA, Nat.reduceEqDiff, Nat.reduceLT, Nat.reduceLeDiff, Nat.reduceAdd, Nat.reduceSub, reduceCtorEq, wje, wng, wyd, zD] <;> omega) | fail) only [zS, argl, insA, Go.Den.wm, wo, wu, looks, wbb, wab, idOf, riA, Nat.reduceLeDiff, Nat.reduceLT, Nat.reduceEqDiff, Nat.reduceDiv, Nat.reduceMod, Int.reduceLT, Int.reduceLE, Int.reduceEq, Int.reduceNeg, Int.reduceToNat, Int.reduceSub, Int.reduceMul, Int.reduceNe, Nat.reduceAdd, Nat.reduceMul, Nat.reduceSub, Int.reduceAdd, reduceCtorEq, Go.Den.wh, kK, web, wkb, wgd, woc, wyd, weg, wnc, *, zT]) | (with_reducible (first | apply z1 | apply z2 | apply z3 | apply z4) <;> intro hq <;> (try simp only [zH] at hq) <;> (try (exfalso; omega))) | (with_reducible apply z5; (case hl => (repeat (first | exact .nil | with_reducible apply z6 | with_reducible apply z7))); (case h => kernel_rfl))))
  refine ⟨.mk 4 lo (-1) 0 0#256 [(.mk 6 0 0 qq 0#256 [])], ?_, by simp [wec, wmb], by simp [Rx.kind]⟩
  rw [wnn, whlb]
  clear h5 i5
  refine wnb hc wvb (Nat.le_of_ble_eq_true rfl) (Nat.le_of_ble_eq_true rfl) ?_
  unfold wac
  all_goals (repeat' (first | (simp -implicitDefEqProofs (maxSteps := 2000000) (disch := first | with_reducible assumption | omega | (simp only [zS, zA, Nat.reduceEqDiff, Nat.reduceLT, Nat.reduceLeDiff, Nat.reduceAdd, Nat.reduceSub, reduceCtorEq, wje, wng, wyd, zD] <;> omega) | fail) only [zS, argl, insA, Go.Den.wm, wo, wu, looks, wbb, wab, idOf, riA, Nat.reduceLeDiff, Nat.reduceLT, Nat.reduceEqDiff, Nat.reduceDiv, Nat.reduceMod, Int.reduceLT, Int.reduceLE, Int.reduceEq, Int.reduceNeg, Int.reduceToNat, Int.reduceSub, Int.reduceMul, Int.reduceNe, Nat.reduceAdd, Nat.reduceMul, Nat.reduceSub, Int.reduceAdd, reduceCtorEq, Go.Den.wh, kK, web, wkb, wgd, woc, wyd, weg, wnc, *, zT]) | (with_reducible (first | apply z1 | apply z2 | apply z3 | apply z4) <;> intro hq <;> (try simp only [zH] at hq) <;> (try (exfalso; omega))) | (with_reducible apply z5; (case hl => (repeat (first | exact .nil | with_reducible apply z6 | with_reducible apply z7))); (case h => kernel_rfl))))
end
end Go.Proofs.Ytdbhfmdndiphcaa
namespace Go.Proofs.Ytdbhfmdndiphcaa
set_option linter.unusedVariables false
set_option linter.unusedSimpArgs false
open Go.Den
noncomputable section
set_option maxHeartbeats 8000000 in
theorem wtsb (ks ns : List Int) (ere : Bool) (deep : Int) (hd : 0 ≤ deep) (hd2 : deep ≤ 3) (M : Nat) (hrow : MkOk ks ns ere 57 [.int .i64 (deep + 1)] M) (a : Nat) (ha : a + M + 2 ≤ 100000) (g l : Int) (hg : 0 ≤ g) (hg3 : g ≤ 3) (hl : -1000000 + 2 * (M : Int) + 4 ≤ l) (hl2 : l ≤ 1000)
    (hyes : 6 ≤ whc (wbk ks a) 0 9 ∧ 3 < l - 2 ∧ deep < 3 ∧ g < 3) :
    ∃ (r : Rx) (a' : Nat) (g' l' : Int), lim Try.prog cfg (.call 95 [.agg ⟨mkB ks ns ere⟩, .int .i64 deep]) (HP (mkH a g l)) = some (.val (.agg ⟨rxC r⟩), HP (mkH a' g' l')) ∧ wec r ≤ M + 2 ∧ r.kind ≠ 2 ∧ a' ≤ a + M + 2 ∧ 0 ≤ g' ∧ g' ≤ 3 ∧ l - 2 * (M : Int) - 4 ≤ l' ∧ l' ≤ l := by
  obtain ⟨c6, l3, d3, g3⟩ := hyes
  obtain ⟨r0, a2, g2, l2, hr, n0, b1, b2, b3, b4, b5⟩ := hrow (a + 1) (g + 1) (l - 2) (by omega) (by omega) (by omega) (by omega) (by omega)
  clear hrow
  have h1 := wox ks ns ere a (by omega) g l
  obtain ⟨s, h2⟩ := wtt (wzf ns a)
  have h3 := wke (wbk ks a) 0 9 (by omega) (by omega) (by omega)
  have h4 := wke (wzf ns a) 0 2 (by omega) (by omega) (by omega)
  have h5 := wke (IntKind.wrap .i64 ((wzf ns a).tdiv 8)) 0 2 (by omega) (by omega) (by omega)
  have i4 := wxo (wzf ns a)
  have i5 := wxo (IntKind.wrap .i64 ((wzf ns a).tdiv 8))
  generalize whc (wbk ks a) 0 9 = c at *
  generalize whc (wzf ns a) 0 2 = lo at *
  generalize whc (IntKind.wrap .i64 ((wzf ns a).tdiv 8)) 0 2 = up at *
  generalize wbk ks a = x at *
  generalize wzf ns a = y at *
  obtain ⟨e, he⟩ : ∃ e, IntKind.wrap .i64 ((BitVec.ofInt (IntKind.bits .i64) c &&& BitVec.ofInt (IntKind.bits .i64) 1).toNat : Int) = e := ⟨_, rfl⟩
  obtain ⟨f, hf⟩ : ∃ f, IntKind.wrap .i64 ((BitVec.ofInt (IntKind.bits .i64) y &&& BitVec.ofInt (IntKind.bits .i64) 4).toNat : Int) = f := ⟨_, rfl⟩
  by_cases q : e = 0
  · refine ⟨.mk 5 0 0 (g + 1) 0#256 [r0], a2, g2, l2, ?_, by rw [wec, wmb, wmb]; omega, by simp [Rx.kind], by omega, b2, b3, by omega, by omega⟩
    rw [wnn]
    subst q
    clear h4 h5 i4 i5 hf
    refine wnb hc wvb (Nat.le_of_ble_eq_true rfl) (Nat.le_of_ble_eq_true rfl) ?_
    unfold wac
    all_goals (repeat' (first | (simp -implicitDefEqProofs (maxSteps := 2000000) (disch := first | with_reducible assumption | omega | (simp only [zS, zA, Nat.reduceEqDiff, Nat.reduceLT, Nat.reduceLeDiff, Nat.reduceAdd, Nat.reduceSub, reduceCtorEq, wje, wng, wyd, zD] <;> omega) | fail) only [zS, argl, insA, Go.Den.wm, wo, wu, looks, wbb, wab, idOf, riA, Nat.reduceLeDiff, Nat.reduceLT, Nat.reduceEqDiff, Nat.reduceDiv, Nat.reduceMod, Int.reduceLT, Int.reduceLE, Int.reduceEq, Int.reduceNeg, Int.reduceToNat, Int.reduceSub, Int.reduceMul, Int.reduceNe, Nat.reduceAdd, Nat.reduceMul, Nat.reduceSub, Int.reduceAdd, reduceCtorEq, Go.Den.wh, kK, web, wkb, wgd, woc, wyd, weg, wnc, *, zT]) | (with_reducible (first | apply z1 | apply z2 | apply z3 | apply z4) <;> intro hq <;> (try simp only [zH] at hq) <;> (try (exfalso; omega))) | (with_reducible apply z5; (case hl => (repeat (first | exact .nil | with_reducible apply z6 | with_reducible apply z7))); (case h => kernel_rfl))))
  by_cases f4 : f = 4
  · refine ⟨.mk 4 lo (max lo 1 + up) 0 0#256 [.mk 5 0 0 (g + 1) 0#256 [r0]], a2, g2, l2, ?_, by rw [wec, wmb, wmb, wec, wmb, wmb]; omega, by simp [Rx.kind], by omega, b2, b3, by omega, by omega⟩
    rw [wnn, wnn]
    subst f4
    refine wnb hc wvb (Nat.le_of_ble_eq_true rfl) (Nat.le_of_ble_eq_true rfl) ?_
    unfold wac
    all_goals (repeat' (first | (simp -implicitDefEqProofs (maxSteps := 2000000) (disch := first | with_reducible assumption | omega | (simp only [zS, zA, Nat.reduceEqDiff, Nat.reduceLT, Nat.reduceLeDiff, Nat.reduceAdd, Nat.reduceSub, reduceCtorEq, wje, wng, wyd, zD] <;> omega) | fail) only [zS, argl, insA, Go.Den.wm, wo, wu, looks, wbb, wab, idOf, riA, Nat.reduceLeDiff, Nat.reduceLT, Nat.reduceEqDiff, Nat.reduceDiv, Nat.reduceMod, Int.reduceLT, Int.reduceLE, Int.reduceEq, Int.reduceNeg, Int.reduceToNat, Int.reduceSub, Int.reduceMul, Int.reduceNe, Nat.reduceAdd, Nat.reduceMul, Nat.reduceSub, Int.reduceAdd, reduceCtorEq, Go.Den.wh, kK, web, wkb, wgd, woc, wyd, weg, wnc, *, zT]) | (with_reducible (first | apply z1 | apply z2 | apply z3 | apply z4) <;> intro hq <;> (try simp only [zH] at hq) <;> (try (exfalso; omega))) | (with_reducible apply z5; (case hl => (repeat (first | exact .nil | with_reducible apply z6 | with_reducible apply z7))); (case h => kernel_rfl))))
  refine ⟨.mk 4 lo (-1) 0 0#256 [.mk 5 0 0 (g + 1) 0#256 [r0]], a2, g2, l2, ?_, by rw [wec, wmb, wmb, wec, wmb, wmb]; omega, by simp [Rx.kind], by omega, b2, b3, by omega, by omega⟩
  rw [wnn, wnn]
  clear h5 i5
  refine wnb hc wvb (Nat.le_of_ble_eq_true rfl) (Nat.le_of_ble_eq_true rfl) ?_
  unfold wac
  all_goals (repeat' (first | (simp -implicitDefEqProofs (maxSteps := 2000000) (disch := first | with_reducible assumption | omega | (simp only [zS, zA, Nat.reduceEqDiff, Nat.reduceLT, Nat.reduceLeDiff, Nat.reduceAdd, Nat.reduceSub, reduceCtorEq, wje, wng, wyd, zD] <;> omega) | fail) only [zS, argl, insA, Go.Den.wm, wo, wu, looks, wbb, wab, idOf, riA, Nat.reduceLeDiff, Nat.reduceLT, Nat.reduceEqDiff, Nat.reduceDiv, Nat.reduceMod, Int.reduceLT, Int.reduceLE, Int.reduceEq, Int.reduceNeg, Int.reduceToNat, Int.reduceSub, Int.reduceMul, Int.reduceNe, Nat.reduceAdd, Nat.reduceMul, Nat.reduceSub, Int.reduceAdd, reduceCtorEq, Go.Den.wh, kK, web, wkb, wgd, woc, wyd, weg, wnc, *, zT]) | (with_reducible (first | apply z1 | apply z2 | apply z3 | apply z4) <;> intro hq <;> (try simp only [zH] at hq) <;> (try (exfalso; omega))) | (with_reducible apply z5; (case hl => (repeat (first | exact .nil | with_reducible apply z6 | with_reducible apply z7))); (case h => kernel_rfl))))
end
end Go.Proofs.Ytdbhfmdndiphcaa
namespace Go.Proofs.Ytdbhfmdndiphcaa
set_option linter.unusedVariables false
set_option linter.unusedSimpArgs false
open Go.Den
noncomputable section
theorem wvcb (ks ns : List Int) (ere : Bool) (deep : Int) (hd : 0 ≤ deep) (hd2 : deep ≤ 3) (M : Nat) (hrow : deep < 3 → MkOk ks ns ere 57 [.int .i64 (deep + 1)] M) : wycc ks ns ere 95 [.int .i64 deep] (M + 2) := by
  intro a g l ha hg hg3 hl hl2
  by_cases h1 : 6 ≤ whc (wbk ks a) 0 9 ∧ 3 < l - 2 ∧ deep < 3 ∧ g < 3
  · obtain ⟨r, a', g', l', e, b1, nk, b2, b3, b4, b5, b6⟩ := wtsb ks ns ere deep hd hd2 M (hrow h1.2.2.1) a (by omega) g l hg hg3 (by omega) hl2 h1
    exact ⟨r, a', g', l', e, b1, nk, by omega, b3, b4, by omega, b6⟩
  · by_cases h2 : whc (wbk ks a) 0 9 = 5 ∧ 0 < g
    · obtain ⟨r, e, b1, nk⟩ := wzcc ks ns ere deep hd hd2 a (by omega) g l hg hg3 (by omega) hl2 h2
      exact ⟨r, a + 1, g, l - 2, e, by omega, nk, by omega, hg, hg3, by omega, by omega⟩
    · obtain ⟨r, e, b1, nk⟩ := part_set ks ns ere deep hd hd2 a (by omega) g l hg hg3 (by omega) hl2 h1 h2
      exact ⟨r, a + 1, g, l - 2, e, by omega, nk, by omega, hg, hg3, by omega, by omega⟩
abbrev rxZ : List Value := [.int .i64 0, .int .i64 0, .int .i64 0, .int .i64 0, .int .u64 0, .int .u64 0, .int .u64 0, .int .u64 0, .slice none 0 0]
abbrev ptH (ks ns : List Int) (ere : Bool) (a g l : Int) : List ABlk := mkH a g l ++ [X (mkB ks ns ere) 109 0 false, X rxZ 47 0 false]
theorem wsnb {l : List Rx} {r : Rx} : rxsC (l ++ [r]) = rxsC l ++ rxC r := by rw [wpp, wpp, List.flatMap_append]; simp
theorem waab {l : List Rx} {r : Rx} : wmb (l ++ [r]) = wmb l + wec r := by
  induction l with
  | nil => rw [List.nil_append, wmb, wmb, wmb]; omega
  | cons a l ih => rw [List.cons_append, wmb, wmb, ih]; omega
set_option maxHeartbeats 8000000 in
theorem wilb (ks ns : List Int) (ere : Bool) (deep n : Int) (hn : n ≤ 3) (M : Nat) (hM : M ≤ 20000) (hp : wycc ks ns ere 95 [.int .i64 deep] M) : ∀ (k i : Nat) (out : List Rx) (a : Nat) (g l : Int), (i : Int) + k = n → out ≠ [] → (∀ x ∈ out, x.kind ≠ 2) → out.length ≤ i → a + k * M ≤ 100000 → 0 ≤ g → g ≤ 3 → -1000000 + 2 * ((k * M : Nat) : Int) ≤ l → l ≤ 1000 →
    ∃ (rs : List Rx) (a' : Nat) (g' l' : Int), lim Try.prog cfg (.loop 77 3 (wjd 0) (SE (EJ 26 G0) [(9, .int .i64 i), (8, .int .i64 n), (7, FO 5 out.length (rxsC out)), (6, .pointer (some ⟨4, 0, none⟩)), (3, .pointer (some ⟨3, 0, none⟩)), (1, .int .i64 deep)])) (HP (ptH ks ns ere a g l ++ [.tok out.length 47 9]))
      = some (.code (.exit 0) (SE (EJ 26 G0) [(7, FO 4 rs.length (rxsC rs)), (6, .pointer (some ⟨3, 0, none⟩))]), HP (mkH a' g' l' ++ [X rxZ 47 0 false, .tok rs.length 47 9]))
      ∧ rs.length = out.length + k ∧ (∀ x ∈ rs, x.kind ≠ 2) ∧ wmb rs ≤ wmb out + k * M ∧ a' ≤ a + k * M ∧ 0 ≤ g' ∧ g' ≤ 3 ∧ l - 2 * ((k * M : Nat) : Int) ≤ l' ∧ l' ≤ l := by
  intro k
  induction k with
  | zero =>
    intro i out a g l hi ho hk2 hlen ha hg hg3 hl hl2
    refine ⟨out, a, g, l, ?_, by omega, hk2, by omega, by omega, hg, hg3, by omega, by omega⟩
    clear hp hk2
    refine wdb wge ?_
    unfold wqd
    (repeat' (first | (simp -implicitDefEqProofs (maxSteps := 2000000) (disch := first | with_reducible assumption | omega | (simp only [zS, zA, Nat.reduceEqDiff, Nat.reduceLT, Nat.reduceLeDiff, Nat.reduceAdd, Nat.reduceSub, reduceCtorEq, zD] <;> omega) | fail) only [zS, argl, insA, Go.Den.wm, wo, wu, looks, wbb, wab, idOf, riA, Nat.reduceLeDiff, Nat.reduceLT, Nat.reduceEqDiff, Nat.reduceDiv, Nat.reduceMod, Int.reduceLT, Int.reduceLE, Int.reduceEq, Int.reduceNeg, Int.reduceToNat, Int.reduceSub, Int.reduceMul, Int.reduceNe, Nat.reduceAdd, Nat.reduceMul, Nat.reduceSub, Int.reduceAdd, reduceCtorEq, Go.Den.wh, kK, wbd, *, zT]) | (with_reducible (first | apply z1 | apply z2 | apply z3 | apply z4) <;> intro hq <;> (try simp only [zH] at hq) <;> (try (exfalso; omega)))))
  | succ k ih =>
    intro i out a g l hi ho hk2 hlen ha hg hg3 hl hl2
    rw [Nat.succ_mul] at ha hl ⊢
    obtain ⟨r, a1, g1, l1, e1, n1, nk, b1, b2, b3, b4, b5⟩ := hp a g l (by omega) hg hg3 (by omega) hl2
    obtain ⟨rs, a2, g2, l2, e2, n2, nks, n3, c1, c2, c3, c4, c5⟩ := ih (i + 1) (out ++ [r]) a1 g1 l1 (by omega) (by simp) (fun x hx => by rcases List.mem_append.1 hx with h | h; exact hk2 x h; rw [List.mem_singleton] at h; subst h; exact nk) (by simp; omega) (by omega) b2 b3 (by omega) (by omega)
    rw [waab] at n3
    rw [List.length_append, List.length_singleton] at n2
    refine ⟨rs, a2, g2, l2, ?_, by omega, nks, by omega, by omega, c2, c3, by omega, by omega⟩
    rw [show (out ++ [r]).length = out.length + 1 by simp, wsnb] at e2
    clear hp ih n1 b1 b4 b5 n2 n3 c1 c4 c5 nk nks hk2
    refine wdb wge ?_
    unfold wqd
    (repeat' (first | (simp -implicitDefEqProofs (maxSteps := 2000000) (disch := first | with_reducible assumption | omega | (simp only [zS, zA, Nat.reduceEqDiff, Nat.reduceLT, Nat.reduceLeDiff, Nat.reduceAdd, Nat.reduceSub, reduceCtorEq, zD] <;> omega) | fail) only [zS, argl, insA, Go.Den.wm, wo, wu, looks, wbb, wab, idOf, riA, Nat.reduceLeDiff, Nat.reduceLT, Nat.reduceEqDiff, Nat.reduceDiv, Nat.reduceMod, Int.reduceLT, Int.reduceLE, Int.reduceEq, Int.reduceNeg, Int.reduceToNat, Int.reduceSub, Int.reduceMul, Int.reduceNe, Nat.reduceAdd, Nat.reduceMul, Nat.reduceSub, Int.reduceAdd, reduceCtorEq, Go.Den.wh, kK, wbd, *, zT]) | (with_reducible (first | apply z1 | apply z2 | apply z3 | apply z4) <;> intro hq <;> (try simp only [zH] at hq) <;> (try (exfalso; omega)))))
    all_goals first | exact e2 | trace_state
end
end Go.Proofs.Ytdbhfmdndiphcaa
namespace Go.Proofs.Ytdbhfmdndiphcaa
set_option linter.unusedVariables false
set_option linter.unusedSimpArgs false
open Go.Den
noncomputable section
theorem wbab {r : Rx} : rxsC [r] = rxC r := by rw [rxsC, rxsC, List.append_nil]
theorem wzq {k : Int} {l : List Rx} : rxC (.mk k 0 0 0 0#256 l) = [.int .i64 k, .int .i64 0, .int .i64 0, .int .i64 0, .int .u64 0, .int .u64 0, .int .u64 0, .int .u64 0, FL l.length (rxsC l)] := by rw [rxC]; rfl
set_option maxHeartbeats 8000000 in
theorem wjlb (ks ns : List Int) (ere : Bool) (deep n : Int) (hn : n ≤ 3) (M : Nat) (hM : M ≤ 20000) (hp : wycc ks ns ere 95 [.int .i64 deep] M) (k : Nat) (a : Nat) (g l : Int) (hi : (k : Int) + 1 = n) (ha : a + (k * M + M) ≤ 100000) (hg : 0 ≤ g) (hg3 : g ≤ 3) (hl : -1000000 + 2 * ((k * M + M : Nat) : Int) ≤ l) (hl2 : l ≤ 1000) :
    ∃ (rs : List Rx) (a' : Nat) (g' l' : Int), lim Try.prog cfg (.loop 77 3 (wjd 0) (SE (EJ 26 G0) [(9, .int .i64 0), (8, .int .i64 n), (7, .slice none 0 0), (6, .pointer (some ⟨4, 0, none⟩)), (3, .pointer (some ⟨3, 0, none⟩)), (1, .int .i64 deep)])) (HP (ptH ks ns ere a g l))
      = some (.code (.exit 0) (SE (EJ 26 G0) [(7, FO 4 rs.length (rxsC rs)), (6, .pointer (some ⟨3, 0, none⟩))]), HP (mkH a' g' l' ++ [X rxZ 47 0 false, .tok rs.length 47 9]))
      ∧ rs.length = k + 1 ∧ (∀ x ∈ rs, x.kind ≠ 2) ∧ wmb rs ≤ k * M + M ∧ a' ≤ a + (k * M + M) ∧ 0 ≤ g' ∧ g' ≤ 3 ∧ l - 2 * ((k * M + M : Nat) : Int) ≤ l' ∧ l' ≤ l := by
  obtain ⟨r, a1, g1, l1, e1, n1, nk, b1, b2, b3, b4, b5⟩ := hp a g l (by omega) hg hg3 (by omega) hl2
  obtain ⟨rs, a2, g2, l2, e2, n2, nks, n3, c1, c2, c3, c4, c5⟩ := wilb ks ns ere deep n hn M hM hp k 1 [r] a1 g1 l1 (by omega) (by simp) (fun x hx => by rw [List.mem_singleton] at hx; subst hx; exact nk) (by simp) (by omega) b2 b3 (by omega) (by omega)
  rw [wmb, wmb] at n3
  rw [List.length_singleton] at n2
  refine ⟨rs, a2, g2, l2, ?_, by omega, nks, by omega, by omega, c2, c3, by omega, by omega⟩
  rw [List.length_singleton, wbab, show ((1 : Nat) : Int) = 1 from rfl] at e2
  have hn0 : 0 < n := by omega
  clear hp n1 b1 b4 b5 n2 n3 c1 c4 c5 hi ha hl nk nks
  refine wdb wge ?_
  unfold wqd
  (repeat' (first | (simp -implicitDefEqProofs (maxSteps := 2000000) (disch := first | with_reducible assumption | omega | (simp only [zS, zA, Nat.reduceEqDiff, Nat.reduceLT, Nat.reduceLeDiff, Nat.reduceAdd, Nat.reduceSub, reduceCtorEq, zD] <;> omega) | fail) only [zS, argl, insA, Go.Den.wm, wo, wu, looks, wbb, wab, idOf, riA, Nat.reduceLeDiff, Nat.reduceLT, Nat.reduceEqDiff, Nat.reduceDiv, Nat.reduceMod, Int.reduceLT, Int.reduceLE, Int.reduceEq, Int.reduceNeg, Int.reduceToNat, Int.reduceSub, Int.reduceMul, Int.reduceNe, Nat.reduceAdd, Nat.reduceMul, Nat.reduceSub, Int.reduceAdd, reduceCtorEq, Go.Den.wh, kK, wbd, *, zT]) | (with_reducible (first | apply z1 | apply z2 | apply z3 | apply z4) <;> intro hq <;> (try simp only [zH] at hq) <;> (try (exfalso; omega)))))
  all_goals first | exact e2 | trace_state
def rxK (t n : Nat) (c : List Value) : List Value := [.int .i64 2, .int .i64 0, .int .i64 0, .int .i64 0, .int .u64 0, .int .u64 0, .int .u64 0, .int .u64 0, FO t n c]
def PkOk (ks ns : List Int) (ere : Bool) (args : List Value) (M : Nat) : Prop :=
  ∀ (a : Nat) (g l : Int), a + M ≤ 100000 → 0 ≤ g → g ≤ 3 → -1000000 + 2 * (M : Int) ≤ l → l ≤ 1000 →
    ∃ (r : Rx) (a' : Nat) (g' l' : Int), ((lim Try.prog cfg (.call 77 (.agg ⟨mkB ks ns ere⟩ :: args)) (HP (mkH a g l)) = some (.val (.agg ⟨rxC r⟩), HP (mkH a' g' l')) ∧ r.kind ≠ 2) ∨
      ∃ rs : List Rx, r = .mk 2 0 0 0 0#256 rs ∧ 2 ≤ rs.length ∧ rs.length ≤ 3 ∧ lim Try.prog cfg (.call 77 (.agg ⟨mkB ks ns ere⟩ :: args)) (HP (mkH a g l)) = some (.val (.agg ⟨rxK 3 rs.length (rxsC rs)⟩), HP (mkH a' g' l' ++ [.tok rs.length 47 9])))
      ∧ wec r ≤ M ∧ a' ≤ a + M ∧ 0 ≤ g' ∧ g' ≤ 3 ∧ l - 2 * (M : Int) ≤ l' ∧ l' ≤ l
set_option maxHeartbeats 8000000 in
theorem wwcb (ks ns : List Int) (ere : Bool) (deep n : Int) (hn : n ≤ 3) (M : Nat) (hM : M ≤ 20000) (hp : wycc ks ns ere 95 [.int .i64 deep] M) (k : Nat) (hi : (k : Int) + 1 = n) : PkOk ks ns ere [.int .i64 deep, .int .i64 n] (1 + (k * M + M)) := by
  intro a g l ha hg hg3 hl hl2
  obtain ⟨rs, a2, g2, l2, e2, n2, nks, n3, c1, c2, c3, c4, c5⟩ := wjlb ks ns ere deep n hn M hM hp k a g l hi (by omega) hg hg3 (by omega) hl2
  simp only [ptH, mkH, List.cons_append, List.nil_append] at e2
  clear hp
  have hlen : rs.length ≤ 3 := by omega
  by_cases h1 : rs.length = 1
  · match rs, h1 with
    | [r], _ =>
      rw [wmb, wmb] at n3
      refine ⟨r, a2, g2, l2, .inl ⟨?_, nks r (List.mem_singleton.2 rfl)⟩, by omega, by omega, c2, c3, by omega, by omega⟩
      rw [List.length_singleton, wbab] at e2
      clear n2 n3 c1 c4 c5 hi ha hl hlen nks
      refine wrfb hc wfh (Nat.le_of_ble_eq_true rfl) (Nat.le_of_ble_eq_true rfl) ?_
      unfold wbg
      (repeat' (first | (simp -implicitDefEqProofs (maxSteps := 2000000) (disch := first | with_reducible assumption | omega | (simp only [zS, zA, Nat.reduceEqDiff, Nat.reduceLT, Nat.reduceLeDiff, Nat.reduceAdd, Nat.reduceSub, reduceCtorEq, wng, wyd, zD] <;> omega) | fail) only [zS, argl, insA, Go.Den.wm, wo, wu, looks, wbb, wab, idOf, riA, Nat.reduceLeDiff, Nat.reduceLT, Nat.reduceEqDiff, Nat.reduceDiv, Nat.reduceMod, Int.reduceLT, Int.reduceLE, Int.reduceEq, Int.reduceNeg, Int.reduceToNat, Int.reduceSub, Int.reduceMul, Int.reduceNe, Nat.reduceAdd, Nat.reduceMul, Nat.reduceSub, Int.reduceAdd, reduceCtorEq, Go.Den.wh, kK, wbd, woc, wyd, weg, wnc, *, zT]) | (with_reducible (first | apply z1 | apply z2 | apply z3 | apply z4) <;> intro hq <;> (try simp only [zH] at hq) <;> (try (exfalso; omega)))))
  · refine ⟨.mk 2 0 0 0 0#256 rs, a2, g2, l2, .inr ⟨rs, rfl, by omega, hlen, ?_⟩, by rw [wec]; omega, by omega, c2, c3, by omega, by omega⟩
    have h2 : ¬ (rs.length : Int) = 1 := by omega
    clear n2 n3 c1 c4 c5 hi ha hl h1 nks
    simp only [rxK, mkH, List.cons_append, List.nil_append]
    refine wrfb hc wfh (Nat.le_of_ble_eq_true rfl) (Nat.le_of_ble_eq_true rfl) ?_
    unfold wbg
    (repeat' (first | (simp -implicitDefEqProofs (maxSteps := 2000000) (disch := first | with_reducible assumption | omega | (simp only [zS, zA, Nat.reduceEqDiff, Nat.reduceLT, Nat.reduceLeDiff, Nat.reduceAdd, Nat.reduceSub, reduceCtorEq, wng, wun, wyd, zD] <;> omega) | fail) only [zS, argl, insA, Go.Den.wm, wo, wu, looks, wbb, wab, idOf, riA, Nat.reduceLeDiff, Nat.reduceLT, Nat.reduceEqDiff, Nat.reduceDiv, Nat.reduceMod, Int.reduceLT, Int.reduceLE, Int.reduceEq, Int.reduceNeg, Int.reduceToNat, Int.reduceSub, Int.reduceMul, Int.reduceNe, Nat.reduceAdd, Nat.reduceMul, Nat.reduceSub, Int.reduceAdd, reduceCtorEq, Go.Den.wh, kK, wbd, woc, wyd, weg, wnc, *, zT]) | (with_reducible (first | apply z1 | apply z2 | apply z3 | apply z4) <;> intro hq <;> (try simp only [zH] at hq) <;> (try (exfalso; omega)))))
end
end Go.Proofs.Ytdbhfmdndiphcaa
namespace Go.Den
noncomputable section
theorem wvh : nfL [] = [] := rfl
theorem wdf {v : Value} {r : List Value} : nfL (v :: r) = nfV v :: nfL r := rfl
theorem whk {k : IntKind} {n : Int} : nfV (.int k n) = .int k n := rfl
theorem wxp {n : Nat} {cs : List Value} : nfV (FL n cs) = FL n cs := rfl
theorem wwh : nfV (.slice none 0 0) = FL 0 [] := rfl
theorem wpl {h : List ABlk} (hh : h.length ≤ 1099511627774) {elem size bytes t len n : Nat} {cs new : List Value} (ht : t < h.length) (hn : len + n ≤ 16777216) (hb : bytes ≤ 1048576) (hc : cs.length = len * size) (ha : whf (nfL new) = true) :
    appN h elem size bytes (FO t len cs) n new = appT h elem size t len n cs (nfL new) h[t]? := by
  show (bif roomy (len + n) bytes then wmm (HP h) elem size t len cs (nfL new) n else .none) = _
  have h1 : roomy (len + n) bytes = true := by unfold roomy; rw [nble, nble, decide_eq_true hn, decide_eq_true hb]; rfl
  rw [h1, cond_true]
  generalize nfL new = new at *
  unfold wmm
  rw [wci h hh]
  cases hq : h[t]? with
  | none => rfl
  | some b =>
    cases b with
    | cells b => rfl
    | map es => rfl
    | tok m el es =>
      show (bif wyp m el es elem size t len cs new then _ else _) = (bif decide (m = len ∧ el = elem ∧ es = size) then _ else _)
      have h2 : wyp m el es elem size t len cs new = decide (m = len ∧ el = elem ∧ es = size) := by
        unfold wyp
        rw [wuj ha, wvo ha, hc, Nat.beq_refl, wkh (by omega), nbeq, nbeq, nbeq]
        by_cases q1 : m = len <;> by_cases q2 : el = elem <;> by_cases q3 : es = size <;> simp [q1, q2, q3]
      rw [h2, whs _ _ _ ht]
      by_cases q : m = len ∧ el = elem ∧ es = size
      · obtain ⟨rfl, rfl, rfl⟩ := q; rfl
      · rw [decide_eq_false q]; rfl
theorem wadc {h : List ABlk} {elem size bytes : Nat} {s : Value} {t n : Nat} {cs : List Value} (h0 : 0 < n) (hc : n * size ≤ cs.length) : appA true (HP h) elem size bytes s (FO t n cs) = appN h elem size bytes s n (slotsOf cs 0 (n * size)) := by
  have h1 : appA true (HP h) elem size bytes s (FO t n cs) = appA true (HP h) elem size bytes s (FL n cs) := rfl
  rw [h1, app_FL h0 hc]
def appE (h : List ABlk) (elem size : Nat) (len n : Nat) (new : List Value) : Option ABlk → ARes
  | some (.cells b) => bif decide (len * size ≤ b.cells.length) then wgi true (HP h) elem size (slotsOf b.cells 0 (len * size) ++ new) (len + n) else .none
  | _ => .none
theorem wui {h : List ABlk} (hh : h.length ≤ 1099511627774) {elem size bytes i len c n : Nat} {new : List Value} (hx : wobc h[i]? = true) (hc : len + 1 ≤ c) (hg : c < len + 1 + n) (hr : len + 1 + n ≤ 16777216) (hb : bytes ≤ 1048576) :
    appN h elem size bytes (.slice (some ⟨i, 0, none⟩) (len + 1) (c + 1)) n new = appE h elem size (len + 1) n new h[i]? := by
  show (bif roomy (len + 1 + n) bytes && Nat.ble (len + 1) c then wnm true (HP h) elem size (.slice (some ⟨i, 0, none⟩) (len + 1) (c + 1)) ⟨i, 0, none⟩ (len + 1) c n new else .none) = _
  have h1 : roomy (len + 1 + n) bytes = true := by unfold roomy; rw [nble, nble, decide_eq_true hr, decide_eq_true hb]; rfl
  rw [h1, nble, decide_eq_true hc]
  unfold wnm
  rw [nble, decide_eq_false (by omega)]
  have h2 : wcj (HP h) size (len + 1) (.slice (some ⟨i, 0, none⟩) (len + 1) (c + 1)) = match whh (HP h) ⟨i, 0, none⟩ ((len + 1) * size) with
    | some b => some (slotsOf b.cells 0 ((len + 1) * size))
    | none => none := by
    show (bif Nat.ble (len + 1) (len + 1) && Nat.blt 0 (len + 1) then _ else none) = _
    rw [nble, nblt, decide_eq_true (Nat.le_refl _), decide_eq_true (Nat.succ_pos _)]
    rfl
  simp only [h2, Bool.and_self, cond_true, cond_false]
  unfold whh
  rw [wci h hh]
  cases hq : h[i]? with
  | none => rw [hq] at hx; cases hx
  | some b =>
    rw [hq] at hx
    cases b with
    | cells b =>
      have hx : (isNil b.lens && Nat.beq b.wver 0) = true := hx
      simp only [Bool.and_eq_true, Nat.beq_eq] at hx
      obtain ⟨h3, h4⟩ := hx
      have h5 : b.lens = [] := by cases hl : b.lens with | nil => rfl | cons a r => rw [hl] at h3; cases h3
      have h6 : rdOk b (aver ⟨i, 0, none⟩) (0 + (len + 1) * size) = decide ((len + 1) * size ≤ b.cells.length) := by
        unfold rdOk
        have e1 : b.top = 0 := by unfold CBlk.top; rw [h5]; rfl
        have e2 : b.lenAt 0 = b.cells.length := by unfold CBlk.lenAt; rw [h5]
        rw [h4, e1]
        show (Nat.ble 0 0 && (Nat.ble 0 0 && Nat.ble (0 + (len + 1) * size) (b.lenAt 0))) = _
        rw [e2, Nat.zero_add, nble, nble]
        simp
      simp only [h6]
      by_cases hk : (len + 1) * size ≤ b.cells.length
      · simp only [decide_eq_true hk, cond_true, appE]
      · simp only [decide_eq_false hk, cond_false, appE]
    | map es => cases hx
    | tok a b c => cases hx
theorem wfu {h : List ABlk} (hh : h.length ≤ 1099511627774) {elem size len n : Nat} {cs new : List Value} {t z : Nat} {pf : Bool} (hl : len * size ≤ cs.length) (ha : whf (nfL (slotsOf cs 0 (len * size) ++ new)) = true) :
    appE h elem size len n new (some (X cs t z pf)) = .eff (FO h.length (len + n) (nfL (slotsOf cs 0 (len * size) ++ new))) (HP (h ++ [.tok (len + n) elem size])) := by
  show (bif decide (len * size ≤ cs.length) then wgi true (HP h) elem size (slotsOf cs 0 (len * size) ++ new) (len + n) else .none) = _
  rw [decide_eq_true hl, cond_true]
  show (bif wsx (HP h) (nfL (slotsOf cs 0 (len * size) ++ new)) then ARes.eff (FO (HP h).n (len + n) (nfL (slotsOf cs 0 (len * size) ++ new))) ((HP h).push (.tok (len + n) elem size)) else .none) = _
  have h2 : wsx (HP h) (nfL (slotsOf cs 0 (len * size) ++ new)) = true := by
    unfold wsx
    rw [wuj ha, wvo ha, HP_n, wkh hh]; rfl
  rw [h2, cond_true, HP_n, wuk]
end
end Go.Den
namespace Go.Proofs.Ytdbhfmdndiphcaa
set_option linter.unusedVariables false
set_option linter.unusedSimpArgs false
open Go.Den
noncomputable section
theorem wxh {l : List Rx} : nfL (rxsC l) = rxsC l := (wun l).2.2.2.2.2.1
theorem wyh {a b : List Value} : nfL (a ++ b) = nfL a ++ nfL b := by
  induction a with
  | nil => rfl
  | cons v a ih => rw [List.cons_append, wdf, wdf, ih, List.cons_append]
theorem wbdc {l : List Rx} : slotsOf (rxsC l) 0 (l.length * 9) = rxsC l := by
  unfold slotsOf
  rw [List.drop_zero, ← wpt, List.take_length]
theorem rx_begin : rxC (.mk 7 0 0 0 0#256 []) = [.int .i64 7, .int .i64 0, .int .i64 0, .int .i64 0, .int .u64 0, .int .u64 0, .int .u64 0, .int .u64 0, FL 0 []] := by rw [rxC, rxsC]; rfl
theorem rx_end : rxC (.mk 8 0 0 0 0#256 []) = [.int .i64 8, .int .i64 0, .int .i64 0, .int .i64 0, .int .u64 0, .int .u64 0, .int .u64 0, .int .u64 0, FL 0 []] := by rw [rxC, rxsC]; rfl
theorem rxs_cons {r : Rx} {l : List Rx} : rxsC (r :: l) = rxC r ++ rxsC l := by rw [rxsC]
set_option maxHeartbeats 8000000 in
theorem wcdc (ks ns : List Int) (ere : Bool) (deep : Int) (hd : 0 ≤ deep) (hd2 : deep ≤ 3) (M : Nat) (a : Nat) (g l : Int) (hp : PkOk ks ns ere [.int .i64 deep, .int .i64 (1 + whc (wzf ns a) 0 2)] M) (ha : a + (M + 1) ≤ 100000) (hg : 0 ≤ g) (hg3 : g ≤ 3) (hl : -1000000 + 2 * (M : Int) + 2 ≤ l) (hl2 : l ≤ 1000)
    (hno : ¬ (ere = true ∧ whc (wbk ks a) 0 9 = 9 ∧ 4 < l - 1 ∧ deep < 3)) :
    ∃ (r : Rx) (a' : Nat) (g' l' : Int), lim Try.prog cfg (.call 57 [.agg ⟨mkB ks ns ere⟩, .int .i64 deep]) (HP (mkH a g l)) = some (.val (.agg ⟨rxC r⟩), HP (mkH a' g' l')) ∧ wec r ≤ M + 1 ∧ a' ≤ a + (M + 1) ∧ 0 ≤ g' ∧ g' ≤ 3 ∧ l - 2 * (M : Int) - 2 ≤ l' ∧ l' ≤ l := by
  have h1 := wox ks ns ere a (by omega) g l
  have h3 := wke (wbk ks a) 0 9 (by omega) (by omega) (by omega)
  have h4 := wke (wzf ns a) 0 2 (by omega) (by omega) (by omega)
  have i4 := wxo (wzf ns a)
  generalize whc (wbk ks a) 0 9 = c at *
  generalize whc (wzf ns a) 0 2 = w at *
  generalize wbk ks a = x at *
  generalize wzf ns a = y at *
  obtain ⟨r, a2, g2, l2, e2, n2, b1, b2, b3, b4, b5⟩ := hp (a + 1) g (l - 1) (by omega) hg hg3 (by omega) (by omega)
  clear hp
  rcases e2 with ⟨e2, k2⟩ | ⟨rs, hr, hr2, hr3, e2⟩
  · refine ⟨r, a2, g2, l2, ?_, by omega, by omega, b2, b3, by omega, by omega⟩
    clear n2 b1 b4 b5 ha
    refine wnb hc wfd (Nat.le_of_ble_eq_true rfl) (Nat.le_of_ble_eq_true rfl) ?_
    unfold wdd
    cases ere with
    | false =>
      clear hno
      (repeat' (first | (simp -implicitDefEqProofs (maxSteps := 2000000) (disch := first | with_reducible assumption | omega | (simp only [zS, zA, Nat.reduceEqDiff, Nat.reduceLT, Nat.reduceLeDiff, Nat.reduceAdd, Nat.reduceSub, reduceCtorEq, wng, zD] <;> omega) | fail) only [zS, argl, insA, Go.Den.wm, wo, wu, looks, wbb, wab, idOf, riA, Nat.reduceLeDiff, Nat.reduceLT, Nat.reduceEqDiff, Nat.reduceDiv, Nat.reduceMod, Int.reduceLT, Int.reduceLE, Int.reduceEq, Int.reduceNeg, Int.reduceToNat, Int.reduceSub, Int.reduceMul, Int.reduceNe, Nat.reduceAdd, Nat.reduceMul, Nat.reduceSub, Int.reduceAdd, reduceCtorEq, Go.Den.wh, kK, web, wkb, *, zT]) | (with_reducible (first | apply z1 | apply z2 | apply z3 | apply z4) <;> intro hq <;> (try simp only [zH] at hq) <;> (try (exfalso; omega))) | (with_reducible apply z5; (case hl => (repeat (first | exact .nil | with_reducible apply z6 | with_reducible apply z7))); (case h => kernel_rfl))))
    | true =>
      by_cases c9 : c = 9
      · by_cases l4 : 4 < l - 1
        · have d3 : ¬ deep < 3 := fun h => hno ⟨rfl, c9, l4, h⟩
          clear hno
          subst c9
          (repeat' (first | (simp -implicitDefEqProofs (maxSteps := 2000000) (disch := first | with_reducible assumption | omega | (simp only [zS, zA, Nat.reduceEqDiff, Nat.reduceLT, Nat.reduceLeDiff, Nat.reduceAdd, Nat.reduceSub, reduceCtorEq, wng, zD] <;> omega) | fail) only [zS, argl, insA, Go.Den.wm, wo, wu, looks, wbb, wab, idOf, riA, Nat.reduceLeDiff, Nat.reduceLT, Nat.reduceEqDiff, Nat.reduceDiv, Nat.reduceMod, Int.reduceLT, Int.reduceLE, Int.reduceEq, Int.reduceNeg, Int.reduceToNat, Int.reduceSub, Int.reduceMul, Int.reduceNe, Nat.reduceAdd, Nat.reduceMul, Nat.reduceSub, Int.reduceAdd, reduceCtorEq, Go.Den.wh, kK, web, wkb, *, zT]) | (with_reducible (first | apply z1 | apply z2 | apply z3 | apply z4) <;> intro hq <;> (try simp only [zH] at hq) <;> (try (exfalso; omega))) | (with_reducible apply z5; (case hl => (repeat (first | exact .nil | with_reducible apply z6 | with_reducible apply z7))); (case h => kernel_rfl))))
        · clear hno
          subst c9
          (repeat' (first | (simp -implicitDefEqProofs (maxSteps := 2000000) (disch := first | with_reducible assumption | omega | (simp only [zS, zA, Nat.reduceEqDiff, Nat.reduceLT, Nat.reduceLeDiff, Nat.reduceAdd, Nat.reduceSub, reduceCtorEq, wng, zD] <;> omega) | fail) only [zS, argl, insA, Go.Den.wm, wo, wu, looks, wbb, wab, idOf, riA, Nat.reduceLeDiff, Nat.reduceLT, Nat.reduceEqDiff, Nat.reduceDiv, Nat.reduceMod, Int.reduceLT, Int.reduceLE, Int.reduceEq, Int.reduceNeg, Int.reduceToNat, Int.reduceSub, Int.reduceMul, Int.reduceNe, Nat.reduceAdd, Nat.reduceMul, Nat.reduceSub, Int.reduceAdd, reduceCtorEq, Go.Den.wh, kK, web, wkb, *, zT]) | (with_reducible (first | apply z1 | apply z2 | apply z3 | apply z4) <;> intro hq <;> (try simp only [zH] at hq) <;> (try (exfalso; omega))) | (with_reducible apply z5; (case hl => (repeat (first | exact .nil | with_reducible apply z6 | with_reducible apply z7))); (case h => kernel_rfl))))
      · clear hno
        (repeat' (first | (simp -implicitDefEqProofs (maxSteps := 2000000) (disch := first | with_reducible assumption | omega | (simp only [zS, zA, Nat.reduceEqDiff, Nat.reduceLT, Nat.reduceLeDiff, Nat.reduceAdd, Nat.reduceSub, reduceCtorEq, wng, zD] <;> omega) | fail) only [zS, argl, insA, Go.Den.wm, wo, wu, looks, wbb, wab, idOf, riA, Nat.reduceLeDiff, Nat.reduceLT, Nat.reduceEqDiff, Nat.reduceDiv, Nat.reduceMod, Int.reduceLT, Int.reduceLE, Int.reduceEq, Int.reduceNeg, Int.reduceToNat, Int.reduceSub, Int.reduceMul, Int.reduceNe, Nat.reduceAdd, Nat.reduceMul, Nat.reduceSub, Int.reduceAdd, reduceCtorEq, Go.Den.wh, kK, web, wkb, *, zT]) | (with_reducible (first | apply z1 | apply z2 | apply z3 | apply z4) <;> intro hq <;> (try simp only [zH] at hq) <;> (try (exfalso; omega))) | (with_reducible apply z5; (case hl => (repeat (first | exact .nil | with_reducible apply z6 | with_reducible apply z7))); (case h => kernel_rfl))))
  · subst hr
    rw [wec] at n2
    simp only [rxK, mkH, List.cons_append, List.nil_append] at e2
    by_cases c8 : c = 8
    · refine ⟨.mk 2 0 0 0 0#256 (.mk 7 0 0 0 0#256 [] :: rs), a2, g2, l2, ?_, by rw [wec, wmb, wec, wmb]; omega, by omega, b2, b3, by omega, by omega⟩
      rw [wzq, rxs_cons, rx_begin, List.length_cons, Nat.add_comm]
      have hsl := wbdc (l := rs)
      have hcl : rs.length * 9 ≤ (rxsC rs).length := by rw [wpt]; exact Nat.le_refl _
      clear n2 b1 b4 b5 ha hno
      subst c8
      refine wnb hc wfd (Nat.le_of_ble_eq_true rfl) (Nat.le_of_ble_eq_true rfl) ?_
      unfold wdd
      cases ere with
      | false =>
        (repeat' (first | (simp -implicitDefEqProofs (maxSteps := 2000000) (disch := first | with_reducible assumption | omega | (simp only [zS, zA, Nat.reduceEqDiff, Nat.reduceLT, Nat.reduceLeDiff, Nat.reduceAdd, Nat.reduceSub, reduceCtorEq, wun, wvh, wdf, whk, wxp, wwh, wxh, wyh, zD] <;> omega) | fail) only [zS, argl, insA, Go.Den.wm, wo, wu, looks, wbb, wab, idOf, riA, Nat.reduceLeDiff, Nat.reduceLT, Nat.reduceEqDiff, Nat.reduceDiv, Nat.reduceMod, Int.reduceLT, Int.reduceLE, Int.reduceEq, Int.reduceNeg, Int.reduceToNat, Int.reduceSub, Int.reduceMul, Int.reduceNe, Nat.reduceAdd, Nat.reduceMul, Nat.reduceSub, Int.reduceAdd, reduceCtorEq, Go.Den.wh, kK, web, wkb, wadc, wvh, wdf, whk, wxp, wwh, wpl, wui, wfu, wxh, wyh, *, zT]) | (with_reducible (first | apply z1 | apply z2 | apply z3 | apply z4) <;> intro hq <;> (try simp only [zH] at hq) <;> (try (exfalso; omega))) | (with_reducible apply z5; (case hl => (repeat (first | exact .nil | with_reducible apply z6 | with_reducible apply z7))); (case h => kernel_rfl))))
      | true =>
        (repeat' (first | (simp -implicitDefEqProofs (maxSteps := 2000000) (disch := first | with_reducible assumption | omega | (simp only [zS, zA, Nat.reduceEqDiff, Nat.reduceLT, Nat.reduceLeDiff, Nat.reduceAdd, Nat.reduceSub, reduceCtorEq, wun, wvh, wdf, whk, wxp, wwh, wxh, wyh, zD] <;> omega) | fail) only [zS, argl, insA, Go.Den.wm, wo, wu, looks, wbb, wab, idOf, riA, Nat.reduceLeDiff, Nat.reduceLT, Nat.reduceEqDiff, Nat.reduceDiv, Nat.reduceMod, Int.reduceLT, Int.reduceLE, Int.reduceEq, Int.reduceNeg, Int.reduceToNat, Int.reduceSub, Int.reduceMul, Int.reduceNe, Nat.reduceAdd, Nat.reduceMul, Nat.reduceSub, Int.reduceAdd, reduceCtorEq, Go.Den.wh, kK, web, wkb, wadc, wvh, wdf, whk, wxp, wwh, wpl, wui, wfu, wxh, wyh, *, zT]) | (with_reducible (first | apply z1 | apply z2 | apply z3 | apply z4) <;> intro hq <;> (try simp only [zH] at hq) <;> (try (exfalso; omega))) | (with_reducible apply z5; (case hl => (repeat (first | exact .nil | with_reducible apply z6 | with_reducible apply z7))); (case h => kernel_rfl))))
    · by_cases c7 : c = 7
      · refine ⟨.mk 2 0 0 0 0#256 (rs ++ [.mk 8 0 0 0 0#256 []]), a2, g2, l2, ?_, by rw [wec, waab, wec, wmb]; omega, by omega, b2, b3, by omega, by omega⟩
        rw [wzq, wsnb, rx_end, List.length_append, List.length_singleton]
        clear n2 b1 b4 b5 ha hno
        subst c7
        refine wnb hc wfd (Nat.le_of_ble_eq_true rfl) (Nat.le_of_ble_eq_true rfl) ?_
        unfold wdd
        cases ere with
        | false =>
          (repeat' (first | (simp -implicitDefEqProofs (maxSteps := 2000000) (disch := first | with_reducible assumption | omega | (simp only [zS, zA, Nat.reduceEqDiff, Nat.reduceLT, Nat.reduceLeDiff, Nat.reduceAdd, Nat.reduceSub, reduceCtorEq, wun, wvh, wdf, whk, wxp, wwh, wxh, wyh, zD] <;> omega) | fail) only [zS, argl, insA, Go.Den.wm, wo, wu, looks, wbb, wab, idOf, riA, Nat.reduceLeDiff, Nat.reduceLT, Nat.reduceEqDiff, Nat.reduceDiv, Nat.reduceMod, Int.reduceLT, Int.reduceLE, Int.reduceEq, Int.reduceNeg, Int.reduceToNat, Int.reduceSub, Int.reduceMul, Int.reduceNe, Nat.reduceAdd, Nat.reduceMul, Nat.reduceSub, Int.reduceAdd, reduceCtorEq, Go.Den.wh, kK, web, wkb, wvh, wdf, whk, wxp, wwh, wpl, wui, wfu, wxh, wyh, *, zT]) | (with_reducible (first | apply z1 | apply z2 | apply z3 | apply z4) <;> intro hq <;> (try simp only [zH] at hq) <;> (try (exfalso; omega))) | (with_reducible apply z5; (case hl => (repeat (first | exact .nil | with_reducible apply z6 | with_reducible apply z7))); (case h => kernel_rfl))))
        | true =>
          (repeat' (first | (simp -implicitDefEqProofs (maxSteps := 2000000) (disch := first | with_reducible assumption | omega | (simp only [zS, zA, Nat.reduceEqDiff, Nat.reduceLT, Nat.reduceLeDiff, Nat.reduceAdd, Nat.reduceSub, reduceCtorEq, wun, wvh, wdf, whk, wxp, wwh, wxh, wyh, zD] <;> omega) | fail) only [zS, argl, insA, Go.Den.wm, wo, wu, looks, wbb, wab, idOf, riA, Nat.reduceLeDiff, Nat.reduceLT, Nat.reduceEqDiff, Nat.reduceDiv, Nat.reduceMod, Int.reduceLT, Int.reduceLE, Int.reduceEq, Int.reduceNeg, Int.reduceToNat, Int.reduceSub, Int.reduceMul, Int.reduceNe, Nat.reduceAdd, Nat.reduceMul, Nat.reduceSub, Int.reduceAdd, reduceCtorEq, Go.Den.wh, kK, web, wkb, wvh, wdf, whk, wxp, wwh, wpl, wui, wfu, wxh, wyh, *, zT]) | (with_reducible (first | apply z1 | apply z2 | apply z3 | apply z4) <;> intro hq <;> (try simp only [zH] at hq) <;> (try (exfalso; omega))) | (with_reducible apply z5; (case hl => (repeat (first | exact .nil | with_reducible apply z6 | with_reducible apply z7))); (case h => kernel_rfl))))
      · refine ⟨.mk 2 0 0 0 0#256 rs, a2, g2, l2, ?_, by rw [wec]; omega, by omega, b2, b3, by omega, by omega⟩
        rw [wzq]
        clear n2 b1 b4 b5 ha
        refine wnb hc wfd (Nat.le_of_ble_eq_true rfl) (Nat.le_of_ble_eq_true rfl) ?_
        unfold wdd
        cases ere with
        | false =>
          clear hno
          (repeat' (first | (simp -implicitDefEqProofs (maxSteps := 2000000) (disch := first | with_reducible assumption | omega | (simp only [zS, zA, Nat.reduceEqDiff, Nat.reduceLT, Nat.reduceLeDiff, Nat.reduceAdd, Nat.reduceSub, reduceCtorEq, wun, wvh, wdf, whk, wxp, wwh, wxh, wyh, zD] <;> omega) | fail) only [zS, argl, insA, Go.Den.wm, wo, wu, looks, wbb, wab, idOf, riA, Nat.reduceLeDiff, Nat.reduceLT, Nat.reduceEqDiff, Nat.reduceDiv, Nat.reduceMod, Int.reduceLT, Int.reduceLE, Int.reduceEq, Int.reduceNeg, Int.reduceToNat, Int.reduceSub, Int.reduceMul, Int.reduceNe, Nat.reduceAdd, Nat.reduceMul, Nat.reduceSub, Int.reduceAdd, reduceCtorEq, Go.Den.wh, kK, web, wkb, wvh, wdf, whk, wxp, wwh, wpl, wui, wfu, wxh, wyh, *, zT]) | (with_reducible (first | apply z1 | apply z2 | apply z3 | apply z4) <;> intro hq <;> (try simp only [zH] at hq) <;> (try (exfalso; omega))) | (with_reducible apply z5; (case hl => (repeat (first | exact .nil | with_reducible apply z6 | with_reducible apply z7))); (case h => kernel_rfl))))
        | true =>
          by_cases c9 : c = 9
          · by_cases l4 : 4 < l - 1
            · have d3 : ¬ deep < 3 := fun h => hno ⟨rfl, c9, l4, h⟩
              clear hno
              subst c9
              (repeat' (first | (simp -implicitDefEqProofs (maxSteps := 2000000) (disch := first | with_reducible assumption | omega | (simp only [zS, zA, Nat.reduceEqDiff, Nat.reduceLT, Nat.reduceLeDiff, Nat.reduceAdd, Nat.reduceSub, reduceCtorEq, wun, wvh, wdf, whk, wxp, wwh, wxh, wyh, zD] <;> omega) | fail) only [zS, argl, insA, Go.Den.wm, wo, wu, looks, wbb, wab, idOf, riA, Nat.reduceLeDiff, Nat.reduceLT, Nat.reduceEqDiff, Nat.reduceDiv, Nat.reduceMod, Int.reduceLT, Int.reduceLE, Int.reduceEq, Int.reduceNeg, Int.reduceToNat, Int.reduceSub, Int.reduceMul, Int.reduceNe, Nat.reduceAdd, Nat.reduceMul, Nat.reduceSub, Int.reduceAdd, reduceCtorEq, Go.Den.wh, kK, web, wkb, wvh, wdf, whk, wxp, wwh, wpl, wui, wfu, wxh, wyh, *, zT]) | (with_reducible (first | apply z1 | apply z2 | apply z3 | apply z4) <;> intro hq <;> (try simp only [zH] at hq) <;> (try (exfalso; omega))) | (with_reducible apply z5; (case hl => (repeat (first | exact .nil | with_reducible apply z6 | with_reducible apply z7))); (case h => kernel_rfl))))
            · clear hno
              subst c9
              (repeat' (first | (simp -implicitDefEqProofs (maxSteps := 2000000) (disch := first | with_reducible assumption | omega | (simp only [zS, zA, Nat.reduceEqDiff, Nat.reduceLT, Nat.reduceLeDiff, Nat.reduceAdd, Nat.reduceSub, reduceCtorEq, wun, wvh, wdf, whk, wxp, wwh, wxh, wyh, zD] <;> omega) | fail) only [zS, argl, insA, Go.Den.wm, wo, wu, looks, wbb, wab, idOf, riA, Nat.reduceLeDiff, Nat.reduceLT, Nat.reduceEqDiff, Nat.reduceDiv, Nat.reduceMod, Int.reduceLT, Int.reduceLE, Int.reduceEq, Int.reduceNeg, Int.reduceToNat, Int.reduceSub, Int.reduceMul, Int.reduceNe, Nat.reduceAdd, Nat.reduceMul, Nat.reduceSub, Int.reduceAdd, reduceCtorEq, Go.Den.wh, kK, web, wkb, wvh, wdf, whk, wxp, wwh, wpl, wui, wfu, wxh, wyh, *, zT]) | (with_reducible (first | apply z1 | apply z2 | apply z3 | apply z4) <;> intro hq <;> (try simp only [zH] at hq) <;> (try (exfalso; omega))) | (with_reducible apply z5; (case hl => (repeat (first | exact .nil | with_reducible apply z6 | with_reducible apply z7))); (case h => kernel_rfl))))
          · clear hno
            (repeat' (first | (simp -implicitDefEqProofs (maxSteps := 2000000) (disch := first | with_reducible assumption | omega | (simp only [zS, zA, Nat.reduceEqDiff, Nat.reduceLT, Nat.reduceLeDiff, Nat.reduceAdd, Nat.reduceSub, reduceCtorEq, wun, wvh, wdf, whk, wxp, wwh, wxh, wyh, zD] <;> omega) | fail) only [zS, argl, insA, Go.Den.wm, wo, wu, looks, wbb, wab, idOf, riA, Nat.reduceLeDiff, Nat.reduceLT, Nat.reduceEqDiff, Nat.reduceDiv, Nat.reduceMod, Int.reduceLT, Int.reduceLE, Int.reduceEq, Int.reduceNeg, Int.reduceToNat, Int.reduceSub, Int.reduceMul, Int.reduceNe, Nat.reduceAdd, Nat.reduceMul, Nat.reduceSub, Int.reduceAdd, reduceCtorEq, Go.Den.wh, kK, web, wkb, wvh, wdf, whk, wxp, wwh, wpl, wui, wfu, wxh, wyh, *, zT]) | (with_reducible (first | apply z1 | apply z2 | apply z3 | apply z4) <;> intro hq <;> (try simp only [zH] at hq) <;> (try (exfalso; omega))) | (with_reducible apply z5; (case hl => (repeat (first | exact .nil | with_reducible apply z6 | with_reducible apply z7))); (case h => kernel_rfl))))
end
end Go.Proofs.Ytdbhfmdndiphcaa
namespace Go.Proofs.Ytdbhfmdndiphcaa
set_option linter.unusedVariables false
set_option linter.unusedSimpArgs false
open Go.Den
noncomputable section
theorem rxs_two {r s : Rx} : rxsC [r, s] = rxC r ++ rxC s := by rw [rxsC, rxsC, rxsC, List.append_nil]
theorem wddc {r : Rx} : wm ([.int .i64 0, .int .i64 0, .int .i64 0, .int .i64 0, .int .u64 0, .int .u64 0, .int .u64 0, .int .u64 0, .slice none 0 0, .int .i64 0, .int .i64 0, .int .i64 0, .int .i64 0, .int .u64 0, .int .u64 0, .int .u64 0, .int .u64 0, .slice none 0 0]) 0 (rxC r) = rxC r ++ rxZ := by rw [wfm]; rfl
theorem over_rx9 {r s : Rx} : wm (rxC r ++ rxZ) 9 (rxC s) = rxC r ++ rxC s := by rw [wfm (r := r), wfm (r := s)]; rfl
theorem wcab {r s : Rx} : wtb (rxC r ++ rxC s) = true := by rw [wfm (r := r), wfm (r := s)]; rfl
theorem wedc {r s : Rx} : slotsOf (rxC r ++ rxC s) 0 18 = rxC r ++ rxC s := by rw [wfm (r := r), wfm (r := s)]; rfl
theorem wklb {t n : Nat} {c : List Value} : rxK t n c = [.int .i64 2, .int .i64 0, .int .i64 0, .int .i64 0, .int .u64 0, .int .u64 0, .int .u64 0, .int .u64 0, FO t n c] := rfl
set_option maxHeartbeats 8000000 in
theorem row_alt (ks ns : List Int) (deep : Int) (hd : 0 ≤ deep) (M : Nat) (a : Nat) (g l f : Int) (hf : IntKind.wrap .i64 ((BitVec.ofInt (IntKind.bits .i64) (wzf ns a) &&& BitVec.ofInt (IntKind.bits .i64) 1).toNat : Int) = f) (hf2 : 0 ≤ f ∧ f ≤ 1)
    (hp : PkOk ks ns true [.int .i64 deep, .int .i64 (1 + f)] M) (hp2 : PkOk ks ns true [.int .i64 deep, .int .i64 1] M) (ha : a + (2 * M + 1) ≤ 100000) (hg : 0 ≤ g) (hg3 : g ≤ 3) (hl : -1000000 + 4 * (M : Int) + 2 ≤ l) (hl2 : l ≤ 1000)
    (c9 : whc (wbk ks a) 0 9 = 9) (l4 : 4 < l - 1) (d3 : deep < 3) :
    ∃ (r : Rx) (a' : Nat) (g' l' : Int), lim Try.prog cfg (.call 57 [.agg ⟨mkB ks ns true⟩, .int .i64 deep]) (HP (mkH a g l)) = some (.val (.agg ⟨rxC r⟩), HP (mkH a' g' l')) ∧ wec r ≤ 2 * M + 1 ∧ a' ≤ a + (2 * M + 1) ∧ 0 ≤ g' ∧ g' ≤ 3 ∧ l - 4 * (M : Int) - 2 ≤ l' ∧ l' ≤ l := by
  have h1 := wox ks ns true a (by omega) g l
  have h3 := wke (wbk ks a) 0 9 (by omega) (by omega) (by omega)
  rw [c9] at h3
  clear c9
  generalize wbk ks a = x at *
  generalize wzf ns a = y at *
  obtain ⟨r, a2, g2, l2, e2, n2, b1, b2, b3, b4, b5⟩ := hp (a + 1) g (l - 1) (by omega) hg hg3 (by omega) (by omega)
  obtain ⟨s, a3, g3, l3, e3, n3, c1, c2, c3, c4, c5⟩ := hp2 a2 g2 l2 (by omega) b2 b3 (by omega) (by omega)
  refine ⟨.mk 3 0 0 0 0#256 [r, s], a3, g3, l3, ?_, by rw [wec, wmb, wmb, wmb]; omega, by omega, c2, c3, by omega, by omega⟩
  rw [wzq, rxs_two]
  clear hp hp2 n2 b1 b4 b5 n3 c1 c4 c5 ha
  refine wnb hc wfd (Nat.le_of_ble_eq_true rfl) (Nat.le_of_ble_eq_true rfl) ?_
  unfold wdd
  rcases e2 with ⟨e2, _⟩ | ⟨rs, rfl, _, _, e2⟩
  · rcases e3 with ⟨e3, _⟩ | ⟨ss, rfl, _, _, e3⟩
    · (repeat' (first | (simp -implicitDefEqProofs (maxSteps := 2000000) (disch := first | with_reducible assumption | omega | (simp only [zS, zA, Nat.reduceEqDiff, Nat.reduceLT, Nat.reduceLeDiff, Nat.reduceAdd, Nat.reduceSub, reduceCtorEq, wng, wyd, wcab, zD] <;> omega) | fail) only [zS, argl, insA, Go.Den.wm, wo, wu, looks, wbb, wab, idOf, riA, Nat.reduceLeDiff, Nat.reduceLT, Nat.reduceEqDiff, Nat.reduceDiv, Nat.reduceMod, Int.reduceLT, Int.reduceLE, Int.reduceEq, Int.reduceNeg, Int.reduceToNat, Int.reduceSub, Int.reduceMul, Int.reduceNe, Nat.reduceAdd, Nat.reduceMul, Nat.reduceSub, Int.reduceAdd, reduceCtorEq, Go.Den.wh, kK, web, wkb, woc, wyd, weg, wnc, wddc, over_rx9, wcab, wedc, *, zT]) | (with_reducible (first | apply z1 | apply z2 | apply z3 | apply z4) <;> intro hq <;> (try simp only [zH] at hq) <;> (try (exfalso; omega))) | (with_reducible apply z5; (case hl => (repeat (first | exact .nil | with_reducible apply z6 | with_reducible apply z7))); (case h => kernel_rfl))))
    · rw [wklb] at e3
      rw [wzq]
      simp only [mkH, List.cons_append, List.nil_append] at e3
      rw [wfm (r := r)] at e2 ⊢
      (repeat' (first | (simp -implicitDefEqProofs (maxSteps := 2000000) (disch := first | with_reducible assumption | omega | (simp only [zS, zA, Nat.reduceEqDiff, Nat.reduceLT, Nat.reduceLeDiff, Nat.reduceAdd, Nat.reduceSub, reduceCtorEq, wyd, zD] <;> omega) | fail) only [zS, argl, insA, Go.Den.wm, wo, wu, looks, wbb, wab, idOf, riA, Nat.reduceLeDiff, Nat.reduceLT, Nat.reduceEqDiff, Nat.reduceDiv, Nat.reduceMod, Int.reduceLT, Int.reduceLE, Int.reduceEq, Int.reduceNeg, Int.reduceToNat, Int.reduceSub, Int.reduceMul, Int.reduceNe, Nat.reduceAdd, Nat.reduceMul, Nat.reduceSub, Int.reduceAdd, reduceCtorEq, Go.Den.wh, kK, web, wkb, woc, wyd, weg, wnc, *, zT]) | (with_reducible (first | apply z1 | apply z2 | apply z3 | apply z4) <;> intro hq <;> (try simp only [zH] at hq) <;> (try (exfalso; omega))) | (with_reducible apply z5; (case hl => (repeat (first | exact .nil | with_reducible apply z6 | with_reducible apply z7))); (case h => kernel_rfl))))
  · rw [wklb] at e2
    rw [wzq]
    simp only [mkH, List.cons_append, List.nil_append] at e2
    rcases e3 with ⟨e3, _⟩ | ⟨ss, rfl, _, _, e3⟩
    · rw [wfm (r := s)] at e3 ⊢
      (repeat' (first | (simp -implicitDefEqProofs (maxSteps := 2000000) (disch := first | with_reducible assumption | omega | (simp only [zS, zA, Nat.reduceEqDiff, Nat.reduceLT, Nat.reduceLeDiff, Nat.reduceAdd, Nat.reduceSub, reduceCtorEq, wyd, zD] <;> omega) | fail) only [zS, argl, insA, Go.Den.wm, wo, wu, looks, wbb, wab, idOf, riA, Nat.reduceLeDiff, Nat.reduceLT, Nat.reduceEqDiff, Nat.reduceDiv, Nat.reduceMod, Int.reduceLT, Int.reduceLE, Int.reduceEq, Int.reduceNeg, Int.reduceToNat, Int.reduceSub, Int.reduceMul, Int.reduceNe, Nat.reduceAdd, Nat.reduceMul, Nat.reduceSub, Int.reduceAdd, reduceCtorEq, Go.Den.wh, kK, web, wkb, woc, wyd, weg, wnc, *, zT]) | (with_reducible (first | apply z1 | apply z2 | apply z3 | apply z4) <;> intro hq <;> (try simp only [zH] at hq) <;> (try (exfalso; omega))) | (with_reducible apply z5; (case hl => (repeat (first | exact .nil | with_reducible apply z6 | with_reducible apply z7))); (case h => kernel_rfl))))
    · rw [wklb] at e3
      rw [wzq]
      simp only [mkH, List.cons_append, List.nil_append] at e3
      (repeat' (first | (simp -implicitDefEqProofs (maxSteps := 2000000) (disch := first | with_reducible assumption | omega | (simp only [zS, zA, Nat.reduceEqDiff, Nat.reduceLT, Nat.reduceLeDiff, Nat.reduceAdd, Nat.reduceSub, reduceCtorEq, wyd, zD] <;> omega) | fail) only [zS, argl, insA, Go.Den.wm, wo, wu, looks, wbb, wab, idOf, riA, Nat.reduceLeDiff, Nat.reduceLT, Nat.reduceEqDiff, Nat.reduceDiv, Nat.reduceMod, Int.reduceLT, Int.reduceLE, Int.reduceEq, Int.reduceNeg, Int.reduceToNat, Int.reduceSub, Int.reduceMul, Int.reduceNe, Nat.reduceAdd, Nat.reduceMul, Nat.reduceSub, Int.reduceAdd, reduceCtorEq, Go.Den.wh, kK, web, wkb, woc, wyd, weg, wnc, *, zT]) | (with_reducible (first | apply z1 | apply z2 | apply z3 | apply z4) <;> intro hq <;> (try simp only [zH] at hq) <;> (try (exfalso; omega))) | (with_reducible apply z5; (case hl => (repeat (first | exact .nil | with_reducible apply z6 | with_reducible apply z7))); (case h => kernel_rfl))))
end
end Go.Proofs.Ytdbhfmdndiphcaa
namespace Go.Proofs.Ytdbhfmdndiphcaa
set_option linter.unusedVariables false
set_option linter.unusedSimpArgs false
open Go.Den
noncomputable section
theorem and1 (y : Int) : 0 ≤ IntKind.wrap .i64 ((BitVec.ofInt (IntKind.bits .i64) y &&& BitVec.ofInt (IntKind.bits .i64) 1).toNat : Int) ∧ IntKind.wrap .i64 ((BitVec.ofInt (IntKind.bits .i64) y &&& BitVec.ofInt (IntKind.bits .i64) 1).toNat : Int) ≤ 1 := by
  have h : (BitVec.ofInt (IntKind.bits .i64) y &&& BitVec.ofInt (IntKind.bits .i64) 1).toNat ≤ 1 := by
    rw [BitVec.toNat_and]
    exact Nat.le_trans Nat.and_le_right (by decide)
  rw [wrap_i64 (by omega) (by omega)]
  omega
theorem PkOk.mono {ks ns : List Int} {ere : Bool} {args : List Value} {M N : Nat} (h : PkOk ks ns ere args M) (hMN : M ≤ N) : PkOk ks ns ere args N := by
  intro a g l ha hg hg3 hl hl2
  obtain ⟨r, a', g', l', e, b1, b2, b3, b4, b5, b6⟩ := h a g l (by omega) hg hg3 (by omega) hl2
  exact ⟨r, a', g', l', e, by omega, by omega, b3, b4, by omega, b6⟩
theorem row_step (ks ns : List Int) (ere : Bool) (deep : Int) (hd : 0 ≤ deep) (hd2 : deep ≤ 3) (M : Nat) (hM : M ≤ 6000) (hp : wycc ks ns ere 95 [.int .i64 deep] M) : MkOk ks ns ere 57 [.int .i64 deep] (6 * M + 3) := by
  have p1 : PkOk ks ns ere [.int .i64 deep, .int .i64 1] (3 * M + 1) := (wwcb ks ns ere deep 1 (by omega) M (by omega) hp 0 rfl).mono (by omega)
  have p2 : PkOk ks ns ere [.int .i64 deep, .int .i64 2] (3 * M + 1) := (wwcb ks ns ere deep 2 (by omega) M (by omega) hp 1 rfl).mono (by omega)
  have p3 : PkOk ks ns ere [.int .i64 deep, .int .i64 3] (3 * M + 1) := (wwcb ks ns ere deep 3 (by omega) M (by omega) hp 2 rfl).mono (by omega)
  intro a g l ha hg hg3 hl hl2
  by_cases hq : ere = true ∧ whc (wbk ks a) 0 9 = 9 ∧ 4 < l - 1 ∧ deep < 3
  · obtain ⟨rfl, c9, l4, d3⟩ := hq
    obtain ⟨f0, f1⟩ := and1 (wzf ns a)
    generalize hf : IntKind.wrap .i64 ((BitVec.ofInt (IntKind.bits .i64) (wzf ns a) &&& BitVec.ofInt (IntKind.bits .i64) 1).toNat : Int) = f at f0 f1
    have hpf : PkOk ks ns true [.int .i64 deep, .int .i64 (1 + f)] (3 * M + 1) := by
      rcases (show f = 0 ∨ f = 1 by omega) with rfl | rfl
      · exact p1
      · exact p2
    obtain ⟨r, a', g', l', e, b1, b2, b3, b4, b5, b6⟩ := row_alt ks ns deep hd (3 * M + 1) a g l f hf ⟨f0, f1⟩ hpf p1 (by omega) hg hg3 (by omega) hl2 c9 l4 d3
    exact ⟨r, a', g', l', e, by omega, by omega, b3, b4, by omega, b6⟩
  · have hw := wxo (wzf ns a)
    have hpw : PkOk ks ns ere [.int .i64 deep, .int .i64 (1 + whc (wzf ns a) 0 2)] (3 * M + 1) := by
      rcases (show whc (wzf ns a) 0 2 = 0 ∨ whc (wzf ns a) 0 2 = 1 ∨ whc (wzf ns a) 0 2 = 2 by omega) with h | h | h <;> rw [h]
      · exact p1
      · exact p2
      · exact p3
    obtain ⟨r, a', g', l', e, b1, b2, b3, b4, b5, b6⟩ := wcdc ks ns ere deep hd hd2 (3 * M + 1) a g l hpw (by omega) hg hg3 (by omega) hl2 hq
    exact ⟨r, a', g', l', e, by omega, by omega, b3, b4, by omega, b6⟩
theorem ev_row0 (ks ns : List Int) (ere : Bool) : MkOk ks ns ere 57 [.int .i64 0] 3999 := by
  have r3 := row_step ks ns ere 3 (by omega) (by omega) 2 (by omega) (wvcb ks ns ere 3 (by omega) (by omega) 0 (fun h => by omega))
  have r2 := row_step ks ns ere 2 (by omega) (by omega) 17 (by omega) (wvcb ks ns ere 2 (by omega) (by omega) 15 (fun _ => r3))
  have r1 := row_step ks ns ere 1 (by omega) (by omega) 107 (by omega) (wvcb ks ns ere 1 (by omega) (by omega) 105 (fun _ => r2))
  have r0 := row_step ks ns ere 0 (by omega) (by omega) 647 (by omega) (wvcb ks ns ere 0 (by omega) (by omega) 645 (fun _ => r1))
  intro a g l ha hg hg3 hl hl2
  obtain ⟨r, a', g', l', e, b1, b2, b3, b4, b5, b6⟩ := r0 a g l (by omega) hg hg3 (by omega) hl2
  exact ⟨r, a', g', l', e, by omega, by omega, b3, b4, by omega, b6⟩
theorem ev_Rx (ks ns : List Int) (ere : Bool) : ∃ r : Rx, wec r ≤ 3999 ∧ lim Try.prog cfg (.call 25 [.agg ⟨[FL ks.length (ints ks), FL ns.length (ints ns)]⟩, .bool ere]) (HP []) = some (.val (.agg ⟨rxC r⟩), HP []) := by
  obtain ⟨r, a', g', l', e, b1, b2, b3, b4, b5, b6⟩ := ev_row0 ks ns ere 0 0 14 (by omega) (by omega) (by omega) (by omega) (by omega)
  refine ⟨r, b1, ?_⟩
  clear b1 b2 b3 b4 b5 b6
  refine wnb hc wwo (Nat.le_of_ble_eq_true rfl) (Nat.le_of_ble_eq_true rfl) ?_
  unfold wml
  simp only [mkH, mkB] at e
  rw [show ((0 : Nat) : Int) = 0 from rfl] at e
  (repeat' (first | (simp -implicitDefEqProofs (maxSteps := 2000000) (disch := first | with_reducible assumption | omega | (simp only [zS, zA, Nat.reduceEqDiff, Nat.reduceLT, Nat.reduceLeDiff, Nat.reduceAdd, Nat.reduceSub, reduceCtorEq, wng, zD] <;> omega) | fail) only [zS, argl, insA, Go.Den.wm, wo, wu, looks, wbb, wab, idOf, riA, Nat.reduceLeDiff, Nat.reduceLT, Nat.reduceEqDiff, Nat.reduceDiv, Nat.reduceMod, Int.reduceLT, Int.reduceLE, Int.reduceEq, Int.reduceNeg, Int.reduceToNat, Int.reduceSub, Int.reduceMul, Int.reduceNe, Nat.reduceAdd, Nat.reduceMul, Nat.reduceSub, Int.reduceAdd, reduceCtorEq, Go.Den.wh, kK, *, zT]) | (with_reducible (first | apply z1 | apply z2 | apply z3 | apply z4) <;> intro hq <;> (try simp only [zH] at hq) <;> (try (exfalso; omega)))))
end
end Go.Proofs.Ytdbhfmdndiphcaa
namespace Go.Proofs.Ytdbhfmdndiphcaa
set_option linter.unusedVariables false
set_option linter.unusedSimpArgs false
open Go.Den
noncomputable section
theorem mts_at1 {l : List Mt} {i : Nat} (h : i < l.length) : (mtsC l)[i * 8 + 1]? = some (.int .i64 ((l.getD i Mt.zero).at 1)) := by
  have h1 := wyu (l := l) h
  have h2 : (slotsOf (mtsC l) (i * 8) 8)[1]? = (mtC (l.getD i Mt.zero))[1]? := by rw [h1]
  rw [wcnb (by omega)] at h2
  rw [← h2]
  unfold slotsOf
  rw [List.getElem?_take, if_pos (by omega), List.getElem?_drop]
theorem wugb : (EJ 197 G0).get 6 = JK := rfl
abbrev faR (r : Rx) : List ABlk := [X (rxC r) 47 0 false]
set_option maxHeartbeats 2000000 in
theorem fa_in (r : Rx) (s : List UInt8) (ms : List Mt) (i : Int) (m : Mt) (hsp : SpOk m) : ∀ (k g : Nat), g + k = 4 → 1 ≤ g →
    lim Try.prog cfg (.loop 5 0 (wvc 1) (SE (EJ 197 G0) [(28, .int .i64 i), (27, .int .i64 ms.length), (26, FL ms.length (mtsC ms)), (15, .int .i64 g), (11, .pointer (some ⟨1, 0, none⟩)), (9, FL ms.length (mtsC ms)), (8, str s), (7, .pointer (some ⟨0, 0, none⟩))])) (HP (faR r ++ [X (mtC m) 55 0 true])) = some (.code (.exit 2) (SE (EJ 197 G0) [(28, .int .i64 i), (27, .int .i64 ms.length), (26, FL ms.length (mtsC ms)), (9, FL ms.length (mtsC ms)), (8, str s), (7, .pointer (some ⟨0, 0, none⟩)), (6, JK)]), HP (faR r)) := by
  intro k
  induction k with
  | zero =>
    intro g hg h1
    clear hsp
    simp only [faR, List.cons_append, List.nil_append]
    refine wdb wuf ?_
    unfold wze
    (repeat' (first | (simp -implicitDefEqProofs (maxSteps := 2000000) (disch := first | with_reducible assumption | omega | (simp only [zS, zA, Nat.reduceEqDiff, Nat.reduceLT, Nat.reduceLeDiff, Nat.reduceAdd, Nat.reduceSub, reduceCtorEq, wcb, wjb, wng, wdg, wcg, zD] <;> omega) | fail) only [zS, argl, insA, Go.Den.wm, wo, wu, looks, wbb, wab, idOf, riA, Nat.reduceLeDiff, Nat.reduceLT, Nat.reduceEqDiff, Nat.reduceDiv, Nat.reduceMod, Int.reduceLT, Int.reduceLE, Int.reduceEq, Int.reduceNeg, Int.reduceToNat, Int.reduceSub, Int.reduceMul, Int.reduceNe, Nat.reduceAdd, Nat.reduceMul, Nat.reduceSub, Int.reduceAdd, reduceCtorEq, Go.Den.wh, kK, wtd, web, wkb, wcb, wjb, wugb, *, zT]) | (with_reducible (first | apply z1 | apply z2 | apply z3 | apply z4) <;> intro hq <;> (try simp only [zH] at hq) <;> (try (exfalso; omega))) | (with_reducible apply z5; (case hl => (repeat (first | exact .nil | with_reducible apply z6 | with_reducible apply z7))); (case h => kernel_rfl))))
  | succ k ih =>
    intro g hg h1
    have h := ih (g + 1) (by omega) (by omega)
    have hs := hsp g (by omega) (by omega)
    clear ih hsp
    simp only [faR, List.cons_append, List.nil_append] at h ⊢
    have e1 : ((g : Int)).toNat * 2 = g * 2 := by omega
    by_cases h0 : 0 ≤ m.at (g * 2)
    · obtain ⟨s1, s2⟩ := hs h0
      refine wdb wuf ?_
      unfold wze
      (repeat' (first | (simp -implicitDefEqProofs (maxSteps := 2000000) (disch := first | with_reducible assumption | omega | (simp only [zS, zA, Nat.reduceEqDiff, Nat.reduceLT, Nat.reduceLeDiff, Nat.reduceAdd, Nat.reduceSub, reduceCtorEq, wcb, wjb, wng, wdg, wcg, zD] <;> omega) | fail) only [zS, argl, insA, Go.Den.wm, wo, wu, looks, wbb, wab, idOf, riA, Nat.reduceLeDiff, Nat.reduceLT, Nat.reduceEqDiff, Nat.reduceDiv, Nat.reduceMod, Int.reduceLT, Int.reduceLE, Int.reduceEq, Int.reduceNeg, Int.reduceToNat, Int.reduceSub, Int.reduceMul, Int.reduceNe, Nat.reduceAdd, Nat.reduceMul, Nat.reduceSub, Int.reduceAdd, reduceCtorEq, Go.Den.wh, kK, wtd, web, wkb, wcb, wjb, wugb, *, zT]) | (with_reducible (first | apply z1 | apply z2 | apply z3 | apply z4) <;> intro hq <;> (try simp only [zH] at hq) <;> (try (exfalso; omega))) | (with_reducible apply z5; (case hl => (repeat (first | exact .nil | with_reducible apply z6 | with_reducible apply z7))); (case h => kernel_rfl))))
      all_goals exact h
    · clear hs
      refine wdb wuf ?_
      unfold wze
      (repeat' (first | (simp -implicitDefEqProofs (maxSteps := 2000000) (disch := first | with_reducible assumption | omega | (simp only [zS, zA, Nat.reduceEqDiff, Nat.reduceLT, Nat.reduceLeDiff, Nat.reduceAdd, Nat.reduceSub, reduceCtorEq, wcb, wjb, wng, wdg, wcg, zD] <;> omega) | fail) only [zS, argl, insA, Go.Den.wm, wo, wu, looks, wbb, wab, idOf, riA, Nat.reduceLeDiff, Nat.reduceLT, Nat.reduceEqDiff, Nat.reduceDiv, Nat.reduceMod, Int.reduceLT, Int.reduceLE, Int.reduceEq, Int.reduceNeg, Int.reduceToNat, Int.reduceSub, Int.reduceMul, Int.reduceNe, Nat.reduceAdd, Nat.reduceMul, Nat.reduceSub, Int.reduceAdd, reduceCtorEq, Go.Den.wh, kK, wtd, web, wkb, wcb, wjb, wugb, *, zT]) | (with_reducible (first | apply z1 | apply z2 | apply z3 | apply z4) <;> intro hq <;> (try simp only [zH] at hq) <;> (try (exfalso; omega))) | (with_reducible apply z5; (case hl => (repeat (first | exact .nil | with_reducible apply z6 | with_reducible apply z7))); (case h => kernel_rfl))))
      all_goals exact h
set_option maxHeartbeats 4000000 in
theorem fa_out (r : Rx) (hn : wec r ≤ 1000000) (s : List UInt8) (hs : s.length ≤ 12) (ms : List Mt) (hl : ms.length ≤ 13) (hok : ∀ i, i < ms.length → MtOk r s (if i = 0 then none else some (ms.getD (i - 1) Mt.zero)) (ms.getD i Mt.zero)) : ∀ (k i : Nat), i + k = ms.length →
    lim Try.prog cfg (.loop 5 0 (wvc 0) (SE (EJ 197 G0) [(28, .int .i64 i), (27, .int .i64 ms.length), (26, FL ms.length (mtsC ms)), (9, FL ms.length (mtsC ms)), (8, str s), (7, .pointer (some ⟨0, 0, none⟩))])) (HP (faR r)) = some (.code (.exit 0) (SE (EJ 197 G0) [(9, FL ms.length (mtsC ms)), (8, str s), (7, .pointer (some ⟨0, 0, none⟩)), (6, JK)]), HP (faR r)) := by
  intro k
  induction k with
  | zero =>
    intro i hi
    clear hok
    simp only [faR]
    refine wdb wvf ?_
    unfold waf
    (repeat' (first | (simp -implicitDefEqProofs (maxSteps := 2000000) (disch := first | with_reducible assumption | omega | (simp only [zS, zA, Nat.reduceEqDiff, Nat.reduceLT, Nat.reduceLeDiff, Nat.reduceAdd, Nat.reduceSub, reduceCtorEq, wcb, wjb, wng, wdg, wcg, zD] <;> omega) | fail) only [zS, argl, insA, Go.Den.wm, wo, wu, looks, wbb, wab, idOf, riA, Nat.reduceLeDiff, Nat.reduceLT, Nat.reduceEqDiff, Nat.reduceDiv, Nat.reduceMod, Int.reduceLT, Int.reduceLE, Int.reduceEq, Int.reduceNeg, Int.reduceToNat, Int.reduceSub, Int.reduceMul, Int.reduceNe, Nat.reduceAdd, Nat.reduceMul, Nat.reduceSub, Int.reduceAdd, reduceCtorEq, Go.Den.wh, kK, wsd, web, wkb, wcb, wjb, wugb, *, zT]) | (with_reducible (first | apply z1 | apply z2 | apply z3 | apply z4) <;> intro hq <;> (try simp only [zH] at hq) <;> (try (exfalso; omega))) | (with_reducible apply z5; (case hl => (repeat (first | exact .nil | with_reducible apply z6 | with_reducible apply z7))); (case h => kernel_rfl))))
  | succ k ih =>
    intro i hi
    have h := ih (i + 1) (by omega)
    have hm := hok i (by omega)
    have hin := fa_in r s ms i (ms.getD i Mt.zero) hm.sp 3 1 rfl (by omega)
    rw [show ((1 : Nat) : Int) = 1 from rfl] at hin
    clear ih hok
    simp only [faR, List.cons_append, List.nil_append] at h hin ⊢
    obtain ⟨lo, le, hi', _, hf, hb⟩ := hm
    cases i with
    | zero =>
      rw [if_pos rfl] at hf
      have hf := hf rfl
      clear hb
      have hF := wus r hn s hs 0
      rw [hf, Option.getD_some, Option.isSome_some] at hF
      have hs0 : slotsOf (mtsC ms) 0 8 = mtC (ms.getD 0 Mt.zero) := by
        have := wyu (l := ms) (i := 0) (by omega)
        rwa [Nat.zero_mul] at this
      rw [show ((0 : Nat) : Int) = 0 from rfl] at hin ⊢
      clear hf
      refine wdb wvf ?_
      unfold waf
      (repeat' (first | (simp -implicitDefEqProofs (maxSteps := 2000000) (disch := first | with_reducible assumption | omega | (simp only [zS, zA, Nat.reduceEqDiff, Nat.reduceLT, Nat.reduceLeDiff, Nat.reduceAdd, Nat.reduceSub, reduceCtorEq, wcb, wjb, wng, wdg, wcg, zD] <;> omega) | fail) only [zS, argl, insA, Go.Den.wm, wo, wu, looks, wbb, wab, idOf, riA, Nat.reduceLeDiff, Nat.reduceLT, Nat.reduceEqDiff, Nat.reduceDiv, Nat.reduceMod, Int.reduceLT, Int.reduceLE, Int.reduceEq, Int.reduceNeg, Int.reduceToNat, Int.reduceSub, Int.reduceMul, Int.reduceNe, Nat.reduceAdd, Nat.reduceMul, Nat.reduceSub, Int.reduceAdd, reduceCtorEq, Go.Den.wh, kK, wsd, wtd, web, wkb, wcb, wjb, wugb, *, zT]) | (with_reducible (first | apply z1 | apply z2 | apply z3 | apply z4) <;> intro hq <;> (try simp only [zH] at hq) <;> (try (exfalso; omega))) | (with_reducible apply z5; (case hl => (repeat (first | exact .nil | with_reducible apply z6 | with_reducible apply z7))); (case h => kernel_rfl))))
      all_goals exact h
    | succ j =>
      rw [if_neg (by omega), show j + 1 - 1 = j by omega] at hb
      obtain ⟨b1, b2, x, hx, x0, x1, x2⟩ := hb _ rfl
      clear hf hb
      have hF := wus r hn s hs ((ms.getD j Mt.zero).at 1)
      rw [hx, Option.getD_some, Option.isSome_some] at hF
      have ej : (((j + 1 : Nat) : Int) - 1).toNat = j := by omega
      have ep := mts_at1 (l := ms) (i := j) (by omega)
      clear hx
      refine wdb wvf ?_
      unfold waf
      (repeat' (first | (simp -implicitDefEqProofs (maxSteps := 2000000) (disch := first | with_reducible assumption | omega | (simp only [zS, zA, Nat.reduceEqDiff, Nat.reduceLT, Nat.reduceLeDiff, Nat.reduceAdd, Nat.reduceSub, reduceCtorEq, wcb, wjb, wng, wdg, wcg, zD] <;> omega) | fail) only [zS, argl, insA, Go.Den.wm, wo, wu, looks, wbb, wab, idOf, riA, Nat.reduceLeDiff, Nat.reduceLT, Nat.reduceEqDiff, Nat.reduceDiv, Nat.reduceMod, Int.reduceLT, Int.reduceLE, Int.reduceEq, Int.reduceNeg, Int.reduceToNat, Int.reduceSub, Int.reduceMul, Int.reduceNe, Nat.reduceAdd, Nat.reduceMul, Nat.reduceSub, Int.reduceAdd, reduceCtorEq, Go.Den.wh, kK, wsd, wtd, web, wkb, wcb, wjb, wugb, *, zT]) | (with_reducible (first | apply z1 | apply z2 | apply z3 | apply z4) <;> intro hq <;> (try simp only [zH] at hq) <;> (try (exfalso; omega))) | (with_reducible apply z5; (case hl => (repeat (first | exact .nil | with_reducible apply z6 | with_reducible apply z7))); (case h => kernel_rfl))))
      all_goals exact h
theorem text_len (l : List Int) (n : Nat) : (textF l n).length ≤ n := by unfold textF; rw [List.length_map, List.length_take]; omega
set_option maxHeartbeats 4000000 in
theorem wusb (ks ns text : List Int) (ere : Bool) : lim Try.prog cfg (.call 5 [.agg ⟨[FL ks.length (ints ks), FL ns.length (ints ns)]⟩, FL text.length (ints text), .bool ere]) (HP []) = some (.val (.bool true), HP []) := by
  obtain ⟨r, hn, hr⟩ := ev_Rx ks ns ere
  have h1 := ev_Text text 10 (by omega)
  have hs := text_len text 10
  generalize textF text 10 = s at *
  rw [show ((10 : Nat) : Int) = 10 from rfl] at h1
  have ha := ev_All r (by omega) s (by omega)
  have h0 := wus r (by omega) s (by omega) 0
  have hl := allR_len r s
  have hc := chain_at (r := r) (s := s) _ none (wzz r s)
  have ho := fa_out r (by omega) s (by omega) (allR r s) (by omega) hc _ 0 (by rw [Nat.zero_add])
  rw [show ((0 : Nat) : Int) = 0 from rfl] at ho
  simp only [faR] at ho
  clear hc
  rcases wrsb r s with ⟨f0, f1⟩ | ⟨m, l, f0, f1⟩
  · rw [f1] at ha ho
    rw [f0] at h0
    rw [show (([] : List Mt).length : Int) = 0 from rfl, show ([] : List Mt).length = 0 from rfl, show mtsC [] = [] from rfl] at ho
    rw [show ([] : List Mt).length = 0 from rfl, show mtsC [] = [] from rfl] at ha
    rw [show (none : Option Mt).isSome = false from rfl, show (none : Option Mt).getD wol = wol from rfl] at h0
    have b2 : (false == false) = true := rfl
    have c0 : ((0 : Nat) : Int) = 0 := rfl
    clear hl f0 f1 hn
    refine wnb hc waj (Nat.le_of_ble_eq_true rfl) (Nat.le_of_ble_eq_true rfl) ?_
    unfold wuh
    (repeat' (first | (simp -implicitDefEqProofs (maxSteps := 2000000) (disch := first | with_reducible assumption | omega | (simp only [zS, zA, Nat.reduceEqDiff, Nat.reduceLT, Nat.reduceLeDiff, Nat.reduceAdd, Nat.reduceSub, reduceCtorEq, wcb, wjb, wng, wdg, wcg, zD] <;> omega) | fail) only [zS, argl, insA, Go.Den.wm, wo, wu, looks, wbb, wab, idOf, riA, Nat.reduceLeDiff, Nat.reduceLT, Nat.reduceEqDiff, Nat.reduceDiv, Nat.reduceMod, Int.reduceLT, Int.reduceLE, Int.reduceEq, Int.reduceNeg, Int.reduceToNat, Int.reduceSub, Int.reduceMul, Int.reduceNe, Nat.reduceAdd, Nat.reduceMul, Nat.reduceSub, Int.reduceAdd, reduceCtorEq, Go.Den.wh, kK, wsd, web, wkb, wcf, wcb, wjb, wugb, *, zT]) | (with_reducible (first | apply z1 | apply z2 | apply z3 | apply z4) <;> intro hq <;> (try simp only [zH] at hq) <;> (try (exfalso; omega))) | (with_reducible apply z5; (case hl => (repeat (first | exact .nil | with_reducible apply z6 | with_reducible apply z7))); (case h => kernel_rfl))))
  · have hs0 : slotsOf (mtsC (allR r s)) 0 8 = mtC m := by
      have := wyu (l := allR r s) (i := 0) (by rw [f1]; simp)
      rw [Nat.zero_mul] at this
      rw [this, f1]; rfl
    have hlen : 0 < (allR r s).length := by rw [f1]; simp
    rw [f0, Option.getD_some, Option.isSome_some] at h0
    clear f0 f1 hn
    generalize allR r s = ms at *
    have hcl : 8 ≤ (mtsC ms).length := by rw [wskb]; omega
    have b1 : decide (0 < (ms.length : Int)) = true := decide_eq_true (by omega)
    have b2 : (true == true) = true := rfl
    refine wnb hc waj (Nat.le_of_ble_eq_true rfl) (Nat.le_of_ble_eq_true rfl) ?_
    unfold wuh
    (repeat' (first | (simp -implicitDefEqProofs (maxSteps := 2000000) (disch := first | with_reducible assumption | omega | (simp only [zS, zA, Nat.reduceEqDiff, Nat.reduceLT, Nat.reduceLeDiff, Nat.reduceAdd, Nat.reduceSub, reduceCtorEq, wcb, wjb, wng, wdg, wcg, zD] <;> omega) | fail) only [zS, argl, insA, Go.Den.wm, wo, wu, looks, wbb, wab, idOf, riA, Nat.reduceLeDiff, Nat.reduceLT, Nat.reduceEqDiff, Nat.reduceDiv, Nat.reduceMod, Int.reduceLT, Int.reduceLE, Int.reduceEq, Int.reduceNeg, Int.reduceToNat, Int.reduceSub, Int.reduceMul, Int.reduceNe, Nat.reduceAdd, Nat.reduceMul, Nat.reduceSub, Int.reduceAdd, reduceCtorEq, Go.Den.wh, kK, wsd, web, wkb, wcf, wcb, wjb, wugb, *, zT]) | (with_reducible (first | apply z1 | apply z2 | apply z3 | apply z4) <;> intro hq <;> (try simp only [zH] at hq) <;> (try (exfalso; omega))) | (with_reducible apply z5; (case hl => (repeat (first | exact .nil | with_reducible apply z6 | with_reducible apply z7))); (case h => kernel_rfl))))
end
end Go.Proofs.Ytdbhfmdndiphcaa
namespace Go.Den
noncomputable section
open Go.ChangeShapes Go.WideShapes Go.RowKit
variable {P : Program} {cfg : Cfg} {H : Type} {enc : TypeId × Value → H}
theorem known_ev (wbj : wri P cfg.glob cfg.know) (hm : P.follows .mixedOrders = true) {f : FuncId} {a : List Value} {v : Value} (h : Ev P cfg (.call f a) AH0 (.val v, AH0)) (ha : wtb a = true) (hv : wae v = true) : wwm P cfg.glob f a v := by
  obtain ⟨n, h⟩ := h
  exact wdu wbj hm (h n (Nat.le_refl n)) ha hv
def renW (w : World) : Ren := ⟨fun _ _ => none, fun b i => w.cell? ⟨b, i, none⟩⟩
theorem wfdc (wbj : wri P cfg.glob cfg.know) (hm : P.follows .mixedOrders = true) (hg : cfg.glob = fun _ => none) {f : FuncId} {a : List Value} (h : Ev P cfg (.call f a) AH0 (.val (.bool true), AH0)) (ha : wtb a = true) (w : World) (args' : Array Value) (hA : VRL (renW w) a args'.toList) :
    Calls P f args' w fun e w' => e = .returned (.bool true) ∧ w.heap.size ≤ w'.heap.size ∧ (∀ b : Nat, b < w.heap.size → w'.heap[b]? = w.heap[b]?) ∧ w'.os = w.os ∧ w'.output = w.output := by
  refine (known_ev wbj hm h ha rfl (renW w) w args' (fun _ _ _ h => h) (by rw [hg]; exact gok_none _) hA).mono ?_
  rintro e w' ⟨ρ', v', rfl, h1, _, _, _, _, h5, h2, h3, h4⟩
  rw [h1.bool_inv]
  exact ⟨rfl, h5, h2, h3, h4⟩
theorem same_at {W W' : World} (hb : ∀ b : Nat, b < W.heap.size → W'.heap[b]? = W.heap[b]?) {p : MemPlace} (hp : p.block < W.heap.size) : W.sameAt W' p := by
  cases p with
  | cell b o => exact World.cell?_of_block (w := W) (hb b hp)
  | map b => exact hb b hp
theorem wxcb (hl : laidOutB P = true) {W W' : World} (hb : ∀ b : Nat, b < W.heap.size → W'.heap[b]? = W.heap[b]?) {sp : Nat → Bool} : ∀ (ts : List TypeId) (vs : List Value) (ds : List (DataW H)) (ps : List MemPlace), (ts.all fun t => P.readableRec t && decide (t < P.types.size)) = true →
    DataW.TrodAll enc P W 0 (fun _ => true) true ts vs ds ps → (∀ p ∈ ps, p.block < W.heap.size) → (∀ p ∈ ps, sp p.block = true) → DataW.TrodAll enc P W' 0 sp true ts vs ds ps := by
  intro ts
  induction ts with
  | nil =>
    intro vs ds ps _ h _ _
    obtain ⟨rfl, rfl, rfl⟩ := trodAll_nil h
    exact trodAll_mk0
  | cons t ts ih =>
    intro vs ds ps ht h hlt hs
    obtain ⟨v, vs', d, ds', p, q, rfl, rfl, rfl, h0, h1⟩ := trodAll_cons h
    simp only [List.all_cons, Bool.and_eq_true, decide_eq_true_eq] at ht
    exact trodAll_cons_mk (WideElems.Trod_stays hl ht.1.1 ht.1.2 h0 (fun x hx => same_at hb (hlt x (List.mem_append_left _ hx))) (fun x hx => hs x (List.mem_append_left _ hx)))
      (ih vs' ds' q (by simpa using ht.2) h1 (fun x hx => hlt x (List.mem_append_right _ hx)) (fun x hx => hs x (List.mem_append_right _ hx)))
theorem law_post (hl : laidOutB P = true) {f : Func} {s : ChangeSpec} {apart fresh handsOn : Bool} {W W' : World} {args : Array Value} {ds gs : List (DataW H)} {before : List MemPlace}
    (hW : DataW.Whole enc P f.params.toList s.vars apart W args.toList ds gs before) (hvars : s.vars = []) (hbool : ∃ t, f.resultTypes = #[t] ∧ P.underlying t = some .bool)
    (hts : (f.params.toList.all fun t => P.readableRec t && decide (t < P.types.size)) = true)
    (hfn : s.fn H (ds ++ gs) = { results := [.lit (.bool true)], args := ds })
    (hs : ∀ b : Nat, b < W.heap.size → W'.heap[b]? = W.heap[b]?) (ho : W'.os = W.os) (hp : W'.output = W.output) : s.post enc P f apart fresh handsOn false W args (.bool true) W' := by
  have hW' := hW
  obtain ⟨p, q, hA, hV, rfl, hfz, hnd⟩ := hW
  rw [hvars] at hV
  obtain ⟨rfl, rfl⟩ := trodVars_none hV
  obtain ⟨t, ht, hu⟩ := hbool
  refine wjvb (pa := p) (pv := []) hW' (fun b sp hd => ?_) (fun sp hsp => ?_) (fun sp _ => ?_) rfl (kept_of hs ho hp)
  · rw [ht, hfn]
    exact trodAll_cons_mk (shut_bool hu _) trodAll_mk0
  · rw [hfn]
    exact wxcb hl hs _ _ _ _ hts hA (fun x hx => hW'.lt x (List.mem_append_left _ hx)) (fun x hx => hsp x (List.mem_append_left _ hx))
  · rw [hfn, hvars]
    exact rfl
end
end Go.Den
namespace Go.Den
noncomputable section
open Go.ChangeShapes Go.WideShapes Go.RowKit
variable {P : Program} {H : Type} {enc : TypeId × Value → H}
theorem wgdc {W : World} {t e : TypeId} {k : IntKind} (ht : P.underlying t = some (.slice e)) (he : P.underlying e = some (.int k)) (hc : P.cellsOf e = 1) {r : Reach} {b0 base fuel : Nat} {sp : Nat → Bool} {held : Bool} {v : Value} {x : DataW H × List MemPlace}
    (hval : Cell.okWide P W r b0 t v) (hf : DataW.trod enc P W base sp held fuel t [v] = some x) : ∃ l : List Int, VR (renW W) (FL l.length (l.map (Value.int k))) v := by
  rcases open_ints ht he hc hf with ⟨hcs, _⟩ | ⟨a, len, cap, zs, hcs, _, hl, hm, hz, _, hcell, _⟩
  · cases hcs
    exact ⟨[], .listNo⟩
  · cases hcs
    have hsp : a.spot = none := by
      simp only [Cell.okWide, ht, Cell.ok] at hval
      exact hval.2.2.2.1
    obtain ⟨blk, off, spot⟩ := a
    subst hsp
    have hlz : len ≤ zs.length := by rw [hz]; split <;> omega
    have hlen : (zs.take len).length = len := by rw [List.length_take]; omega
    refine ⟨zs.take len, ?_⟩
    rw [hlen]
    refine VR.list (a' := ⟨blk, off, none⟩) hl (fun i => .int k (zs.getD i 0)) (fun i hi => ?_) (fun i v hv => ?_)
    · rw [List.length_map, hlen] at hi
      have := hcell i (by omega)
      rw [show (⟨blk, off, none⟩ : Addr).add i = ⟨blk, off + i, none⟩ by unfold Addr.add; split <;> simp_all] at this
      exact this
    · rw [List.getElem?_map] at hv
      have hi : i < len := by
        have := (List.getElem?_eq_some_iff.1 (show ((zs.take len).map (Value.int k))[i]? = some v by rw [List.getElem?_map]; exact hv)).1
        rw [List.length_map, hlen] at this; exact this
      rw [List.getElem?_take, if_pos hi, List.getElem?_eq_getElem (by omega)] at hv
      cases hv
      rw [List.getD_eq_getElem?_getD, List.getElem?_eq_getElem (by omega)]
      exact .flat rfl
theorem whdc {W : World} {t e : TypeId} {k : IntKind} (ht : P.underlying t = some (.slice e)) (he : P.underlying e = some (.int k)) (hc : P.cellsOf e = 1) {r : Reach} {b0 base : Nat} {sp : Nat → Bool} {held : Bool} {v : Value} {d : DataW H} {ps : List MemPlace}
    (hval : Value.okWide P W r b0 t v) (hd : DataW.Trod enc P W base sp held t v d ps) : ∃ l : List Int, VR (renW W) (FL l.length (l.map (Value.int k))) v := by
  obtain ⟨a, len, cap, rfl⟩ := okWide_slice ht hval
  obtain ⟨fuel, hf⟩ := hd
  simp only [Value.okWide, ht] at hval
  exact wgdc ht he hc hval hf
theorem open_two {W : World} {t e : TypeId} {f0 f1 : Field} {k : IntKind} (ht : P.underlying t = some (.struct #[f0, f1])) (o0 : f0.offset = 0) (o1 : f1.offset = 1) (hsz : P.cellsOf t = 2) (c0 : P.cellsOf f0.type = 1) (c1 : P.cellsOf f1.type = 1) (u0 : P.underlying f0.type = some (.slice e)) (u1 : P.underlying f1.type = some (.slice e)) (he : P.underlying e = some (.int k)) (hc : P.cellsOf e = 1) (hct : P.cellTypes P.depth t = some [f0.type, f1.type])
    {r : Reach} {b0 base : Nat} {sp : Nat → Bool} {held : Bool} {v : Value} {d : DataW H} {ps : List MemPlace}
    (hval : Value.okWide P W r b0 t v) (hd : DataW.Trod enc P W base sp held t v d ps) : ∃ l1 l2 : List Int, VR (renW W) (.agg ⟨[FL l1.length (l1.map (Value.int k)), FL l2.length (l2.map (Value.int k))]⟩) v := by
  simp only [Value.okWide, ht] at hval
  obtain ⟨⟨cs⟩, rfl, hsize, ts, h1, _, hcell⟩ := hval
  rw [hct] at h1
  cases h1
  rw [hsz] at hsize
  match cs, hsize with
  | [a, b], _ =>
    obtain ⟨fuel, hf⟩ := hd
    obtain ⟨y0, y1, n, _, hl, g0, g1⟩ := trod_struct2 ht hf
    obtain ⟨ua, ea, ka⟩ := hcell 0 a rfl
    obtain ⟨ub, eb, kb⟩ := hcell 1 b rfl
    cases ea
    cases eb
    rw [o0, c0] at g0
    rw [o1, c1] at g1
    obtain ⟨l1, v1⟩ := wgdc u0 he hc ka (show DataW.trod enc P W base sp held n f0.type [a] = some y0 from g0)
    obtain ⟨l2, v2⟩ := wgdc u1 he hc kb (show DataW.trod enc P W base sp held n f1.type [b] = some y1 from g1)
    exact ⟨l1, l2, VR.agg_mk (.cons v1 (.cons v2 (.nil _)))⟩
end
end Go.Den
