/-
  PARTS OF A PROOF, joined by a program (7 of 8): a proved reckoner of the model, and what the functions come to.
-/
import Derived.Test.YtjihbfdbgamcdaaQWayTimes6
set_option linter.unusedVariables false
set_option linter.unusedSimpArgs false
namespace Go.Proofs.Ytjihbfdbgamcdaa
set_option linter.unusedVariables false
set_option linter.unusedSimpArgs false
open Go.Den
noncomputable section
theorem wipb {w : St → List St} {mn mx : Int} {k : Nat} {n : Int} {x : St} : ∀ (l : List St) (b : List Turn × List St), b.2 ≠ [] → (wyw w mn mx k n x l b).2 ≠ [] := by
  intro l
  induction l with
  | nil => intro b hb; exact hb
  | cons y l ih =>
    intro b hb
    rw [wgo]
    refine ih _ ?_
    split
    · exact on_ne _ _ _ _ hb
    · exact hb
theorem wpib {len : Nat} {a : Int} {w : St → List St} {mn mx : Int} (hw : ∀ x, GdS len x → RwS len x.1 (w x)) {k : Nat} {n : Int} {x : St} : ∀ (l : List St) (b : List Turn × List St), (∀ y ∈ l, GdS len y ∧ a ≤ y.1) → RwS len a b.2 → RwS len a (wyw w mn mx k n x l b).2 := by
  intro l
  induction l with
  | nil => intro b _ hb; exact hb
  | cons y l ih =>
    intro b hl hb
    rw [wgo]
    have hy := hl y (List.mem_cons_self ..)
    refine ih _ (fun z hz => hl z (List.mem_cons_of_mem _ hz)) ?_
    split
    · exact wnib (fun y hy _ => hw y hy) _ _ _ _ hy.1 hy.2 hb
    · exact hb
section
variable (s : List UInt8) (bol : Bool) (mn mx nn : Int) (set : BitVec 256) (kids : List Rx)
abbrev feN (met : List Turn) (x : St) : List ABlk := [repB s bol mn mx nn set kids, X [.slice none 0 0, .map (some 3)] 173 0 false, .map (setK trC met), .map [], X (stC x) 81 0 true]
abbrev feE (met : List Turn) (out : List St) (x : St) : List ABlk := [repB s bol mn mx nn set kids, X [FO 5 out.length (stsC out), .map (some 3)] 173 0 false, .map (setK trC met), .map (setK stC out), X (stC x) 81 0 true, .tok out.length 81 9]
def reO (p : List Turn × List St) : List ABlk := if p.2 = [] then reN s bol mn mx nn set kids p.1 else reE s bol mn mx nn set kids p.1 p.2
def feO (p : List Turn × List St) (x : St) : List ABlk := if p.2 = [] then feN s bol mn mx nn set kids p.1 x else feE s bol mn mx nn set kids p.1 p.2 x
def OnN (w : St → List St) (a : Int) (k : Nat) : Prop := ∀ (n : Int) (x : St) (met : List Turn), 0 ≤ n → n + k ≤ 1000 → GdS s.length x → a ≤ x.1 → muF mn mx s.length n x < k →
  lim Try.prog cfg (.call 98 [.pointer (some ⟨0, 0, none⟩), .int .i64 n, .agg ⟨stC x⟩]) (HP (reN s bol mn mx nn set kids met)) = some (.val (.tuple ⟨[]⟩), HP (reO s bol mn mx nn set kids (onF w mn mx k n x (met, []))))
theorem wiec {mn mx : Int} {len : Nat} {n : Int} {x y : St} {k : Nat} (hx : GdS len x) (hy : GdS len y) (hxy : x.1 ≤ y.1) (hnm : mx < 0 ∨ n < mx) (hc : y.1 ≠ x.1 ∨ n < mn) (hmu : muF mn mx len n x < k + 1) : muF mn mx len (n + 1) y < k := by
  have h1 := hy.hi
  have h2 := hx.hi
  unfold muF at hmu ⊢
  split at hmu
  · rw [if_pos (by omega)]; omega
  · rw [if_neg (by omega)]; omega
set_option maxHeartbeats 4000000 in
theorem on_loopE (hs : s.length ≤ 12) (hmn : 0 ≤ mn ∧ mn ≤ 20) (hmx : mx ≤ 20) (w : St → List St) (a : Int) (hk : ∀ y, GdS s.length y → RwS s.length y.1 (w y)) (k : Nat) (IH : OnC s bol mn mx nn set kids w a k) (n : Int) (hn : 0 ≤ n ∧ n + k < 1000) (hnm : mx < 0 ∨ n < mx) (x : St) (hx : GdS s.length x) (hxa : a ≤ x.1) (hmu : muF mn mx s.length n x < k + 1) (l : List St) (hll : l.length ≤ 16000000) (hl : ∀ y ∈ l, GdS s.length y ∧ x.1 ≤ y.1) :
    ∀ (j i : Nat) (met : List Turn) (out : List St), i + j = l.length → out ≠ [] → RwS s.length a out →
    lim Try.prog cfg (.loop 98 4 (whg 0) (SE (EJ 92 G0) [(54, .int .i64 i), (53, .int .i64 l.length), (52, FL l.length (stsC l)), (5, .pointer (some ⟨4, 0, none⟩)), (1, .int .i64 n), (0, .pointer (some ⟨0, 0, none⟩))])) (HP (feE s bol mn mx nn set kids met out x)) = some (.code (.exit 0) (SE (EJ 92 G0) [(5, .pointer (some ⟨4, 0, none⟩)), (1, .int .i64 n), (0, .pointer (some ⟨0, 0, none⟩))]), HP (feE s bol mn mx nn set kids (wyw w mn mx k n x (l.drop i) (met, out)).1 (wyw w mn mx k n x (l.drop i) (met, out)).2 x)) := by
  intro j
  induction j with
  | zero =>
    intro i met out hi ho hr
    rw [List.drop_of_length_le (by omega)]
    refine wcb whe ?_
    unfold wle
    clear IH hk hl
    (repeat' (first | (simp -implicitDefEqProofs (maxSteps := 2000000) (disch := first | with_reducible assumption | omega | (simp only [zS, zA, seval, wy, zD] <;> omega) | fail) only [zS, argl, insA, Go.Den.wh, wo, wu, looks, wbb, wab, idOf, riA, seval, Go.Den.wm, kK, wz, wy, *, zT]) | (with_reducible (first | apply z1 | apply z2 | apply z3 | apply z4) <;> intro hq <;> (try simp only [zH] at hq) <;> (try (exfalso; omega)))))
    all_goals rfl
  | succ j ih =>
    intro i met out hi ho hr
    rw [wuj l (by omega), wgo]
    have hy := hl (l.getD i St.zero) (by rw [List.getD_eq_getElem?_getD, List.getElem?_eq_getElem (by omega)]; exact List.getElem_mem _)
    refine wcb whe ?_
    unfold wle
    by_cases hc : (l.getD i St.zero).1 ≠ x.1 ∨ n < mn
    · have h1 := IH (n + 1) (l.getD i St.zero) met out (by omega) (by omega) hy.1 (by omega) (wiec hx hy.1 hy.2 hnm hc hmu) ho hr
      have h2 := ih (i + 1) (onF w mn mx k (n + 1) (l.getD i St.zero) (met, out)).1 (onF w mn mx k (n + 1) (l.getD i St.zero) (met, out)).2 (by omega) (on_ne _ _ _ _ ho) (wnib (fun y hy _ => hk y hy) _ _ _ _ hy.1 (by omega) hr)
      rw [if_pos hc]
      clear IH ih hk
      by_cases hc1 : (l.getD i St.zero).1 = x.1
      · have hc2 : n < mn := by omega
        (repeat' (first | (simp -implicitDefEqProofs (maxSteps := 2000000) (disch := first | with_reducible assumption | omega | (simp only [zS, zA, seval, wy, zD] <;> omega) | fail) only [zS, argl, insA, Go.Den.wh, wo, wu, looks, wbb, wab, idOf, riA, seval, Go.Den.wm, kK, wz, wy, wfb, wob, *, zT]) | (with_reducible (first | apply z1 | apply z2 | apply z3 | apply z4) <;> intro hq <;> (try simp only [zH] at hq) <;> (try (exfalso; omega)))))
        exact h2
      · (repeat' (first | (simp -implicitDefEqProofs (maxSteps := 2000000) (disch := first | with_reducible assumption | omega | (simp only [zS, zA, seval, wy, zD] <;> omega) | fail) only [zS, argl, insA, Go.Den.wh, wo, wu, looks, wbb, wab, idOf, riA, seval, Go.Den.wm, kK, wz, wy, wfb, wob, *, zT]) | (with_reducible (first | apply z1 | apply z2 | apply z3 | apply z4) <;> intro hq <;> (try simp only [zH] at hq) <;> (try (exfalso; omega)))))
        exact h2
    · have h2 := ih (i + 1) met out (by omega) ho hr
      rw [if_neg hc]
      have hc1 : (l.getD i St.zero).1 = x.1 := by omega
      have hc2 : ¬ n < mn := by omega
      clear IH ih hk
      (repeat' (first | (simp -implicitDefEqProofs (maxSteps := 2000000) (disch := first | with_reducible assumption | omega | (simp only [zS, zA, seval, wy, zD] <;> omega) | fail) only [zS, argl, insA, Go.Den.wh, wo, wu, looks, wbb, wab, idOf, riA, seval, Go.Den.wm, kK, wz, wy, wfb, wob, *, zT]) | (with_reducible (first | apply z1 | apply z2 | apply z3 | apply z4) <;> intro hq <;> (try simp only [zH] at hq) <;> (try (exfalso; omega)))))
      exact h2
set_option maxHeartbeats 4000000 in
theorem on_loopN (hs : s.length ≤ 12) (hmn : 0 ≤ mn ∧ mn ≤ 20) (hmx : mx ≤ 20) (w : St → List St) (a : Int) (hk : ∀ y, GdS s.length y → RwS s.length y.1 (w y)) (k : Nat) (IHC : OnC s bol mn mx nn set kids w a k) (IH : OnN s bol mn mx nn set kids w a k) (n : Int) (hn : 0 ≤ n ∧ n + k < 1000) (hnm : mx < 0 ∨ n < mx) (x : St) (hx : GdS s.length x) (hxa : a ≤ x.1) (hmu : muF mn mx s.length n x < k + 1) (l : List St) (hll : l.length ≤ 16000000) (hl : ∀ y ∈ l, GdS s.length y ∧ x.1 ≤ y.1) :
    ∀ (j i : Nat) (met : List Turn), i + j = l.length →
    lim Try.prog cfg (.loop 98 4 (whg 0) (SE (EJ 92 G0) [(54, .int .i64 i), (53, .int .i64 l.length), (52, FL l.length (stsC l)), (5, .pointer (some ⟨4, 0, none⟩)), (1, .int .i64 n), (0, .pointer (some ⟨0, 0, none⟩))])) (HP (feN s bol mn mx nn set kids met x)) = some (.code (.exit 0) (SE (EJ 92 G0) [(5, .pointer (some ⟨4, 0, none⟩)), (1, .int .i64 n), (0, .pointer (some ⟨0, 0, none⟩))]), HP (feO s bol mn mx nn set kids (wyw w mn mx k n x (l.drop i) (met, [])) x)) := by
  intro j
  induction j with
  | zero =>
    intro i met hi
    rw [List.drop_of_length_le (by omega)]
    refine wcb whe ?_
    unfold wle
    clear IH IHC hk hl
    (repeat' (first | (simp -implicitDefEqProofs (maxSteps := 2000000) (disch := first | with_reducible assumption | omega | (simp only [zS, zA, seval, wy, zD] <;> omega) | fail) only [zS, argl, insA, Go.Den.wh, wo, wu, looks, wbb, wab, idOf, riA, seval, Go.Den.wm, kK, wz, wy, *, zT]) | (with_reducible (first | apply z1 | apply z2 | apply z3 | apply z4) <;> intro hq <;> (try simp only [zH] at hq) <;> (try (exfalso; omega)))))
    all_goals rfl
  | succ j ih =>
    intro i met hi
    rw [wuj l (by omega), wgo]
    have hy := hl (l.getD i St.zero) (by rw [List.getD_eq_getElem?_getD, List.getElem?_eq_getElem (by omega)]; exact List.getElem_mem _)
    refine wcb whe ?_
    unfold wle
    by_cases hc : (l.getD i St.zero).1 ≠ x.1 ∨ n < mn
    · have h1 := IH (n + 1) (l.getD i St.zero) met (by omega) (by omega) hy.1 (by omega) (wiec hx hy.1 hy.2 hnm hc hmu)
      rw [if_pos hc]
      have hr := wnib (a0 := a) (mn := mn) (mx := mx) (fun y hy _ => hk y hy) k (n + 1) (l.getD i St.zero) (met, []) hy.1 (by omega) .nil
      rcases hq : onF w mn mx k (n + 1) (l.getD i St.zero) (met, []) with ⟨met2, out2⟩
      rw [hq] at h1 hr
      unfold reO at h1
      by_cases ho : out2 = []
      · subst ho
        rw [if_pos rfl] at h1
        have h2 := ih (i + 1) met2 (by omega)
        clear IH IHC ih hk
        by_cases hc1 : (l.getD i St.zero).1 = x.1
        · have hc2 : n < mn := by omega
          (repeat' (first | (simp -implicitDefEqProofs (maxSteps := 2000000) (disch := first | with_reducible assumption | omega | (simp only [zS, zA, seval, wy, zD] <;> omega) | fail) only [zS, argl, insA, Go.Den.wh, wo, wu, looks, wbb, wab, idOf, riA, seval, Go.Den.wm, kK, wz, wy, wfb, wob, *, zT]) | (with_reducible (first | apply z1 | apply z2 | apply z3 | apply z4) <;> intro hq <;> (try simp only [zH] at hq) <;> (try (exfalso; omega)))))
          exact h2
        · (repeat' (first | (simp -implicitDefEqProofs (maxSteps := 2000000) (disch := first | with_reducible assumption | omega | (simp only [zS, zA, seval, wy, zD] <;> omega) | fail) only [zS, argl, insA, Go.Den.wh, wo, wu, looks, wbb, wab, idOf, riA, seval, Go.Den.wm, kK, wz, wy, wfb, wob, *, zT]) | (with_reducible (first | apply z1 | apply z2 | apply z3 | apply z4) <;> intro hq <;> (try simp only [zH] at hq) <;> (try (exfalso; omega)))))
          exact h2
      · rw [if_neg ho] at h1
        have h2 := on_loopE s bol mn mx nn set kids hs hmn hmx w a hk k IHC n hn hnm x hx hxa hmu l hll hl j (i + 1) met2 out2 (by omega) ho hr
        rw [feO, if_neg (wipb _ _ ho)]
        clear IH IHC ih hk
        by_cases hc1 : (l.getD i St.zero).1 = x.1
        · have hc2 : n < mn := by omega
          (repeat' (first | (simp -implicitDefEqProofs (maxSteps := 2000000) (disch := first | with_reducible assumption | omega | (simp only [zS, zA, seval, wy, zD] <;> omega) | fail) only [zS, argl, insA, Go.Den.wh, wo, wu, looks, wbb, wab, idOf, riA, seval, Go.Den.wm, kK, wz, wy, wfb, wob, *, zT]) | (with_reducible (first | apply z1 | apply z2 | apply z3 | apply z4) <;> intro hq <;> (try simp only [zH] at hq) <;> (try (exfalso; omega)))))
          exact h2
        · (repeat' (first | (simp -implicitDefEqProofs (maxSteps := 2000000) (disch := first | with_reducible assumption | omega | (simp only [zS, zA, seval, wy, zD] <;> omega) | fail) only [zS, argl, insA, Go.Den.wh, wo, wu, looks, wbb, wab, idOf, riA, seval, Go.Den.wm, kK, wz, wy, wfb, wob, *, zT]) | (with_reducible (first | apply z1 | apply z2 | apply z3 | apply z4) <;> intro hq <;> (try simp only [zH] at hq) <;> (try (exfalso; omega)))))
          exact h2
    · have h2 := ih (i + 1) met (by omega)
      rw [if_neg hc]
      have hc1 : (l.getD i St.zero).1 = x.1 := by omega
      have hc2 : ¬ n < mn := by omega
      clear IH IHC ih hk
      (repeat' (first | (simp -implicitDefEqProofs (maxSteps := 2000000) (disch := first | with_reducible assumption | omega | (simp only [zS, zA, seval, wy, zD] <;> omega) | fail) only [zS, argl, insA, Go.Den.wh, wo, wu, looks, wbb, wab, idOf, riA, seval, Go.Den.wm, kK, wz, wy, wfb, wob, *, zT]) | (with_reducible (first | apply z1 | apply z2 | apply z3 | apply z4) <;> intro hq <;> (try simp only [zH] at hq) <;> (try (exfalso; omega)))))
      exact h2
end
end
end Go.Proofs.Ytjihbfdbgamcdaa
namespace Go.Proofs.Ytjihbfdbgamcdaa
set_option linter.unusedVariables false
set_option linter.unusedSimpArgs false
open Go.Den
noncomputable section
section
variable (s : List UInt8) (bol : Bool) (mn mx nn : Int) (set : BitVec 256) (kids : List Rx)
theorem wjec {w : St → List St} {mn mx : Int} {k : Nat} {n : Int} {x : St} {a : List Turn × List St} (h : keyF mn mx n x ∈ a.1) : onF w mn mx (k + 1) n x a = a := by
  rw [onF, if_pos h]
theorem wueb {w : St → List St} {mn mx : Int} {k : Nat} {n : Int} {x : St} {met : List Turn} {out : List St} (h : keyF mn mx n x ∉ met) (b : List Turn × List St) (hb : b = if mx < 0 ∨ n < mx then wyw w mn mx k n x (w x) (met ++ [keyF mn mx n x], out) else (met ++ [keyF mn mx n x], out)) :
    onF w mn mx (k + 1) n x (met, out) = if n ≥ mn then (b.1, addF b.2 [x]) else b := by
  rw [onF, if_neg h, hb]
  rfl
set_option maxHeartbeats 4000000 in
theorem ev_on_C (hs : s.length ≤ 12) (hmn : 0 ≤ mn ∧ mn ≤ 20) (hmx : mx ≤ 20) (w : St → List St) (a : Int) (hk : KidOk s bol kids w) (k : Nat) (IH : OnC s bol mn mx nn set kids w a k) : OnC s bol mn mx nn set kids w a (k + 1) := by
  intro n x met out hn hn2 hx hxa hmu ho hr
  obtain ⟨kid, k1, k2, k3⟩ := hk
  have hw := fun y hy => (k3 y hy).1
  have ⟨r1, r2⟩ := k3 x hx
  have r3 := row_len r1 hs
  have key := ev_key_C s bol mn mx nn set kids
  refine wub hc wrl (Nat.le_of_ble_eq_true rfl) (Nat.le_of_ble_eq_true rfl) ?_
  unfold wok
  by_cases hm : keyF mn mx n x ∈ met
  · rw [wjec hm]
    clear IH k3 hw r1 r2
    (repeat' (first | (simp -implicitDefEqProofs (maxSteps := 2000000) (disch := first | with_reducible assumption | omega | (simp only [zS, zA, seval, wy, wwh, wfb, wob, zD] <;> omega) | fail) only [zS, argl, insA, Go.Den.wh, wo, wu, looks, wbb, wab, idOf, riA, seval, Go.Den.wm, kK, wy, wfb, wob, wff wij, wmi, wwh, *, zT]) | (with_reducible (first | apply z1 | apply z2 | apply z3 | apply z4) <;> intro hq <;> (try simp only [zH] at hq) <;> (try (exfalso; omega))) | (with_reducible apply z5; (case hl => (repeat (first | exact .nil | with_reducible apply z6 | with_reducible apply z7))); (case h => kernel_rfl))))
  · by_cases hnm : mx < 0 ∨ n < mx
    · have hb := wueb (w := w) (k := k) (out := out) hm _ rfl
      rw [if_pos hnm] at hb
      have hl := on_loopC s bol mn mx nn set kids hs hmn hmx w a hw k IH n ⟨hn, by omega⟩ hnm x hx hxa hmu (w x) (by omega) r1.good (w x).length 0 (met ++ [keyF mn mx n x]) out (by omega) ho hr
      rw [List.drop_zero, show ((0 : Nat) : Int) = 0 from rfl] at hl
      simp only [List.cons_append, List.nil_append] at hl
      have hbr := wpib (a := a) (mn := mn) (mx := mx) hw (k := k) (n := n) (x := x) (w x) (met ++ [keyF mn mx n x], out) (fun y hy => ⟨(r1.good y hy).1, by have := (r1.good y hy).2; omega⟩) hr
      have hbn := wipb (w := w) (mn := mn) (mx := mx) (k := k) (n := n) (x := x) (w x) (met ++ [keyF mn mx n x], out) ho
      generalize wyw w mn mx k n x (w x) (met ++ [keyF mn mx n x], out) = b at hb hl hbr hbn
      obtain ⟨bm, bo⟩ := b
      simp only at hb hl hbr hbn
      rw [hb]
      have hadd := wxr bo [x] hbn (by simp) (by have := row_len (hbr.add (xs := [x]) (fun y hy => by rw [List.mem_singleton] at hy; subst hy; exact ⟨hx, hxa⟩)) hs; omega)
      rw [wri, show [x].length = 1 from rfl] at hadd
      clear IH k3 hw r1 hb hbr
      by_cases hge : n ≥ mn
      · rw [if_pos hge]
        by_cases hmx0 : mx < 0
        · (repeat' (first | (simp -implicitDefEqProofs (maxSteps := 2000000) (disch := first | with_reducible assumption | omega | (simp only [zS, zA, seval, wy, wwh, wfb, wob, zD] <;> omega) | fail) only [zS, argl, insA, Go.Den.wh, wo, wu, looks, wbb, wab, idOf, riA, seval, Go.Den.wm, kK, wz, wy, wfb, wob, wff wij, wrh wij, wmi, wwh, *, zT]) | (with_reducible (first | apply z1 | apply z2 | apply z3 | apply z4) <;> intro hq <;> (try simp only [zH] at hq) <;> (try (exfalso; omega))) | (with_reducible apply z5; (case hl => (repeat (first | exact .nil | with_reducible apply z6 | with_reducible apply z7))); (case h => kernel_rfl))))
        · have hnm2 : n < mx := by omega
          (repeat' (first | (simp -implicitDefEqProofs (maxSteps := 2000000) (disch := first | with_reducible assumption | omega | (simp only [zS, zA, seval, wy, wwh, wfb, wob, zD] <;> omega) | fail) only [zS, argl, insA, Go.Den.wh, wo, wu, looks, wbb, wab, idOf, riA, seval, Go.Den.wm, kK, wz, wy, wfb, wob, wff wij, wrh wij, wmi, wwh, *, zT]) | (with_reducible (first | apply z1 | apply z2 | apply z3 | apply z4) <;> intro hq <;> (try simp only [zH] at hq) <;> (try (exfalso; omega))) | (with_reducible apply z5; (case hl => (repeat (first | exact .nil | with_reducible apply z6 | with_reducible apply z7))); (case h => kernel_rfl))))
      · rw [if_neg hge]
        by_cases hmx0 : mx < 0
        · (repeat' (first | (simp -implicitDefEqProofs (maxSteps := 2000000) (disch := first | with_reducible assumption | omega | (simp only [zS, zA, seval, wy, wwh, wfb, wob, zD] <;> omega) | fail) only [zS, argl, insA, Go.Den.wh, wo, wu, looks, wbb, wab, idOf, riA, seval, Go.Den.wm, kK, wz, wy, wfb, wob, wff wij, wrh wij, wmi, wwh, *, zT]) | (with_reducible (first | apply z1 | apply z2 | apply z3 | apply z4) <;> intro hq <;> (try simp only [zH] at hq) <;> (try (exfalso; omega))) | (with_reducible apply z5; (case hl => (repeat (first | exact .nil | with_reducible apply z6 | with_reducible apply z7))); (case h => kernel_rfl))))
        · have hnm2 : n < mx := by omega
          (repeat' (first | (simp -implicitDefEqProofs (maxSteps := 2000000) (disch := first | with_reducible assumption | omega | (simp only [zS, zA, seval, wy, wwh, wfb, wob, zD] <;> omega) | fail) only [zS, argl, insA, Go.Den.wh, wo, wu, looks, wbb, wab, idOf, riA, seval, Go.Den.wm, kK, wz, wy, wfb, wob, wff wij, wrh wij, wmi, wwh, *, zT]) | (with_reducible (first | apply z1 | apply z2 | apply z3 | apply z4) <;> intro hq <;> (try simp only [zH] at hq) <;> (try (exfalso; omega))) | (with_reducible apply z5; (case hl => (repeat (first | exact .nil | with_reducible apply z6 | with_reducible apply z7))); (case h => kernel_rfl))))
    · have hb := wueb (w := w) (k := k) (out := out) hm _ rfl
      rw [if_neg hnm] at hb
      simp only at hb
      rw [hb]
      have hmx0 : ¬ mx < 0 := fun h => hnm (.inl h)
      have hnm2 : ¬ n < mx := fun h => hnm (.inr h)
      have hadd := wxr out [x] ho (by simp) (by have := row_len (hr.add (xs := [x]) (fun y hy => by rw [List.mem_singleton] at hy; subst hy; exact ⟨hx, hxa⟩)) hs; omega)
      rw [wri, show [x].length = 1 from rfl] at hadd
      clear IH k3 hw r1 r2 hb hnm
      by_cases hge : n ≥ mn
      · rw [if_pos hge]
        (repeat' (first | (simp -implicitDefEqProofs (maxSteps := 2000000) (disch := first | with_reducible assumption | omega | (simp only [zS, zA, seval, wy, wwh, wfb, wob, zD] <;> omega) | fail) only [zS, argl, insA, Go.Den.wh, wo, wu, looks, wbb, wab, idOf, riA, seval, Go.Den.wm, kK, wz, wy, wfb, wob, wff wij, wrh wij, wmi, wwh, *, zT]) | (with_reducible (first | apply z1 | apply z2 | apply z3 | apply z4) <;> intro hq <;> (try simp only [zH] at hq) <;> (try (exfalso; omega))) | (with_reducible apply z5; (case hl => (repeat (first | exact .nil | with_reducible apply z6 | with_reducible apply z7))); (case h => kernel_rfl))))
      · rw [if_neg hge]
        (repeat' (first | (simp -implicitDefEqProofs (maxSteps := 2000000) (disch := first | with_reducible assumption | omega | (simp only [zS, zA, seval, wy, wwh, wfb, wob, zD] <;> omega) | fail) only [zS, argl, insA, Go.Den.wh, wo, wu, looks, wbb, wab, idOf, riA, seval, Go.Den.wm, kK, wz, wy, wfb, wob, wff wij, wrh wij, wmi, wwh, *, zT]) | (with_reducible (first | apply z1 | apply z2 | apply z3 | apply z4) <;> intro hq <;> (try simp only [zH] at hq) <;> (try (exfalso; omega))) | (with_reducible apply z5; (case hl => (repeat (first | exact .nil | with_reducible apply z6 | with_reducible apply z7))); (case h => kernel_rfl))))
end
end
end Go.Proofs.Ytjihbfdbgamcdaa
namespace Go.Proofs.Ytjihbfdbgamcdaa
set_option linter.unusedVariables false
set_option linter.unusedSimpArgs false
open Go.Den
noncomputable section
section
variable (s : List UInt8) (bol : Bool) (mn mx nn : Int) (set : BitVec 256) (kids : List Rx)
set_option maxHeartbeats 4000000 in
theorem ev_on_N (hs : s.length ≤ 12) (hmn : 0 ≤ mn ∧ mn ≤ 20) (hmx : mx ≤ 20) (w : St → List St) (a : Int) (hk : KidOk s bol kids w) (k : Nat) (IHC : OnC s bol mn mx nn set kids w a k) (IH : OnN s bol mn mx nn set kids w a k) : OnN s bol mn mx nn set kids w a (k + 1) := by
  intro n x met hn hn2 hx hxa hmu
  obtain ⟨kid, k1, k2, k3⟩ := hk
  have hw := fun y hy => (k3 y hy).1
  have ⟨r1, r2⟩ := k3 x hx
  have r3 := row_len r1 hs
  have key := ev_key_N s bol mn mx nn set kids
  refine wub hc wrl (Nat.le_of_ble_eq_true rfl) (Nat.le_of_ble_eq_true rfl) ?_
  unfold wok
  by_cases hm : keyF mn mx n x ∈ met
  · rw [wjec hm, reO, if_pos rfl]
    clear IH IHC k3 hw r1 r2
    (repeat' (first | (simp -implicitDefEqProofs (maxSteps := 2000000) (disch := first | with_reducible assumption | omega | (simp only [zS, zA, seval, wy, wwh, wfb, wob, zD] <;> omega) | fail) only [zS, argl, insA, Go.Den.wh, wo, wu, looks, wbb, wab, idOf, riA, seval, Go.Den.wm, kK, wy, wfb, wob, wff wij, wmi, wwh, *, zT]) | (with_reducible (first | apply z1 | apply z2 | apply z3 | apply z4) <;> intro hq <;> (try simp only [zH] at hq) <;> (try (exfalso; omega))) | (with_reducible apply z5; (case hl => (repeat (first | exact .nil | with_reducible apply z6 | with_reducible apply z7))); (case h => kernel_rfl))))
  · by_cases hnm : mx < 0 ∨ n < mx
    · have hb := wueb (w := w) (k := k) (out := []) hm _ rfl
      rw [if_pos hnm] at hb
      have hl := on_loopN s bol mn mx nn set kids hs hmn hmx w a hw k IHC IH n ⟨hn, by omega⟩ hnm x hx hxa hmu (w x) (by omega) r1.good (w x).length 0 (met ++ [keyF mn mx n x]) (by omega)
      rw [List.drop_zero, show ((0 : Nat) : Int) = 0 from rfl] at hl
      have hbr := wpib (a := a) (mn := mn) (mx := mx) hw (k := k) (n := n) (x := x) (w x) (met ++ [keyF mn mx n x], []) (fun y hy => ⟨(r1.good y hy).1, by have := (r1.good y hy).2; omega⟩) .nil
      generalize wyw w mn mx k n x (w x) (met ++ [keyF mn mx n x], []) = b at hb hl hbr
      obtain ⟨bm, bo⟩ := b
      simp only at hb hbr
      rw [hb]
      have hlen : (addF bo [x]).length ≤ 16000000 := by have := row_len (hbr.add (xs := [x]) (fun y hy => by rw [List.mem_singleton] at hy; subst hy; exact ⟨hx, hxa⟩)) hs; omega
      clear IH IHC k3 hw r1 hb hbr
      unfold feO at hl
      by_cases hbo : bo = []
      · subst hbo
        rw [if_pos rfl] at hl
        have hadd := wyu [x] (by simp) (by simp) hlen
        rw [wri, show [x].length = 1 from rfl] at hadd
        by_cases hge : n ≥ mn
        · rw [if_pos hge, reO, if_neg (wdk (.inr (by simp)))]
          by_cases hmx0 : mx < 0
          · (repeat' (first | (simp -implicitDefEqProofs (maxSteps := 2000000) (disch := first | with_reducible assumption | omega | (simp only [zS, zA, seval, wy, wwh, wfb, wob, zD] <;> omega) | fail) only [zS, argl, insA, Go.Den.wh, wo, wu, looks, wbb, wab, idOf, riA, seval, Go.Den.wm, kK, wz, wy, wfb, wob, wff wij, wrh wij, wmi, wwh, *, zT]) | (with_reducible (first | apply z1 | apply z2 | apply z3 | apply z4) <;> intro hq <;> (try simp only [zH] at hq) <;> (try (exfalso; omega))) | (with_reducible apply z5; (case hl => (repeat (first | exact .nil | with_reducible apply z6 | with_reducible apply z7))); (case h => kernel_rfl))))
          · have hnm2 : n < mx := by omega
            (repeat' (first | (simp -implicitDefEqProofs (maxSteps := 2000000) (disch := first | with_reducible assumption | omega | (simp only [zS, zA, seval, wy, wwh, wfb, wob, zD] <;> omega) | fail) only [zS, argl, insA, Go.Den.wh, wo, wu, looks, wbb, wab, idOf, riA, seval, Go.Den.wm, kK, wz, wy, wfb, wob, wff wij, wrh wij, wmi, wwh, *, zT]) | (with_reducible (first | apply z1 | apply z2 | apply z3 | apply z4) <;> intro hq <;> (try simp only [zH] at hq) <;> (try (exfalso; omega))) | (with_reducible apply z5; (case hl => (repeat (first | exact .nil | with_reducible apply z6 | with_reducible apply z7))); (case h => kernel_rfl))))
        · rw [if_neg hge, reO, if_pos rfl]
          by_cases hmx0 : mx < 0
          · (repeat' (first | (simp -implicitDefEqProofs (maxSteps := 2000000) (disch := first | with_reducible assumption | omega | (simp only [zS, zA, seval, wy, wwh, wfb, wob, zD] <;> omega) | fail) only [zS, argl, insA, Go.Den.wh, wo, wu, looks, wbb, wab, idOf, riA, seval, Go.Den.wm, kK, wz, wy, wfb, wob, wff wij, wrh wij, wmi, wwh, *, zT]) | (with_reducible (first | apply z1 | apply z2 | apply z3 | apply z4) <;> intro hq <;> (try simp only [zH] at hq) <;> (try (exfalso; omega))) | (with_reducible apply z5; (case hl => (repeat (first | exact .nil | with_reducible apply z6 | with_reducible apply z7))); (case h => kernel_rfl))))
          · have hnm2 : n < mx := by omega
            (repeat' (first | (simp -implicitDefEqProofs (maxSteps := 2000000) (disch := first | with_reducible assumption | omega | (simp only [zS, zA, seval, wy, wwh, wfb, wob, zD] <;> omega) | fail) only [zS, argl, insA, Go.Den.wh, wo, wu, looks, wbb, wab, idOf, riA, seval, Go.Den.wm, kK, wz, wy, wfb, wob, wff wij, wrh wij, wmi, wwh, *, zT]) | (with_reducible (first | apply z1 | apply z2 | apply z3 | apply z4) <;> intro hq <;> (try simp only [zH] at hq) <;> (try (exfalso; omega))) | (with_reducible apply z5; (case hl => (repeat (first | exact .nil | with_reducible apply z6 | with_reducible apply z7))); (case h => kernel_rfl))))
      · rw [if_neg hbo] at hl
        have hadd := wxr bo [x] hbo (by simp) hlen
        rw [wri, show [x].length = 1 from rfl] at hadd
        by_cases hge : n ≥ mn
        · rw [if_pos hge, reO, if_neg (wdk (.inr (by simp)))]
          by_cases hmx0 : mx < 0
          · (repeat' (first | (simp -implicitDefEqProofs (maxSteps := 2000000) (disch := first | with_reducible assumption | omega | (simp only [zS, zA, seval, wy, wwh, wfb, wob, zD] <;> omega) | fail) only [zS, argl, insA, Go.Den.wh, wo, wu, looks, wbb, wab, idOf, riA, seval, Go.Den.wm, kK, wz, wy, wfb, wob, wff wij, wrh wij, wmi, wwh, *, zT]) | (with_reducible (first | apply z1 | apply z2 | apply z3 | apply z4) <;> intro hq <;> (try simp only [zH] at hq) <;> (try (exfalso; omega))) | (with_reducible apply z5; (case hl => (repeat (first | exact .nil | with_reducible apply z6 | with_reducible apply z7))); (case h => kernel_rfl))))
          · have hnm2 : n < mx := by omega
            (repeat' (first | (simp -implicitDefEqProofs (maxSteps := 2000000) (disch := first | with_reducible assumption | omega | (simp only [zS, zA, seval, wy, wwh, wfb, wob, zD] <;> omega) | fail) only [zS, argl, insA, Go.Den.wh, wo, wu, looks, wbb, wab, idOf, riA, seval, Go.Den.wm, kK, wz, wy, wfb, wob, wff wij, wrh wij, wmi, wwh, *, zT]) | (with_reducible (first | apply z1 | apply z2 | apply z3 | apply z4) <;> intro hq <;> (try simp only [zH] at hq) <;> (try (exfalso; omega))) | (with_reducible apply z5; (case hl => (repeat (first | exact .nil | with_reducible apply z6 | with_reducible apply z7))); (case h => kernel_rfl))))
        · rw [if_neg hge, reO, if_neg hbo]
          by_cases hmx0 : mx < 0
          · (repeat' (first | (simp -implicitDefEqProofs (maxSteps := 2000000) (disch := first | with_reducible assumption | omega | (simp only [zS, zA, seval, wy, wwh, wfb, wob, zD] <;> omega) | fail) only [zS, argl, insA, Go.Den.wh, wo, wu, looks, wbb, wab, idOf, riA, seval, Go.Den.wm, kK, wz, wy, wfb, wob, wff wij, wrh wij, wmi, wwh, *, zT]) | (with_reducible (first | apply z1 | apply z2 | apply z3 | apply z4) <;> intro hq <;> (try simp only [zH] at hq) <;> (try (exfalso; omega))) | (with_reducible apply z5; (case hl => (repeat (first | exact .nil | with_reducible apply z6 | with_reducible apply z7))); (case h => kernel_rfl))))
          · have hnm2 : n < mx := by omega
            (repeat' (first | (simp -implicitDefEqProofs (maxSteps := 2000000) (disch := first | with_reducible assumption | omega | (simp only [zS, zA, seval, wy, wwh, wfb, wob, zD] <;> omega) | fail) only [zS, argl, insA, Go.Den.wh, wo, wu, looks, wbb, wab, idOf, riA, seval, Go.Den.wm, kK, wz, wy, wfb, wob, wff wij, wrh wij, wmi, wwh, *, zT]) | (with_reducible (first | apply z1 | apply z2 | apply z3 | apply z4) <;> intro hq <;> (try simp only [zH] at hq) <;> (try (exfalso; omega))) | (with_reducible apply z5; (case hl => (repeat (first | exact .nil | with_reducible apply z6 | with_reducible apply z7))); (case h => kernel_rfl))))
    · have hb := wueb (w := w) (k := k) (out := []) hm _ rfl
      rw [if_neg hnm] at hb
      simp only at hb
      rw [hb]
      have hmx0 : ¬ mx < 0 := fun h => hnm (.inl h)
      have hnm2 : ¬ n < mx := fun h => hnm (.inr h)
      have hadd := wyu [x] (by simp) (by simp) (by have := row_len ((RwS.nil (len := s.length) (a := a)).add (xs := [x]) (fun y hy => by rw [List.mem_singleton] at hy; subst hy; exact ⟨hx, hxa⟩)) hs; omega)
      rw [wri, show [x].length = 1 from rfl] at hadd
      clear IH IHC k3 hw r1 r2 hb hnm
      by_cases hge : n ≥ mn
      · rw [if_pos hge, reO, if_neg (wdk (.inr (by simp)))]
        (repeat' (first | (simp -implicitDefEqProofs (maxSteps := 2000000) (disch := first | with_reducible assumption | omega | (simp only [zS, zA, seval, wy, wwh, wfb, wob, zD] <;> omega) | fail) only [zS, argl, insA, Go.Den.wh, wo, wu, looks, wbb, wab, idOf, riA, seval, Go.Den.wm, kK, wz, wy, wfb, wob, wff wij, wrh wij, wmi, wwh, *, zT]) | (with_reducible (first | apply z1 | apply z2 | apply z3 | apply z4) <;> intro hq <;> (try simp only [zH] at hq) <;> (try (exfalso; omega))) | (with_reducible apply z5; (case hl => (repeat (first | exact .nil | with_reducible apply z6 | with_reducible apply z7))); (case h => kernel_rfl))))
      · rw [if_neg hge, reO, if_pos rfl]
        (repeat' (first | (simp -implicitDefEqProofs (maxSteps := 2000000) (disch := first | with_reducible assumption | omega | (simp only [zS, zA, seval, wy, wwh, wfb, wob, zD] <;> omega) | fail) only [zS, argl, insA, Go.Den.wh, wo, wu, looks, wbb, wab, idOf, riA, seval, Go.Den.wm, kK, wz, wy, wfb, wob, wff wij, wrh wij, wmi, wwh, *, zT]) | (with_reducible (first | apply z1 | apply z2 | apply z3 | apply z4) <;> intro hq <;> (try simp only [zH] at hq) <;> (try (exfalso; omega))) | (with_reducible apply z5; (case hl => (repeat (first | exact .nil | with_reducible apply z6 | with_reducible apply z7))); (case h => kernel_rfl))))
theorem on_all (hs : s.length ≤ 12) (hmn : 0 ≤ mn ∧ mn ≤ 20) (hmx : mx ≤ 20) (w : St → List St) (a : Int) (hk : KidOk s bol kids w) : ∀ k, OnC s bol mn mx nn set kids w a k ∧ OnN s bol mn mx nn set kids w a k := by
  intro k
  induction k with
  | zero => exact ⟨fun n x met out _ _ _ _ h => absurd h (Nat.not_lt_zero _), fun n x met _ _ _ _ h => absurd h (Nat.not_lt_zero _)⟩
  | succ k ih => exact ⟨ev_on_C s bol mn mx nn set kids hs hmn hmx w a hk k ih.1, ev_on_N s bol mn mx nn set kids hs hmn hmx w a hk k ih.1 ih.2⟩
end
end
end Go.Proofs.Ytjihbfdbgamcdaa
namespace Go.Proofs.Ytjihbfdbgamcdaa
set_option linter.unusedVariables false
set_option linter.unusedSimpArgs false
open Go.Den
noncomputable section
section
variable (s : List UInt8) (bol : Bool)
def grpF (n : Int) (x y : St) : St := (y.1, (y.2.put (n.toNat * 2) x.1).put (n.toNat * 2 + 1) y.1)
abbrev gfN (r : Rx) (x : St) : List ABlk := [X (rxC r) 46 0 true, X (stC x) 81 0 true, X [.slice none 0 0, .map (some 3)] 173 0 false, .map []]
abbrev gfC (r : Rx) (x : St) (out : List St) : List ABlk := [X (rxC r) 46 0 true, X (stC x) 81 0 true, X [FO 3 out.length (stsC out), .map (some 4)] 173 0 false, .tok out.length 81 9, .map (setK stC out)]
set_option maxHeartbeats 4000000 in
theorem wkec (hs : s.length ≤ 12) (r : Rx) (n1 : 1 ≤ r.n) (n3 : r.n ≤ 3) (x : St) (hx : GdS s.length x) (l : List St) (hll : l.length ≤ 16000000) (hl : ∀ y ∈ l, GdS s.length y ∧ x.1 ≤ y.1) :
    ∀ (j i : Nat) (out : List St), i + j = l.length → out ≠ [] → RwS s.length x.1 out →
    lim Try.prog cfg (.loop 67 0 (wzb 0) (SE (EJ 158 G0) [(82, .int .i64 i), (81, .int .i64 l.length), (80, FL l.length (stsC l)), (8, .pointer (some ⟨2, 0, none⟩)), (5, .pointer (some ⟨1, 0, none⟩)), (4, .pointer (some ⟨0, 0, none⟩))])) (HP (gfC r x out)) = some (.code (.exit 1) (SE (EJ 158 G0) [(8, .pointer (some ⟨0, 0, none⟩))]), HP (rowC (wzu (fun y => [grpF r.n x y]) (l.drop i) out))) := by
  intro j
  induction j with
  | zero =>
    intro i out hi ho hr
    rw [List.drop_of_length_le (by omega)]
    refine wcb wgh ?_
    unfold wfh
    clear hl
    (repeat' (first | (simp -implicitDefEqProofs (maxSteps := 2000000) (disch := first | with_reducible assumption | omega | (simp only [zS, zA, seval, wy, zD] <;> omega) | fail) only [zS, argl, insA, Go.Den.wh, wo, wu, looks, wbb, wab, idOf, riA, seval, Go.Den.wm, kK, wig, wy, *, zT]) | (with_reducible (first | apply z1 | apply z2 | apply z3 | apply z4) <;> intro hq <;> (try simp only [zH] at hq) <;> (try (exfalso; omega)))))
    all_goals rfl
  | succ j ih =>
    intro i out hi ho hr
    rw [wuj l (by omega), waw]
    have hy := hl (l.getD i St.zero) (by rw [List.getD_eq_getElem?_getD, List.getElem?_eq_getElem (by omega)]; exact List.getElem_mem _)
    have h3 : RwS s.length x.1 (addF out [grpF r.n x (l.getD i St.zero)]) := hr.add (fun z hz => by rw [List.mem_singleton] at hz; subst hz; exact ⟨hx.group hy.1 hy.2 n1 n3, hy.2⟩)
    have hadd := wxr out [grpF r.n x (l.getD i St.zero)] ho (by simp) (by have := row_len h3 hs; omega)
    have h2 := ih (i + 1) _ (by omega) (wdk (.inl ho)) h3
    rw [wri, show [grpF r.n x (l.getD i St.zero)].length = 1 from rfl, show stC (grpF r.n x (l.getD i St.zero)) = .int .i64 (l.getD i St.zero).1 :: mtC (((l.getD i St.zero).2.put (r.n.toNat * 2) x.1).put (r.n.toNat * 2 + 1) (l.getD i St.zero).1) from rfl] at hadd
    refine wcb wgh ?_
    unfold wfh
    clear ih hl h3 hr hy
    (repeat' (first | (simp -implicitDefEqProofs (maxSteps := 2000000) (disch := first | with_reducible assumption | omega | (simp only [zS, zA, seval, wy, wfb, zD] <;> omega) | fail) only [zS, argl, insA, Go.Den.wh, wo, wu, looks, wbb, wab, idOf, riA, seval, Go.Den.wm, kK, wig, wy, wfb, *, zT]) | (with_reducible (first | apply z1 | apply z2 | apply z3 | apply z4) <;> intro hq <;> (try simp only [zH] at hq) <;> (try (exfalso; omega)))))
    exact h2
set_option maxHeartbeats 4000000 in
theorem wlec (hs : s.length ≤ 12) (r : Rx) (n1 : 1 ≤ r.n) (n3 : r.n ≤ 3) (x : St) (hx : GdS s.length x) (l : List St) (hll : l.length ≤ 16000000) (hl : ∀ y ∈ l, GdS s.length y ∧ x.1 ≤ y.1) :
    lim Try.prog cfg (.loop 67 0 (wzb 0) (SE (EJ 158 G0) [(82, .int .i64 0), (81, .int .i64 l.length), (80, FL l.length (stsC l)), (8, .pointer (some ⟨2, 0, none⟩)), (5, .pointer (some ⟨1, 0, none⟩)), (4, .pointer (some ⟨0, 0, none⟩))])) (HP (gfN r x)) = some (.code (.exit 1) (SE (EJ 158 G0) [(8, .pointer (some ⟨0, 0, none⟩))]), HP (rowO (wzu (fun y => [grpF r.n x y]) l []))) := by
  by_cases h0 : l = []
  · subst h0
    clear hl
    refine wcb wgh ?_
    unfold wfh
    (repeat' (first | (simp -implicitDefEqProofs (maxSteps := 2000000) (disch := first | with_reducible assumption | omega | (simp only [zS, zA, seval, wy, zD] <;> omega) | fail) only [zS, argl, insA, Go.Den.wh, wo, wu, looks, wbb, wab, idOf, riA, seval, Go.Den.wm, kK, wig, wy, *, zT]) | (with_reducible (first | apply z1 | apply z2 | apply z3 | apply z4) <;> intro hq <;> (try simp only [zH] at hq) <;> (try (exfalso; omega)))))
    all_goals rfl
  · have h00 : 0 < l.length := List.length_pos_iff.2 h0
    have hd := wuj l h00
    rw [List.drop_zero] at hd
    have hy := hl (l.getD 0 St.zero) (by rw [List.getD_eq_getElem?_getD, List.getElem?_eq_getElem (by omega)]; exact List.getElem_mem _)
    have h3 : RwS s.length x.1 (addF [] [grpF r.n x (l.getD 0 St.zero)]) := RwS.nil.add (fun z hz => by rw [List.mem_singleton] at hz; subst hz; exact ⟨hx.group hy.1 hy.2 n1 n3, hy.2⟩)
    have hadd := wyu [grpF r.n x (l.getD 0 St.zero)] (by simp) (by simp) (by have := row_len h3 hs; omega)
    have h2 := wkec s hs r n1 n3 x hx l hll hl (l.length - 1) 1 (addF [] [grpF r.n x (l.getD 0 St.zero)]) (by omega) (wdk (.inr (by simp))) h3
    have he : wzu (fun y => [grpF r.n x y]) l [] = wzu (fun y => [grpF r.n x y]) (l.drop 1) (addF [] [grpF r.n x (l.getD 0 St.zero)]) := by
      conv => lhs; rw [hd]
      rfl
    rw [he, rowO, if_neg (wgpb _ _ _ (wdk (.inr (by simp))))]
    rw [wri, show [grpF r.n x (l.getD 0 St.zero)].length = 1 from rfl, show stC (grpF r.n x (l.getD 0 St.zero)) = .int .i64 (l.getD 0 St.zero).1 :: mtC (((l.getD 0 St.zero).2.put (r.n.toNat * 2) x.1).put (r.n.toNat * 2 + 1) (l.getD 0 St.zero).1) from rfl] at hadd
    have hg := wkm (l := l) (i := 0) h00
    rw [Nat.zero_mul] at hg
    refine wcb wgh ?_
    unfold wfh
    clear hl h3 hy he hd
    (repeat' (first | (simp -implicitDefEqProofs (maxSteps := 2000000) (disch := first | with_reducible assumption | omega | (simp only [zS, zA, seval, wy, wfb, zD] <;> omega) | fail) only [zS, argl, insA, Go.Den.wh, wo, wu, looks, wbb, wab, idOf, riA, seval, Go.Den.wm, kK, wig, wy, wfb, *, zT]) | (with_reducible (first | apply z1 | apply z2 | apply z3 | apply z4) <;> intro hq <;> (try simp only [zH] at hq) <;> (try (exfalso; omega)))))
    exact h2
def wqib (kids : List Rx) : Prop := ∀ r ∈ kids, ∀ y, GdS s.length y → RwS s.length y.1 (wti s bol r y) ∧ lim Try.prog cfg (.call 67 [.agg ⟨[str s, .bool bol]⟩, .agg ⟨rxC r⟩, .agg ⟨stC y⟩]) (HP []) = some (.val (FL (wti s bol r y).length (stsC (wti s bol r y))), HP [])
theorem wveb (kids : List Rx) {i : Nat} (h : i < kids.length) : kids.drop i = kids.getD i Rx.zero :: kids.drop (i + 1) := by
  rw [List.drop_eq_getElem_cons h, List.getD_eq_getElem?_getD, List.getElem?_eq_getElem h]; rfl
theorem wzmb (kids : List Rx) {i : Nat} (h : i < kids.length) : kids.getD i Rx.zero ∈ kids := by
  rw [List.getD_eq_getElem?_getD, List.getElem?_eq_getElem h]; exact List.getElem_mem _
abbrev afN (x : St) : List ABlk := [X [str s, .bool bol] 129 0 true, X (stC x) 81 0 true, X [.slice none 0 0, .map (some 3)] 173 0 false, .map []]
abbrev afC (x : St) (out : List St) : List ABlk := [X [str s, .bool bol] 129 0 true, X (stC x) 81 0 true, X [FO 3 out.length (stsC out), .map (some 4)] 173 0 false, .tok out.length 81 9, .map (setK stC out)]
theorem altF_ne {x : St} : ∀ (l : List Rx) (out : List St), out ≠ [] → altF s bol l x out ≠ [] := by
  intro l
  induction l with
  | nil => intro out h; rw [altF]; exact h
  | cons r l ih => intro out h; rw [altF]; exact ih _ (wdk (.inl h))
set_option maxHeartbeats 4000000 in
theorem wmec (hs : s.length ≤ 12) (x : St) (hx : GdS s.length x) (kids : List Rx) (hll : kids.length ≤ 16000000) (hk : wqib s bol kids) :
    ∀ (j i : Nat) (out : List St), i + j = kids.length → out ≠ [] → RwS s.length x.1 out →
    lim Try.prog cfg (.loop 67 0 (wzb 1) (SE (EJ 158 G0) [(110, .int .i64 i), (109, .int .i64 kids.length), (108, FL kids.length (rxsC kids)), (11, .pointer (some ⟨2, 0, none⟩)), (5, .pointer (some ⟨1, 0, none⟩)), (3, .pointer (some ⟨0, 0, none⟩))])) (HP (afC s bol x out)) = some (.code (.exit 3) (SE (EJ 158 G0) [(11, .pointer (some ⟨0, 0, none⟩))]), HP (rowC (altF s bol (kids.drop i) x out))) := by
  intro j
  induction j with
  | zero =>
    intro i out hi ho hr
    rw [List.drop_of_length_le (by omega), altF]
    refine wcb wqf ?_
    unfold wgg
    clear hk
    (repeat' (first | (simp -implicitDefEqProofs (maxSteps := 2000000) (disch := first | with_reducible assumption | omega | (simp only [zS, zA, seval, wy, zD] <;> omega) | fail) only [zS, argl, insA, Go.Den.wh, wo, wu, looks, wbb, wab, idOf, riA, seval, Go.Den.wm, kK, wgf, wy, *, zT]) | (with_reducible (first | apply z1 | apply z2 | apply z3 | apply z4) <;> intro hq <;> (try simp only [zH] at hq) <;> (try (exfalso; omega)))))
  | succ j ih =>
    intro i out hi ho hr
    rw [wveb kids (by omega), altF]
    have ⟨h1, h4⟩ := hk _ (wzmb kids (show i < kids.length by omega)) x hx
    have h3 := hr.add h1.good
    have h5 := row_len h1 hs
    have hadd := wxr out (wti s bol (kids.getD i Rx.zero) x) ho (by omega) (by have := row_len h3 hs; omega)
    have h2 := ih (i + 1) _ (by omega) (wdk (.inl ho)) h3
    refine wcb wqf ?_
    unfold wgg
    clear ih hk h3 h1 hr
    (repeat' (first | (simp -implicitDefEqProofs (maxSteps := 2000000) (disch := first | with_reducible assumption | omega | (simp only [zS, zA, seval, wy, wfb, zD] <;> omega) | fail) only [zS, argl, insA, Go.Den.wh, wo, wu, looks, wbb, wab, idOf, riA, seval, Go.Den.wm, kK, wgf, wy, wfb, *, zT]) | (with_reducible (first | apply z1 | apply z2 | apply z3 | apply z4) <;> intro hq <;> (try simp only [zH] at hq) <;> (try (exfalso; omega)))))
    exact h2
set_option maxHeartbeats 4000000 in
theorem wnec (hs : s.length ≤ 12) (x : St) (hx : GdS s.length x) (kids : List Rx) (hll : kids.length ≤ 16000000) (hk : wqib s bol kids) :
    ∀ (j i : Nat), i + j = kids.length →
    lim Try.prog cfg (.loop 67 0 (wzb 1) (SE (EJ 158 G0) [(110, .int .i64 i), (109, .int .i64 kids.length), (108, FL kids.length (rxsC kids)), (11, .pointer (some ⟨2, 0, none⟩)), (5, .pointer (some ⟨1, 0, none⟩)), (3, .pointer (some ⟨0, 0, none⟩))])) (HP (afN s bol x)) = some (.code (.exit 3) (SE (EJ 158 G0) [(11, .pointer (some ⟨0, 0, none⟩))]), HP (rowO (altF s bol (kids.drop i) x []))) := by
  intro j
  induction j with
  | zero =>
    intro i hi
    rw [List.drop_of_length_le (by omega), altF]
    refine wcb wqf ?_
    unfold wgg
    clear hk
    (repeat' (first | (simp -implicitDefEqProofs (maxSteps := 2000000) (disch := first | with_reducible assumption | omega | (simp only [zS, zA, seval, wy, zD] <;> omega) | fail) only [zS, argl, insA, Go.Den.wh, wo, wu, looks, wbb, wab, idOf, riA, seval, Go.Den.wm, kK, wgf, wy, *, zT]) | (with_reducible (first | apply z1 | apply z2 | apply z3 | apply z4) <;> intro hq <;> (try simp only [zH] at hq) <;> (try (exfalso; omega)))))
    all_goals rfl
  | succ j ih =>
    intro i hi
    rw [wveb kids (by omega), altF]
    have ⟨h1, h4⟩ := hk _ (wzmb kids (show i < kids.length by omega)) x hx
    have h3 := (RwS.nil (len := s.length) (a := x.1)).add h1.good
    have h5 := row_len h1 hs
    by_cases hz : wti s bol (kids.getD i Rx.zero) x = []
    · have h2 := ih (i + 1) (by omega)
      rw [hz] at h4 ⊢
      rw [List.length_nil, wneb] at h4
      refine wcb wqf ?_
      unfold wgg
      clear ih hk h3 h1 h5 hz
      (repeat' (first | (simp -implicitDefEqProofs (maxSteps := 2000000) (disch := first | with_reducible assumption | omega | (simp only [zS, zA, seval, wy, wfb, zD] <;> omega) | fail) only [zS, argl, insA, Go.Den.wh, wo, wu, looks, wbb, wab, idOf, riA, seval, Go.Den.wm, kK, wgf, wy, wfb, wfpb, *, zT]) | (with_reducible (first | apply z1 | apply z2 | apply z3 | apply z4) <;> intro hq <;> (try simp only [zH] at hq) <;> (try (exfalso; omega)))))
      exact h2
    · have hadd := wyu (wti s bol (kids.getD i Rx.zero) x) hz (by omega) (by have := row_len h3 hs; omega)
      have h2 := wmec s bol hs x hx kids hll hk j (i + 1) (addF [] (wti s bol (kids.getD i Rx.zero) x)) (by omega) (wdk (.inr hz)) h3
      rw [rowO, if_neg (altF_ne s bol _ _ (wdk (.inr hz)))]
      refine wcb wqf ?_
      unfold wgg
      clear ih hk h3 h1
      (repeat' (first | (simp -implicitDefEqProofs (maxSteps := 2000000) (disch := first | with_reducible assumption | omega | (simp only [zS, zA, seval, wy, wfb, zD] <;> omega) | fail) only [zS, argl, insA, Go.Den.wh, wo, wu, looks, wbb, wab, idOf, riA, seval, Go.Den.wm, kK, wgf, wy, wfb, *, zT]) | (with_reducible (first | apply z1 | apply z2 | apply z3 | apply z4) <;> intro hq <;> (try simp only [zH] at hq) <;> (try (exfalso; omega)))))
      exact h2
set_option maxHeartbeats 4000000 in
theorem cat_loop (hs : s.length ≤ 12) (a : Int) (kids : List Rx) (hll : kids.length ≤ 16000000) (hk : wqib s bol kids) :
    ∀ (j i : Nat) (l : List St), i + j = kids.length → RwS s.length a l →
    lim Try.prog cfg (.loop 67 0 (wzb 2) (SE (EJ 158 G0) [(130, .int .i64 i), (129, .int .i64 kids.length), (128, FL kids.length (rxsC kids)), (7, FL l.length (stsC l)), (3, .pointer (some ⟨0, 0, none⟩))])) (HP [X [str s, .bool bol] 129 0 true]) = some (.code (.exit 5) (SE (EJ 158 G0) [(7, FL (catF s bol (kids.drop i) l).length (stsC (catF s bol (kids.drop i) l)))]), HP []) := by
  intro j
  induction j with
  | zero =>
    intro i l hi hr
    rw [List.drop_of_length_le (by omega), catF]
    refine wcb wih ?_
    unfold whh
    clear hk
    (repeat' (first | (simp -implicitDefEqProofs (maxSteps := 2000000) (disch := first | with_reducible assumption | omega | (simp only [zS, zA, seval, wy, zD] <;> omega) | fail) only [zS, argl, insA, Go.Den.wh, wo, wu, looks, wbb, wab, idOf, riA, seval, Go.Den.wm, kK, wjg, wy, *, zT]) | (with_reducible (first | apply z1 | apply z2 | apply z3 | apply z4) <;> intro hq <;> (try simp only [zH] at hq) <;> (try (exfalso; omega)))))
  | succ j ih =>
    intro i l hi hr
    rw [wveb kids (by omega), catF]
    have hw := hk _ (wzmb kids (show i < kids.length by omega))
    have hf := wgec s hs bol (kids.getD i Rx.zero) (fun y => wti s bol (kids.getD i Rx.zero) y) a l (by have := row_len hr hs; omega) hr.good hw
    have h3 : RwS s.length a (wymb (fun y => wti s bol (kids.getD i Rx.zero) y) l) := by
      refine RwS.fold _ l (fun z hz y hy => ?_) [] .nil
      have h1 := hr.good z hz
      have h2 := (hw z h1.1).1.good y hy
      exact ⟨h2.1, by omega⟩
    have h2 := ih (i + 1) _ (by omega) h3
    generalize wymb (fun y => wti s bol (kids.getD i Rx.zero) y) l = l2 at hf h2 ⊢
    refine wcb wih ?_
    unfold whh
    clear ih hk hw h3
    (repeat' (first | (simp -implicitDefEqProofs (maxSteps := 2000000) (disch := first | with_reducible assumption | omega | (simp only [zS, zA, seval, wy, wfb, zD] <;> omega) | fail) only [zS, argl, insA, Go.Den.wh, wo, wu, looks, wbb, wab, idOf, riA, seval, Go.Den.wm, kK, wjg, wy, wfb, *, zT]) | (with_reducible (first | apply z1 | apply z2 | apply z3 | apply z4) <;> intro hq <;> (try simp only [zH] at hq) <;> (try (exfalso; omega)))))
    exact h2
end
end
end Go.Proofs.Ytjihbfdbgamcdaa
namespace Go.Proofs.Ytjihbfdbgamcdaa
set_option linter.unusedVariables false
set_option linter.unusedSimpArgs false
open Go.Den
noncomputable section
theorem wanb (n : Int) (x : St) (l : List St) : groupW n x l = wzu (fun y => [grpF n x y]) l [] := rfl
section
variable (s : List UInt8) (bol : Bool)
def woec (r : Rx) : Prop := ∀ y, GdS s.length y → lim Try.prog cfg (.call 67 [.agg ⟨[str s, .bool bol]⟩, .agg ⟨rxC r⟩, .agg ⟨stC y⟩]) (HP []) = some (.val (FL (wti s bol r y).length (stsC (wti s bol r y))), HP [])
set_option maxHeartbeats 8000000 in
theorem wpec (hs : s.length ≤ 12) (k mn mx n : Int) (set : BitVec 256) (kids : List Rx) (hlen : kids.length ≤ 16000000) (hok : okR (.mk k mn mx n set kids) = true) (ih : wqib s bol kids) : woec s bol (.mk k mn mx n set kids) := by
  intro x hx
  have hlo := hx.lo
  have hhi := hx.hi
  have hrow := wseb (s := s) rfl (bol := bol) _ hok x hx
  refine wub hc wbt (Nat.le_of_ble_eq_true rfl) (Nat.le_of_ble_eq_true rfl) ?_
  unfold wjp
  rw [wti] at hrow ⊢
  rw [okR, Bool.and_eq_true] at hok
  have hok1 := hok.1
  clear hok
  by_cases h1 : k = 1
  · rw [if_pos h1]
    subst h1
    clear ih hrow hok1
    by_cases hx1 : x.1 < s.length
    · have hhas := ev_Has set ((s.getD x.1.toNat 0).toNat) (by have := (s.getD x.1.toNat 0).toNat_lt; omega)
      by_cases hb : set.getLsbD (s.getD x.1.toNat 0).toNat = true
      · rw [if_pos ⟨hx1, hb⟩]
        rw [hb] at hhas
        (repeat' (first | (simp -implicitDefEqProofs (maxSteps := 2000000) (disch := first | with_reducible assumption | omega | (simp only [zS, zA, seval, wxi, zD] <;> omega) | fail) only [zS, argl, insA, Go.Den.wh, wo, wu, looks, wbb, wab, idOf, riA, seval, Go.Den.wm, kK, *, zT]) | (with_reducible (first | apply z1 | apply z2 | apply z3 | apply z4) <;> intro hq <;> (try simp only [zH] at hq) <;> (try (exfalso; omega))) | (with_reducible apply z5; (case hl => (repeat (first | exact .nil | with_reducible apply z6 | with_reducible apply z7))); (case h => kernel_rfl))))
      · rw [if_neg (fun h => hb h.2)]
        have hb2 : set.getLsbD (s.getD x.1.toNat 0).toNat = false := by simpa using hb
        rw [hb2] at hhas
        clear hb
        (repeat' (first | (simp -implicitDefEqProofs (maxSteps := 2000000) (disch := first | with_reducible assumption | omega | (simp only [zS, zA, seval, zD] <;> omega) | fail) only [zS, argl, insA, Go.Den.wh, wo, wu, looks, wbb, wab, idOf, riA, seval, Go.Den.wm, kK, *, zT]) | (with_reducible (first | apply z1 | apply z2 | apply z3 | apply z4) <;> intro hq <;> (try simp only [zH] at hq) <;> (try (exfalso; omega))) | (with_reducible apply z5; (case hl => (repeat (first | exact .nil | with_reducible apply z6 | with_reducible apply z7))); (case h => kernel_rfl))))
    · rw [if_neg (fun h => hx1 h.1)]
      (repeat' (first | (simp -implicitDefEqProofs (maxSteps := 2000000) (disch := first | with_reducible assumption | omega | (simp only [zS, zA, seval, zD] <;> omega) | fail) only [zS, argl, insA, Go.Den.wh, wo, wu, looks, wbb, wab, idOf, riA, seval, Go.Den.wm, kK, *, zT]) | (with_reducible (first | apply z1 | apply z2 | apply z3 | apply z4) <;> intro hq <;> (try simp only [zH] at hq) <;> (try (exfalso; omega))) | (with_reducible apply z5; (case hl => (repeat (first | exact .nil | with_reducible apply z6 | with_reducible apply z7))); (case h => kernel_rfl))))
  rw [if_neg h1] at hrow ⊢
  by_cases h7 : k = 7
  · rw [if_pos h7]
    subst h7
    clear ih hrow hok1
    by_cases hx1 : x.1 = 0
    · cases bol with
      | true =>
        rw [if_pos ⟨hx1, rfl⟩]
        (repeat' (first | (simp -implicitDefEqProofs (maxSteps := 2000000) (disch := first | with_reducible assumption | omega | (simp only [zS, zA, seval, st_fz, zD] <;> omega) | fail) only [zS, argl, insA, Go.Den.wh, wo, wu, looks, wbb, wab, idOf, riA, seval, Go.Den.wm, kK, wy, *, zT]) | (with_reducible (first | apply z1 | apply z2 | apply z3 | apply z4) <;> intro hq <;> (try simp only [zH] at hq) <;> (try (exfalso; omega))) | (with_reducible apply z5; (case hl => (repeat (first | exact .nil | with_reducible apply z6 | with_reducible apply z7))); (case h => kernel_rfl))))
      | false =>
        rw [if_neg (fun h => by cases h.2)]
        (repeat' (first | (simp -implicitDefEqProofs (maxSteps := 2000000) (disch := first | with_reducible assumption | omega | (simp only [zS, zA, seval, zD] <;> omega) | fail) only [zS, argl, insA, Go.Den.wh, wo, wu, looks, wbb, wab, idOf, riA, seval, Go.Den.wm, kK, *, zT]) | (with_reducible (first | apply z1 | apply z2 | apply z3 | apply z4) <;> intro hq <;> (try simp only [zH] at hq) <;> (try (exfalso; omega))) | (with_reducible apply z5; (case hl => (repeat (first | exact .nil | with_reducible apply z6 | with_reducible apply z7))); (case h => kernel_rfl))))
    · rw [if_neg (fun h => hx1 h.1)]
      (repeat' (first | (simp -implicitDefEqProofs (maxSteps := 2000000) (disch := first | with_reducible assumption | omega | (simp only [zS, zA, seval, zD] <;> omega) | fail) only [zS, argl, insA, Go.Den.wh, wo, wu, looks, wbb, wab, idOf, riA, seval, Go.Den.wm, kK, *, zT]) | (with_reducible (first | apply z1 | apply z2 | apply z3 | apply z4) <;> intro hq <;> (try simp only [zH] at hq) <;> (try (exfalso; omega))) | (with_reducible apply z5; (case hl => (repeat (first | exact .nil | with_reducible apply z6 | with_reducible apply z7))); (case h => kernel_rfl))))
  rw [if_neg h7] at hrow ⊢
  by_cases h8 : k = 8
  · rw [if_pos h8]
    subst h8
    clear ih hrow hok1
    by_cases hx1 : x.1 = s.length
    · rw [if_pos hx1]
      (repeat' (first | (simp -implicitDefEqProofs (maxSteps := 2000000) (disch := first | with_reducible assumption | omega | (simp only [zS, zA, seval, st_fz, zD] <;> omega) | fail) only [zS, argl, insA, Go.Den.wh, wo, wu, looks, wbb, wab, idOf, riA, seval, Go.Den.wm, kK, *, zT]) | (with_reducible (first | apply z1 | apply z2 | apply z3 | apply z4) <;> intro hq <;> (try simp only [zH] at hq) <;> (try (exfalso; omega))) | (with_reducible apply z5; (case hl => (repeat (first | exact .nil | with_reducible apply z6 | with_reducible apply z7))); (case h => kernel_rfl))))
    · rw [if_neg hx1]
      (repeat' (first | (simp -implicitDefEqProofs (maxSteps := 2000000) (disch := first | with_reducible assumption | omega | (simp only [zS, zA, seval, zD] <;> omega) | fail) only [zS, argl, insA, Go.Den.wh, wo, wu, looks, wbb, wab, idOf, riA, seval, Go.Den.wm, kK, *, zT]) | (with_reducible (first | apply z1 | apply z2 | apply z3 | apply z4) <;> intro hq <;> (try simp only [zH] at hq) <;> (try (exfalso; omega))) | (with_reducible apply z5; (case hl => (repeat (first | exact .nil | with_reducible apply z6 | with_reducible apply z7))); (case h => kernel_rfl))))
  rw [if_neg h8] at hrow ⊢
  by_cases h6 : k = 6
  · rw [if_pos h6]
    rw [if_neg (by omega), if_neg (by omega), if_pos h6] at hok1
    simp only [Bool.and_eq_true, decide_eq_true_eq] at hok1
    subst h6
    clear ih hrow
    have hb := ev_back s (by omega) bol n hok1.1 hok1.2 x hx
    (repeat' (first | (simp -implicitDefEqProofs (maxSteps := 2000000) (disch := first | with_reducible assumption | omega | (simp only [zS, zA, seval, zD] <;> omega) | fail) only [zS, argl, insA, Go.Den.wh, wo, wu, looks, wbb, wab, idOf, riA, seval, Go.Den.wm, kK, *, zT]) | (with_reducible (first | apply z1 | apply z2 | apply z3 | apply z4) <;> intro hq <;> (try simp only [zH] at hq) <;> (try (exfalso; omega))) | (with_reducible apply z5; (case hl => (repeat (first | exact .nil | with_reducible apply z6 | with_reducible apply z7))); (case h => kernel_rfl))))
  rw [if_neg h6] at hrow ⊢
  by_cases h5 : k = 5
  · rw [if_pos h5] at hrow ⊢
    rw [if_pos h5] at hok1
    simp only [Bool.and_eq_true, decide_eq_true_eq] at hok1
    subst h5
    cases kids with
    | nil => exact absurd rfl hok1.1
    | cons kid rest =>
      rw [kidF, wanb]
      have ⟨r1, r2⟩ := ih kid (List.mem_cons_self ..) x hx
      have r3 := row_len r1 hs
      have hl := wlec s hs (.mk 5 mn mx n set (kid :: rest)) hok1.2.1 hok1.2.2 x hx (wti s bol kid x) (by omega) r1.good
      have hk : slotsOf (rxsC (kid :: rest)) 0 9 = rxC kid := by
        have := wvu (l := kid :: rest) (i := 0) (by simp)
        rwa [Nat.zero_mul] at this
      rw [rx_n] at hl
      clear ih r1 hrow
      generalize wzu (fun y => [grpF n x y]) (wti s bol kid x) [] = out at hl ⊢
      by_cases ho : out = []
      · subst ho
        rw [rowO, if_pos rfl] at hl
        (repeat' (first | (simp -implicitDefEqProofs (maxSteps := 2000000) (disch := first | with_reducible assumption | omega | (simp only [zS, zA, seval, wy, wfb, zD] <;> omega) | fail) only [zS, argl, insA, Go.Den.wh, wo, wu, looks, wbb, wab, idOf, riA, seval, Go.Den.wm, kK, wig, wy, wfb, wtl, *, zT]) | (with_reducible (first | apply z1 | apply z2 | apply z3 | apply z4) <;> intro hq <;> (try simp only [zH] at hq) <;> (try (exfalso; omega))) | (with_reducible apply z5; (case hl => (repeat (first | exact .nil | with_reducible apply z6 | with_reducible apply z7))); (case h => kernel_rfl))))
      · rw [rowO, if_neg ho] at hl
        (repeat' (first | (simp -implicitDefEqProofs (maxSteps := 2000000) (disch := first | with_reducible assumption | omega | (simp only [zS, zA, seval, wy, wfb, zD] <;> omega) | fail) only [zS, argl, insA, Go.Den.wh, wo, wu, looks, wbb, wab, idOf, riA, seval, Go.Den.wm, kK, wig, wy, wfb, wtl, *, zT]) | (with_reducible (first | apply z1 | apply z2 | apply z3 | apply z4) <;> intro hq <;> (try simp only [zH] at hq) <;> (try (exfalso; omega))) | (with_reducible apply z5; (case hl => (repeat (first | exact .nil | with_reducible apply z6 | with_reducible apply z7))); (case h => kernel_rfl))))
  rw [if_neg h5] at hrow ⊢
  by_cases h3 : k = 3
  · rw [if_pos h3]
    subst h3
    have hl := wnec s bol hs x hx kids hlen ih kids.length 0 (by omega)
    rw [List.drop_zero, show ((0 : Nat) : Int) = 0 from rfl] at hl
    clear ih hrow hok1
    generalize altF s bol kids x [] = out at hl ⊢
    by_cases ho : out = []
    · subst ho
      rw [rowO, if_pos rfl] at hl
      (repeat' (first | (simp -implicitDefEqProofs (maxSteps := 2000000) (disch := first | with_reducible assumption | omega | (simp only [zS, zA, seval, wy, wfb, zD] <;> omega) | fail) only [zS, argl, insA, Go.Den.wh, wo, wu, looks, wbb, wab, idOf, riA, seval, Go.Den.wm, kK, wgf, wy, wfb, wtl, *, zT]) | (with_reducible (first | apply z1 | apply z2 | apply z3 | apply z4) <;> intro hq <;> (try simp only [zH] at hq) <;> (try (exfalso; omega))) | (with_reducible apply z5; (case hl => (repeat (first | exact .nil | with_reducible apply z6 | with_reducible apply z7))); (case h => kernel_rfl))))
    · rw [rowO, if_neg ho] at hl
      (repeat' (first | (simp -implicitDefEqProofs (maxSteps := 2000000) (disch := first | with_reducible assumption | omega | (simp only [zS, zA, seval, wy, wfb, zD] <;> omega) | fail) only [zS, argl, insA, Go.Den.wh, wo, wu, looks, wbb, wab, idOf, riA, seval, Go.Den.wm, kK, wgf, wy, wfb, wtl, *, zT]) | (with_reducible (first | apply z1 | apply z2 | apply z3 | apply z4) <;> intro hq <;> (try simp only [zH] at hq) <;> (try (exfalso; omega))) | (with_reducible apply z5; (case hl => (repeat (first | exact .nil | with_reducible apply z6 | with_reducible apply z7))); (case h => kernel_rfl))))
  rw [if_neg h3] at hrow ⊢
  by_cases h2 : k = 2
  · rw [if_pos h2]
    subst h2
    cases kids with
    | nil =>
      rw [catF]
      have hl : lim Try.prog cfg (.loop 67 0 (wzb 2) (SE (EJ 158 G0) [(130, .int .i64 0), (129, .int .i64 0), (128, FL 0 []), (7, .slice (some ⟨1, 0, none⟩) 1 2), (3, .pointer (some ⟨0, 0, none⟩))])) (HP [X [str s, .bool bol] 129 0 true, X (stC x) 81 0 true]) = some (.code (.exit 5) (SE (EJ 158 G0) [(7, .slice (some ⟨0, 0, none⟩) 1 2)]), HP [X (stC x) 81 0 true]) := by
        refine wcb wih ?_
        unfold whh
        clear ih hrow
        (repeat' (first | (simp -implicitDefEqProofs (maxSteps := 2000000) (disch := first | with_reducible assumption | omega | (simp only [zS, zA, seval, zD] <;> omega) | fail) only [zS, argl, insA, Go.Den.wh, wo, wu, looks, wbb, wab, idOf, riA, seval, Go.Den.wm, kK, wjg, *, zT]) | (with_reducible (first | apply z1 | apply z2 | apply z3 | apply z4) <;> intro hq <;> (try simp only [zH] at hq) <;> (try (exfalso; omega))) | (with_reducible apply z5; (case hl => (repeat (first | exact .nil | with_reducible apply z6 | with_reducible apply z7))); (case h => kernel_rfl))))
      clear ih hrow hok1
      (repeat' (first | (simp -implicitDefEqProofs (maxSteps := 2000000) (disch := first | with_reducible assumption | omega | (simp only [zS, zA, seval, zD] <;> omega) | fail) only [zS, argl, insA, Go.Den.wh, wo, wu, looks, wbb, wab, idOf, riA, seval, Go.Den.wm, kK, wjg, rxsC, Int.natCast_zero, *, zT]) | (with_reducible (first | apply z1 | apply z2 | apply z3 | apply z4) <;> intro hq <;> (try simp only [zH] at hq) <;> (try (exfalso; omega))) | (with_reducible apply z5; (case hl => (repeat (first | exact .nil | with_reducible apply z6 | with_reducible apply z7))); (case h => kernel_rfl))))
    | cons kid rest =>
      rw [catF]
      have hw := ih kid (List.mem_cons_self ..)
      have hf := wgec s hs bol kid (fun y => wti s bol kid y) x.1 [x] (by simp) (fun y hy => by rw [List.mem_singleton] at hy; subst hy; exact ⟨hx, Int.le_refl _⟩) hw
      have hr : RwS s.length x.1 (wymb (fun y => wti s bol kid y) [x]) := by
        refine RwS.fold _ [x] (fun z hz y hy => ?_) [] .nil
        rw [List.mem_singleton] at hz
        subst hz
        exact (hw z hx).1.good y hy
      have hl := cat_loop s bol hs x.1 (kid :: rest) hlen ih rest.length 1 _ (by simp; omega) hr
      rw [show (kid :: rest).drop 1 = rest from rfl, show ((1 : Nat) : Int) = 1 from rfl] at hl
      rw [wri, show [x].length = 1 from rfl] at hf
      have hk : slotsOf (rxsC (kid :: rest)) 0 9 = rxC kid := by
        have := wvu (l := kid :: rest) (i := 0) (by simp)
        rwa [Nat.zero_mul] at this
      have hkl : 0 < (kid :: rest).length := by simp
      have hkc : 9 ≤ (rxsC (kid :: rest)).length := by rw [woeb, List.length_cons]; omega
      rw [List.length_cons] at hl
      generalize wymb (fun y => wti s bol kid y) [x] = l1 at hf hl ⊢
      have hl0 : lim Try.prog cfg (.loop 67 0 (wzb 2) (SE (EJ 158 G0) [(130, .int .i64 0), (129, .int .i64 (rest.length + 1 : Nat)), (128, FL (rest.length + 1) (rxsC (kid :: rest))), (7, .slice (some ⟨1, 0, none⟩) 1 2), (3, .pointer (some ⟨0, 0, none⟩))])) (HP [X [str s, .bool bol] 129 0 true, X (stC x) 81 0 true]) = some (.code (.exit 5) (SE (EJ 158 G0) [(7, FL (catF s bol rest l1).length (stsC (catF s bol rest l1)))]), HP []) := by
        refine wcb wih ?_
        unfold whh
        clear ih hrow hw hok1
        generalize rxsC (kid :: rest) = KC at *
        (repeat' (first | (simp -implicitDefEqProofs (maxSteps := 2000000) (disch := first | with_reducible assumption | omega | (simp only [zS, zA, seval, zD] <;> omega) | fail) only [zS, argl, insA, Go.Den.wh, wo, wu, looks, wbb, wab, idOf, riA, seval, Go.Den.wm, kK, wjg, *, zT]) | (with_reducible (first | apply z1 | apply z2 | apply z3 | apply z4) <;> intro hq <;> (try simp only [zH] at hq) <;> (try (exfalso; omega))) | (with_reducible apply z5; (case hl => (repeat (first | exact .nil | with_reducible apply z6 | with_reducible apply z7))); (case h => kernel_rfl))))
      clear ih hrow hok1 hw hl hf
      (repeat' (first | (simp -implicitDefEqProofs (maxSteps := 2000000) (disch := first | with_reducible assumption | omega | (simp only [zS, zA, seval, zD] <;> omega) | fail) only [zS, argl, insA, Go.Den.wh, wo, wu, looks, wbb, wab, idOf, riA, seval, Go.Den.wm, kK, wjg, *, zT]) | (with_reducible (first | apply z1 | apply z2 | apply z3 | apply z4) <;> intro hq <;> (try simp only [zH] at hq) <;> (try (exfalso; omega))) | (with_reducible apply z5; (case hl => (repeat (first | exact .nil | with_reducible apply z6 | with_reducible apply z7))); (case h => kernel_rfl))))
  rw [if_neg h2] at hrow ⊢
  by_cases h4 : k = 4
  · rw [if_pos h4]
    rw [if_neg (by omega), if_pos h4] at hok1
    simp only [Bool.and_eq_true, decide_eq_true_eq] at hok1
    subst h4
    cases kids with
    | nil => exact absurd rfl hok1.1
    | cons kid rest =>
      have hw := ih kid (List.mem_cons_self ..)
      have hk : slotsOf (rxsC (kid :: rest)) 0 9 = rxC kid := by
        have := wvu (l := kid :: rest) (i := 0) (by simp)
        rwa [Nat.zero_mul] at this
      have hf : (fun y => kidF s bol (kid :: rest) y) = fun y => wti s bol kid y := by funext y; rw [kidF]
      rw [hf]
      have hon := (on_all s bol mn mx n set (kid :: rest) hs ⟨hok1.2.1, hok1.2.2.1⟩ hok1.2.2.2.2 (fun y => wti s bol kid y) x.1 ⟨kid, hk, by simp, hw⟩ 100).2 0 x [] (by omega) (by omega) hx (Int.le_refl _) (by unfold muF; split <;> omega)
      rcases hq : onF (fun y => wti s bol kid y) mn mx 100 0 x ([], []) with ⟨met, out⟩
      rw [hq] at hon
      clear ih hrow hw hk hf hq hok1
      by_cases ho : out = []
      · subst ho
        rw [reO, if_pos rfl] at hon
        simp only [reN, repB, wcpb, List.length_cons] at hon
        (repeat' (first | (simp -implicitDefEqProofs (maxSteps := 2000000) (disch := first | with_reducible assumption | omega | (simp only [zS, zA, seval, wy, wfb, wob, zD] <;> omega) | fail) only [zS, argl, insA, Go.Den.wh, wo, wu, looks, wbb, wab, idOf, riA, seval, Go.Den.wm, kK, wy, wfb, wob, wtl, wsz, wwh, *, zT]) | (with_reducible (first | apply z1 | apply z2 | apply z3 | apply z4) <;> intro hq <;> (try simp only [zH] at hq) <;> (try (exfalso; omega))) | (with_reducible apply z5; (case hl => (repeat (first | exact .nil | with_reducible apply z6 | with_reducible apply z7))); (case h => kernel_rfl))))
      · rw [reO, if_neg ho] at hon
        simp only [reE, reN, repB, wcpb, List.length_cons] at hon
        (repeat' (first | (simp -implicitDefEqProofs (maxSteps := 2000000) (disch := first | with_reducible assumption | omega | (simp only [zS, zA, seval, wy, wfb, wob, zD] <;> omega) | fail) only [zS, argl, insA, Go.Den.wh, wo, wu, looks, wbb, wab, idOf, riA, seval, Go.Den.wm, kK, wy, wfb, wob, wtl, wsz, wwh, *, zT]) | (with_reducible (first | apply z1 | apply z2 | apply z3 | apply z4) <;> intro hq <;> (try simp only [zH] at hq) <;> (try (exfalso; omega))) | (with_reducible apply z5; (case hl => (repeat (first | exact .nil | with_reducible apply z6 | with_reducible apply z7))); (case h => kernel_rfl))))
  rw [if_neg h4]
  clear ih hrow hok1
  (repeat' (first | (simp -implicitDefEqProofs (maxSteps := 2000000) (disch := first | with_reducible assumption | omega | (simp only [zS, zA, seval, zD] <;> omega) | fail) only [zS, argl, insA, Go.Den.wh, wo, wu, looks, wbb, wab, idOf, riA, seval, Go.Den.wm, kK, *, zT]) | (with_reducible (first | apply z1 | apply z2 | apply z3 | apply z4) <;> intro hq <;> (try simp only [zH] at hq) <;> (try (exfalso; omega))) | (with_reducible apply z5; (case hl => (repeat (first | exact .nil | with_reducible apply z6 | with_reducible apply z7))); (case h => kernel_rfl))))
end
end
end Go.Proofs.Ytjihbfdbgamcdaa
namespace Go.Proofs.Ytjihbfdbgamcdaa
set_option linter.unusedVariables false
set_option linter.unusedSimpArgs false
open Go.Den
noncomputable section
abbrev ints (l : List Int) : List Value := l.map (Value.int .i64)
theorem wgp {l : List Int} {i : Nat} (h : i < l.length) : (ints l)[i]? = some (.int .i64 (l.getD i 0)) := by
  rw [ints, List.getElem?_map, List.getD_eq_getElem?_getD, List.getElem?_eq_getElem h]; rfl
theorem whb {l : List Int} : (ints l).length = l.length := List.length_map ..
theorem int_drop (l : List Int) {i : Nat} (h : i < l.length) : l.drop i = l.getD i 0 :: l.drop (i + 1) := by
  rw [List.drop_eq_getElem_cons h, List.getD_eq_getElem?_getD, List.getElem?_eq_getElem h]; rfl
theorem wbw (l : List Rx) {i : Nat} (h : i < l.length) : l.drop i = l.getD i Rx.zero :: l.drop (i + 1) := by
  rw [List.drop_eq_getElem_cons h, List.getD_eq_getElem?_getD, List.getElem?_eq_getElem h]; rfl
def fstF {α : Type} (p : α → Bool) : List α → Nat → Option Nat
  | [], _ => none
  | a :: l, i => if p a = true then some i else fstF p l (i + 1)
def fstV : Option Nat → Int
  | none => -1
  | some j => j
theorem wqec {α : Type} (p : α → Bool) : ∀ (l : List α) (i : Nat), decide (0 ≤ fstV (fstF p l i)) = l.any p := by
  intro l
  induction l with
  | nil => intro i; rfl
  | cons a l ih =>
    intro i
    rw [fstF, List.any_cons]
    by_cases h : p a = true
    · rw [if_pos h, h]; simp [fstV]
    · rw [if_neg h, ih]; simp [h]
theorem wmb {P : Program} {cs : wvc} {R : Type} {K : KR R} {d : Option Tmp} {l : List RO} {e : Env} {H : AH} {wr : List Nat} {want : Bool} {x : ARes} : wohb P cs K d l e H wr want x undef = opsR P cs K l (e.put d undef) H := by cases want <;> rfl
theorem wyb {want : Bool} : wss want undef = some false := by cases want <;> rfl
theorem wpb : refs JK = [] := rfl
theorem wic {m : Nm} : renV m JK = JK := rfl
theorem ej19 : (EJ 19 G0).get 4 = JK := rfl
def fstO (n : Nat) : Option Nat → Option (Out × AH)
  | none => some (.code (.exit 0) (SE (EJ n G0) [(4, JK)]), HP [])
  | some j => some (.code .ret (SE (EJ n G0) [(4, .int .i64 j)]), HP [])
theorem idx_loop (l : List Int) (hl : l.length ≤ 16000000) (v : Int) : ∀ (k i : Nat), i + k = l.length →
    lim Try.prog cfg (.loop 163 0 (wmg 0) (SE (EJ 19 G0) [(8, .int .i64 i), (7, .int .i64 l.length), (1, .int .i64 v), (0, FL l.length (ints l))])) (HP []) = fstO 19 (fstF (fun a => decide (v = a)) (l.drop i) i) := by
  intro k
  induction k with
  | zero =>
    intro i hi
    rw [List.drop_of_length_le (by omega), fstF, fstO]
    refine wcb wbf ?_
    unfold wye
    (repeat' (first | (simp -implicitDefEqProofs (maxSteps := 2000000) (disch := first | with_reducible assumption | omega | (simp only [zS, zA, seval, wpb, wic] <;> omega) | fail) only [zS, argl, insA, Go.Den.wh, wo, wu, looks, wbb, wab, idOf, riA, seval, Go.Den.wm, kK, wzd, whb, wpb, wic, ej19, *]) | (with_reducible (first | apply z1 | apply z2 | apply z3 | apply z4) <;> intro hq <;> (try simp only [zH] at hq) <;> (try (exfalso; omega)))))
  | succ k ih =>
    intro i hi
    rw [int_drop l (by omega), fstF]
    have h := ih (i + 1) (by omega)
    clear ih
    have hg := wgp (l := l) (i := i) (by omega)
    by_cases hv : v = l.getD i 0
    · rw [if_pos (by simpa using hv), fstO]
      clear h
      refine wcb wbf ?_
      unfold wye
      (repeat' (first | (simp -implicitDefEqProofs (maxSteps := 2000000) (disch := first | with_reducible assumption | omega | (simp only [zS, zA, seval, wpb, wic] <;> omega) | fail) only [zS, argl, insA, Go.Den.wh, wo, wu, looks, wbb, wab, idOf, riA, seval, Go.Den.wm, kK, wzd, whb, wpb, wic, ej19, *]) | (with_reducible (first | apply z1 | apply z2 | apply z3 | apply z4) <;> intro hq <;> (try simp only [zH] at hq) <;> (try (exfalso; omega)))))
    · rw [if_neg (by simpa using hv)]
      generalize fstF (fun a => decide (v = a)) (l.drop (i + 1)) (i + 1) = o at h ⊢
      cases o with
      | none =>
        rw [fstO] at h ⊢
        refine wcb wbf ?_
        unfold wye
        (repeat' (first | (simp -implicitDefEqProofs (maxSteps := 2000000) (disch := first | with_reducible assumption | omega | (simp only [zS, zA, seval, wpb, wic] <;> omega) | fail) only [zS, argl, insA, Go.Den.wh, wo, wu, looks, wbb, wab, idOf, riA, seval, Go.Den.wm, kK, wzd, whb, wpb, wic, ej19, *]) | (with_reducible (first | apply z1 | apply z2 | apply z3 | apply z4) <;> intro hq <;> (try simp only [zH] at hq) <;> (try (exfalso; omega)))))
        exact h
      | some j =>
        rw [fstO] at h ⊢
        refine wcb wbf ?_
        unfold wye
        (repeat' (first | (simp -implicitDefEqProofs (maxSteps := 2000000) (disch := first | with_reducible assumption | omega | (simp only [zS, zA, seval, wpb, wic] <;> omega) | fail) only [zS, argl, insA, Go.Den.wh, wo, wu, looks, wbb, wab, idOf, riA, seval, Go.Den.wm, kK, wzd, whb, wpb, wic, ej19, *]) | (with_reducible (first | apply z1 | apply z2 | apply z3 | apply z4) <;> intro hq <;> (try simp only [zH] at hq) <;> (try (exfalso; omega)))))
        exact h
theorem ev_Index (l : List Int) (hl : l.length ≤ 16000000) (v : Int) : lim Try.prog cfg (.call 163 [FL l.length (ints l), .int .i64 v]) (HP []) = some (.val (.int .i64 (fstV (fstF (fun a => decide (v = a)) l 0))), HP []) := by
  refine wub hc wcn (Nat.le_of_ble_eq_true rfl) (Nat.le_of_ble_eq_true rfl) ?_
  unfold wpk
  have h := idx_loop l hl v l.length 0 (by omega)
  rw [List.drop_zero, show ((0 : Nat) : Int) = 0 from rfl] at h
  generalize fstF (fun a => decide (v = a)) l 0 = o at h ⊢
  rcases o with _ | j
  · rw [fstO] at h
    (repeat' (first | (simp -implicitDefEqProofs (maxSteps := 2000000) (disch := first | with_reducible assumption | omega | (simp only [zS, zA, seval, wpb, wic] <;> omega) | fail) only [zS, argl, insA, Go.Den.wh, wo, wu, looks, wbb, wab, idOf, riA, seval, Go.Den.wm, kK, wzd, whb, wpb, wic, ej19, fstV, *]) | (with_reducible (first | apply z1 | apply z2 | apply z3 | apply z4) <;> intro hq <;> (try simp only [zH] at hq) <;> (try (exfalso; omega)))))
  · rw [fstO] at h
    (repeat' (first | (simp -implicitDefEqProofs (maxSteps := 2000000) (disch := first | with_reducible assumption | omega | (simp only [zS, zA, seval, wpb, wic] <;> omega) | fail) only [zS, argl, insA, Go.Den.wh, wo, wu, looks, wbb, wab, idOf, riA, seval, Go.Den.wm, kK, wzd, whb, wpb, wic, ej19, fstV, *]) | (with_reducible (first | apply z1 | apply z2 | apply z3 | apply z4) <;> intro hq <;> (try simp only [zH] at hq) <;> (try (exfalso; omega)))))
theorem wbnb (l : List Int) (hl : l.length ≤ 16000000) (v : Int) : lim Try.prog cfg (.call 151 [FL l.length (ints l), .int .i64 v]) (HP []) = some (.val (.bool (l.any fun a => decide (v = a))), HP []) := by
  refine wub hc wdm (Nat.le_of_ble_eq_true rfl) (Nat.le_of_ble_eq_true rfl) ?_
  unfold wkj
  have h := ev_Index l hl v
  rw [← wqec _ l 0]
  generalize fstV (fstF (fun a => decide (v = a)) l 0) = z at h ⊢
  (repeat' (first | (simp -implicitDefEqProofs (maxSteps := 2000000) (disch := first | with_reducible assumption | omega | (simp only [zS, zA, seval] <;> omega) | fail) only [zS, argl, insA, Go.Den.wh, wo, wu, looks, wbb, wab, idOf, riA, seval, Go.Den.wm, kK, *]) | (with_reducible (first | apply z1 | apply z2 | apply z3 | apply z4) <;> intro hq <;> (try simp only [zH] at hq) <;> (try (exfalso; omega)))))
theorem ev_has1 (l : List Int) (hl : l.length ≤ 16000000) (r : Rx) : lim Try.prog cfg (.call 150 [.agg ⟨rxC r⟩, .pointer (some ⟨0, 0, none⟩)]) (HP [X [FL l.length (ints l)] 38 0 true]) = some (.val (.bool (l.any fun a => decide (r.kind = a))), HP [X [FL l.length (ints l)] 38 0 true]) := by
  refine wub hc wsab (Nat.le_of_ble_eq_true rfl) (Nat.le_of_ble_eq_true rfl) ?_
  unfold wmz
  have h := wbnb l hl r.kind
  (repeat' (first | (simp -implicitDefEqProofs (maxSteps := 2000000) (disch := first | with_reducible assumption | omega | (simp only [zS, zA, seval, zD] <;> omega) | fail) only [zS, argl, insA, Go.Den.wh, wo, wu, looks, wbb, wab, idOf, riA, seval, Go.Den.wm, kK, *, zT]) | (with_reducible (first | apply z1 | apply z2 | apply z3 | apply z4) <;> intro hq <;> (try simp only [zH] at hq) <;> (try (exfalso; omega)))))
end
end Go.Proofs.Ytjihbfdbgamcdaa
namespace Go.Proofs.Ytjihbfdbgamcdaa
set_option linter.unusedVariables false
set_option linter.unusedSimpArgs false
open Go.Den
noncomputable section
def wqi (l : List Int) (r : Rx) : Bool := l.any fun a => decide (r.kind = a)
abbrev hasFn : Value := .func (.func 150) ⟨[]⟩ ⟨[.pointer (some ⟨0, 0, none⟩)]⟩
abbrev hasB (l : List Int) : List ABlk := [X [FL l.length (ints l)] 38 0 true]
theorem hb_has1 : wzp Try.prog 150 = true := by kernel_rfl
theorem wweb {args : List Value} : dynA Try.prog hasFn args = .call 150 (args ++ [.pointer (some ⟨0, 0, none⟩)]) := by
  unfold dynA
  simp only [hb_has1, cond_true, List.nil_append]
theorem wcnb : cfg.know 150 = none := by kernel_rfl
def fstW (ks : List Int) (n : Nat) : Option Nat → Option (Out × AH)
  | none => some (.code (.exit 0) (SE (EJ n G0) [(4, JK)]), HP (hasB ks))
  | some j => some (.code .ret (SE (EJ n G0) [(4, .int .i64 j)]), HP (hasB ks))
theorem wrec (ks : List Int) (hks : ks.length ≤ 16000000) (l : List Rx) (hl : l.length ≤ 16000000) : ∀ (k i : Nat), i + k = l.length →
    lim Try.prog cfg (.loop 162 1 (wae 0) (SE (EJ 19 G0) [(8, .int .i64 i), (7, .int .i64 l.length), (1, hasFn), (0, FL l.length (rxsC l))])) (HP (hasB ks)) = fstW ks 19 (fstF (wqi ks) (l.drop i) i) := by
  intro k
  induction k with
  | zero =>
    intro i hi
    rw [List.drop_of_length_le (by omega), fstF, fstW]
    refine wcb wyc ?_
    unfold wjc
    (repeat' (first | (simp -implicitDefEqProofs (maxSteps := 2000000) (disch := first | with_reducible assumption | omega | (simp only [zS, zA, seval, wpb, wic, zD] <;> omega) | fail) only [zS, argl, insA, Go.Den.wh, wo, wu, looks, wbb, wab, idOf, riA, seval, Go.Den.wm, kK, wxb, wpb, wic, ej19, *, zT]) | (with_reducible (first | apply z1 | apply z2 | apply z3 | apply z4) <;> intro hq <;> (try simp only [zH] at hq) <;> (try (exfalso; omega)))))
  | succ k ih =>
    intro i hi
    rw [wbw l (by omega), fstF]
    have h := ih (i + 1) (by omega)
    clear ih
    have h1 := ev_has1 ks hks (l.getD i Rx.zero)
    by_cases hv : wqi ks (l.getD i Rx.zero) = true
    · rw [if_pos hv, fstW]
      unfold wqi at hv
      rw [hv] at h1
      clear h hv
      refine wcb wyc ?_
      unfold wjc
      (repeat' (first | (simp -implicitDefEqProofs (maxSteps := 2000000) (disch := first | with_reducible assumption | omega | (simp only [zS, zA, seval, zD] <;> omega) | fail) only [zS, argl, insA, Go.Den.wh, wo, wu, looks, wbb, wab, idOf, riA, seval, Go.Den.wm, kK, wxb, wweb, wcnb, *, zT]) | (with_reducible (first | apply z1 | apply z2 | apply z3 | apply z4) <;> intro hq <;> (try simp only [zH] at hq) <;> (try (exfalso; omega)))))
    · rw [if_neg hv]
      have hv2 : (ks.any fun a => decide ((l.getD i Rx.zero).kind = a)) = false := by show wqi ks _ = false; exact Bool.eq_false_iff.2 hv
      rw [hv2] at h1
      generalize fstF (wqi ks) (l.drop (i + 1)) (i + 1) = o at h ⊢
      clear hv hv2
      cases o with
      | none =>
        rw [fstW] at h ⊢
        refine wcb wyc ?_
        unfold wjc
        (repeat' (first | (simp -implicitDefEqProofs (maxSteps := 2000000) (disch := first | with_reducible assumption | omega | (simp only [zS, zA, seval, wpb, wic, zD] <;> omega) | fail) only [zS, argl, insA, Go.Den.wh, wo, wu, looks, wbb, wab, idOf, riA, seval, Go.Den.wm, kK, wxb, wweb, wcnb, wpb, wic, ej19, *, zT]) | (with_reducible (first | apply z1 | apply z2 | apply z3 | apply z4) <;> intro hq <;> (try simp only [zH] at hq) <;> (try (exfalso; omega)))))
        exact h
      | some j =>
        rw [fstW] at h ⊢
        refine wcb wyc ?_
        unfold wjc
        (repeat' (first | (simp -implicitDefEqProofs (maxSteps := 2000000) (disch := first | with_reducible assumption | omega | (simp only [zS, zA, seval, wpb, wic, zD] <;> omega) | fail) only [zS, argl, insA, Go.Den.wh, wo, wu, looks, wbb, wab, idOf, riA, seval, Go.Den.wm, kK, wxb, wweb, wcnb, wpb, wic, ej19, *, zT]) | (with_reducible (first | apply z1 | apply z2 | apply z3 | apply z4) <;> intro hq <;> (try simp only [zH] at hq) <;> (try (exfalso; omega)))))
        exact h
def wxeb (r : Rx) : Bool := !((decide (r.kind ≠ 1) && decide (r.set ≠ 0#256)) || (decide (r.kind ≠ 4) && (decide (r.mn ≠ 0) || decide (r.mx ≠ 0)))) && (decide (r.kind = 5) || (decide (r.kind = 6) || decide (r.n = 0)))
theorem wjpb : [Value.int .u64 0, .int .u64 0, .int .u64 0, .int .u64 0] = setC 0#256 := rfl
theorem ev_bare (r : Rx) : lim Try.prog cfg (.call 107 [.agg ⟨rxC r⟩]) (HP []) = some (.val (.bool (wxeb r)), HP []) := by
  refine wub hc wjeb (Nat.le_of_ble_eq_true rfl) (Nat.le_of_ble_eq_true rfl) ?_
  unfold wxbb wxeb
  have hz : ∀ a b, eqcV true [.int .u64, .int .u64, .int .u64, .int .u64] (.agg ⟨setC a⟩) (.agg ⟨setC b⟩) = val (.bool (decide (a ≠ b))) := wddc
  (repeat' (first | (simp -implicitDefEqProofs (maxSteps := 2000000) (disch := first | with_reducible assumption | omega | (simp only [zS, zA, seval, zD] <;> omega) | fail) only [zS, argl, insA, Go.Den.wh, wo, wu, looks, wbb, wab, idOf, riA, seval, Go.Den.wm, kK, wjpb, wmb, wyb, *, zT]) | (with_reducible (first | apply z1 | apply z2 | apply z3 | apply z4) <;> intro hq <;> (try simp only [zH] at hq) <;> (try (exfalso; omega)))))
def repF (r : Rx) : Bool := decide (0 ≤ r.mn) && (decide (r.mn ≤ 20) && (decide (r.mx = -1) || (decide (max r.mn 1 ≤ r.mx) && decide (r.mx ≤ 20))))
theorem ev_rep (r : Rx) : lim Try.prog cfg (.call 134 [.agg ⟨rxC r⟩]) (HP []) = some (.val (.bool (repF r)), HP []) := by
  refine wub hc wfib (Nat.le_of_ble_eq_true rfl) (Nat.le_of_ble_eq_true rfl) ?_
  unfold weib repF
  (repeat' (first | (simp -implicitDefEqProofs (maxSteps := 2000000) (disch := first | with_reducible assumption | omega | (simp only [zS, zA, seval, zD] <;> omega) | fail) only [zS, argl, insA, Go.Den.wh, wo, wu, looks, wbb, wab, idOf, riA, seval, Go.Den.wm, kK, wmb, wyb, *, zT]) | (with_reducible (first | apply z1 | apply z2 | apply z3 | apply z4) <;> intro hq <;> (try simp only [zH] at hq) <;> (try (exfalso; omega)))))
end
end Go.Proofs.Ytjihbfdbgamcdaa
namespace Go.Proofs.Ytjihbfdbgamcdaa
set_option linter.unusedVariables false
set_option linter.unusedSimpArgs false
open Go.Den
noncomputable section
theorem wrib (ks : List Int) (hks : ks.length ≤ 16000000) (l : List Rx) (hl : l.length ≤ 16000000) : lim Try.prog cfg (.call 162 [FL l.length (rxsC l), hasFn]) (HP (hasB ks)) = some (.val (.int .i64 (fstV (fstF (wqi ks) l 0))), HP (hasB ks)) := by
  refine wub hc wsj (Nat.le_of_ble_eq_true rfl) (Nat.le_of_ble_eq_true rfl) ?_
  unfold wlh
  have h := wrec ks hks l hl l.length 0 (by omega)
  rw [List.drop_zero, show ((0 : Nat) : Int) = 0 from rfl] at h
  generalize fstF (wqi ks) l 0 = o at h ⊢
  cases o with
  | none =>
    rw [fstW] at h
    (repeat' (first | (simp -implicitDefEqProofs (maxSteps := 2000000) (disch := first | with_reducible assumption | omega | (simp only [zS, zA, seval, wpb, wic, zD] <;> omega) | fail) only [zS, argl, insA, Go.Den.wh, wo, wu, looks, wbb, wab, idOf, riA, seval, Go.Den.wm, kK, wxb, fstV, wpb, wic, ej19, *, zT]) | (with_reducible (first | apply z1 | apply z2 | apply z3 | apply z4) <;> intro hq <;> (try simp only [zH] at hq) <;> (try (exfalso; omega)))))
  | some j =>
    rw [fstW] at h
    (repeat' (first | (simp -implicitDefEqProofs (maxSteps := 2000000) (disch := first | with_reducible assumption | omega | (simp only [zS, zA, seval, wpb, wic, zD] <;> omega) | fail) only [zS, argl, insA, Go.Den.wh, wo, wu, looks, wbb, wab, idOf, riA, seval, Go.Den.wm, kK, wxb, fstV, wpb, wic, ej19, *, zT]) | (with_reducible (first | apply z1 | apply z2 | apply z3 | apply z4) <;> intro hq <;> (try simp only [zH] at hq) <;> (try (exfalso; omega)))))
theorem wuz (ks : List Int) (hks : ks.length ≤ 16000000) (l : List Rx) (hl : l.length ≤ 16000000) : lim Try.prog cfg (.call 149 [FL l.length (rxsC l), hasFn]) (HP (hasB ks)) = some (.val (.bool (l.any (wqi ks))), HP (hasB ks)) := by
  refine wub hc wbj (Nat.le_of_ble_eq_true rfl) (Nat.le_of_ble_eq_true rfl) ?_
  unfold wog
  have h := wrib ks hks l hl
  rw [← wqec _ l 0]
  generalize fstV (fstF (wqi ks) l 0) = z at h ⊢
  (repeat' (first | (simp -implicitDefEqProofs (maxSteps := 2000000) (disch := first | with_reducible assumption | omega | (simp only [zS, zA, seval, zD] <;> omega) | fail) only [zS, argl, insA, Go.Den.wh, wo, wu, looks, wbb, wab, idOf, riA, seval, Go.Den.wm, kK, *, zT]) | (with_reducible (first | apply z1 | apply z2 | apply z3 | apply z4) <;> intro hq <;> (try simp only [zH] at hq) <;> (try (exfalso; omega)))))
theorem wdnb (ks : List Int) (hks : ks.length ≤ 16000000) (l : List Rx) (hl : l.length ≤ 16000000) : lim Try.prog cfg (.call 133 [FL l.length (rxsC l), FL ks.length (ints ks)]) (HP []) = some (.val (.bool (l.any (wqi ks))), HP []) := by
  refine wub hc wdib (Nat.le_of_ble_eq_true rfl) (Nat.le_of_ble_eq_true rfl) ?_
  unfold wcib
  have h := wuz ks hks l hl
  (repeat' (first | (simp -implicitDefEqProofs (maxSteps := 2000000) (disch := first | with_reducible assumption | omega | (simp only [zS, zA, seval, zD] <;> omega) | fail) only [zS, argl, insA, Go.Den.wh, wo, wu, looks, wbb, wab, idOf, riA, seval, Go.Den.wm, kK, *, zT]) | (with_reducible (first | apply z1 | apply z2 | apply z3 | apply z4) <;> intro hq <;> (try simp only [zH] at hq) <;> (try (exfalso; omega)))))
end
end Go.Proofs.Ytjihbfdbgamcdaa
namespace Go.Den
set_option linter.unusedVariables false
set_option linter.unusedSimpArgs false
noncomputable section
mutual
def wce : Rx → Nat
  | .mk _ _ _ _ _ kids => 1 + whc kids
def whc : List Rx → Nat
  | [] => 0
  | r :: l => wce r + whc l
end
theorem wsec (r : Rx) : 1 ≤ wce r := by cases r; rw [wce]; omega
theorem wvz : ∀ (l : List Rx), l.length ≤ whc l := by
  intro l
  induction l with
  | nil => rw [whc]; exact Nat.le_refl _
  | cons r l ih => rw [whc, List.length_cons]; have := wsec r; omega
theorem wrub (l : List Rx) (i : Nat) : whc (l.drop i) ≤ whc l := by
  induction l generalizing i with
  | nil => rw [List.drop_nil]; exact Nat.le_refl _
  | cons a l ih =>
    cases i with
    | zero => rw [List.drop_zero]; exact Nat.le_refl _
    | succ i => rw [List.drop_succ_cons, whc]; have := ih i; omega
end
end Go.Den
namespace Go.Proofs.Ytjihbfdbgamcdaa
open Go.Den
noncomputable section
def wun (r : Rx) : Bool :=
  if r.kind = 1 then decide ((r.kids.length : Int) = 0) && decide (r.set ≠ 0#256)
  else if r.kind = 2 then decide ((r.kids.length : Int) ≠ 1) && !(r.kids.any (wqi [2, 3]))
  else if r.kind = 3 then decide ((2 : Int) ≤ r.kids.length) && !(r.kids.any (wqi [3]))
  else if r.kind = 4 then decide ((r.kids.length : Int) = 1) && (r.kids.any (wqi [1, 5, 6]) && repF r)
  else if r.kind = 5 then decide ((r.kids.length : Int) = 1)
  else if r.kind = 6 then decide ((r.kids.length : Int) = 0)
  else if r.kind = 7 then decide ((r.kids.length : Int) = 0)
  else if r.kind = 8 then decide ((r.kids.length : Int) = 0)
  else false
theorem ev_has2 (a b : Int) (l : List Rx) (hl : l.length ≤ 16000000) : lim Try.prog cfg (.call 133 [FL l.length (rxsC l), FL 2 [.int .i64 a, .int .i64 b]]) (HP []) = some (.val (.bool (l.any (wqi [a, b]))), HP []) := wdnb [a, b] (by simp) l hl
theorem wtec (a : Int) (l : List Rx) (hl : l.length ≤ 16000000) : lim Try.prog cfg (.call 133 [FL l.length (rxsC l), FL 1 [.int .i64 a]]) (HP []) = some (.val (.bool (l.any (wqi [a]))), HP []) := wdnb [a] (by simp) l hl
theorem ev_has3 (a b c : Int) (l : List Rx) (hl : l.length ≤ 16000000) : lim Try.prog cfg (.call 133 [FL l.length (rxsC l), FL 3 [.int .i64 a, .int .i64 b, .int .i64 c]]) (HP []) = some (.val (.bool (l.any (wqi [a, b, c]))), HP []) := wdnb [a, b, c] (by simp) l hl
theorem ev_kids (r : Rx) (hl : r.kids.length ≤ 16000000) : lim Try.prog cfg (.call 108 [.agg ⟨rxC r⟩]) (HP []) = some (.val (.bool (wun r)), HP []) := by
  refine wub hc wkeb (Nat.le_of_ble_eq_true rfl) (Nat.le_of_ble_eq_true rfl) ?_
  unfold wybb wun
  have hz : ∀ a b, eqcV true [.int .u64, .int .u64, .int .u64, .int .u64] (.agg ⟨setC a⟩) (.agg ⟨setC b⟩) = val (.bool (decide (a ≠ b))) := wddc
  have h2 := ev_has2 2 3 r.kids hl
  have h3 := wtec 3 r.kids hl
  have h4 := ev_has3 1 5 6 r.kids hl
  have h5 := ev_rep r
  generalize r.kids.any (wqi [2, 3]) = b2 at h2 ⊢
  generalize r.kids.any (wqi [3]) = b3 at h3 ⊢
  generalize r.kids.any (wqi [1, 5, 6]) = b4 at h4 ⊢
  generalize repF r = b5 at h5 ⊢
  (repeat' (first | (simp -implicitDefEqProofs (maxSteps := 2000000) (disch := first | with_reducible assumption | omega | (simp only [zS, zA, seval, zD] <;> omega) | fail) only [zS, argl, insA, Go.Den.wh, wo, wu, looks, wbb, wab, idOf, riA, seval, Go.Den.wm, kK, wjpb, wmb, wyb, *, zT]) | (with_reducible (first | apply z1 | apply z2 | apply z3 | apply z4) <;> intro hq <;> (try simp only [zH] at hq) <;> (try (exfalso; omega)))))
  all_goals simp_all
theorem wsub (l : List Rx) (hl : l.length ≤ 16000000) (hn : whc l ≤ 1000000) (hk : ∀ r ∈ l, lim Try.prog cfg (.call 88 [.agg ⟨rxC r⟩]) (HP []) = some (.val (.int .i64 (wce r)), HP [])) :
    ∀ (k i : Nat) (a : Int), i + k = l.length → 0 ≤ a → a + whc (l.drop i) ≤ 2000000 →
    lim Try.prog cfg (.loop 88 0 (wap 0) (SE (EJ 19 G0) [(9, .int .i64 i), (8, .int .i64 l.length), (7, FL l.length (rxsC l)), (3, .int .i64 a)])) (HP []) = some (.code (.exit 0) (SE (EJ 19 G0) [(3, .int .i64 (a + whc (l.drop i)))]), HP []) := by
  intro k
  induction k with
  | zero =>
    intro i a hi h1 h2
    rw [List.drop_of_length_le (by omega), whc]
    refine wcb wmp ?_
    unfold wbp
    clear hk
    (repeat' (first | (simp -implicitDefEqProofs (maxSteps := 2000000) (disch := first | with_reducible assumption | omega | (simp only [zS, zA, seval, zD] <;> omega) | fail) only [zS, argl, insA, Go.Den.wh, wo, wu, looks, wbb, wab, idOf, riA, seval, Go.Den.wm, kK, wfp, Int.natCast_zero, Int.add_zero, *, zT]) | (with_reducible (first | apply z1 | apply z2 | apply z3 | apply z4) <;> intro hq <;> (try simp only [zH] at hq) <;> (try (exfalso; omega)))))
  | succ k ih =>
    intro i a hi h1 h2
    rw [wbw l (by omega), whc]
    have hr := hk _ (by rw [List.getD_eq_getElem?_getD, List.getElem?_eq_getElem (show i < l.length by omega)]; exact List.getElem_mem _ : l.getD i Rx.zero ∈ l)
    have hb : wce (l.getD i Rx.zero) + whc (l.drop (i + 1)) ≤ whc l := by
      have := wrub l i
      rw [wbw l (by omega), whc] at this
      exact this
    rw [wbw l (by omega), whc] at h2
    have h := ih (i + 1) (a + wce (l.getD i Rx.zero)) (by omega) (by omega) (by omega)
    rw [show a + ((wce (l.getD i Rx.zero) + whc (l.drop (i + 1)) : Nat) : Int) = a + (wce (l.getD i Rx.zero) : Int) + (whc (l.drop (i + 1)) : Int) by omega]
    refine wcb wmp ?_
    unfold wbp
    clear hk ih
    (repeat' (first | (simp -implicitDefEqProofs (maxSteps := 2000000) (disch := first | with_reducible assumption | omega | (simp only [zS, zA, seval, zD] <;> omega) | fail) only [zS, argl, insA, Go.Den.wh, wo, wu, looks, wbb, wab, idOf, riA, seval, Go.Den.wm, kK, wfp, *, zT]) | (with_reducible (first | apply z1 | apply z2 | apply z3 | apply z4) <;> intro hq <;> (try simp only [zH] at hq) <;> (try (exfalso; omega)))))
    exact h
theorem ev_Nodes : ∀ r : Rx, wce r ≤ 1000000 → lim Try.prog cfg (.call 88 [.agg ⟨rxC r⟩]) (HP []) = some (.val (.int .i64 (wce r)), HP []) := by
  refine Rx.rec (motive_1 := fun r => wce r ≤ 1000000 → lim Try.prog cfg (.call 88 [.agg ⟨rxC r⟩]) (HP []) = some (.val (.int .i64 (wce r)), HP [])) (motive_2 := fun l => whc l ≤ 1000000 → ∀ r ∈ l, lim Try.prog cfg (.call 88 [.agg ⟨rxC r⟩]) (HP []) = some (.val (.int .i64 (wce r)), HP [])) ?_ ?_ ?_
  · intro k mn mx n s l ih hn
    rw [wce] at hn
    have hl := wvz l
    have h := wsub l (by omega) (by omega) (ih (by omega)) l.length 0 1 (by omega) (by omega) (by rw [List.drop_zero]; omega)
    rw [List.drop_zero, show ((0 : Nat) : Int) = 0 from rfl] at h
    rw [wce, show ((1 + whc l : Nat) : Int) = 1 + (whc l : Int) by omega]
    refine wub hc wqab (Nat.le_of_ble_eq_true rfl) (Nat.le_of_ble_eq_true rfl) ?_
    unfold wkz
    clear ih
    (repeat' (first | (simp -implicitDefEqProofs (maxSteps := 2000000) (disch := first | with_reducible assumption | omega | (simp only [zS, zA, seval, zD] <;> omega) | fail) only [zS, argl, insA, Go.Den.wh, wo, wu, looks, wbb, wab, idOf, riA, seval, Go.Den.wm, kK, wfp, *, zT]) | (with_reducible (first | apply z1 | apply z2 | apply z3 | apply z4) <;> intro hq <;> (try simp only [zH] at hq) <;> (try (exfalso; omega)))))
  · intro _ r h; cases h
  · intro r l h1 h2 hn x hx
    rw [whc] at hn
    rcases List.mem_cons.1 hx with rfl | hx
    · exact h1 (by omega)
    · exact h2 (by omega) x hx
theorem wbcb (r : Rx) (g : Int) : lim Try.prog cfg (.call 89 [.pointer (some ⟨0, 0, none⟩), .agg ⟨rxC r⟩]) (HP [X [.bool true, .int .i64 g] 156 0 true]) = some (.val (.bool true), HP [X [.bool true, .int .i64 g] 156 0 true]) := by
  refine wub hc wcp (Nat.le_of_ble_eq_true rfl) (Nat.le_of_ble_eq_true rfl) ?_
  unfold wfm
  (repeat' (first | (simp -implicitDefEqProofs (maxSteps := 2000000) (disch := first | with_reducible assumption | omega | (simp only [zS, zA, seval, zD] <;> omega) | fail) only [zS, argl, insA, Go.Den.wh, wo, wu, looks, wbb, wab, idOf, riA, seval, Go.Den.wm, kK, wmb, wyb, *, zT]) | (with_reducible (first | apply z1 | apply z2 | apply z3 | apply z4) <;> intro hq <;> (try simp only [zH] at hq) <;> (try (exfalso; omega)))))
end
end Go.Proofs.Ytjihbfdbgamcdaa
namespace Go.Proofs.Ytjihbfdbgamcdaa
set_option linter.unusedVariables false
set_option linter.unusedSimpArgs false
open Go.Den
noncomputable section
mutual
def wai : Rx → Int → Int → Bool × Int
  | .mk k mn mx n s kids, d, g =>
    if wxeb (.mk k mn mx n s kids) = true then
      if wun (.mk k mn mx n s kids) = true then
        if k = 5 then (if n = g + 1 then (if d + 1 ≤ 6 then wlf kids (d + 1) (g + 1) else (false, g + 1)) else (false, g + 1))
        else if k = 6 then (decide (1 ≤ n) && decide (n ≤ g), g)
        else wlf kids d g
      else (false, g)
    else (false, g)
def wlf : List Rx → Int → Int → Bool × Int
  | [], _, g => (true, g)
  | r :: l, d, g => if (wai r d g).1 = true then wlf l d (wai r d g).2 else (false, (wai r d g).2)
end
theorem wyeb : ∀ (r : Rx) (d g : Int), g ≤ (wai r d g).2 ∧ (wai r d g).2 ≤ g + wce r := by
  refine Rx.rec (motive_1 := fun r => ∀ (d g : Int), g ≤ (wai r d g).2 ∧ (wai r d g).2 ≤ g + wce r) (motive_2 := fun l => ∀ (d g : Int), g ≤ (wlf l d g).2 ∧ (wlf l d g).2 ≤ g + whc l) ?_ ?_ ?_
  · intro k mn mx n s l ih d g
    rw [wai, wce]
    have h1 := ih (d + 1) (g + 1)
    have h2 := ih d g
    repeat' split
    all_goals first | (constructor <;> simp <;> omega) | omega
  · intro d g; rw [wlf, whc]; exact ⟨Int.le_refl _, by simp⟩
  · intro r l h1 h2 d g
    rw [wlf, whc]
    have h3 := h1 d g
    have h4 := h2 d (wai r d g).2
    split
    · omega
    · simp; omega
abbrev wkB (g : Int) : List ABlk := [X [.bool true, .int .i64 g] 156 0 true]
def wzeb (w : Bool × Int) : Option (Out × AH) := if w.1 = true then some (.code (.exit 1) (SE (EJ 89 G0) [(6, JK)]), HP (wkB w.2)) else some (.code .ret (SE (EJ 89 G0) [(6, .bool false)]), HP (wkB w.2))
theorem ej89 : (EJ 89 G0).get 6 = JK := rfl
def wccb (r : Rx) : Prop := ∀ d g : Int, 0 ≤ d → d ≤ 1000 → 0 ≤ g → g + wce r ≤ 2000000 → lim Try.prog cfg (.call 90 [.pointer (some ⟨0, 0, none⟩), .agg ⟨rxC r⟩, .int .i64 d]) (HP (wkB g)) = some (.val (.bool (wai r d g).1), HP (wkB (wai r d g).2))
theorem wsib (l : List Rx) (hl : l.length ≤ 16000000) (hk : ∀ r ∈ l, wccb r) (d : Int) (hd : 0 ≤ d) (hd2 : d ≤ 1000) :
    ∀ (k i : Nat) (g : Int), i + k = l.length → 0 ≤ g → g + whc (l.drop i) ≤ 2000000 →
    lim Try.prog cfg (.loop 90 1 (wfj 0) (SE (EJ 89 G0) [(79, .int .i64 i), (78, .int .i64 l.length), (77, FL l.length (rxsC l)), (2, .int .i64 d), (0, .pointer (some ⟨0, 0, none⟩))])) (HP (wkB g)) = wzeb (wlf (l.drop i) d g) := by
  intro k
  induction k with
  | zero =>
    intro i g hi h1 h2
    rw [List.drop_of_length_le (by omega), wlf, wzeb, if_pos rfl]
    refine wcb wzg ?_
    unfold wwg
    clear hk
    (repeat' (first | (simp -implicitDefEqProofs (maxSteps := 2000000) (disch := first | with_reducible assumption | omega | (simp only [zS, zA, seval, wpb, wic, zD] <;> omega) | fail) only [zS, argl, insA, Go.Den.wh, wo, wu, looks, wbb, wab, idOf, riA, seval, Go.Den.wm, kK, wwb, wpb, wic, ej89, *, zT]) | (with_reducible (first | apply z1 | apply z2 | apply z3 | apply z4) <;> intro hq <;> (try simp only [zH] at hq) <;> (try (exfalso; omega)))))
  | succ k ih =>
    intro i g hi h1 h2
    rw [wbw l (by omega), whc] at h2
    rw [wbw l (by omega), wlf]
    have hr := hk _ (by rw [List.getD_eq_getElem?_getD, List.getElem?_eq_getElem (show i < l.length by omega)]; exact List.getElem_mem _ : l.getD i Rx.zero ∈ l) d g hd hd2 h1 (by omega)
    have hw := wyeb (l.getD i Rx.zero) d g
    have h := ih (i + 1) (wai (l.getD i Rx.zero) d g).2 (by omega) (by omega) (by omega)
    generalize wai (l.getD i Rx.zero) d g = w at hr hw h ⊢
    obtain ⟨b, g2⟩ := w
    clear hk ih
    cases b with
    | false =>
      rw [if_neg (by simp), wzeb, if_neg (by simp)]
      clear h
      refine wcb wzg ?_
      unfold wwg
      (repeat' (first | (simp -implicitDefEqProofs (maxSteps := 2000000) (disch := first | with_reducible assumption | omega | (simp only [zS, zA, seval, zD] <;> omega) | fail) only [zS, argl, insA, Go.Den.wh, wo, wu, looks, wbb, wab, idOf, riA, seval, Go.Den.wm, kK, wwb, *, zT]) | (with_reducible (first | apply z1 | apply z2 | apply z3 | apply z4) <;> intro hq <;> (try simp only [zH] at hq) <;> (try (exfalso; omega)))))
    | true =>
      rw [if_pos rfl]
      generalize wlf (l.drop (i + 1)) d (true, g2).2 = w2 at h ⊢
      obtain ⟨b2, g3⟩ := w2
      cases b2 with
      | true =>
        rw [wzeb, if_pos rfl] at h ⊢
        refine wcb wzg ?_
        unfold wwg
        (repeat' (first | (simp -implicitDefEqProofs (maxSteps := 2000000) (disch := first | with_reducible assumption | omega | (simp only [zS, zA, seval, wpb, wic, zD] <;> omega) | fail) only [zS, argl, insA, Go.Den.wh, wo, wu, looks, wbb, wab, idOf, riA, seval, Go.Den.wm, kK, wwb, wpb, wic, ej89, *, zT]) | (with_reducible (first | apply z1 | apply z2 | apply z3 | apply z4) <;> intro hq <;> (try simp only [zH] at hq) <;> (try (exfalso; omega)))))
        exact h
      | false =>
        rw [wzeb, if_neg (by simp)] at h ⊢
        refine wcb wzg ?_
        unfold wwg
        (repeat' (first | (simp -implicitDefEqProofs (maxSteps := 2000000) (disch := first | with_reducible assumption | omega | (simp only [zS, zA, seval, wpb, wic, zD] <;> omega) | fail) only [zS, argl, insA, Go.Den.wh, wo, wu, looks, wbb, wab, idOf, riA, seval, Go.Den.wm, kK, wwb, wpb, wic, ej89, *, zT]) | (with_reducible (first | apply z1 | apply z2 | apply z3 | apply z4) <;> intro hq <;> (try simp only [zH] at hq) <;> (try (exfalso; omega)))))
        exact h
end
end Go.Proofs.Ytjihbfdbgamcdaa
namespace Go.Proofs.Ytjihbfdbgamcdaa
set_option linter.unusedVariables false
set_option linter.unusedSimpArgs false
open Go.Den
noncomputable section
set_option maxHeartbeats 4000000 in
theorem wuec (k mn mx n : Int) (set : BitVec 256) (kids : List Rx) (hl : kids.length ≤ 16000000) (ih : ∀ r ∈ kids, wccb r) : wccb (.mk k mn mx n set kids) := by
  intro d g hd hd2 hg hgn
  rw [wce] at hgn
  have hb := ev_bare (.mk k mn mx n set kids)
  have hk := ev_kids (.mk k mn mx n set kids) hl
  rw [wai]
  refine wub hc wcs (Nat.le_of_ble_eq_true rfl) (Nat.le_of_ble_eq_true rfl) ?_
  unfold wco
  cases hbv : wxeb (.mk k mn mx n set kids) with
  | false =>
    rw [if_neg (by simp)]
    rw [hbv] at hb
    clear hk ih hbv
    (repeat' (first | (simp -implicitDefEqProofs (maxSteps := 2000000) (disch := first | with_reducible assumption | omega | (simp only [zS, zA, seval, zD] <;> omega) | fail) only [zS, argl, insA, Go.Den.wh, wo, wu, looks, wbb, wab, idOf, riA, seval, Go.Den.wm, kK, wwb, wmb, wyb, *, zT]) | (with_reducible (first | apply z1 | apply z2 | apply z3 | apply z4) <;> intro hq <;> (try simp only [zH] at hq) <;> (try (exfalso; omega))) | (with_reducible apply z5; (case hl => (repeat (first | exact .nil | with_reducible apply z6 | with_reducible apply z7))); (case h => kernel_rfl))))
  | true =>
  rw [if_pos rfl]
  rw [hbv] at hb
  clear hbv
  cases hkv : wun (.mk k mn mx n set kids) with
  | false =>
    rw [if_neg (by simp)]
    rw [hkv] at hk
    clear ih hkv
    (repeat' (first | (simp -implicitDefEqProofs (maxSteps := 2000000) (disch := first | with_reducible assumption | omega | (simp only [zS, zA, seval, zD] <;> omega) | fail) only [zS, argl, insA, Go.Den.wh, wo, wu, looks, wbb, wab, idOf, riA, seval, Go.Den.wm, kK, wwb, wmb, wyb, *, zT]) | (with_reducible (first | apply z1 | apply z2 | apply z3 | apply z4) <;> intro hq <;> (try simp only [zH] at hq) <;> (try (exfalso; omega))) | (with_reducible apply z5; (case hl => (repeat (first | exact .nil | with_reducible apply z6 | with_reducible apply z7))); (case h => kernel_rfl))))
  | true =>
  rw [if_pos rfl]
  rw [hkv] at hk
  by_cases h5 : k = 5
  · subst h5
    rw [if_pos rfl]
    have hlen : kids.length = 1 := by
      have h3 : decide ((kids.length : Int) = 1) = true := hkv
      rw [decide_eq_true_eq] at h3
      omega
    have hs : slotsOf (rxsC kids) 0 9 = rxC (kids.getD 0 Rx.zero) := by
      have := wvu (l := kids) (i := 0) (by omega)
      rwa [Nat.zero_mul] at this
    have hcl : 9 ≤ (rxsC kids).length := by rw [woeb, hlen]; omega
    have hz : 0 < kids.length := by omega
    have ha := wbcb (kids.getD 0 Rx.zero) (g + 1)
    clear hkv hlen
    by_cases hn : n = g + 1
    · rw [if_pos hn]
      by_cases hd6 : d + 1 ≤ 6
      · rw [if_pos hd6]
        have h := wsib kids hl ih (d + 1) (by omega) (by omega) kids.length 0 (g + 1) (by omega) (by omega) (by rw [List.drop_zero]; omega)
        rw [List.drop_zero, show ((0 : Nat) : Int) = 0 from rfl] at h
        generalize wlf kids (d + 1) (g + 1) = w at h ⊢
        obtain ⟨b, g2⟩ := w
        clear ih
        subst hn
        cases b with
        | true =>
          rw [wzeb, if_pos rfl] at h
          (repeat' (first | (simp -implicitDefEqProofs (maxSteps := 2000000) (disch := first | with_reducible assumption | omega | (simp only [zS, zA, seval, wpb, wic, zD] <;> omega) | fail) only [zS, argl, insA, Go.Den.wh, wo, wu, looks, wbb, wab, idOf, riA, seval, Go.Den.wm, kK, wwb, wmb, wyb, wpb, wic, ej89, *, zT]) | (with_reducible (first | apply z1 | apply z2 | apply z3 | apply z4) <;> intro hq <;> (try simp only [zH] at hq) <;> (try (exfalso; omega))) | (with_reducible apply z5; (case hl => (repeat (first | exact .nil | with_reducible apply z6 | with_reducible apply z7))); (case h => kernel_rfl))))
        | false =>
          rw [wzeb, if_neg (by simp)] at h
          (repeat' (first | (simp -implicitDefEqProofs (maxSteps := 2000000) (disch := first | with_reducible assumption | omega | (simp only [zS, zA, seval, wpb, wic, zD] <;> omega) | fail) only [zS, argl, insA, Go.Den.wh, wo, wu, looks, wbb, wab, idOf, riA, seval, Go.Den.wm, kK, wwb, wmb, wyb, wpb, wic, ej89, *, zT]) | (with_reducible (first | apply z1 | apply z2 | apply z3 | apply z4) <;> intro hq <;> (try simp only [zH] at hq) <;> (try (exfalso; omega))) | (with_reducible apply z5; (case hl => (repeat (first | exact .nil | with_reducible apply z6 | with_reducible apply z7))); (case h => kernel_rfl))))
      · rw [if_neg hd6]
        clear ih
        subst hn
        (repeat' (first | (simp -implicitDefEqProofs (maxSteps := 2000000) (disch := first | with_reducible assumption | omega | (simp only [zS, zA, seval, zD] <;> omega) | fail) only [zS, argl, insA, Go.Den.wh, wo, wu, looks, wbb, wab, idOf, riA, seval, Go.Den.wm, kK, wwb, wmb, wyb, *, zT]) | (with_reducible (first | apply z1 | apply z2 | apply z3 | apply z4) <;> intro hq <;> (try simp only [zH] at hq) <;> (try (exfalso; omega))) | (with_reducible apply z5; (case hl => (repeat (first | exact .nil | with_reducible apply z6 | with_reducible apply z7))); (case h => kernel_rfl))))
    · rw [if_neg hn]
      clear ih
      (repeat' (first | (simp -implicitDefEqProofs (maxSteps := 2000000) (disch := first | with_reducible assumption | omega | (simp only [zS, zA, seval, zD] <;> omega) | fail) only [zS, argl, insA, Go.Den.wh, wo, wu, looks, wbb, wab, idOf, riA, seval, Go.Den.wm, kK, wwb, wmb, wyb, *, zT]) | (with_reducible (first | apply z1 | apply z2 | apply z3 | apply z4) <;> intro hq <;> (try simp only [zH] at hq) <;> (try (exfalso; omega))) | (with_reducible apply z5; (case hl => (repeat (first | exact .nil | with_reducible apply z6 | with_reducible apply z7))); (case h => kernel_rfl))))
  rw [if_neg h5]
  clear hkv
  by_cases h6 : k = 6
  · subst h6
    rw [if_pos rfl]
    clear ih
    (repeat' (first | (simp -implicitDefEqProofs (maxSteps := 2000000) (disch := first | with_reducible assumption | omega | (simp only [zS, zA, seval, zD] <;> omega) | fail) only [zS, argl, insA, Go.Den.wh, wo, wu, looks, wbb, wab, idOf, riA, seval, Go.Den.wm, kK, wwb, wmb, wyb, *, zT]) | (with_reducible (first | apply z1 | apply z2 | apply z3 | apply z4) <;> intro hq <;> (try simp only [zH] at hq) <;> (try (exfalso; omega))) | (with_reducible apply z5; (case hl => (repeat (first | exact .nil | with_reducible apply z6 | with_reducible apply z7))); (case h => kernel_rfl))))
  rw [if_neg h6]
  have h := wsib kids hl ih d (by omega) (by omega) kids.length 0 g (by omega) (by omega) (by rw [List.drop_zero]; omega)
  rw [List.drop_zero, show ((0 : Nat) : Int) = 0 from rfl] at h
  generalize wlf kids d g = w at h ⊢
  obtain ⟨b, g2⟩ := w
  clear ih
  cases b with
  | true =>
    rw [wzeb, if_pos rfl] at h
    (repeat' (first | (simp -implicitDefEqProofs (maxSteps := 2000000) (disch := first | with_reducible assumption | omega | (simp only [zS, zA, seval, wpb, wic, zD] <;> omega) | fail) only [zS, argl, insA, Go.Den.wh, wo, wu, looks, wbb, wab, idOf, riA, seval, Go.Den.wm, kK, wwb, wmb, wyb, wpb, wic, ej89, *, zT]) | (with_reducible (first | apply z1 | apply z2 | apply z3 | apply z4) <;> intro hq <;> (try simp only [zH] at hq) <;> (try (exfalso; omega))) | (with_reducible apply z5; (case hl => (repeat (first | exact .nil | with_reducible apply z6 | with_reducible apply z7))); (case h => kernel_rfl))))
  | false =>
    rw [wzeb, if_neg (by simp)] at h
    (repeat' (first | (simp -implicitDefEqProofs (maxSteps := 2000000) (disch := first | with_reducible assumption | omega | (simp only [zS, zA, seval, wpb, wic, zD] <;> omega) | fail) only [zS, argl, insA, Go.Den.wh, wo, wu, looks, wbb, wab, idOf, riA, seval, Go.Den.wm, kK, wwb, wmb, wyb, wpb, wic, ej89, *, zT]) | (with_reducible (first | apply z1 | apply z2 | apply z3 | apply z4) <;> intro hq <;> (try simp only [zH] at hq) <;> (try (exfalso; omega))) | (with_reducible apply z5; (case hl => (repeat (first | exact .nil | with_reducible apply z6 | with_reducible apply z7))); (case h => kernel_rfl))))
theorem ev_walk : ∀ r : Rx, wce r ≤ 1000000 → wccb r := by
  refine Rx.rec (motive_1 := fun r => wce r ≤ 1000000 → wccb r) (motive_2 := fun l => whc l ≤ 1000000 → ∀ r ∈ l, wccb r) ?_ ?_ ?_
  · intro k mn mx n s l ih hn
    rw [wce] at hn
    have hl := wvz l
    exact wuec k mn mx n s l (by omega) (ih (by omega))
  · intro _ r h; cases h
  · intro r l h1 h2 hn x hx
    rw [whc] at hn
    rcases List.mem_cons.1 hx with rfl | hx
    · exact h1 (by omega)
    · exact h2 (by omega) x hx
def wpp (r : Rx) : Bool := decide (wce r ≤ 40) && ((wai r 0 0).1 && decide ((wai r 0 0).2 ≤ 3))
theorem ev_Right (r : Rx) (hn : wce r ≤ 1000000) : lim Try.prog cfg (.call 63 [.agg ⟨rxC r⟩, .bool true]) (HP []) = some (.val (.bool (wpp r)), HP []) := by
  have h1 := ev_Nodes r hn
  have h2 := wbcb r 0
  have h3 := ev_walk r hn 0 0 (by omega) (by omega) (by omega) (by omega)
  unfold wpp
  generalize wai r 0 0 = w at h3 ⊢
  obtain ⟨b, g⟩ := w
  refine wub hc wpab (Nat.le_of_ble_eq_true rfl) (Nat.le_of_ble_eq_true rfl) ?_
  unfold wjz
  by_cases hq : wce r ≤ 40
  · have hq2 : (wce r : Int) ≤ 40 := by omega
    rw [decide_eq_true hq]
    cases b with
    | false => (repeat' (first | (simp -implicitDefEqProofs (maxSteps := 2000000) (disch := first | with_reducible assumption | omega | (simp only [zS, zA, seval, zD] <;> omega) | fail) only [zS, argl, insA, Go.Den.wh, wo, wu, looks, wbb, wab, idOf, riA, seval, Go.Den.wm, kK, wmb, wyb, *, zT]) | (with_reducible (first | apply z1 | apply z2 | apply z3 | apply z4) <;> intro hq <;> (try simp only [zH] at hq) <;> (try (exfalso; omega))))); all_goals trace_state
    | true => (repeat' (first | (simp -implicitDefEqProofs (maxSteps := 2000000) (disch := first | with_reducible assumption | omega | (simp only [zS, zA, seval, zD] <;> omega) | fail) only [zS, argl, insA, Go.Den.wh, wo, wu, looks, wbb, wab, idOf, riA, seval, Go.Den.wm, kK, wmb, wyb, *, zT]) | (with_reducible (first | apply z1 | apply z2 | apply z3 | apply z4) <;> intro hq <;> (try simp only [zH] at hq) <;> (try (exfalso; omega))))); all_goals trace_state
  · have hq2 : ¬ (wce r : Int) ≤ 40 := by omega
    rw [decide_eq_false hq]
    (repeat' (first | (simp -implicitDefEqProofs (maxSteps := 2000000) (disch := first | with_reducible assumption | omega | (simp only [zS, zA, seval, zD] <;> omega) | fail) only [zS, argl, insA, Go.Den.wh, wo, wu, looks, wbb, wab, idOf, riA, seval, Go.Den.wm, kK, wmb, wyb, *, zT]) | (with_reducible (first | apply z1 | apply z2 | apply z3 | apply z4) <;> intro hq <;> (try simp only [zH] at hq) <;> (try (exfalso; omega)))))
end
end Go.Proofs.Ytjihbfdbgamcdaa
namespace Go.Proofs.Ytjihbfdbgamcdaa
set_option linter.unusedVariables false
set_option linter.unusedSimpArgs false
open Go.Den
noncomputable section
theorem wvec {k mn mx n : Int} {s : BitVec 256} {l : List Rx} (h : wun (.mk k mn mx n s l) = true) :
    (k = 5 → l ≠ []) ∧ (k = 4 → l ≠ [] ∧ 0 ≤ mn ∧ mn ≤ 20 ∧ -1 ≤ mx ∧ mx ≤ 20) := by
  constructor
  · intro h5; subst h5
    have h3 : decide ((l.length : Int) = 1) = true := h
    rw [decide_eq_true_eq] at h3
    intro he; subst he; simp at h3
  · intro h4; subst h4
    have h3 : (decide ((l.length : Int) = 1) && (l.any (wqi [1, 5, 6]) && repF (.mk 4 mn mx n s l))) = true := h
    rw [Bool.and_eq_true, Bool.and_eq_true, decide_eq_true_eq] at h3
    have h5 : (decide (0 ≤ mn) && (decide (mn ≤ 20) && (decide (mx = -1) || (decide (max mn 1 ≤ mx) && decide (mx ≤ 20))))) = true := h3.2.2
    simp only [Bool.and_eq_true, Bool.or_eq_true, decide_eq_true_eq] at h5
    refine ⟨fun he => by subst he; simp at h3, h5.1, h5.2.1, ?_, ?_⟩ <;> omega
theorem walk_ok : ∀ (r : Rx) (d g : Int), 0 ≤ g → (wai r d g).1 = true → (wai r d g).2 ≤ 3 → okR r = true := by
  refine Rx.rec (motive_1 := fun r => ∀ (d g : Int), 0 ≤ g → (wai r d g).1 = true → (wai r d g).2 ≤ 3 → okR r = true) (motive_2 := fun l => ∀ (d g : Int), 0 ≤ g → (wlf l d g).1 = true → (wlf l d g).2 ≤ 3 → okRs l = true) ?_ ?_ ?_
  · intro k mn mx n s l ih d g hg h1 h2
    have hle : ∀ d g, g ≤ (wlf l d g).2 := by
      clear ih h1 h2 hg
      induction l with
      | nil => intro d g; rw [wlf]; exact Int.le_refl _
      | cons a l ih =>
        intro d g
        rw [wlf]
        have := (wyeb a d g).1
        split
        · have := ih d (wai a d g).2; omega
        · exact this
    rw [wai] at h1 h2
    rw [okR, Bool.and_eq_true]
    by_cases hb : wxeb (.mk k mn mx n s l) = true
    · rw [if_pos hb] at h1 h2
      by_cases hk : wun (.mk k mn mx n s l) = true
      · rw [if_pos hk] at h1 h2
        have ⟨k5, k4⟩ := wvec hk
        by_cases h5 : k = 5
        · rw [if_pos h5] at h1 h2
          rw [if_pos h5]
          by_cases hn : n = g + 1
          · rw [if_pos hn] at h1 h2
            by_cases hd : d + 1 ≤ 6
            · rw [if_pos hd] at h1 h2
              have := hle (d + 1) (g + 1)
              refine ⟨?_, ih _ _ (by omega) h1 h2⟩
              simp only [Bool.and_eq_true, decide_eq_true_eq]
              exact ⟨k5 h5, by omega, by omega⟩
            · rw [if_neg hd] at h1; cases h1
          · rw [if_neg hn] at h1; cases h1
        · rw [if_neg h5] at h1 h2 ⊢
          by_cases h6 : k = 6
          · rw [if_pos h6] at h1 h2
            rw [if_neg (by omega), if_pos h6]
            simp only [Bool.and_eq_true, decide_eq_true_eq] at h1 ⊢
            have hl0 : l = [] := by
              subst h6
              have h3 : decide ((l.length : Int) = 0) = true := hk
              rw [decide_eq_true_eq] at h3
              exact List.eq_nil_of_length_eq_zero (by omega)
            subst hl0
            exact ⟨⟨h1.1, by simp only at h2; omega⟩, by rw [okRs]⟩
          · rw [if_neg h6] at h1 h2 ⊢
            refine ⟨?_, ih _ _ hg h1 h2⟩
            by_cases h4 : k = 4
            · rw [if_pos h4]
              simp only [Bool.and_eq_true, decide_eq_true_eq]
              exact k4 h4
            · rw [if_neg h4]
      · rw [if_neg hk] at h1; cases h1
    · rw [if_neg hb] at h1; cases h1
  · intro _ _ _ _ _; rw [okRs]
  · intro r l h1 h2 d g hg h3 h4
    rw [wlf] at h3 h4
    have hw := wyeb r d g
    by_cases hr : (wai r d g).1 = true
    · rw [if_pos hr] at h3 h4
      have hle : ∀ (l : List Rx) (d g : Int), g ≤ (wlf l d g).2 := by
        intro l
        induction l with
        | nil => intro d g; rw [wlf]; exact Int.le_refl _
        | cons a l ih =>
          intro d g
          rw [wlf]
          have := (wyeb a d g).1
          split
          · have := ih d (wai a d g).2; omega
          · exact this
      have := hle l d (wai r d g).2
      rw [okRs, Bool.and_eq_true]
      exact ⟨h1 d g hg hr (by omega), h2 d _ (by omega) h3 h4⟩
    · rw [if_neg hr] at h3; cases h3
theorem wkpb {r : Rx} (h : wpp r = true) : okR r = true := by
  rw [wpp, Bool.and_eq_true, Bool.and_eq_true, decide_eq_true_eq, decide_eq_true_eq] at h
  exact walk_ok r 0 0 (Int.le_refl _) h.2.1 h.2.2
theorem ev_ways (s : List UInt8) (bol : Bool) (hs : s.length ≤ 12) : ∀ r : Rx, wce r ≤ 1000000 → okR r = true → woec s bol r := by
  refine Rx.rec (motive_1 := fun r => wce r ≤ 1000000 → okR r = true → woec s bol r) (motive_2 := fun l => whc l ≤ 1000000 → okRs l = true → wqib s bol l) ?_ ?_ ?_
  · intro k mn mx n set l ih hn hok
    rw [wce] at hn
    have hl := wvz l
    refine wpec s bol hs k mn mx n set l (by omega) hok (ih (by omega) ?_)
    rw [okR, Bool.and_eq_true] at hok
    exact hok.2
  · intro _ _ r h; cases h
  · intro r l h1 h2 hn hok x hx
    rw [whc] at hn
    rw [okRs, Bool.and_eq_true] at hok
    rcases List.mem_cons.1 hx with rfl | hx
    · intro y hy
      exact ⟨wseb (s := s) rfl (bol := bol) _ hok.1 y hy, h1 (by omega) hok.1 y hy⟩
    · exact h2 (by omega) hok.2 x hx
theorem startG {len : Nat} {a : Int} (h1 : 0 ≤ a) (h2 : a ≤ len) : GdS len (a, wxu) := by
  refine ⟨h1, h2, rfl, rfl, fun g g1 g3 => .inl ?_⟩
  rcases (show g = 1 ∨ g = 2 ∨ g = 3 by omega) with rfl | rfl | rfl <;> exact ⟨rfl, rfl⟩
def wpg (r : Rx) (s : List UInt8) (bol : Bool) (a : Int) : List St := if wpp r = true ∧ 0 ≤ a ∧ a ≤ s.length then wti s bol r (a, wxu) else []
theorem wtub {r : Rx} {s : List UInt8} {bol : Bool} {a : Int} : RwS s.length a (wpg r s bol a) := by
  unfold wpg
  split
  · rename_i h
    exact wseb (s := s) rfl (bol := bol) r (wkpb h.1) (a, wxu) (startG h.2.1 h.2.2)
  · exact .nil
theorem wwec (r : Rx) (hn : wce r ≤ 1000000) (s : List UInt8) (hs : s.length ≤ 12) (bol : Bool) (a : Int) : lim Try.prog cfg (.call 30 [.agg ⟨rxC r⟩, str s, .bool bol, .int .i64 a]) (HP []) = some (.val (FL (wpg r s bol a).length (stsC (wpg r s bol a))), HP []) := by
  have h := ev_Right r hn
  refine wub hc woab (Nat.le_of_ble_eq_true rfl) (Nat.le_of_ble_eq_true rfl) ?_
  unfold wiz wpg
  have h0 := ev_None
  cases hr : wpp r with
  | false =>
    rw [if_neg (by simp)]
    rw [hr] at h
    clear hr h0
    (repeat' (first | (simp -implicitDefEqProofs (maxSteps := 2000000) (disch := first | with_reducible assumption | omega | (simp only [zS, zA, seval, zD] <;> omega) | fail) only [zS, argl, insA, Go.Den.wh, wo, wu, looks, wbb, wab, idOf, riA, seval, Go.Den.wm, kK, wmb, wyb, *, zT]) | (with_reducible (first | apply z1 | apply z2 | apply z3 | apply z4) <;> intro hq <;> (try simp only [zH] at hq) <;> (try (exfalso; omega))) | (with_reducible apply z5; (case hl => (repeat (first | exact .nil | with_reducible apply z6 | with_reducible apply z7))); (case h => kernel_rfl))))
  | true =>
    rw [hr] at h
    by_cases h1 : 0 ≤ a
    · by_cases h2 : a ≤ s.length
      · rw [if_pos ⟨rfl, h1, h2⟩]
        have hw := ev_ways s bol hs r hn (wkpb hr) (a, wxu) (startG h1 h2)
        rw [← st_fold] at hw
        clear hr
        (repeat' (first | (simp -implicitDefEqProofs (maxSteps := 2000000) (disch := first | with_reducible assumption | omega | (simp only [zS, zA, seval, zD] <;> omega) | fail) only [zS, argl, insA, Go.Den.wh, wo, wu, looks, wbb, wab, idOf, riA, seval, Go.Den.wm, kK, wmb, wyb, *, zT]) | (with_reducible (first | apply z1 | apply z2 | apply z3 | apply z4) <;> intro hq <;> (try simp only [zH] at hq) <;> (try (exfalso; omega))) | (with_reducible apply z5; (case hl => (repeat (first | exact .nil | with_reducible apply z6 | with_reducible apply z7))); (case h => kernel_rfl))))
      · rw [if_neg (fun h => h2 h.2.2)]
        clear hr h0
        (repeat' (first | (simp -implicitDefEqProofs (maxSteps := 2000000) (disch := first | with_reducible assumption | omega | (simp only [zS, zA, seval, zD] <;> omega) | fail) only [zS, argl, insA, Go.Den.wh, wo, wu, looks, wbb, wab, idOf, riA, seval, Go.Den.wm, kK, wmb, wyb, *, zT]) | (with_reducible (first | apply z1 | apply z2 | apply z3 | apply z4) <;> intro hq <;> (try simp only [zH] at hq) <;> (try (exfalso; omega))) | (with_reducible apply z5; (case hl => (repeat (first | exact .nil | with_reducible apply z6 | with_reducible apply z7))); (case h => kernel_rfl))))
    · rw [if_neg (fun h => h1 h.2.1)]
      clear hr h0
      (repeat' (first | (simp -implicitDefEqProofs (maxSteps := 2000000) (disch := first | with_reducible assumption | omega | (simp only [zS, zA, seval, zD] <;> omega) | fail) only [zS, argl, insA, Go.Den.wh, wo, wu, looks, wbb, wab, idOf, riA, seval, Go.Den.wm, kK, wmb, wyb, *, zT]) | (with_reducible (first | apply z1 | apply z2 | apply z3 | apply z4) <;> intro hq <;> (try simp only [zH] at hq) <;> (try (exfalso; omega))) | (with_reducible apply z5; (case hl => (repeat (first | exact .nil | with_reducible apply z6 | with_reducible apply z7))); (case h => kernel_rfl))))
end
end Go.Proofs.Ytjihbfdbgamcdaa
namespace Go.Proofs.Ytjihbfdbgamcdaa
set_option linter.unusedVariables false
set_option linter.unusedSimpArgs false
open Go.Den
noncomputable section
def bestF : List St → Option St → Option St
  | [], b => b
  | x :: l, none => bestF l (some x)
  | x :: l, some b => bestF l (if x.1 > b.1 then some x else some b)
end
end Go.Proofs.Ytjihbfdbgamcdaa
namespace Go.Proofs.Ytjihbfdbgamcdaa
set_option linter.unusedVariables false
set_option linter.unusedSimpArgs false
open Go.Den
noncomputable section
def firstF (r : Rx) (s : List UInt8) : Nat → Int → Option Mt
  | 0, _ => none
  | k + 1, a => match bestF (wpg r s true a) none with
    | some b => some ((b.2.put 0 a).put 1 b.1)
    | none => firstF r s k (a + 1)
def firstR (r : Rx) (s : List UInt8) (a : Int) : Option Mt := if wpp r = true ∧ 0 ≤ a ∧ a ≤ s.length then firstF r s (s.length + 1 - a).toNat a else none
end
end Go.Proofs.Ytjihbfdbgamcdaa
namespace Go.Proofs.Ytjihbfdbgamcdaa
set_option linter.unusedVariables false
set_option linter.unusedSimpArgs false
open Go.Den
noncomputable section
end
end Go.Proofs.Ytjihbfdbgamcdaa
namespace Go.Proofs.Ytjihbfdbgamcdaa
set_option linter.unusedVariables false
set_option linter.unusedSimpArgs false
open Go.Den
noncomputable section
end
end Go.Proofs.Ytjihbfdbgamcdaa
namespace Go.Den
noncomputable section
section
variable {len : Nat} {s : List UInt8} {bol : Bool} {Q : St → Prop}
end
end
end Go.Den
namespace Go.Proofs.Ytjihbfdbgamcdaa
open Go.Den
noncomputable section
def SpOk (m : Mt) : Prop := ∀ g : Nat, 1 ≤ g → g ≤ 3 → 0 ≤ m.at (g * 2) → m.at 0 ≤ m.at (g * 2) ∧ m.at (g * 2 + 1) ≤ m.at 1
def BehF (r : Rx) (s : List UInt8) (p m : Mt) : Prop :=
  p.at 1 ≤ m.at 0 ∧ ¬ (m.at 0 = m.at 1 ∧ m.at 0 = p.at 1) ∧ ∃ x, firstR r s (p.at 1) = some x ∧ 0 ≤ x.at 0 ∧ x.at 0 ≤ m.at 0 ∧ (x.at 0 = m.at 0 ∨ x.at 0 = x.at 1)
structure MtOk (r : Rx) (s : List UInt8) (prev : Option Mt) (m : Mt) : Prop where
  lo : 0 ≤ m.at 0
  le : m.at 0 ≤ m.at 1
  hi : m.at 1 ≤ s.length
  sp : SpOk m
  fst : prev = none → firstR r s 0 = some m
  beh : ∀ p, prev = some p → BehF r s p m
end
end Go.Proofs.Ytjihbfdbgamcdaa
namespace Go.Proofs.Ytjihbfdbgamcdaa
set_option linter.unusedVariables false
set_option linter.unusedSimpArgs false
open Go.Den
noncomputable section
end
end Go.Proofs.Ytjihbfdbgamcdaa
namespace Go.Proofs.Ytjihbfdbgamcdaa
set_option linter.unusedVariables false
set_option linter.unusedSimpArgs false
open Go.Den
noncomputable section
end
end Go.Proofs.Ytjihbfdbgamcdaa
namespace Go.Proofs.Ytjihbfdbgamcdaa
set_option linter.unusedVariables false
set_option linter.unusedSimpArgs false
open Go.Den
noncomputable section
def elems1 : Option ABlk → Option (List Value)
  | some (.cells b) => (match (bif rdOk b 0 1 then some b else none) with
    | some b => some (slotsOf b.cells 0 1)
    | none => none)
  | _ => none
def b2s1 (o : Option ABlk) : ARes := match elems1 o with
  | some l => bif l.all isU8 then val (.string ⟨(l.map toU8).toArray⟩) else .none
  | none => .none
theorem b2s_HP {h : List ABlk} (hh : h.length ≤ 1099511627774) {i c : Nat} : b2sR (HP h) (.slice (some ⟨i, 0, none⟩) 1 c) = b2s1 h[i]? := by
  have h2 : wkl (HP h) 1 1 (.slice (some ⟨i, 0, none⟩) 1 c) = elems1 h[i]? := by
    show (match wyi (HP h) ⟨i, 0, none⟩ 1 with
      | some b => some (slotsOf b.cells 0 1)
      | none => none) = _
    unfold wyi
    rw [wsh h hh]
    cases h[i]? with
    | none => rfl
    | some b => cases b <;> rfl
  show (match wkl (HP h) 1 1 (.slice (some ⟨i, 0, none⟩) 1 c) with
    | some l => bif l.all isU8 then val (.string ⟨(l.map toU8).toArray⟩) else .none
    | none => .none) = _
  rw [h2]
  rfl
theorem b2s_X {x : Nat} {t z : Nat} {pf : Bool} (hx : x < 256) : b2s1 (some (X [.int .u8 (x : Nat)] t z pf)) = val (str [UInt8.ofNat x]) := by
  show (bif (Nat.blt x 256 && true) then val (.string ⟨#[UInt8.ofNat x]⟩) else .none) = _
  rw [nblt, decide_eq_true hx]
  rfl
def tb (k : Nat) : Nat := [97, 98, 97, 99, 98, 46, 97, 32].getD k 0
theorem tb_get {k : Nat} (h : k < 8) : ([.int .u8 97, .int .u8 98, .int .u8 97, .int .u8 99, .int .u8 98, .int .u8 46, .int .u8 97, .int .u8 32] : List Value)[k]? = some (.int .u8 (tb k)) := by
  rcases (show k = 0 ∨ k = 1 ∨ k = 2 ∨ k = 3 ∨ k = 4 ∨ k = 5 ∨ k = 6 ∨ k = 7 by omega) with rfl | rfl | rfl | rfl | rfl | rfl | rfl | rfl <;> rfl
theorem tb_lt (k : Nat) : tb k < 256 := by
  unfold tb
  rw [List.getD_eq_getElem?_getD]
  by_cases h : k < 8
  · rcases (show k = 0 ∨ k = 1 ∨ k = 2 ∨ k = 3 ∨ k = 4 ∨ k = 5 ∨ k = 6 ∨ k = 7 by omega) with rfl | rfl | rfl | rfl | rfl | rfl | rfl | rfl <;> decide
  · rw [List.getElem?_eq_none (by simp; omega)]; decide
def wxec (n : Int) : UInt8 := UInt8.ofNat (tb (wdj n 0 7).toNat)
def textF (l : List Int) (most : Nat) : List UInt8 := (l.take most).map wxec
theorem wenb (n : Int) : 0 ≤ wdj n 0 7 ∧ wdj n 0 7 ≤ 7 := by
  unfold wdj
  have := Int.emod_nonneg n (show (8 : Int) ≠ 0 by omega)
  have h5 := Int.emod_lt_of_pos n (show (0 : Int) < 8 by omega)
  rw [show (7 : Int) - 0 + 1 = 8 from rfl, Int.tmod_eq_emod]
  repeat' split
  all_goals omega
theorem wyec (l : List Int) (most : Nat) (hm : most ≤ 1000) : ∀ (k i : Nat) (acc : List UInt8), i + k = min l.length most → acc.length ≤ i →
    lim Try.prog cfg (.loop 21 0 (wgj 0) (SE (EJ 31 G0) [(6, .int .i64 i), (5, str acc), (1, .int .i64 most), (0, FL l.length (ints l))])) (HP []) = some (.code (.exit 0) (SE (EJ 31 G0) [(5, str (acc ++ ((l.take most).drop i).map wxec))]), HP []) := by
  intro k
  induction k with
  | zero =>
    intro i acc hi ha
    rw [List.drop_of_length_le (by rw [List.length_take]; omega), List.map_nil, List.append_nil]
    refine wcb wvk ?_
    unfold wbk
    by_cases h1 : (i : Int) < l.length
    · have h2 : ¬ (i : Int) < most := by omega
      (repeat' (first | (simp -implicitDefEqProofs (maxSteps := 2000000) (disch := first | with_reducible assumption | omega | (simp only [zS, zA, seval] <;> omega) | fail) only [zS, argl, insA, Go.Den.wh, wo, wu, looks, wbb, wab, idOf, riA, seval, Go.Den.wm, kK, wki, whb, wmb, wyb, *]) | (with_reducible (first | apply z1 | apply z2 | apply z3 | apply z4) <;> intro hq <;> (try simp only [zH] at hq) <;> (try (exfalso; omega)))))
    · (repeat' (first | (simp -implicitDefEqProofs (maxSteps := 2000000) (disch := first | with_reducible assumption | omega | (simp only [zS, zA, seval] <;> omega) | fail) only [zS, argl, insA, Go.Den.wh, wo, wu, looks, wbb, wab, idOf, riA, seval, Go.Den.wm, kK, wki, whb, wmb, wyb, *]) | (with_reducible (first | apply z1 | apply z2 | apply z3 | apply z4) <;> intro hq <;> (try simp only [zH] at hq) <;> (try (exfalso; omega)))))
  | succ k ih =>
    intro i acc hi ha
    have hlt : i < (l.take most).length := by rw [List.length_take]; omega
    rw [List.drop_eq_getElem_cons hlt, List.map_cons]
    have hg := wgp (l := l) (i := i) (by omega)
    have hv : (l.take most)[i] = l.getD i 0 := by rw [List.getElem_take, List.getD_eq_getElem?_getD, List.getElem?_eq_getElem (by omega)]; rfl
    rw [hv]
    have hw := wwu (l.getD i 0) 0 7 (by omega) (by omega) (by omega)
    have hin := wenb (l.getD i 0)
    have htb := tb_get (k := (wdj (l.getD i 0) 0 7).toNat) (by omega)
    have hlt2 := tb_lt (wdj (l.getD i 0) 0 7).toNat
    have h1 : (i : Int) < l.length := by omega
    have h2 : (i : Int) < most := by omega
    · have h := ih (i + 1) (acc ++ [wxec (l.getD i 0)]) (by omega) (by simp; omega)
      rw [List.append_assoc, List.singleton_append] at h
      clear ih hv hlt
      unfold wxec at h ⊢
      generalize wdj (l.getD i 0) 0 7 = w at *
      generalize tb w.toNat = c at *
      refine wcb wvk ?_
      unfold wbk
      (repeat' (first | (simp -implicitDefEqProofs (maxSteps := 2000000) (disch := first | with_reducible assumption | omega | (simp only [zS, zA, seval] <;> omega) | fail) only [zS, argl, insA, Go.Den.wh, wo, wu, looks, wbb, wab, idOf, riA, seval, Go.Den.wm, kK, wki, whb, wmb, wyb, b2s_HP, b2s_X, *]) | (with_reducible (first | apply z1 | apply z2 | apply z3 | apply z4) <;> intro hq <;> (try simp only [zH] at hq) <;> (try (exfalso; omega)))))
      exact h
theorem ev_Text (l : List Int) (most : Nat) (hm : most ≤ 1000) : lim Try.prog cfg (.call 21 [FL l.length (ints l), .int .i64 most]) (HP []) = some (.val (str (textF l most)), HP []) := by
  have h := wyec l most hm (min l.length most) 0 [] (by omega) (by simp)
  rw [List.drop_zero, List.nil_append, show ((0 : Nat) : Int) = 0 from rfl] at h
  refine wub hc wds (Nat.le_of_ble_eq_true rfl) (Nat.le_of_ble_eq_true rfl) ?_
  unfold wdo
  show _ = some (Out.val (str ((l.take most).map wxec)), HP [])
  (repeat' (first | (simp -implicitDefEqProofs (maxSteps := 2000000) (disch := first | with_reducible assumption | omega | (simp only [zS, zA, seval] <;> omega) | fail) only [zS, argl, insA, Go.Den.wh, wo, wu, looks, wbb, wab, idOf, riA, seval, Go.Den.wm, kK, wki, whb, *]) | (with_reducible (first | apply z1 | apply z2 | apply z3 | apply z4) <;> intro hq <;> (try simp only [zH] at hq) <;> (try (exfalso; omega)))))
end
end Go.Proofs.Ytjihbfdbgamcdaa
namespace Go.Proofs.Ytjihbfdbgamcdaa
set_option linter.unusedVariables false
set_option linter.unusedSimpArgs false
open Go.Den
noncomputable section
abbrev bsB (z s : BitVec 256) : List ABlk := [X (setC z) 43 0 true, X (setC s) 43 0 true]
theorem wtib {a b c d e : Value} {s : BitVec 256} : wh [a, b, c, d, e] 0 (setC s) = [wdV s 0, wdV s 1, wdV s 2, wdV s 3, e] := rfl
theorem ej26 : (EJ 26 G0).get 4 = JK := rfl
theorem wzec (l : List Int) (hl : l.length ≤ 16000000) : ∀ (k i : Nat), i + k = l.length →
    lim Try.prog cfg (.loop 40 0 (wmh 0) (SE (EJ 26 G0) [(5, .int .i64 i), (1, FL l.length (ints l)), (0, FL l.length (ints l))])) (HP []) = some (.code (.exit 0) (SE (EJ 26 G0) [(4, JK)]), HP []) := by
  intro k
  induction k with
  | zero =>
    intro i hi
    refine wcb wlj ?_
    unfold wji
    (repeat' (first | (simp -implicitDefEqProofs (maxSteps := 2000000) (disch := first | with_reducible assumption | omega | (simp only [zS, zA, seval, wpb, wic] <;> omega) | fail) only [zS, argl, insA, Go.Den.wh, wo, wu, looks, wbb, wab, idOf, riA, seval, Go.Den.wm, kK, wli, whb, wpb, wic, ej26, *]) | (with_reducible (first | apply z1 | apply z2 | apply z3 | apply z4) <;> intro hq <;> (try simp only [zH] at hq) <;> (try (exfalso; omega))) | (with_reducible apply z5; (case hl => (repeat (first | exact .nil | with_reducible apply z6 | with_reducible apply z7))); (case h => kernel_rfl))))
  | succ k ih =>
    intro i hi
    have h := ih (i + 1) (by omega)
    have hg := wgp (l := l) (i := i) (by omega)
    clear ih
    refine wcb wlj ?_
    unfold wji
    (repeat' (first | (simp -implicitDefEqProofs (maxSteps := 2000000) (disch := first | with_reducible assumption | omega | (simp only [zS, zA, seval, wpb, wic] <;> omega) | fail) only [zS, argl, insA, Go.Den.wh, wo, wu, looks, wbb, wab, idOf, riA, seval, Go.Den.wm, kK, wli, whb, wpb, wic, ej26, *]) | (with_reducible (first | apply z1 | apply z2 | apply z3 | apply z4) <;> intro hq <;> (try simp only [zH] at hq) <;> (try (exfalso; omega))) | (with_reducible apply z5; (case hl => (repeat (first | exact .nil | with_reducible apply z6 | with_reducible apply z7))); (case h => kernel_rfl))))
    all_goals exact h
theorem wafb (l : List Int) (hl : l.length ≤ 16000000) : lim Try.prog cfg (.call 40 [FL l.length (ints l), FL l.length (ints l)]) (HP []) = some (.val (.bool true), HP []) := by
  have h := wzec l hl l.length 0 (by omega)
  rw [show ((0 : Nat) : Int) = 0 from rfl] at h
  refine wub hc weo (Nat.le_of_ble_eq_true rfl) (Nat.le_of_ble_eq_true rfl) ?_
  unfold wsl
  (repeat' (first | (simp -implicitDefEqProofs (maxSteps := 2000000) (disch := first | with_reducible assumption | omega | (simp only [zS, zA, seval, wpb, wic] <;> omega) | fail) only [zS, argl, insA, Go.Den.wh, wo, wu, looks, wbb, wab, idOf, riA, seval, Go.Den.wm, kK, wli, whb, wpb, wic, ej26, *]) | (with_reducible (first | apply z1 | apply z2 | apply z3 | apply z4) <;> intro hq <;> (try simp only [zH] at hq) <;> (try (exfalso; omega)))))
end
end Go.Proofs.Ytjihbfdbgamcdaa
namespace Go.Proofs.Ytjihbfdbgamcdaa
set_option linter.unusedVariables false
set_option linter.unusedSimpArgs false
open Go.Den
noncomputable section
abbrev mkB (ks ns : List Int) (ere : Bool) : List Value := [FL ks.length (ints ks), FL ns.length (ints ns), .bool ere, .pointer (some ⟨0, 0, none⟩), .pointer (some ⟨1, 0, none⟩), .pointer (some ⟨2, 0, none⟩)]
abbrev mkH (a g l : Int) : List ABlk := [X [.int .i64 a] 3 0 true, X [.int .i64 g] 3 0 true, X [.int .i64 l] 3 0 true]
end
end Go.Proofs.Ytjihbfdbgamcdaa
namespace Go.Proofs.Ytjihbfdbgamcdaa
set_option linter.unusedVariables false
set_option linter.unusedSimpArgs false
open Go.Den
noncomputable section
end
end Go.Proofs.Ytjihbfdbgamcdaa
namespace Go.Proofs.Ytjihbfdbgamcdaa
set_option linter.unusedVariables false
set_option linter.unusedSimpArgs false
open Go.Den
noncomputable section
theorem rx_lit0 {k n : Int} {s : BitVec 256} : rxC (.mk k 0 0 n s []) = [.int .i64 k, .int .i64 0, .int .i64 0, .int .i64 n, wdV s 0, wdV s 1, wdV s 2, wdV s 3, FL 0 []] := by rw [rxC, rxsC]; rfl
theorem rx_lit1 {k lo hi n : Int} {r : Rx} : rxC (.mk k lo hi n 0#256 [r]) = [.int .i64 k, .int .i64 lo, .int .i64 hi, .int .i64 n, .int .u64 0, .int .u64 0, .int .u64 0, .int .u64 0, FL 1 (rxC r)] := by rw [rxC, rxsC, rxsC, List.append_nil]; rfl
end
end Go.Proofs.Ytjihbfdbgamcdaa
namespace Go.Proofs.Ytjihbfdbgamcdaa
set_option linter.unusedVariables false
set_option linter.unusedSimpArgs false
open Go.Den
noncomputable section
end
end Go.Proofs.Ytjihbfdbgamcdaa
namespace Go.Proofs.Ytjihbfdbgamcdaa
set_option linter.unusedVariables false
set_option linter.unusedSimpArgs false
open Go.Den
noncomputable section
end
end Go.Proofs.Ytjihbfdbgamcdaa
namespace Go.Proofs.Ytjihbfdbgamcdaa
set_option linter.unusedVariables false
set_option linter.unusedSimpArgs false
open Go.Den
noncomputable section
end
end Go.Proofs.Ytjihbfdbgamcdaa
namespace Go.Proofs.Ytjihbfdbgamcdaa
set_option linter.unusedVariables false
set_option linter.unusedSimpArgs false
open Go.Den
noncomputable section
def rxK (t n : Nat) (c : List Value) : List Value := [.int .i64 2, .int .i64 0, .int .i64 0, .int .i64 0, .int .u64 0, .int .u64 0, .int .u64 0, .int .u64 0, FO t n c]
def PkOk (ks ns : List Int) (ere : Bool) (args : List Value) (M : Nat) : Prop :=
  ∀ (a : Nat) (g l : Int), a + M ≤ 100000 → 0 ≤ g → g ≤ 3 → -1000000 + 2 * (M : Int) ≤ l → l ≤ 1000 →
    ∃ (r : Rx) (a' : Nat) (g' l' : Int), ((lim Try.prog cfg (.call 87 (.agg ⟨mkB ks ns ere⟩ :: args)) (HP (mkH a g l)) = some (.val (.agg ⟨rxC r⟩), HP (mkH a' g' l')) ∧ r.kind ≠ 2) ∨
      ∃ rs : List Rx, r = .mk 2 0 0 0 0#256 rs ∧ 2 ≤ rs.length ∧ rs.length ≤ 3 ∧ lim Try.prog cfg (.call 87 (.agg ⟨mkB ks ns ere⟩ :: args)) (HP (mkH a g l)) = some (.val (.agg ⟨rxK 3 rs.length (rxsC rs)⟩), HP (mkH a' g' l' ++ [.tok rs.length 46 9])))
      ∧ wce r ≤ M ∧ a' ≤ a + M ∧ 0 ≤ g' ∧ g' ≤ 3 ∧ l - 2 * (M : Int) ≤ l' ∧ l' ≤ l
end
end Go.Proofs.Ytjihbfdbgamcdaa
namespace Go.Proofs.Ytjihbfdbgamcdaa
set_option linter.unusedVariables false
set_option linter.unusedSimpArgs false
open Go.Den
noncomputable section
end
end Go.Proofs.Ytjihbfdbgamcdaa
namespace Go.Proofs.Ytjihbfdbgamcdaa
set_option linter.unusedVariables false
set_option linter.unusedSimpArgs false
open Go.Den
noncomputable section
end
end Go.Proofs.Ytjihbfdbgamcdaa
namespace Go.Proofs.Ytjihbfdbgamcdaa
set_option linter.unusedVariables false
set_option linter.unusedSimpArgs false
open Go.Den
noncomputable section
theorem PkOk.mono {ks ns : List Int} {ere : Bool} {args : List Value} {M N : Nat} (h : PkOk ks ns ere args M) (hMN : M ≤ N) : PkOk ks ns ere args N := by
  intro a g l ha hg hg3 hl hl2
  obtain ⟨r, a', g', l', e, b1, b2, b3, b4, b5, b6⟩ := h a g l (by omega) hg hg3 (by omega) hl2
  exact ⟨r, a', g', l', e, by omega, by omega, b3, b4, by omega, b6⟩
end
end Go.Proofs.Ytjihbfdbgamcdaa
namespace Go.Proofs.Ytjihbfdbgamcdaa
open Go.Den
noncomputable section
theorem wafc (l : List Int) (n : Nat) : (textF l n).length ≤ n := by unfold textF; rw [List.length_map, List.length_take]; omega
end
end Go.Proofs.Ytjihbfdbgamcdaa
namespace Go.Proofs.Ytjihbfdbgamcdaa
open Go.Den
noncomputable section
def hitB (c : UInt8) : Bool := decide (c = 97) || decide (c = 98)
theorem ab_bit (y : UInt8) : (one 97 ||| one 98).getLsbD y.toNat = hitB y := by
  have hy := y.toNat_lt
  rw [BitVec.getLsbD_or, wpmb, wpmb, decide_eq_true (show y.toNat < 256 by omega), Bool.true_and, Bool.true_and]
  unfold hitB
  have e : ∀ z : UInt8, decide (y.toNat = z.toNat) = decide (y = z) := fun z => by
    by_cases h : y = z
    · rw [decide_eq_true h, h]; exact decide_eq_true rfl
    · rw [decide_eq_false h, decide_eq_false (fun hh => h (UInt8.toNat_inj.1 hh))]
  rw [show decide (y.toNat = 97) = decide (y = 97) from e 97, show decide (y.toNat = 98) = decide (y = 98) from e 98]
theorem hit_drop (s : List UInt8) (a : Nat) (h : a < s.length) : s.drop a = s.getD a 0 :: s.drop (a + 1) := by
  rw [List.drop_eq_getElem_cons h, List.getD_eq_getElem?_getD, List.getElem?_eq_getElem h]; rfl
end
end Go.Proofs.Ytjihbfdbgamcdaa
namespace Go.Proofs.Ytjihbfdbgamcdaa
open Go.Den
noncomputable section
def hasX (S : BitVec 256) (c : UInt8) : Bool := S.getLsbD c.toNat
theorem wbfc (s : List UInt8) (bol : Bool) (S : BitVec 256) (x : St) : wti s bol (setX S) x = if x.1 < s.length ∧ hasX S (s.getD x.1.toNat 0) = true then [(x.1 + 1, x.2)] else [] := by
  rw [wti, if_pos rfl]; rfl
def repL (S : BitVec 256) (mn mx : Int) : List UInt8 → Nat → Nat → List Nat
  | [], n, a => if mn ≤ n then [a] else []
  | c :: l, n, a => (if (mx < 0 ∨ n < mx) ∧ hasX S c = true then repL S mn mx l (n + 1) (a + 1) else []) ++ (if mn ≤ n then [a] else [])
theorem repL_ge {S : BitVec 256} {mn mx : Int} : ∀ (l : List UInt8) (n a : Nat), ∀ y ∈ repL S mn mx l n a, a ≤ y := by
  intro l
  induction l with
  | nil => intro n a y hy; rw [repL] at hy; split at hy <;> simp_all
  | cons c l ih =>
    intro n a y hy
    rw [repL, List.mem_append] at hy
    rcases hy with hy | hy
    · split at hy
      · have := ih _ _ y hy; omega
      · cases hy
    · split at hy <;> simp_all
theorem wpw {s : List UInt8} {a : Nat} (h : s.drop a = []) : s.length ≤ a := by
  have := congrArg List.length h
  rw [List.length_drop, List.length_nil] at this; omega
theorem wqw {s : List UInt8} {a : Nat} {c : UInt8} {l : List UInt8} (h : s.drop a = c :: l) : a < s.length ∧ s.getD a 0 = c ∧ s.drop (a + 1) = l := by
  have hl : a < s.length := by
    have := congrArg List.length h
    rw [List.length_drop, List.length_cons] at this; omega
  rw [hit_drop s a hl] at h
  injection h with h1 h2
  exact ⟨hl, h1, h2⟩
theorem on_set {s : List UInt8} {S : BitVec 256} {mn mx : Int} {m : Mt} {w : St → List St} (hw : ∀ (a : Nat), w ((a : Int), m) = if a < s.length ∧ hasX S (s.getD a 0) = true then [((a : Int) + 1, m)] else []) :
    ∀ (l : List UInt8) (k n a : Nat) (met : List (Int × St)), s.drop a = l → l.length < k → (∀ q ∈ met, q.2.1 < (a : Int)) →
      (onF w mn mx k n ((a : Int), m) (met, [])).2 = (repL S mn mx l n a).map fun b : Nat => ((b : Int), m) := by
  intro l
  induction l with
  | nil =>
    intro k n a met hd hk hm
    obtain ⟨k, rfl⟩ : ∃ j, k = j + 1 := ⟨k - 1, by simp at hk; omega⟩
    have hk' : keyF mn mx (n : Int) ((a : Int), m) ∉ met := fun h => by have := hm _ h; exact absurd this (Int.lt_irrefl _)
    have hw0 : w ((a : Int), m) = [] := by rw [hw, if_neg (fun h => absurd h.1 (by have := wpw hd; omega))]
    rw [onF, if_neg hk', hw0, repL]
    simp only [List.foldl_nil, ite_self, ge_iff_le]
    by_cases h : mn ≤ (n : Int)
    · rw [if_pos h, if_pos h]; rfl
    · rw [if_neg h, if_neg h]; rfl
  | cons c l ih =>
    intro k n a met hd hk hm
    obtain ⟨k, rfl⟩ : ∃ j, k = j + 1 := ⟨k - 1, by simp at hk; omega⟩
    obtain ⟨hl, hc, hd1⟩ := wqw hd
    have hk' : keyF mn mx (n : Int) ((a : Int), m) ∉ met := fun h => by have := hm _ h; exact absurd this (Int.lt_irrefl _)
    have hih := ih k (n + 1) (a + 1) (met ++ [keyF mn mx (n : Int) ((a : Int), m)]) hd1 (by simp at hk; omega) (by
      intro q hq
      rcases List.mem_append.1 hq with h | h
      · have := hm q h; omega
      · rw [List.mem_singleton] at h; subst h; show (a : Int) < _; omega)
    rw [onF, if_neg hk', hw, hc, repL]
    have hout : (if mx < 0 ∨ (n : Int) < mx then (if a < s.length ∧ hasX S c = true then [((a : Int) + 1, m)] else []).foldl (fun b y => if y.1 ≠ ((a : Int), m).1 ∨ (n : Int) < mn then onF w mn mx k ((n : Int) + 1) y b else b) (met ++ [keyF mn mx (n : Int) ((a : Int), m)], []) else (met ++ [keyF mn mx (n : Int) ((a : Int), m)], [])).2
        = (if (mx < 0 ∨ (n : Int) < mx) ∧ hasX S c = true then repL S mn mx l (n + 1) (a + 1) else []).map fun b : Nat => ((b : Int), m) := by
      by_cases h1 : mx < 0 ∨ (n : Int) < mx
      · rw [if_pos h1]
        by_cases h2 : hasX S c = true
        · rw [if_pos ⟨hl, h2⟩, if_pos ⟨h1, h2⟩]
          show (if ((a : Int) + 1 ≠ (a : Int) ∨ (n : Int) < mn) then onF w mn mx k ((n : Int) + 1) ((a : Int) + 1, m) (met ++ [keyF mn mx (n : Int) ((a : Int), m)], []) else _).2 = _
          rw [if_pos (.inl (by omega))]
          exact hih
        · rw [if_neg (fun h => h2 h.2), if_neg (fun h => h2 h.2)]; rfl
      · rw [if_neg h1, if_neg (fun h => h1 h.1)]; rfl
    generalize (if mx < 0 ∨ (n : Int) < mx then (if a < s.length ∧ hasX S c = true then [((a : Int) + 1, m)] else []).foldl (fun b y => if y.1 ≠ ((a : Int), m).1 ∨ (n : Int) < mn then onF w mn mx k ((n : Int) + 1) y b else b) (met ++ [keyF mn mx (n : Int) ((a : Int), m)], []) else (met ++ [keyF mn mx (n : Int) ((a : Int), m)], [])) = B at hout ⊢
    simp only [ge_iff_le]
    by_cases h : mn ≤ (n : Int)
    · rw [if_pos h, if_pos h, List.map_append, ← hout]
      show addF B.2 [((a : Int), m)] = B.2 ++ [((a : Int), m)]
      rw [wcr, addF_nil, if_neg]
      intro hin
      rw [hout] at hin
      obtain ⟨y, hy, he⟩ := List.mem_map.1 hin
      have e1 : (y : Int) = a := congrArg Prod.fst he
      split at hy
      · have := repL_ge _ _ _ y hy; omega
      · cases hy
    · rw [if_neg h, if_neg h, List.append_nil, ← hout]
theorem wcfc (s : List UInt8) (hs : s.length < 100) (bol : Bool) (S : BitVec 256) (mn mx : Int) (a : Nat) (m : Mt) :
    wti s bol (repX mn mx S) ((a : Int), m) = (repL S mn mx (s.drop a) 0 a).map fun b : Nat => ((b : Int), m) := by
  rw [wti, if_neg (by decide), if_neg (by decide), if_neg (by decide), if_neg (by decide), if_neg (by decide), if_neg (by decide), if_neg (by decide), if_pos rfl]
  refine on_set (s := s) (S := S) (w := fun y => kidF s bol [setX S] y) (fun b => ?_) (s.drop a) 100 0 a [] rfl (by rw [List.length_drop]; omega) (fun q hq => by cases hq)
  show wti s bol (setX S) ((b : Int), m) = _
  rw [wbfc]
  by_cases h : b < s.length ∧ hasX S (s.getD b 0) = true
  · rw [if_pos h, if_pos ⟨by show (b : Int) < _; omega, h.2⟩]
  · rw [if_neg h, if_neg (fun hh => h ⟨by have h1 : (b : Int) < s.length := hh.1; omega, hh.2⟩)]
def runX (S : BitVec 256) : List UInt8 → Nat
  | [] => 0
  | c :: l => if hasX S c = true then runX S l + 1 else 0
def topX (S : BitVec 256) (mx : Int) : List UInt8 → Nat → Nat
  | [], n => n
  | c :: l, n => if (mx < 0 ∨ (n : Int) < mx) ∧ hasX S c = true then topX S mx l (n + 1) else n
theorem runX_len {S : BitVec 256} : ∀ (l : List UInt8), runX S l ≤ l.length := by
  intro l
  induction l with
  | nil => exact Nat.le_refl _
  | cons c l ih => rw [runX]; split <;> simp <;> omega
theorem topX_ge {S : BitVec 256} {mx : Int} : ∀ (l : List UInt8) (n : Nat), n ≤ topX S mx l n := by
  intro l
  induction l with
  | nil => intro n; exact Nat.le_refl _
  | cons c l ih => intro n; rw [topX]; split; (have := ih (n + 1); omega); exact Nat.le_refl _
theorem topX_any {S : BitVec 256} {mx : Int} (h : mx < 0) : ∀ (l : List UInt8) (n : Nat), topX S mx l n = n + runX S l := by
  intro l
  induction l with
  | nil => intro n; rfl
  | cons c l ih =>
    intro n
    rw [topX, runX]
    by_cases hc : hasX S c = true
    · rw [if_pos ⟨.inl h, hc⟩, if_pos hc, ih]; omega
    · rw [if_neg (fun hh => hc hh.2), if_neg hc]; omega
theorem topX_max {S : BitVec 256} {mx : Nat} : ∀ (l : List UInt8) (n : Nat), n ≤ mx → topX S mx l n = min (n + runX S l) mx := by
  intro l
  induction l with
  | nil => intro n hn; rw [topX, runX]; omega
  | cons c l ih =>
    intro n hn
    rw [topX, runX]
    by_cases hc : hasX S c = true
    · rw [if_pos hc]
      by_cases h2 : n < mx
      · rw [if_pos ⟨.inr (by omega), hc⟩, ih _ (by omega)]; omega
      · rw [if_neg (fun hh => by rcases hh.1 with h | h <;> omega)]; omega
    · rw [if_neg (fun hh => hc hh.2), if_neg hc]; omega
theorem repL_asc {S : BitVec 256} {mn : Nat} {mx : Int} (i : Nat) : ∀ (l : List UInt8) (n : Nat),
    (repL S mn mx l n (i + n)).reverse = (List.range' (max n mn) (topX S mx l n + 1 - max n mn)).map (i + ·) := by
  intro l
  induction l with
  | nil =>
    intro n
    rw [repL, topX]
    by_cases h : (mn : Int) ≤ n
    · rw [if_pos h, show max n mn = n by omega, show n + 1 - n = 1 by omega]; rfl
    · rw [if_neg h, show n + 1 - max n mn = 0 by omega]; rfl
  | cons c l ih =>
    intro n
    have h1 := ih (n + 1)
    rw [repL, topX, List.reverse_append, show i + n + 1 = i + (n + 1) by omega]
    have hg := topX_ge (S := S) (mx := mx) l (n + 1)
    by_cases hc : (mx < 0 ∨ (n : Int) < mx) ∧ hasX S c = true
    · rw [if_pos hc, if_pos hc, h1]
      by_cases h : (mn : Int) ≤ n
      · rw [if_pos h, show max n mn = n by omega, show max (n + 1) mn = n + 1 by omega, show topX S mx l (n + 1) + 1 - n = (topX S mx l (n + 1) + 1 - (n + 1)) + 1 by omega, List.range'_succ, List.map_cons]
        rfl
      · rw [if_neg h, show max n mn = mn by omega, show max (n + 1) mn = mn by omega]; rfl
    · rw [if_neg hc, if_neg hc]
      by_cases h : (mn : Int) ≤ n
      · rw [if_pos h, show max n mn = n by omega, show n + 1 - n = 1 by omega]; rfl
      · rw [if_neg h, show n + 1 - max n mn = 0 by omega]; rfl
end
end Go.Proofs.Ytjihbfdbgamcdaa
namespace Go.Proofs.Ytjihbfdbgamcdaa
open Go.Den
noncomputable section
end
end Go.Proofs.Ytjihbfdbgamcdaa
namespace Go.Den
noncomputable section
end
end Go.Den
namespace Go.Proofs.Ytjihbfdbgamcdaa
open Go.Den
noncomputable section
theorem hasAB (c : UInt8) : (hasX AB c = true ∧ (c.toNat : Int) = 97) ∨ (hasX AB c = true ∧ ¬ (c.toNat : Int) = 97 ∧ (c.toNat : Int) = 98) ∨ (¬ hasX AB c = true ∧ ¬ (c.toNat : Int) = 97 ∧ ¬ (c.toNat : Int) = 98) := by
  have h : hasX AB c = hitB c := ab_bit c
  rw [h]
  unfold hitB
  have e : ∀ k : Nat, k < 256 → (c = UInt8.ofNat k ↔ (c.toNat : Int) = k) := fun k hk => by
    constructor
    · intro h; rw [h]; show (((UInt8.ofNat k).toNat : Nat) : Int) = k; rw [UInt8.toNat_ofNat']; omega
    · intro h; apply UInt8.toNat_inj.1; rw [UInt8.toNat_ofNat']; omega
  have e1 : c = 97 ↔ (c.toNat : Int) = 97 := e 97 (by omega)
  have e2 : c = 98 ↔ (c.toNat : Int) = 98 := e 98 (by omega)
  by_cases h1 : (c.toNat : Int) = 97
  · left
    refine ⟨?_, h1⟩
    rw [decide_eq_true (e1.2 h1)]; rfl
  · right
    by_cases h2 : (c.toNat : Int) = 98
    · left
      refine ⟨?_, h1, h2⟩
      rw [decide_eq_true (e2.2 h2), Bool.or_true]
    · right
      refine ⟨?_, h1, h2⟩
      rw [decide_eq_false (fun hh => h1 (e1.1 hh)), decide_eq_false (fun hh => h2 (e2.1 hh))]; simp
end
end Go.Proofs.Ytjihbfdbgamcdaa
namespace Go.Proofs.Ytjihbfdbgamcdaa
set_option linter.unusedVariables false
set_option linter.unusedSimpArgs false
open Go.Den
noncomputable section
end
end Go.Proofs.Ytjihbfdbgamcdaa
namespace Go.Proofs.Ytjihbfdbgamcdaa
set_option linter.unusedVariables false
set_option linter.unusedSimpArgs false
open Go.Den
noncomputable section
theorem of2_end (x y : Nat) (z s : BitVec 256) :
    lim Try.prog cfg (.loop 37 0 (wom 0) (SE (EJ 23 G0) [(8, .int .i64 2), (7, .int .i64 2), (6, FL 2 [.int .u8 x, .int .u8 y]), (3, .pointer (some ⟨1, 0, none⟩)), (2, .pointer (some ⟨0, 0, none⟩))])) (HP (bsB z s)) = some (.code (.exit 0) (SE (EJ 23 G0) [(3, .pointer (some ⟨1, 0, none⟩)), (2, .pointer (some ⟨0, 0, none⟩))]), HP (bsB z s)) := by
  refine wcb wyq ?_
  unfold wxq
  (repeat' (first | (simp -implicitDefEqProofs (maxSteps := 2000000) (disch := first | with_reducible assumption | omega | (simp only [zS, zA, seval, wxi, zD] <;> omega) | fail) only [zS, argl, insA, Go.Den.wh, wo, wu, looks, wbb, wab, idOf, riA, seval, Go.Den.wm, kK, wbr, *, zT]) | (with_reducible (first | apply z1 | apply z2 | apply z3 | apply z4) <;> intro hq <;> (try simp only [zH] at hq) <;> (try (exfalso; omega)))))
theorem wlpb (x y : Nat) (i : Nat) (v : Nat) (hi : i < 2) (hv : ([.int .u8 x, .int .u8 y] : List Value)[i]? = some (.int .u8 v)) (hx : v < 256) (z s : BitVec 256) (o : Out × AH)
    (h : lim Try.prog cfg (.loop 37 0 (wom 0) (SE (EJ 23 G0) [(8, .int .i64 ((i : Int) + 1)), (7, .int .i64 2), (6, FL 2 [.int .u8 x, .int .u8 y]), (3, .pointer (some ⟨1, 0, none⟩)), (2, .pointer (some ⟨0, 0, none⟩))])) (HP (bsB z (s ||| one v))) = some o) :
    lim Try.prog cfg (.loop 37 0 (wom 0) (SE (EJ 23 G0) [(8, .int .i64 i), (7, .int .i64 2), (6, FL 2 [.int .u8 x, .int .u8 y]), (3, .pointer (some ⟨1, 0, none⟩)), (2, .pointer (some ⟨0, 0, none⟩))])) (HP (bsB z s)) = some o := by
  rw [← or_one s v hx] at h
  refine wcb wyq ?_
  unfold wxq
  have h1 : BitVec.ofInt (IntKind.bits .u64) 1 = BitVec.ofInt (IntKind.bits .u64) (((1#64).toNat : Nat) : Int) := rfl
  have e1 : ((v : Int) / 64).toNat = v / 64 := by omega
  have e2 : ((v : Int) % 64).toNat = v % 64 := by omega
  have hs : IntKind.wrap .u64 (1 * 2 ^ (min (v % 64) (IntKind.bits .u64))) = ((1#64 <<< (v % 64)).toNat : Nat) := by
    have := shl_u64 (b := ((v % 64 : Nat) : Int)) (by omega) (by omega)
    rwa [Int.toNat_natCast] at this
  have ho := or_u64 (wd s (v / 64)) (1#64 <<< (v % 64))
  have hset := setC_set s (show v / 64 < 4 by omega) (wd s (v / 64) ||| (1#64 <<< (v % 64)))
  (repeat' (first | (simp -implicitDefEqProofs (maxSteps := 2000000) (disch := first | with_reducible assumption | omega | (simp only [zS, zA, seval, wxi, zD] <;> omega) | fail) only [zS, argl, insA, Go.Den.wh, wo, wu, looks, wbb, wab, idOf, riA, seval, Go.Den.wm, kK, wbr, wzob, wnz, *, zT]) | (with_reducible (first | apply z1 | apply z2 | apply z3 | apply z4) <;> intro hq <;> (try simp only [zH] at hq) <;> (try (exfalso; omega)))))
  all_goals exact h
theorem ev_Of2 (x y : Nat) (hx : x < 256) (hy : y < 256) : lim Try.prog cfg (.call 37 [FL 2 [.int .u8 x, .int .u8 y]]) (HP []) = some (.val (.agg ⟨setC (one x ||| one y)⟩), HP []) := by
  have h := wlpb x y 0 x (by omega) rfl hx 0#256 0#256 _ (wlpb x y 1 y (by omega) rfl hy 0#256 (0#256 ||| one x) _ (of2_end x y 0#256 _))
  rw [show (0#256 ||| one x) = one x by simp] at h
  unfold bsB at h
  rw [show setC 0#256 = [.int .u64 0, .int .u64 0, .int .u64 0, .int .u64 0] from rfl, show ((0 : Nat) : Int) = 0 from rfl] at h
  refine wub hc wleb (Nat.le_of_ble_eq_true rfl) (Nat.le_of_ble_eq_true rfl) ?_
  unfold wzbb
  (repeat' (first | (simp -implicitDefEqProofs (maxSteps := 2000000) (disch := first | with_reducible assumption | omega | (simp only [zS, zA, seval, wxi, zD] <;> omega) | fail) only [zS, argl, insA, Go.Den.wh, wo, wu, looks, wbb, wab, idOf, riA, seval, Go.Den.wm, kK, wbr, *, zT]) | (with_reducible (first | apply z1 | apply z2 | apply z3 | apply z4) <;> intro hq <;> (try simp only [zH] at hq) <;> (try (exfalso; omega)))))
abbrev rxM (S : BitVec 256) : List Value := [.int .i64 1, .int .i64 0, .int .i64 0, .int .i64 0, wdV S 0, wdV S 1, wdV S 2, wdV S 3, .slice none 0 0]
abbrev rxF0 (S : BitVec 256) : List Value := [.int .i64 1, .int .i64 0, .int .i64 0, .int .i64 0, wdV S 0, wdV S 1, wdV S 2, wdV S 3, FL 0 []]
end
end Go.Proofs.Ytjihbfdbgamcdaa
namespace Go.Den
noncomputable section
variable {P : Program}
abbrev Y (cs : List Value) (elem : TypeId) (esz : Nat) (lens : List Nat) (z : Nat) : ABlk := .cells { cells := cs, elem := elem, esz := esz, lens := lens, wver := 0, frz := z, mark := false, pf := true }
section
variable {h : List ABlk} {i : Nat} {cs : List Value} {elem : TypeId} {esz a z : Nat}
theorem Y_lt {b : ABlk} (hb : h[i]? = some b) : i < h.length := (List.getElem?_eq_some_iff.1 hb).1
theorem rd_Y (hh : h.length ≤ 1099511627774) (hb : h[i]? = some (Y cs elem esz [a] z)) {off n : Nat} :
    wyi (HP h) ⟨i, off, some 0⟩ n = if off + n ≤ a then some { cells := cs, elem := elem, esz := esz, lens := [a], wver := 0, frz := z, mark := false, pf := true } else none := by
  unfold wyi
  rw [wsh h hh, hb]
  have h1 : rdOk { cells := cs, elem := elem, esz := esz, lens := [a], wver := 0, frz := z, mark := false, pf := true } (aver ⟨i, off, some 0⟩) (off + n) = decide (off + n ≤ a) := by
    show (Nat.ble 0 0 && (Nat.ble 0 0 && Nat.ble (off + n) a)) = _
    rw [nble, nble]; simp
  simp only [h1]
  by_cases hq : off + n ≤ a
  · rw [if_pos hq, decide_eq_true hq]; rfl
  · rw [if_neg hq, decide_eq_false hq]; rfl
theorem load1_Y (hh : h.length ≤ 1099511627774) (hb : h[i]? = some (Y cs elem esz [a] z)) {off : Nat} (ho : off + 1 ≤ a) : wjl (HP h) (.pointer (some ⟨i, off, some 0⟩)) = valO cs[off]? := by
  unfold wjl
  simp only [rd_Y hh hb, if_pos ho]
theorem store_Y (hh : h.length ≤ 1099511627774) (hb : h[i]? = some (Y cs elem esz [a] 0)) {off size : Nat} {v : Value} (hs : off + size ≤ a)
    (hv : v.cells.size = size) (hj : isJK v = false) (ho : v.cells.toList.all oneCell = true) (hr : wlb v.cells.toList = true) :
    waq (HP h) size (.pointer (some ⟨i, off, some 0⟩)) v = .eff undef (HP (h.set i (Y (wh cs off v.cells.toList) elem esz [a] 0))) := by
  have hi := Y_lt hb
  have hlen : v.cells.toList.length = size := by rw [← hv]; simp
  unfold waq
  simp only [hv, hj, Nat.beq_refl, Bool.not_false, Bool.and_self, cond_true]
  unfold waf wlvb
  rw [rd_Y hh hb, hlen, if_pos hs]
  have h1 : (Nat.beq (aver ⟨i, off, some 0⟩) (CBlk.top { cells := cs, elem := elem, esz := esz, lens := [a], wver := 0, frz := 0, mark := false, pf := true }) && (Nat.ble 0 off && wvb i)) = true := by
    rw [show wvb i = true from weh (by omega), nble, decide_eq_true (Nat.zero_le _)]; rfl
  simp only [h1, cond_true, ho]
  rw [wsq _ _ _ hi]
  simp only [hr]
  rfl
theorem wdfc (hh : h.length ≤ 1099511627774) {n : Nat} {sl : List Value → Option (List Value × Frs)} (hb : h[i]? = some (Y cs elem esz [a] z)) (h0 : 0 < n) (hz : 0 < esz) (ha : n * esz ≤ a) (hr : wlb (slotsOf cs 0 (n * esz)) = true) :
    weg P (HP h) sl (.slice (some ⟨i, 0, some 0⟩) n 0) = some (FL n (slotsOf cs 0 (n * esz)), [(i, n * esz)]) := by
  obtain ⟨n, rfl⟩ : ∃ m, n = m + 1 := ⟨n - 1, by omega⟩
  have hi := Y_lt hb
  show wam P (HP h) sl ⟨i, 0, some 0⟩ (n + 1) 0 = _
  unfold wam
  rw [wsh h hh, hb]
  have e1 : wch P { cells := cs, elem := elem, esz := esz, lens := [a], wver := 0, frz := z, mark := false, pf := true } = esz := rfl
  have h2 : widb (HP h) esz (n + 1) ⟨i, 0, some 0⟩ 0 = true := by
    show wgk esz ⟨i, 0, some 0⟩ (HP h) ((n + 1) * esz) = true
    unfold wgk
    rw [rd_Y hh hb, if_pos (by omega)]
    show (Nat.beq esz esz && (true && (Nat.beq (0 % esz) 0 && Nat.blt 0 esz))) = true
    rw [nbeq, nblt, decide_eq_true rfl, decide_eq_true hz, Nat.zero_mod]; rfl
  have h3 : rdOk { cells := cs, elem := elem, esz := esz, lens := [a], wver := 0, frz := z, mark := false, pf := true } (aver ⟨i, 0, some 0⟩) (0 + (n + 1) * esz) = true := by
    show (Nat.ble 0 0 && (Nat.ble 0 0 && Nat.ble (0 + (n + 1) * esz) a)) = true
    rw [nble, nble, decide_eq_true (Nat.le_refl 0), decide_eq_true (show 0 + (n + 1) * esz ≤ a by omega)]; rfl
  simp only [e1, h2, h3, Bool.and_self, cond_true, hr, weh (show i ≤ 1099511627774 by omega)]
  rw [Nat.zero_add]
theorem wne {n : Nat} : wvob h i n (some (Y cs elem esz [a] z)) = h.set i (Y cs elem esz [a] (max z n)) := rfl
theorem woe {t y : Nat} {pf : Bool} : isOpen (some (X cs t y pf)) = false := rfl
theorem wkc {es : List (Value × Value)} : isOpen (some (.map es)) = false := rfl
theorem wlc {x y w : Nat} : isOpen (some (.tok x y w)) = false := rfl
theorem wpe {r : List Nat} : isOpen (some (Y cs elem esz (a :: r) z)) = true := rfl
theorem wsf {r : List Nat} : wdh (some (Y cs elem esz (a :: r) z)) = r.length := rfl
theorem wtf {r : List Nat} : wzr (some (Y cs elem esz r z)) = [] := rfl
end
def wwz (id t : Nat) : List (Nat × Nat) → Bool
  | [] => true
  | r :: l => (bif decide (r.1 = id) then decide (r.2 = t) else true) && wwz id t l
theorem wmc {id t : Nat} : wwz id t [] = true := rfl
theorem wac {id t x y : Nat} {l : List (Nat × Nat)} : wwz id t ((x, y) :: l) = ((bif decide (x = id) then decide (y = t) else true) && wwz id t l) := rfl
def wefc (h : List ABlk) (rs : List (Nat × Nat)) (p ix id : Nat) : Bool := decide (p ≤ ix) && (isOpen h[id]? && wwz id (wdh h[id]?) rs)
def wxz (h : List ABlk) (rs : List (Nat × Nat)) (p : Nat) : List Nat → Nat → List (Nat × Bool)
  | [], _ => []
  | id :: r, ix => (id, wefc h rs p ix id) :: wxz h rs p r (ix + 1)
theorem wjd {h : List ABlk} {rs : List (Nat × Nat)} {p ix : Nat} : wxz h rs p [] ix = [] := rfl
theorem wnc {h : List ABlk} {rs : List (Nat × Nat)} {p ix id : Nat} {r : List Nat} : wxz h rs p (id :: r) ix = (id, decide (p ≤ ix) && (isOpen h[id]? && wwz id (wdh h[id]?) rs)) :: wxz h rs p r (ix + 1) := rfl
theorem wuub {id t : Nat} (rs : List (Nat × Nat)) : (rs.all fun r => bif Nat.beq r.1 id then Nat.beq r.2 t else true) = wwz id t rs := by
  induction rs with
  | nil => rfl
  | cons r l ih => rw [List.all_cons, ih, nbeq, nbeq]; rfl
theorem cmps_L {h : List ABlk} (hh : h.length ≤ 1099511627774) (rs : List (Nat × Nat)) (p : Nat) : ∀ (L : List Nat) (ix : Nat), wfg (HP h) rs p L ix = wxz h rs p L ix := by
  intro L
  induction L with
  | nil => intro ix; rfl
  | cons id r ih =>
    intro ix
    show (id, wrv (HP h) rs p ix id) :: wfg (HP h) rs p r (ix + 1) = _
    rw [ih]
    have : wrv (HP h) rs p ix id = wefc h rs p ix id := by
      unfold wrv wefc
      rw [wsh h hh, wuub, nble]
    rw [this]
    rfl
def renC (m : Nm) (c : Bool) : Option ABlk → ABlk
  | some (.cells b) => bif c then .cells { b with cells := (bif b.pf then b.cells else wke m b.cells), lens := [b.lenAt b.top], wver := 0 } else .cells { b with cells := (bif b.pf then b.cells else wke m b.cells) }
  | some (.map es) => .map (renM m es)
  | some (.tok a b c) => .tok a b c
  | none => .map []
def wfnb (h : List ABlk) (m : Nm) : List (Nat × Bool) → List ABlk
  | [] => []
  | c :: r => renC m c.2 h[c.1]? :: wfnb h m r
theorem wkd {h : List ABlk} {m : Nm} : wfnb h m [] = [] := rfl
theorem woc {h : List ABlk} {m : Nm} {id : Nat} {c : Bool} {r : List (Nat × Bool)} : wfnb h m ((id, c) :: r) = renC m c h[id]? :: wfnb h m r := rfl
theorem wdi {m : Nm} {cs : List Value} {t z : Nat} {pf : Bool} : renC m false (some (X cs t z pf)) = X (bif pf then cs else wke m cs) t z pf := rfl
theorem wqe {m : Nm} {c : Bool} {es : List (Value × Value)} : renC m c (some (.map es)) = .map (renM m es) := rfl
theorem wre {m : Nm} {q : Bool} {a b c : Nat} : renC m q (some (.tok a b c)) = .tok a b c := rfl
theorem wuf {m : Nm} {cs : List Value} {elem : TypeId} {esz a z : Nat} {r : List Nat} : renC m true (some (Y cs elem esz (a :: r) z)) = Y cs elem esz [a] z := by
  show ABlk.cells { cells := cs, elem := elem, esz := esz, lens := [CBlk.lenAt { cells := cs, elem := elem, esz := esz, lens := a :: r, wver := 0, frz := z, mark := false, pf := true } r.length], wver := 0, frz := z, mark := false, pf := true } = _
  have : CBlk.lenAt { cells := cs, elem := elem, esz := esz, lens := a :: r, wver := 0, frz := z, mark := false, pf := true } r.length = a := by
    show (a :: r).getD (r.length - r.length) 0 = a
    rw [Nat.sub_self]; rfl
  rw [this]
theorem wvf {m : Nm} {cs : List Value} {elem : TypeId} {esz z : Nat} {r : List Nat} : renC m false (some (Y cs elem esz r z)) = Y cs elem esz r z := rfl
theorem renBs_L {h : List ABlk} (hh : h.length ≤ 1099511627774) (m : Nm) : ∀ (cs : List (Nat × Bool)), hasL h (cs.map (·.1)) = true → wzn (HP h) m cs = (wfnb h m cs).map some := by
  intro cs
  induction cs with
  | nil => intro _; rfl
  | cons c r ih =>
    obtain ⟨id, c⟩ := c
    intro hq
    simp only [List.map_cons, hasL, Bool.and_eq_true] at hq
    simp only [List.map_cons, wzn, wfnb, ih hq.2, wsh h hh]
    cases hb : h[id]? with
    | none => rw [hb] at hq; cases hq.1
    | some b =>
      cases b with
      | cells b => cases c <;> rfl
      | map es => rfl
      | tok x y w => rfl
theorem wffc {h : List ABlk} {rs : List (Nat × Nat)} {p : Nat} : ∀ (L : List Nat) (ix : Nat), (wxz h rs p L ix).map (·.1) = L := by
  intro L
  induction L with
  | nil => intro ix; rfl
  | cons id r ih => intro ix; rw [wxz, List.map_cons, ih]
def wgnb (h : List ABlk) : List Nat → List Nat
  | [] => []
  | id :: r => wts h[id]? ++ wgnb h r
theorem wbfb {h : List ABlk} (hh : h.length ≤ 1099511627774) (L : List Nat) : wyh (HP h) L = wgnb h L := by
  induction L with
  | nil => rfl
  | cons id r ih => simp only [wyh, wgnb, wsh h hh, ih]
theorem wld {h : List ABlk} : wgnb h [] = [] := rfl
theorem wpc {h : List ABlk} {id : Nat} {r : List Nat} : wgnb h (id :: r) = wts h[id]? ++ wgnb h r := rfl
theorem wwf {cs : List Value} {elem : TypeId} {esz z : Nat} {r : List Nat} : wts (some (Y cs elem esz r z)) = [] := rfl
theorem wse {cs : List Value} {t z : Nat} : wts (some (X cs t z true)) = [] := rfl
theorem wte {cs : List Value} {t z : Nat} : wts (some (X cs t z false)) = wqn cs := rfl
theorem wqc : wqn [] = [] := rfl
theorem wbc {v : Value} {l : List Value} : wqn (v :: l) = toks v ++ wqn l := rfl
theorem wrc {v : Value} (h : wtp v = true) : toks v = [] := (wcm h).toks
theorem wxf {a : Option Addr} {n c : Nat} : toks (.slice a n c) = [] := rfl
theorem wyf {a : Option Addr} : toks (.pointer a) = [] := rfl
theorem wvub {cs : List (Nat × Bool)} : whw cs [] = true := rfl
theorem wue {cs : List Value} {elem : TypeId} {esz a z : Nat} {r : List Nat} : wks (Y cs elem esz (a :: r) z) = false := rfl
theorem wmd {h : List ABlk} (hx : h.all wks = false) (hh : h.length ≤ 1099511627774) {p : Nat} {vs : List Value} {L : List Nat} (h1 : (wbu L && (pins p L 0 && (hasL h L && (wfs L (wcf vs ++ www h L) && wvb L.length)))) = true)
    (h2 : wqn vs ++ wgnb h L = []) :
    normX h p vs (some L) = some ⟨L, nmOf L (wxz h (wcf vs ++ www h L) p L 0), HP (wfnb h (nmOf L (wxz h (wcf vs ++ www h L) p L 0)) (wxz h (wcf vs ++ www h L) p L 0))⟩ := by
  show wfab (HP h) p vs (some L) = _
  simp only [Bool.and_eq_true] at h1
  obtain ⟨a1, a2, a3, a4, a5⟩ := h1
  unfold wfab
  simp only []
  rw [wxo hh, cmps_L hh, wuob hh, wbfb hh, h2, a1, a2, a3, a4, a5, wvub]
  simp only [Bool.and_self, cond_true]
  rw [renBs_L hh _ _ (by rw [wffc]; exact a3)]
  congr 2
  exact wvhb _ []
theorem wzf {L : List Nat} {cs : List (Nat × Bool)} {id ver : Nat} : nmOf L cs id ver = (idxOf id L 0, bif wrg id cs then 0 else ver) := rfl
theorem wnd {n : Nat} : wrg n [] = false := rfl
theorem wsc {n x : Nat} {b : Bool} {r : List (Nat × Bool)} : wrg n ((x, b) :: r) = bif decide (x = n) then b else wrg n r := by
  show (bif Nat.beq x n then b else wrg n r) = _
  rw [nbeq]
theorem wad {i o v n c : Nat} (h : 0 < n) : refs (.slice (some ⟨i, o, some v⟩) n c) = [(i, v)] := by
  show (bif Nat.beq n 0 && Nat.ble c 1 then [] else [(i, v)]) = _
  rw [nbeq, decide_eq_false (by omega)]; rfl
theorem wde {m : Nm} {i o v n c : Nat} (h : 0 < n) : renV m (.slice (some ⟨i, o, some v⟩) n c) = .slice (some ⟨(m i v).1, o, some (m i v).2⟩) n c := by
  show (bif Nat.beq n 0 && Nat.ble c 1 then Value.slice (some ⟨i, o, some v⟩) n c else .slice (some (renA m ⟨i, o, some v⟩)) n c) = _
  rw [nbeq, decide_eq_false (by omega)]; rfl
section
variable {rec : Rec} {f : FuncId}
theorem wtc {H : AH} {h : List ABlk} (hx : h.all wks = false) (hh : h.length ≤ 1099511627774) {fr : Frs} {a : List Value} {L : List Nat} {m : Nm} {H2 : AH} : wiy rec f H (HP h) fr a (some ⟨L, m, H2⟩) = wwm H (HP h) fr L (wxz h (wcf a ++ www h L) 0 L 0) (rec (.call f (wke m a)) H2) := by
  show wwm H (HP h) fr L (wfg (HP h) (wcf a ++ wqb (HP h) L) 0 L 0) _ = _
  rw [cmps_L hh, wxo hh]
theorem callS3_Y {H : AH} {h : List ABlk} (hh1 : h.length + 1 ≤ 1099511627774) {i : Nat} {cs ds : List Value} {elem t2 : TypeId} {esz e2 a a2 z z2 : Nat} (hb : h[i]? = some (Y cs elem esz [a] z)) :
    wwm H (HP h) [] [i] [(i, true)] (some (.val (.tuple ⟨[]⟩), HP [Y ds t2 e2 [a2] z2])) = .did (.tuple ⟨[]⟩) none true (HP (h.set i (Y ds t2 e2 [a2] (max z z2)))) (chg h (h.set i (Y ds t2 e2 [a2] (max z z2))) [i] []) := by
  have hh : h.length ≤ 1099511627774 := by omega
  have hi := Y_lt hb
  show wtk (HP h) [] [i] [(i, true)] (.tuple ⟨[]⟩) (HP [Y ds t2 e2 [a2] z2]) = _
  have hlen : ([Y ds t2 e2 [a2] z2] : List ABlk).length ≤ 1099511627774 := by simp
  have g0 : (HP [Y ds t2 e2 [a2] z2]).get 0 = some (Y ds t2 e2 [a2] z2) := by rw [wsh _ hlen]; rfl
  have t0 : wnl (HP h) [(i, true)] = [0] := by
    show [wdh ((HP h).get i)] = _
    rw [wsh h hh, hb]; rfl
  unfold wtk
  rw [t0, HP_n, HP_n]
  have k1 : wiw [i] = true := by
    show (wvb i && true) = true
    rw [weh (by omega)]; rfl
  have k2 : wvb (h.length + ([Y ds t2 e2 [a2] z2] : List ABlk).length) = true := weh hh1
  have k3 : wsn (HP [Y ds t2 e2 [a2] z2]) ([Y ds t2 e2 [a2] z2] : List ABlk).length 0 = [] := by
    show wts ((HP [Y ds t2 e2 [a2] z2]).get 0) ++ [] = []
    rw [g0]; rfl
  have k4 : wrn (HP [Y ds t2 e2 [a2] z2]) [(i, true)] 0 = true := by
    show (isOpen ((HP [Y ds t2 e2 [a2] z2]).get 0) && true) = true
    rw [g0]; rfl
  have k5 : hasAll (HP [Y ds t2 e2 [a2] z2]) (upto ([i] : List Nat).length) = true := by
    show (((HP [Y ds t2 e2 [a2] z2]).get 0).isSome && true) = true
    rw [g0]; rfl
  rw [k1, k2, k3, k4, k5]
  have k6 : wjw ([i] : List Nat).length [0] (toks (.tuple ⟨[]⟩) ++ []) = true := rfl
  have k7 : Nat.ble ([i] : List Nat).length ([Y ds t2 e2 [a2] z2] : List ABlk).length = true := rfl
  rw [k6, k7]
  simp only [Bool.and_self, cond_true]
  have k8 : wvm (whp h.length ([i] : List Nat).length [i] [0]) (HP h) (HP [Y ds t2 e2 [a2] z2]) [(i, true)] 0 (HP h) = HP (h.set i (Y ds t2 e2 [a2] (max z z2))) := by
    show setO (HP h) i (wnj _ true (wdh ((HP h).get i)) (wjdb ((HP h).get i)) ((HP [Y ds t2 e2 [a2] z2]).get 0)) = _
    rw [g0, wsh h hh, hb]
    show (HP h).set i _ = _
    rw [wsq _ _ _ hi]
    rfl
  rw [k8]
  rfl
theorem wod : toks (.tuple ⟨[]⟩) = [] := rfl
theorem wag {m : Nm} : renV m (.tuple ⟨[]⟩) = .tuple ⟨[]⟩ := rfl
end
def isOne : List Nat → Bool
  | [_] => true
  | _ => false
def canY : Option ABlk → Bool
  | some (.cells b) => isOne b.lens && (Nat.beq b.wver 0 && (b.pf && !b.mark))
  | _ => false
theorem wei {cs : List Value} {elem : TypeId} {esz a z : Nat} : canY (some (Y cs elem esz [a] z)) = true := rfl
theorem wdr {o : Option ABlk} (h : canY o = true) : ∃ cs elem esz a z, o = some (Y cs elem esz [a] z) := by
  unfold canY at h
  split at h
  · rename_i b
    obtain ⟨cs, elem, esz, lens, w, z, mk, pf⟩ := b
    simp only [Bool.and_eq_true] at h
    obtain ⟨h1, h2, h3, h4⟩ := h
    have e2 : w = 0 := Nat.eq_of_beq_eq_true h2
    have e3 : pf = true := h3
    have e4 : mk = false := by cases mk with | false => rfl | true => cases h4
    match lens, h1 with
    | [a], _ => subst e2 e3 e4; exact ⟨cs, elem, esz, a, z, rfl⟩
  · cases h
def wgfc : List Nat → Nat
  | [] => 0
  | a :: _ => a
def ldY (off : Nat) : Option ABlk → ARes
  | some (.cells b) => bif Nat.ble (off + 1) (wgfc b.lens) then valO b.cells[off]? else .none
  | _ => .none
theorem wpd {h : List ABlk} (hh : h.length ≤ 1099511627774) {i off : Nat} (hc : canY h[i]? = true) : wjl (HP h) (.pointer (some ⟨i, off, some 0⟩)) = ldY off h[i]? := by
  obtain ⟨cs, elem, esz, a, z, hb⟩ := wdr hc
  rw [hb]
  show _ = bif Nat.ble (off + 1) a then valO cs[off]? else .none
  by_cases hq : off + 1 ≤ a
  · rw [load1_Y hh hb hq, nble, decide_eq_true hq]; rfl
  · rw [nble, decide_eq_false hq]
    unfold wjl
    simp only [rd_Y hh hb, if_neg hq]
    rfl
theorem wul {off : Nat} {cs : List Value} {elem : TypeId} {esz a z : Nat} (h : off + 1 ≤ a) : ldY off (some (Y cs elem esz [a] z)) = valO cs[off]? := by
  show (bif Nat.ble (off + 1) a then valO cs[off]? else .none) = _
  rw [nble, decide_eq_true h]; rfl
def hdY : Option ABlk → Nat
  | some (.cells b) => wgfc b.lens
  | _ => 0
theorem wvl {cs : List Value} {elem : TypeId} {esz a z : Nat} : hdY (some (Y cs elem esz [a] z)) = a := rfl
def stY (h : List ABlk) (i off size : Nat) (v : Value) : Option ABlk → ARes
  | some (.cells b) => bif Nat.ble (off + size) (wgfc b.lens) && Nat.beq b.frz 0 then .eff undef (HP (h.set i (.cells { b with cells := wh b.cells off v.cells.toList }))) else .none
  | _ => .none
theorem wqd {h : List ABlk} (hh : h.length ≤ 1099511627774) {i off size : Nat} {v : Value} (hc : canY h[i]? = true) (hz : wjdb h[i]? = 0) (hs : off + size ≤ hdY h[i]?)
    (hv : v.cells.size = size) (hj : isJK v = false) (ho : v.cells.toList.all oneCell = true) (hr : wlb v.cells.toList = true) : waq (HP h) size (.pointer (some ⟨i, off, some 0⟩)) v = stY h i off size v h[i]? := by
  obtain ⟨cs, elem, esz, a, z, hb⟩ := wdr hc
  rw [hb] at hz hs ⊢
  have hz : z = 0 := hz
  subst hz
  have hs : off + size ≤ a := hs
  rw [store_Y hh hb hs hv hj ho hr]
  show _ = bif Nat.ble (off + size) a && Nat.beq 0 0 then _ else _
  rw [nble, decide_eq_true hs]; rfl
theorem wbg {cs : List Value} {elem : TypeId} {esz z : Nat} {r : List Nat} : wjdb (some (Y cs elem esz r z)) = z := rfl
theorem wwl {h : List ABlk} {i off size : Nat} {v : Value} {cs : List Value} {elem : TypeId} {esz a : Nat} (hs : off + size ≤ a) : stY h i off size v (some (Y cs elem esz [a] 0)) = .eff undef (HP (h.set i (Y (wh cs off v.cells.toList) elem esz [a] 0))) := by
  show (bif Nat.ble (off + size) a && Nat.beq 0 0 then _ else _) = _
  rw [nble, decide_eq_true hs]; rfl
def appF (h : List ABlk) (elem size bytes : Nat) (s : Value) (n : Nat) (new : List Value) : ARes := wfv false (HP h) elem size bytes s n new
def appRF (h : List ABlk) (elem size bytes : Nat) (s : Value) (n : Nat) : Option ABlk → ARes
  | some (.cells b) => bif Nat.ble (n * size) b.cells.length then appF h elem size bytes s n (slotsOf b.cells 0 (n * size)) else .none
  | _ => .none
theorem wcg {h : List ABlk} {elem size bytes : Nat} {s : Value} {n : Nat} {cs : List Value} {t z : Nat} {pf : Bool} (hc : n * size ≤ cs.length) : appRF h elem size bytes s n (some (X cs t z pf)) = appF h elem size bytes s n (slotsOf cs 0 (n * size)) := by
  show (bif Nat.ble (n * size) cs.length then _ else _) = _
  rw [nble, decide_eq_true hc]; rfl
theorem wve {h : List ABlk} (hh : h.length ≤ 1099511627774) {elem size bytes : Nat} {s : Value} {i n c : Nat} (hx : wwdc h[i]? = true) :
    appA false (HP h) elem size bytes s (.slice (some ⟨i, 0, none⟩) (n + 1) c) = appRF h elem size bytes s (n + 1) h[i]? := by
  unfold appA
  have h1 : lenA (.slice (some ⟨i, 0, none⟩) (n + 1) c) = some (n + 1) := rfl
  rw [h1]
  have h2 : wkl (HP h) size (n + 1) (.slice (some ⟨i, 0, none⟩) (n + 1) c) = match wyi (HP h) ⟨i, 0, none⟩ ((n + 1) * size) with
    | some b => some (slotsOf b.cells 0 ((n + 1) * size))
    | none => none := by
    show (bif Nat.ble (n + 1) (n + 1) && Nat.blt 0 (n + 1) then _ else none) = _
    rw [nble, nblt, decide_eq_true (Nat.le_refl _), decide_eq_true (Nat.succ_pos n)]
    rfl
  simp only [h2]
  unfold wyi
  rw [wsh h hh]
  cases hb : h[i]? with
  | none => rw [hb] at hx; cases hx
  | some b =>
    rw [hb] at hx
    cases b with
    | cells b =>
      have hx : (isNil b.lens && Nat.beq b.wver 0) = true := hx
      simp only [Bool.and_eq_true, Nat.beq_eq] at hx
      obtain ⟨h3, h4⟩ := hx
      have h5 : b.lens = [] := by cases hl : b.lens with | nil => rfl | cons a r => rw [hl] at h3; cases h3
      have h6 : rdOk b (aver ⟨i, 0, none⟩) (0 + (n + 1) * size) = Nat.ble ((n + 1) * size) b.cells.length := by
        unfold rdOk
        have e1 : b.top = 0 := by unfold CBlk.top; rw [h5]; rfl
        have e2 : b.lenAt 0 = b.cells.length := by unfold CBlk.lenAt; rw [h5]
        rw [h4, e1]
        show (Nat.ble 0 0 && (Nat.ble 0 0 && Nat.ble (0 + (n + 1) * size) (b.lenAt 0))) = _
        rw [e2, Nat.zero_add, nble, nble]
        simp
      simp only [h6]
      cases hq : Nat.ble ((n + 1) * size) b.cells.length with
      | true => simp only [cond_true, appRF, hq]; rfl
      | false => simp only [cond_false, appRF, hq]
    | map es => cases hx
    | tok a b c => cases hx
theorem wwe {h : List ABlk} (hh : h.length ≤ 1099511627774) {elem size bytes n : Nat} {new : List Value} (hn : n ≤ 16777216) (hb : bytes ≤ 1048576) (hr : wlb new = true) :
    appF h elem size bytes (.slice none 0 0) n new = .eff (.slice (some ⟨h.length, 0, some 0⟩) n 0) (HP (h ++ [Y new elem size [new.length] 0])) := by
  have h1 : roomy n bytes = true := by unfold roomy; rw [nble, nble, decide_eq_true hn, decide_eq_true hb]; rfl
  show (bif roomy n bytes then wel (HP h) elem size new n else .none) = _
  rw [h1, cond_true]
  unfold wel
  rw [HP_n, weh hh, cond_true, hr, wym]
def apY (h : List ABlk) (i elem size len n : Nat) (new : List Value) : Option ABlk → ARes
  | some (.cells b) => bif Nat.beq b.elem elem && (Nat.beq b.esz size && (Nat.beq (len * size) b.cells.length && (Nat.beq (len * size) (wgfc b.lens) && Nat.beq b.frz 0))) then
      .eff (.slice (some ⟨i, 0, some 1⟩) (len + n) 0) (HP (h.set i (.cells { b with cells := b.cells ++ new, lens := (b.cells ++ new).length :: b.lens }))) else .none
  | _ => .none
theorem wdl {h : List ABlk} {i elem size len n : Nat} {new cs : List Value} (hl : len * size = cs.length) {a : Nat} (ha : cs.length = a) : apY h i elem size len n new (some (Y cs elem size [a] 0)) = .eff (.slice (some ⟨i, 0, some 1⟩) (len + n) 0) (HP (h.set i (Y (cs ++ new) elem size [(cs ++ new).length, a] 0))) := by
  show (bif Nat.beq elem elem && (Nat.beq size size && (Nat.beq (len * size) cs.length && (Nat.beq (len * size) a && Nat.beq 0 0))) then _ else _) = _
  rw [nbeq, nbeq, nbeq, nbeq, decide_eq_true rfl, decide_eq_true rfl, decide_eq_true hl, decide_eq_true (hl.trans ha)]
  rfl
def isEff : ARes → Bool
  | .eff _ _ => true
  | _ => false
theorem wrd {v : Value} {H : AH} : isEff (.eff v H) = true := rfl
theorem wdg {h : List ABlk} (hh : h.length ≤ 1099511627774) {i elem size bytes len n : Nat} {new : List Value} (hc : canY h[i]? = true) (h0 : 0 < len) (hz : 0 < size) (hn : len + n ≤ 16777216) (hb : bytes ≤ 1048576) (hr : wlb new = true) (ho : new.all oneCell = true)
    (hok : isEff (apY h i elem size len n new h[i]?) = true) :
    appF h elem size bytes (.slice (some ⟨i, 0, some 0⟩) len 0) n new = apY h i elem size len n new h[i]? := by
  obtain ⟨cs, el2, esz, a, z, hb0⟩ := wdr hc
  rw [hb0] at hok ⊢
  have hi := Y_lt hb0
  have hok2 : (Nat.beq el2 elem && (Nat.beq esz size && (Nat.beq (len * size) cs.length && (Nat.beq (len * size) a && Nat.beq z 0)))) = true := by
    cases hq : (Nat.beq el2 elem && (Nat.beq esz size && (Nat.beq (len * size) cs.length && (Nat.beq (len * size) a && Nat.beq z 0)))) with
    | true => rfl
    | false =>
      have hok : isEff (bif (Nat.beq el2 elem && (Nat.beq esz size && (Nat.beq (len * size) cs.length && (Nat.beq (len * size) a && Nat.beq z 0)))) then .eff (.slice (some ⟨i, 0, some 1⟩) (len + n) 0) (HP (h.set i (.cells { cells := cs ++ new, elem := el2, esz := esz, lens := (cs ++ new).length :: [a], wver := 0, frz := z, mark := false, pf := true }))) else ARes.none) = true := hok
      rw [hq] at hok; cases hok
  simp only [Bool.and_eq_true] at hok2
  obtain ⟨q1, q2, q3, q4, q5⟩ := hok2
  have q1 := Nat.eq_of_beq_eq_true q1
  have q2 := Nat.eq_of_beq_eq_true q2
  have q3 := Nat.eq_of_beq_eq_true q3
  have q4 := Nat.eq_of_beq_eq_true q4
  have q5 := Nat.eq_of_beq_eq_true q5
  subst q1 q2 q5
  rw [wdl q3 (q3.symm.trans q4)]
  have h1 : roomy (len + n) bytes = true := by unfold roomy; rw [nble, nble, decide_eq_true hn, decide_eq_true hb]; rfl
  show (bif roomy (len + n) bytes then wps (HP h) el2 esz ⟨i, 0, some 0⟩ len n new else .none) = _
  rw [h1, cond_true]
  unfold wps
  have h2 : wgk esz ⟨i, 0, some 0⟩ (HP h) (len * esz) = true := by
    unfold wgk
    rw [rd_Y hh hb0, if_pos (by omega)]
    show (Nat.beq esz esz && (true && (Nat.beq (0 % esz) 0 && Nat.blt 0 esz))) = true
    rw [nbeq, nblt, decide_eq_true rfl, decide_eq_true hz, Nat.zero_mod]; rfl
  rw [h2, nblt, decide_eq_true h0, rd_Y hh hb0, if_pos (by omega)]
  have h3 : wvab { cells := cs, elem := el2, esz := esz, lens := [a], wver := 0, frz := 0, mark := false, pf := true } el2 esz ⟨i, 0, some 0⟩ len = true := by
    unfold wvab
    show (Nat.beq el2 el2 && (Nat.beq 0 0 && (Nat.beq 0 0 && Nat.beq (len * esz) cs.length && (Nat.ble 0 cs.length && wvb i)))) = true
    rw [nbeq, nbeq, nbeq, nble, weh (show i ≤ 1099511627774 by omega), decide_eq_true rfl, decide_eq_true rfl, decide_eq_true q3, decide_eq_true (Nat.zero_le _)]; rfl
  simp only [Bool.and_self, cond_true, h3, ho, hr]
  rw [wsq _ _ _ hi]
  rfl
def slY (i n : Nat) : Option ABlk → Option (Value × Frs)
  | some (.cells b) => bif Nat.blt 0 b.esz && (Nat.ble (n * b.esz) (wgfc b.lens) && wlb (slotsOf b.cells 0 (n * b.esz))) then some (FL n (slotsOf b.cells 0 (n * b.esz)), [(i, n * b.esz)]) else none
  | _ => none
theorem wrk {i n : Nat} {cs : List Value} {elem : TypeId} {esz a z : Nat} (h1 : 0 < esz) (h2 : n * esz ≤ a) (h3 : wlb (slotsOf cs 0 (n * esz)) = true) : slY i n (some (Y cs elem esz [a] z)) = some (FL n (slotsOf cs 0 (n * esz)), [(i, n * esz)]) := by
  show (bif Nat.blt 0 esz && (Nat.ble (n * esz) a && wlb (slotsOf cs 0 (n * esz))) then _ else none) = _
  rw [nblt, nble, decide_eq_true h1, decide_eq_true h2, h3]; rfl
theorem wxe {h : List ABlk} (hh : h.length ≤ 1099511627774) {i n : Nat} {sl : List Value → Option (List Value × Frs)} (hc : canY h[i]? = true) (h0 : 0 < n) (hok : (slY i n h[i]?).isSome = true) :
    weg P (HP h) sl (.slice (some ⟨i, 0, some 0⟩) n 0) = slY i n h[i]? := by
  obtain ⟨cs, elem, esz, a, z, hb⟩ := wdr hc
  rw [hb] at hok ⊢
  have hok2 : (Nat.blt 0 esz && (Nat.ble (n * esz) a && wlb (slotsOf cs 0 (n * esz)))) = true := by
    cases hq : (Nat.blt 0 esz && (Nat.ble (n * esz) a && wlb (slotsOf cs 0 (n * esz)))) with
    | true => rfl
    | false =>
      have : (bif (Nat.blt 0 esz && (Nat.ble (n * esz) a && wlb (slotsOf cs 0 (n * esz)))) then some (FL n (slotsOf cs 0 (n * esz)), [(i, n * esz)]) else none).isSome = true := hok
      rw [hq] at this; cases this
  simp only [Bool.and_eq_true] at hok2
  obtain ⟨q1, q2, q3⟩ := hok2
  rw [nblt] at q1
  rw [nble] at q2
  have q1 := of_decide_eq_true q1
  have q2 := of_decide_eq_true q2
  rw [wrk q1 q2 q3, wdfc hh hb h0 q1 q2 q3]
def c3Y (h : List ABlk) (i : Nat) (ds : List Value) (t2 e2 a2 z2 : Nat) : Option ABlk → Did
  | some (.cells b) => .did (.tuple ⟨[]⟩) none true (HP (h.set i (Y ds t2 e2 [a2] (max b.frz z2)))) (chg h (h.set i (Y ds t2 e2 [a2] (max b.frz z2))) [i] [])
  | _ => .none
theorem wuc {H : AH} {h : List ABlk} (hh1 : h.length + 1 ≤ 1099511627774) {i : Nat} {ds : List Value} {t2 : TypeId} {e2 a2 z2 : Nat} (hc : canY h[i]? = true) :
    wwm H (HP h) [] [i] [(i, true)] (some (.val (.tuple ⟨[]⟩), HP [Y ds t2 e2 [a2] z2])) = c3Y h i ds t2 e2 a2 z2 h[i]? := by
  obtain ⟨cs, elem, esz, a, z, hb⟩ := wdr hc
  rw [callS3_Y hh1 hb, hb]
  rfl
theorem wxl {h : List ABlk} {i : Nat} {ds cs : List Value} {t2 e2 a2 z2 : Nat} {elem : TypeId} {esz a z : Nat} : c3Y h i ds t2 e2 a2 z2 (some (Y cs elem esz [a] z)) = .did (.tuple ⟨[]⟩) none true (HP (h.set i (Y ds t2 e2 [a2] (max z z2)))) (chg h (h.set i (Y ds t2 e2 [a2] (max z z2))) [i] []) := rfl
theorem wrb {h : List ABlk} {v : Value} (hv : frzV v = true) (hk : h.length ≤ 1099511627774) : wwm (HP h) (HP h) [] [] [] (some (.val v, HP [])) = .did v none true (HP h) [] := wez hv hk
theorem wsb {h h1 : List ABlk} {p : Nat × Nat} {fr : Frs} {v : Value} (hv : frzV v = true) (hk : h1.length ≤ 1099511627774) : wwm (HP h) (HP h1) (p :: fr) [] [] (some (.val v, HP [])) = .did v none true (HP (bif flat v then h else h1)) (bif flat v then [] else wmo (p :: fr)) := wfz hv hk
end
end Go.Den
namespace Go.Proofs.Ytjihbfdbgamcdaa
set_option linter.unusedVariables false
set_option linter.unusedSimpArgs false
open Go.Den
noncomputable section
def insJ : Nat → List Int → List Int
  | 0, l => l
  | j + 1, l => if l.getD (j + 1) 0 < l.getD j 0 then insJ j ((l.set (j + 1) (l.getD j 0)).set j (l.getD (j + 1) 0)) else l
def wer : Nat → Nat → List Int → List Int
  | 0, _, l => l
  | k + 1, i, l => wer k (i + 1) (insJ i l)
theorem wav : ∀ (j : Nat) (l : List Int), (insJ j l).length = l.length := by
  intro j
  induction j with
  | zero => intro l; rfl
  | succ j ih => intro l; rw [insJ]; split; (rw [ih, List.length_set, List.length_set]); rfl
theorem wdcb : ∀ (k i : Nat) (l : List Int), (wer k i l).length = l.length := by
  intro k
  induction k with
  | zero => intro i l; rfl
  | succ k ih => intro i l; rw [wer, ih, wav]
def wwp (l : List Int) : List Int := wer (l.length - 1) 1 l
theorem wbv (l : List Int) : (wwp l).length = l.length := wdcb _ _ _
def wqp (x : Int) : List Int → List Int
  | [] => [x]
  | y :: R => if x < y then y :: wqp x R else x :: y :: R
theorem wmpb (A B : List Int) (x : Int) : (A ++ x :: B).getD A.length 0 = x := by
  rw [List.getD_eq_getElem?_getD, List.getElem?_append_right (Nat.le_refl _), Nat.sub_self]; rfl
theorem insJ_rev : ∀ (R : List Int) (x : Int) (B : List Int), insJ R.length (R.reverse ++ x :: B) = (wqp x R).reverse ++ B := by
  intro R
  induction R with
  | nil => intro x B; rfl
  | cons y R ih =>
    intro x B
    have hl : R.reverse.length = R.length := List.length_reverse
    have e1 : ((y :: R).reverse ++ x :: B) = R.reverse ++ y :: x :: B := by rw [List.reverse_cons, List.append_assoc]; rfl
    have g0 : (R.reverse ++ y :: x :: B).getD R.length 0 = y := by have := wmpb R.reverse (x :: B) y; rwa [hl] at this
    have g1 : (R.reverse ++ y :: x :: B).getD (R.length + 1) 0 = x := by
      have := wmpb (R.reverse ++ [y]) B x
      rw [List.length_append, hl, List.append_assoc] at this
      exact this
    rw [List.length_cons, insJ, e1, g0, g1, wqp]
    by_cases hq : x < y
    · rw [if_pos hq, if_pos hq]
      have s1 : ((R.reverse ++ y :: x :: B).set (R.length + 1) y).set R.length x = R.reverse ++ x :: y :: B := by
        rw [List.set_append_right _ _ (by omega), hl, show R.length + 1 - R.length = 1 by omega, List.set_append_right _ _ (by omega), hl, Nat.sub_self]; rfl
      rw [s1, ih x (y :: B), List.reverse_cons, List.append_assoc]; rfl
    · rw [if_neg hq, if_neg hq, List.reverse_cons, List.reverse_cons, List.append_assoc, List.append_assoc]; rfl
theorem wwub : ∀ (B R : List Int), wer B.length R.length (R.reverse ++ B) = (B.foldl (fun R x => wqp x R) R).reverse := by
  intro B
  induction B with
  | nil => intro R; rw [wer.eq_def]; simp
  | cons x B ih =>
    intro R
    rw [List.length_cons, wer, insJ_rev, List.foldl_cons]
    have hl : (wqp x R).length = R.length + 1 := by
      have : ∀ (R : List Int), (wqp x R).length = R.length + 1 := by
        intro R
        induction R with
        | nil => rfl
        | cons y R ih => rw [wqp]; split; (rw [List.length_cons, ih, List.length_cons]); rfl
      exact this R
    have := ih (wqp x R)
    rw [hl] at this
    exact this
theorem whfc (l : List Int) : wwp l = (l.foldl (fun R x => wqp x R) []).reverse := by
  cases l with
  | nil => rfl
  | cons x l =>
    unfold wwp
    have := wwub l [x]
    exact this
theorem wxub : ∀ (R : List Int) (x : Int), (∀ y ∈ R, x < y) → wqp x R = R ++ [x] := by
  intro R
  induction R with
  | nil => intro x _; rfl
  | cons y R ih => intro x h; rw [wqp, if_pos (h y (List.mem_cons_self ..)), ih x fun z hz => h z (List.mem_cons_of_mem _ hz)]; rfl
theorem wifc : ∀ (l R : List Int), (R ++ l).Pairwise (· > ·) → l.foldl (fun R x => wqp x R) R = R ++ l := by
  intro l
  induction l with
  | nil => intro R _; rw [List.append_nil]; rfl
  | cons x l ih =>
    intro R h
    rw [List.foldl_cons, wxub R x (fun y hy => (List.pairwise_append.1 h).2.2 y hy x (List.mem_cons_self ..)), ih (R ++ [x]) (by rw [List.append_assoc]; exact h), List.append_assoc]; rfl
theorem wecb {l : List Int} (h : l.Pairwise (· > ·)) : wwp l = l.reverse := by
  rw [whfc, wifc l [] h, List.nil_append]
abbrev slV (n : Nat) : Value := .slice (some ⟨0, 0, some 0⟩) n 0
abbrev yB (l : List Int) : List ABlk := [Y (ints l) 3 1 [l.length] 0]
theorem rY {N : Nat} (h : 0 < N) : refs (slV N) = [(0, 0)] ∧ ∀ m, renV m (slV N) = .slice (some ⟨(m 0 0).1, 0, some (m 0 0).2⟩) N 0 := ⟨wad h, fun _ => wde h⟩
theorem ints_set {l : List Int} {i : Nat} {a : Int} : (ints l).set i (.int .i64 a) = ints (l.set i a) := by
  unfold ints; rw [List.map_set]
theorem wek {l : List Int} : wlb (ints l) = true := by
  induction l with
  | nil => rfl
  | cons a l ih => show (wnf (.int .i64 a) && wlb (ints l)) = true; rw [ih]; rfl
theorem ev_isNaN (a : Int) : lim Try.prog cfg (.call 78 [.int .i64 a]) (HP []) = some (.val (.bool false), HP []) := by
  refine wub hc wft (Nat.le_of_ble_eq_true rfl) (Nat.le_of_ble_eq_true rfl) ?_
  unfold wnp
  (repeat' (first | (simp -implicitDefEqProofs (maxSteps := 2000000) (disch := first | with_reducible assumption | omega | (simp only [zS, zA, seval] <;> omega) | fail) only [zS, argl, insA, Go.Den.wh, wo, wu, looks, wbb, wab, idOf, riA, seval, Go.Den.wm, kK, *]) | (with_reducible (first | apply z1 | apply z2 | apply z3 | apply z4) <;> intro hq <;> (try simp only [zH] at hq) <;> (try (exfalso; omega)))))
theorem ev_Less (a b : Int) : lim Try.prog cfg (.call 121 [.int .i64 a, .int .i64 b]) (HP []) = some (.val (.bool (decide (a < b))), HP []) := by
  have h := ev_isNaN a
  refine wub hc wuu (Nat.le_of_ble_eq_true rfl) (Nat.le_of_ble_eq_true rfl) ?_
  unfold wzq
  (repeat' (first | (simp -implicitDefEqProofs (maxSteps := 2000000) (disch := first | with_reducible assumption | omega | (simp only [zS, zA, seval] <;> omega) | fail) only [zS, argl, insA, Go.Den.wh, wo, wu, looks, wbb, wab, idOf, riA, seval, Go.Den.wm, kK, *]) | (with_reducible (first | apply z1 | apply z2 | apply z3 | apply z4) <;> intro hq <;> (try simp only [zH] at hq) <;> (try (exfalso; omega)))))
set_option maxHeartbeats 4000000 in
theorem ins_in (N : Nat) (hN : N ≤ 12) (i : Nat) (hi : i < N) : ∀ (j : Nat) (l : List Int), l.length = N → j ≤ i →
    lim Try.prog cfg (.loop 115 1 (wib 1) (SE (EJ 49 G1) [(7, .int .i64 j), (6, .int .i64 i), (2, .int .i64 N), (1, .int .i64 0), (0, slV N)])) (HP (yB l)) = some (.code (.exit 2) (SE (EJ 49 G1) [(6, .int .i64 i), (2, .int .i64 N), (1, .int .i64 0), (0, slV N)]), HP (yB (insJ j l))) := by
  intro j
  induction j with
  | zero =>
    intro l hl hj
    have hN0 : 0 < N := by omega
    rw [insJ]
    unfold yB
    rw [hl]
    obtain ⟨rr, rn⟩ := rY hN0
    refine wcb wfe ?_
    unfold wdd
    (repeat' (first | (simp -implicitDefEqProofs (maxSteps := 2000000) (disch := first | with_reducible assumption | omega | (simp only [zS, zA, seval, rr, rn, whb, zD, wpd, wei, wul, wqd, wvl, wbg, wwl, wve, wcg, wwe, wdg, wrd, wdl, wxe, wrk, wuc, wxl, wrb, wsb, wne, woe, wkc, wlc, wpe, wsf, wtf, wue, wmc, wac, wjd, wnc, wkd, woc, wdi, wqe, wre, wuf, wvf, wld, wpc, wwf, wse, wte, wqc, wbc, wxf, wyf, wrc, wmd, wzf, wnd, wsc, wad, wde, wtc, wag, wod, Bool.false_and] <;> omega) | fail) only [zS, argl, insA, Go.Den.wh, wo, wu, looks, wbb, wab, idOf, riA, seval, Go.Den.wm, kK, wfd, wmb, wyb, rr, rn, whb, Nat.mul_one, Nat.max_self, *, zT, wpd, wei, wul, wqd, wvl, wbg, wwl, wve, wcg, wwe, wdg, wrd, wdl, wxe, wrk, wuc, wxl, wrb, wsb, wne, woe, wkc, wlc, wpe, wsf, wtf, wue, wmc, wac, wjd, wnc, wkd, woc, wdi, wqe, wre, wuf, wvf, wld, wpc, wwf, wse, wte, wqc, wbc, wxf, wyf, wrc, wmd, wzf, wnd, wsc, wad, wde, wtc, wag, wod, Bool.false_and]) | (with_reducible (first | apply z1 | apply z2 | apply z3 | apply z4) <;> intro hq <;> (try simp only [zH] at hq) <;> (try (exfalso; omega))) | (with_reducible apply z5; (case hl => (repeat (first | exact .nil | with_reducible apply z6 | with_reducible apply z7))); (case h => kernel_rfl))))
  | succ j ih =>
    intro l hl hj
    have hN0 : 0 < N := by omega
    have g1 := wgp (l := l) (i := j + 1) (by omega)
    have g0 := wgp (l := l) (i := j) (by omega)
    have hL := ev_Less (l.getD (j + 1) 0) (l.getD j 0)
    have e1 : ((j + 1 : Nat) : Int) = (j : Int) + 1 := rfl
    have e2 : (j : Int) + 1 - 1 = j := by omega
    have e3 : ((j : Int) + 1).toNat = j + 1 := by omega
    rw [insJ, e1]
    clear e1
    by_cases hq : l.getD (j + 1) 0 < l.getD j 0
    · rw [if_pos hq]
      rw [decide_eq_true hq] at hL
      have h := ih ((l.set (j + 1) (l.getD j 0)).set j (l.getD (j + 1) 0)) (by rw [List.length_set, List.length_set]; exact hl) (by omega)
      generalize l.getD (j + 1) 0 = x at *
      generalize l.getD j 0 = y at *
      clear ih hq
      unfold yB at h ⊢
      rw [List.length_set, List.length_set] at h
      rw [wav, List.length_set, List.length_set] at h ⊢
      rw [hl] at h ⊢
      have hil : (ints l).length = N := by rw [whb, hl]
      obtain ⟨rr, rn⟩ := rY hN0
      refine wcb wfe ?_
      unfold wdd
      (repeat' (first | (simp -implicitDefEqProofs (maxSteps := 2000000) (disch := first | with_reducible assumption | omega | (simp only [zS, zA, seval, rr, rn, whb, zD, wpd, wei, wul, wqd, wvl, wbg, wwl, wve, wcg, wwe, wdg, wrd, wdl, wxe, wrk, wuc, wxl, wrb, wsb, wne, woe, wkc, wlc, wpe, wsf, wtf, wue, wmc, wac, wjd, wnc, wkd, woc, wdi, wqe, wre, wuf, wvf, wld, wpc, wwf, wse, wte, wqc, wbc, wxf, wyf, wrc, wmd, wzf, wnd, wsc, wad, wde, wtc, wag, wod, Bool.false_and] <;> omega) | fail) only [zS, argl, insA, Go.Den.wh, wo, wu, looks, wbb, wab, idOf, riA, seval, Go.Den.wm, kK, wfd, wmb, wyb, rr, rn, whb, ints_set, Nat.mul_one, *, zT, wpd, wei, wul, wqd, wvl, wbg, wwl, wve, wcg, wwe, wdg, wrd, wdl, wxe, wrk, wuc, wxl, wrb, wsb, wne, woe, wkc, wlc, wpe, wsf, wtf, wue, wmc, wac, wjd, wnc, wkd, woc, wdi, wqe, wre, wuf, wvf, wld, wpc, wwf, wse, wte, wqc, wbc, wxf, wyf, wrc, wmd, wzf, wnd, wsc, wad, wde, wtc, wag, wod, Bool.false_and]) | (with_reducible (first | apply z1 | apply z2 | apply z3 | apply z4) <;> intro hq <;> (try simp only [zH] at hq) <;> (try (exfalso; omega))) | (with_reducible apply z5; (case hl => (repeat (first | exact .nil | with_reducible apply z6 | with_reducible apply z7))); (case h => kernel_rfl))))
      all_goals exact h
    · rw [if_neg hq]
      rw [decide_eq_false hq] at hL
      generalize l.getD (j + 1) 0 = x at *
      generalize l.getD j 0 = y at *
      clear ih hq
      unfold yB
      rw [hl]
      obtain ⟨rr, rn⟩ := rY hN0
      refine wcb wfe ?_
      unfold wdd
      (repeat' (first | (simp -implicitDefEqProofs (maxSteps := 2000000) (disch := first | with_reducible assumption | omega | (simp only [zS, zA, seval, rr, rn, whb, zD, wpd, wei, wul, wqd, wvl, wbg, wwl, wve, wcg, wwe, wdg, wrd, wdl, wxe, wrk, wuc, wxl, wrb, wsb, wne, woe, wkc, wlc, wpe, wsf, wtf, wue, wmc, wac, wjd, wnc, wkd, woc, wdi, wqe, wre, wuf, wvf, wld, wpc, wwf, wse, wte, wqc, wbc, wxf, wyf, wrc, wmd, wzf, wnd, wsc, wad, wde, wtc, wag, wod, Bool.false_and] <;> omega) | fail) only [zS, argl, insA, Go.Den.wh, wo, wu, looks, wbb, wab, idOf, riA, seval, Go.Den.wm, kK, wfd, wmb, wyb, rr, rn, whb, ints_set, Nat.mul_one, *, zT, wpd, wei, wul, wqd, wvl, wbg, wwl, wve, wcg, wwe, wdg, wrd, wdl, wxe, wrk, wuc, wxl, wrb, wsb, wne, woe, wkc, wlc, wpe, wsf, wtf, wue, wmc, wac, wjd, wnc, wkd, woc, wdi, wqe, wre, wuf, wvf, wld, wpc, wwf, wse, wte, wqc, wbc, wxf, wyf, wrc, wmd, wzf, wnd, wsc, wad, wde, wtc, wag, wod, Bool.false_and]) | (with_reducible (first | apply z1 | apply z2 | apply z3 | apply z4) <;> intro hq <;> (try simp only [zH] at hq) <;> (try (exfalso; omega))) | (with_reducible apply z5; (case hl => (repeat (first | exact .nil | with_reducible apply z6 | with_reducible apply z7))); (case h => kernel_rfl))))
set_option maxHeartbeats 4000000 in
theorem ins_out (N : Nat) (hN : N ≤ 12) (hN0 : 0 < N) : ∀ (k i : Nat) (l : List Int), i + k = N → l.length = N → 0 < i →
    lim Try.prog cfg (.loop 115 1 (wib 0) (SE (EJ 49 G1) [(6, .int .i64 i), (2, .int .i64 N), (1, .int .i64 0), (0, slV N)])) (HP (yB l)) = some (.code (.exit 0) (SE (EJ 49 G1) []), HP (yB (wer k i l))) := by
  intro k
  induction k with
  | zero =>
    intro i l hi hl h0
    rw [wer]
    unfold yB
    rw [hl]
    obtain ⟨rr, rn⟩ := rY hN0
    refine wcb wge ?_
    unfold wed
    (repeat' (first | (simp -implicitDefEqProofs (maxSteps := 2000000) (disch := first | with_reducible assumption | omega | (simp only [zS, zA, seval, rr, rn, whb, zD, wpd, wei, wul, wqd, wvl, wbg, wwl, wve, wcg, wwe, wdg, wrd, wdl, wxe, wrk, wuc, wxl, wrb, wsb, wne, woe, wkc, wlc, wpe, wsf, wtf, wue, wmc, wac, wjd, wnc, wkd, woc, wdi, wqe, wre, wuf, wvf, wld, wpc, wwf, wse, wte, wqc, wbc, wxf, wyf, wrc, wmd, wzf, wnd, wsc, wad, wde, wtc, wag, wod, Bool.false_and] <;> omega) | fail) only [zS, argl, insA, Go.Den.wh, wo, wu, looks, wbb, wab, idOf, riA, seval, Go.Den.wm, kK, wgc, wmb, wyb, rr, rn, whb, Nat.mul_one, Nat.max_self, *, zT, wpd, wei, wul, wqd, wvl, wbg, wwl, wve, wcg, wwe, wdg, wrd, wdl, wxe, wrk, wuc, wxl, wrb, wsb, wne, woe, wkc, wlc, wpe, wsf, wtf, wue, wmc, wac, wjd, wnc, wkd, woc, wdi, wqe, wre, wuf, wvf, wld, wpc, wwf, wse, wte, wqc, wbc, wxf, wyf, wrc, wmd, wzf, wnd, wsc, wad, wde, wtc, wag, wod, Bool.false_and]) | (with_reducible (first | apply z1 | apply z2 | apply z3 | apply z4) <;> intro hq <;> (try simp only [zH] at hq) <;> (try (exfalso; omega)))))
  | succ k ih =>
    intro i l hi hl h0
    have h := ih (i + 1) (insJ i l) (by omega) (by rw [wav]; exact hl) (by omega)
    have hin := ins_in N hN i (by omega) i l hl (Nat.le_refl _)
    rw [wer]
    clear ih
    unfold yB at h hin ⊢
    rw [wav] at h hin
    rw [wdcb, wav] at h ⊢
    rw [hl] at h hin ⊢
    obtain ⟨rr, rn⟩ := rY hN0
    refine wcb wge ?_
    unfold wed
    (repeat' (first | (simp -implicitDefEqProofs (maxSteps := 2000000) (disch := first | with_reducible assumption | omega | (simp only [zS, zA, seval, rr, rn, whb, zD, wpd, wei, wul, wqd, wvl, wbg, wwl, wve, wcg, wwe, wdg, wrd, wdl, wxe, wrk, wuc, wxl, wrb, wsb, wne, woe, wkc, wlc, wpe, wsf, wtf, wue, wmc, wac, wjd, wnc, wkd, woc, wdi, wqe, wre, wuf, wvf, wld, wpc, wwf, wse, wte, wqc, wbc, wxf, wyf, wrc, wmd, wzf, wnd, wsc, wad, wde, wtc, wag, wod, Bool.false_and] <;> omega) | fail) only [zS, argl, insA, Go.Den.wh, wo, wu, looks, wbb, wab, idOf, riA, seval, Go.Den.wm, kK, wgc, wfd, wmb, wyb, rr, rn, whb, Nat.mul_one, Nat.max_self, *, zT, wpd, wei, wul, wqd, wvl, wbg, wwl, wve, wcg, wwe, wdg, wrd, wdl, wxe, wrk, wuc, wxl, wrb, wsb, wne, woe, wkc, wlc, wpe, wsf, wtf, wue, wmc, wac, wjd, wnc, wkd, woc, wdi, wqe, wre, wuf, wvf, wld, wpc, wwf, wse, wte, wqc, wbc, wxf, wyf, wrc, wmd, wzf, wnd, wsc, wad, wde, wtc, wag, wod, Bool.false_and]) | (with_reducible (first | apply z1 | apply z2 | apply z3 | apply z4) <;> intro hq <;> (try simp only [zH] at hq) <;> (try (exfalso; omega)))))
    all_goals exact h
theorem ev_ins (l : List Int) (h0 : 0 < l.length) (h12 : l.length ≤ 12) : lim Try.prog cfg (.call 115 [slV l.length, .int .i64 0, .int .i64 l.length]) (HP (yB l)) = some (.val (.tuple ⟨[]⟩), HP (yB (wwp l))) := by
  have h := ins_out l.length h12 h0 (l.length - 1) 1 l (by omega) rfl (by omega)
  rw [show ((1 : Nat) : Int) = 1 from rfl] at h
  have hl := wbv l
  unfold wwp at hl ⊢
  unfold yB at h ⊢
  rw [hl] at h ⊢
  generalize wer (l.length - 1) 1 l = m at *
  obtain ⟨rr, rn⟩ := rY h0
  refine wub hc wlg (Nat.le_of_ble_eq_true rfl) (Nat.le_of_ble_eq_true rfl) ?_
  unfold wdf
  (repeat' (first | (simp -implicitDefEqProofs (maxSteps := 2000000) (disch := first | with_reducible assumption | omega | (simp only [zS, zA, seval, rr, rn, whb, zD, wpd, wei, wul, wqd, wvl, wbg, wwl, wve, wcg, wwe, wdg, wrd, wdl, wxe, wrk, wuc, wxl, wrb, wsb, wne, woe, wkc, wlc, wpe, wsf, wtf, wue, wmc, wac, wjd, wnc, wkd, woc, wdi, wqe, wre, wuf, wvf, wld, wpc, wwf, wse, wte, wqc, wbc, wxf, wyf, wrc, wmd, wzf, wnd, wsc, wad, wde, wtc, wag, wod, Bool.false_and] <;> omega) | fail) only [zS, argl, insA, Go.Den.wh, wo, wu, looks, wbb, wab, idOf, riA, seval, Go.Den.wm, kK, wgc, wmb, wyb, rr, rn, whb, Nat.mul_one, Nat.max_self, *, zT, wpd, wei, wul, wqd, wvl, wbg, wwl, wve, wcg, wwe, wdg, wrd, wdl, wxe, wrk, wuc, wxl, wrb, wsb, wne, woe, wkc, wlc, wpe, wsf, wtf, wue, wmc, wac, wjd, wnc, wkd, woc, wdi, wqe, wre, wuf, wvf, wld, wpc, wwf, wse, wte, wqc, wbc, wxf, wyf, wrc, wmd, wzf, wnd, wsc, wad, wde, wtc, wag, wod, Bool.false_and]) | (with_reducible (first | apply z1 | apply z2 | apply z3 | apply z4) <;> intro hq <;> (try simp only [zH] at hq) <;> (try (exfalso; omega)))))
theorem ev_pdq (l : List Int) (h0 : 0 < l.length) (h12 : l.length ≤ 12) (k : Int) : lim Try.prog cfg (.call 99 [slV l.length, .int .i64 0, .int .i64 l.length, .int .i64 k]) (HP (yB l)) = some (.val (.tuple ⟨[]⟩), HP (yB (wwp l))) := by
  have h := ev_ins l h0 h12
  have hl := wbv l
  unfold yB at h ⊢
  rw [hl] at h ⊢
  generalize wwp l = m at *
  have hp : lim Try.prog cfg (.loop 99 1 (wbe 0) (SE (EJ 134 G1) [(9, .bool true), (8, .bool true), (3, .int .i64 k), (2, .int .i64 l.length), (1, .int .i64 0), (0, slV l.length)])) (HP [Y (ints l) 3 1 [l.length] 0]) = some (.code .ret (SE (EJ 134 G1) []), HP [Y (ints m) 3 1 [l.length] 0]) := by
    obtain ⟨rr, rn⟩ := rY h0
    refine wcb wnh ?_
    unfold wrf
    (repeat' (first | (simp -implicitDefEqProofs (maxSteps := 2000000) (disch := first | with_reducible assumption | omega | (simp only [zS, zA, seval, rr, rn, whb, zD, wpd, wei, wul, wqd, wvl, wbg, wwl, wve, wcg, wwe, wdg, wrd, wdl, wxe, wrk, wuc, wxl, wrb, wsb, wne, woe, wkc, wlc, wpe, wsf, wtf, wue, wmc, wac, wjd, wnc, wkd, woc, wdi, wqe, wre, wuf, wvf, wld, wpc, wwf, wse, wte, wqc, wbc, wxf, wyf, wrc, wmd, wzf, wnd, wsc, wad, wde, wtc, wag, wod, Bool.false_and] <;> omega) | fail) only [zS, argl, insA, Go.Den.wh, wo, wu, looks, wbb, wab, idOf, riA, seval, Go.Den.wm, kK, wme, wmb, wyb, rr, rn, whb, Nat.mul_one, Nat.max_self, *, zT, wpd, wei, wul, wqd, wvl, wbg, wwl, wve, wcg, wwe, wdg, wrd, wdl, wxe, wrk, wuc, wxl, wrb, wsb, wne, woe, wkc, wlc, wpe, wsf, wtf, wue, wmc, wac, wjd, wnc, wkd, woc, wdi, wqe, wre, wuf, wvf, wld, wpc, wwf, wse, wte, wqc, wbc, wxf, wyf, wrc, wmd, wzf, wnd, wsc, wad, wde, wtc, wag, wod, Bool.false_and]) | (with_reducible (first | apply z1 | apply z2 | apply z3 | apply z4) <;> intro hq <;> (try simp only [zH] at hq) <;> (try (exfalso; omega))) | (with_reducible apply z5; (case hl => (repeat (first | exact .nil | with_reducible apply z6 | with_reducible apply z7))); (case h => kernel_rfl))))
  obtain ⟨rr, rn⟩ := rY h0
  refine wub hc wzh (Nat.le_of_ble_eq_true rfl) (Nat.le_of_ble_eq_true rfl) ?_
  unfold wng
  (repeat' (first | (simp -implicitDefEqProofs (maxSteps := 2000000) (disch := first | with_reducible assumption | omega | (simp only [zS, zA, seval, rr, rn, whb, zD, wpd, wei, wul, wqd, wvl, wbg, wwl, wve, wcg, wwe, wdg, wrd, wdl, wxe, wrk, wuc, wxl, wrb, wsb, wne, woe, wkc, wlc, wpe, wsf, wtf, wue, wmc, wac, wjd, wnc, wkd, woc, wdi, wqe, wre, wuf, wvf, wld, wpc, wwf, wse, wte, wqc, wbc, wxf, wyf, wrc, wmd, wzf, wnd, wsc, wad, wde, wtc, wag, wod, Bool.false_and] <;> omega) | fail) only [zS, argl, insA, Go.Den.wh, wo, wu, looks, wbb, wab, idOf, riA, seval, Go.Den.wm, kK, wme, wmb, wyb, rr, rn, whb, Nat.mul_one, Nat.max_self, *, zT, wpd, wei, wul, wqd, wvl, wbg, wwl, wve, wcg, wwe, wdg, wrd, wdl, wxe, wrk, wuc, wxl, wrb, wsb, wne, woe, wkc, wlc, wpe, wsf, wtf, wue, wmc, wac, wjd, wnc, wkd, woc, wdi, wqe, wre, wuf, wvf, wld, wpc, wwf, wse, wte, wqc, wbc, wxf, wyf, wrc, wmd, wzf, wnd, wsc, wad, wde, wtc, wag, wod, Bool.false_and]) | (with_reducible (first | apply z1 | apply z2 | apply z3 | apply z4) <;> intro hq <;> (try simp only [zH] at hq) <;> (try (exfalso; omega))) | (with_reducible apply z5; (case hl => (repeat (first | exact .nil | with_reducible apply z6 | with_reducible apply z7))); (case h => kernel_rfl))))
end
end Go.Proofs.Ytjihbfdbgamcdaa
